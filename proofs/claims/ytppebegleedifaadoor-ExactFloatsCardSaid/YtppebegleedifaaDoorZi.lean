/- What the reference's Small wants. -/
import Derived.Test.YtppebegleedifaaDoorZg
import Derived.Test.YtppebegleedifaaDoorXt
namespace Go.Proofs.YtppebegleedifaaDoor
open Go.RowKit

theorem rot_eq {n k j : Nat} (hn : n = 1 ∨ n = 2 ∨ n = 4) : 4 / n * j * k % 4 = rot n k j := by
  unfold rot
  rw [Nat.mul_assoc, Nat.mul_assoc]
  generalize j * k = t
  rcases hn with rfl | rfl | rfl
  · rw [Nat.div_one, Nat.div_one]
  · rw [show 4 / 2 = 2 from rfl]; omega
  · rw [show 4 / 4 = 1 from rfl]; omega
theorem Wrs.congr {w : World} {B n : Nat} {S T : Nat → Int} (h : Wrs w B n S) (e : ∀ j, j < n → S j = T j) : Wrs w B n T :=
  ⟨fun j hj => by rw [← e j hj]; exact h.num j hj, h.free⟩
/-- One number. -/
def W1 (w : World) (b : Nat) (S : Int) : Prop := Wrs w b 1 fun _ => S
theorem W1.below {w w' : World} {b : Nat} {S : Int} (h : W1 w b S) (hB : b < w.heap.size) (hb : Nx w w') : W1 w' b S := Wrs.below h hB hb
theorem w1_zero (w : World) : W1 (w.alloc (.cells #[.int .u64 0, .int .u64 0, .int .u64 0] 74)) w.heap.size 0 := by
  have hh := heap_alloc_new w (.cells #[.int .u64 0, .int .u64 0, .int .u64 0] 74)
  constructor
  · intro j hj
    obtain rfl : j = 0 := by omega
    exact ⟨0, 0, 0, ⟨by decide, by decide, by decide, 0, by omega⟩, by rw [cell_of_row _ _ (0 * 3) _ _ _ hh]; rfl, by rw [cell_of_row _ _ (0 * 3 + 1) _ _ _ hh]; rfl, by rw [cell_of_row _ _ (0 * 3 + 2) _ _ _ hh]; rfl⟩
  · intro j
    exact frozen_of_row _ _ j _ _ hh
theorem cell_set_lo {w : World} {p : Addr} {b o : Nat} {v x : Value} (h : w.cell? p = some v) (hb : p.block < b) : (w.setCell ⟨b, o, none⟩ x).cell? p = some v := by
  rw [World.cell?_setCell_other _ _ _ _ (fun e => by rw [← e] at hb; exact absurd hb (Nat.lt_irrefl _))]
  exact h
theorem nx_frz {w w' : World} {p : Addr} {v : Value} (hn : Nx w w') (h : w.cell? p = some v) (hf : w.frozen? p = false) : w'.frozen? p = false := (World.frozen?_of_block (hn.block _ (World.block_lt_of_cell? w _ h))).trans hf
theorem plusR_ag (a0 a1 a2 : Nat) (S u v : Int) (w : World) (h : R3 S a0 a1 a2) (hu : -9223372036854775808 ≤ u ∧ u ≤ 9223372036854775807) (hv : -9223372036854775808 ≤ v ∧ v ≤ 9223372036854775807) :
    Calls Tryd.prog 40 #[.agg #[.int .u64 (a2 : Nat), .int .u64 (a1 : Nat), .int .u64 (a0 : Nat)], .int .i64 u, .int .i64 v] w fun e w' => ∃ s0 s1 s2 : Nat, e = .returned (.agg #[.int .u64 (s2 : Nat), .int .u64 (s1 : Nat), .int .u64 (s0 : Nat)]) ∧ R3 (S + u * v) s0 s1 s2 ∧ Nx w w' := plusR_any a0 a1 a2 S u v w h hu hv
theorem W1.open {w : World} {b : Nat} {S : Int} (h : W1 w b S) : ∃ a0 a1 a2 : Nat, R3 S a0 a1 a2 ∧ w.rangeAt b 0 [.int .u64 (a2 : Nat), .int .u64 (a1 : Nat), .int .u64 (a0 : Nat)] ∧ w.there b 0 3 ∧ b < w.heap.size := by
  obtain ⟨a0, a1, a2, h1, h2, h3, h4⟩ := h.num 0 (by decide)
  have := h.there (j := 0) (by decide)
  exact ⟨a0, a1, a2, h1, Wrs.range (j := 0) h2 h3 h4, this, World.block_lt_of_cell? w _ h2⟩
theorem range_nx {w w' : World} {b o : Nat} {l : List Value} (h : w.rangeAt b o l) (hb : b < w.heap.size) (hn : Nx w w') : w'.rangeAt b o l := fun i v hv => (World.cell?_of_block (hn.block b hb)).trans (h i v hv)
theorem there_nx {w w' : World} {b o n : Nat} (h : w.there b o n) (hb : b < w.heap.size) (hn : Nx w w') : w'.there b o n := fun j hj => by
  obtain ⟨h1, h2⟩ := h j hj
  exact ⟨by rw [World.cell?_of_block (w := w) (hn.block b hb)]; exact h1, (World.frozen?_of_block (hn.block b hb)).trans h2⟩
theorem nx_cell {w w' : World} {p : Addr} {v : Value} (hn : Nx w w') (h : w.cell? p = some v) : w'.cell? p = some v := (hn.cell (World.block_lt_of_cell? w _ h)).trans h
theorem W1.upd {w : World} {b b' s0 s1 s2 : Nat} {S : Int} (h : W1 w b S) (hne : b ≠ b') : W1 (upd3v w b' 0 s0 s1 s2) b S := by
  have oth : ∀ (w : World) (x y : Nat) (v : Value), (w.setCell ⟨b', x, none⟩ v).cell? ⟨b, y, none⟩ = w.cell? ⟨b, y, none⟩ := fun w x y v => World.cell?_setCell_other _ _ _ _ (fun e => by injection e with e _ _; exact hne e.symm)
  unfold upd3v
  constructor
  · intro j hj
    obtain ⟨a0, a1, a2, h1, h2, h3, h4⟩ := h.num j hj
    exact ⟨a0, a1, a2, h1, by rw [oth, oth, oth]; exact h2, by rw [oth, oth, oth]; exact h3, by rw [oth, oth, oth]; exact h4⟩
  · intro j
    rw [World.frozen?_setCell, World.frozen?_setCell, World.frozen?_setCell]; exact h.free j
theorem W1.put {w : World} {b s0 s1 s2 : Nat} {S T : Int} (h : W1 w b S) (hr : R3 T s0 s1 s2) : W1 (upd3v w b 0 s0 s1 s2) b T :=
  (Wrs.put h 0 T s0 s1 s2 (by decide) hr).congr fun j hj => by rw [if_pos (by omega)]
theorem two_put {wo wr w5 w6 : World} {bx s0 s1 s2 t0 t1 t2 : Nat} {Sx Sy Tx Ty : Int} (hbx : wo.heap.size = bx) (hno : Nx wo wr) (hW : ∀ w5, Nx wr w5 → W1 w5 bx Sx ∧ W1 w5 (bx + 1) Sy) (hb : bx + 1 < wr.heap.size)
    (h5 : Nx wr.drew w5) (h6 : Nx w5 w6) (hx : R3 Tx s0 s1 s2) (hy : R3 Ty t0 t1 t2) :
    W1 (upd3v (upd3v w6 bx 0 s0 s1 s2) (bx + 1) 0 t0 t1 t2) bx Tx ∧ W1 (upd3v (upd3v w6 bx 0 s0 s1 s2) (bx + 1) 0 t0 t1 t2) (bx + 1) Ty ∧ Nx wo (upd3v (upd3v w6 bx 0 s0 s1 s2) (bx + 1) 0 t0 t1 t2) ∧ bx + 1 < (upd3v (upd3v w6 bx 0 s0 s1 s2) (bx + 1) 0 t0 t1 t2).heap.size := by
  have h : Nx wr w6 := ((Nx.refl wr).drewN 1).trans (h5.trans h6)
  obtain ⟨p, q⟩ := hW w6 h
  refine ⟨(p.put hx).upd (by omega), (q.upd (by omega)).put hy, below3v (below3v (hno.trans h) (by omega) 0 s0 s1 s2) (by omega) 0 t0 t1 t2, ?_⟩
  have e : (upd3v (upd3v w6 bx 0 s0 s1 s2) (bx + 1) 0 t0 t1 t2).heap.size = w6.heap.size := by simp [upd3v, World.setCell]
  rw [e]
  exact Nat.lt_of_lt_of_le hb h.le
theorem bd_of {n : Nat} {S : Int} (hn : n ≤ 4) (h : -((n : Int) * 9223372036854775808) ≤ S ∧ S ≤ (n : Int) * 9223372036854775808) : -1532495540865888858358347027150309183618739122183602176 ≤ S ∧ S ≤ 1532495540865888858358347027150309183618739122183602176 := by omega
theorem ap_or {v v' : Value} (h : ∀ g g', v.ownBlock = some g → v'.ownBlock = some g' → g ≠ g') : v'.ownBlock = none ∨ v'.ownBlock ≠ v.ownBlock := by
  cases e : v'.ownBlock with
  | none => exact .inl rfl
  | some g' => exact .inr fun e' => h g' g' e'.symm e rfl
theorem two_push {w6 w7 w8 : World} {B k ca cb c7 c8 : Nat} {Aa Ab A7 A8 : Option Addr} {o1 o2 : Obj} {F G : Nat → Value} (hne : ∀ g g', (Value.slice Aa k ca).ownBlock = some g → (Value.slice Ab k cb).ownBlock = some g' → g ≠ g')
    {w0 : World} (hn : Nx w0 w6) (hB : w0.heap.size = B) (b1 : Bld w6 B 2 (.slice Aa k ca) k F) (b2 : Bld w6 B 2 (.slice Ab k cb) k G) (k7 : Kp (Value.slice Aa k ca).ownBlock (w6.alloc o1) w7)
    (o7 : (Value.slice A7 (k + 1) c7).ownBlock = (Value.slice Aa k ca).ownBlock ∨ (Value.slice A7 (k + 1) c7).ownBlock = some (w6.alloc o1).heap.size) (b7 : Bld w7 B 2 (.slice A7 (k + 1) c7) (k + 1) F)
    (k8 : Kp (Value.slice Ab k cb).ownBlock (w7.alloc o2) w8) (o8 : (Value.slice A8 (k + 1) c8).ownBlock = (Value.slice Ab k cb).ownBlock ∨ (Value.slice A8 (k + 1) c8).ownBlock = some (w7.alloc o2).heap.size) :
    Bld w8 B 2 (.slice A7 (k + 1) c7) (k + 1) F ∧ (∀ g g', (Value.slice A7 (k + 1) c7).ownBlock = some g → (Value.slice A8 (k + 1) c8).ownBlock = some g' → g ≠ g') ∧ Nx w0 w8 := by
  have s1 : (w6.alloc o1).heap.size = w6.heap.size + 1 := by simp
  have s2 : (w7.alloc o2).heap.size = w7.heap.size + 1 := by simp
  have l7 := k7.size
  have ap : ∀ g g', (Value.slice A7 (k + 1) c7).ownBlock = some g → (Value.slice Ab k cb).ownBlock = some g' → g ≠ g' := by
    intro g g' h1 h2
    rcases o7 with o | o
    · exact hne g g' (o ▸ h1) h2
    · rw [o] at h1
      injection h1 with h1
      have := (b2.own.lt g' h2).2
      omega
  refine ⟨(b7.alloc _).kp k8 ?_, ?_, ?_⟩
  · cases e : (Value.slice A7 (k + 1) c7).ownBlock with
    | none => exact .inl rfl
    | some g => exact .inr fun e' => ap g g e e'.symm rfl
  · intro g g' h1 h2
    rcases o8 with o | o
    · exact ap g g' h1 (o ▸ h2)
    · rw [o] at h2
      injection h2 with h2
      have := (b7.own.lt g h1).2
      omega
  · subst hB
    exact nx_kp ((nx_kp (hn.alloc o1) k7 b1.base).alloc o2) k8 b2.base
def SmR (n : Nat) (x y : Nat → Int) (w : World) (e : Ending) (w' : World) : Prop :=
  ∃ A c A' c', e = .returned (.tuple #[.slice A (lenOf (smN n x y) n) c, .slice A' (lenOf (smN n x y) n) c', .int .i64 (smN n x y : Nat)]) ∧
    Bld w' w.heap.size 2 (.slice A (lenOf (smN n x y) n) c) (lenOf (smN n x y) n) (iw fun i => reS n x y i n) ∧ Bld w' w.heap.size 2 (.slice A' (lenOf (smN n x y) n) c') (lenOf (smN n x y) n) (iw fun i => imS n x y i n) ∧ Nx w w'
theorem smR_ok {n : Nat} {x y : Nat → Int} {w w' : World} {A5 A6 : Option Addr} {c5 c6 : Nat} (F1 : allFit (fun i => reS n x y i n) n = true) (F2 : allFit (fun i => imS n x y i n) n = true)
    (h5 : Bld w' w.heap.size 2 (.slice A5 n c5) n (iw fun i => reS n x y i n)) (h6 : Bld w' w.heap.size 2 (.slice A6 n c6) n (iw fun i => imS n x y i n)) (hb : Nx w w') :
    SmR n x y w (.returned (.tuple #[.slice A5 n c5, .slice A6 n c6, .int .i64 0])) w' := by
  have e : smN n x y = 0 := by unfold smN; rw [if_pos ⟨F1, F2⟩]
  unfold SmR
  rw [e]
  exact ⟨A5, c5, A6, c6, rfl, h5, h6, hb⟩
theorem smR_no {n : Nat} {x y : Nat → Int} {w w' : World} (F : allFit (fun i => reS n x y i n) n = false ∨ allFit (fun i => imS n x y i n) n = false) (hb : Nx w w') :
    SmR n x y w (.returned (.tuple #[.slice none 0 0, .slice none 0 0, .int .i64 19])) w' := by
  have e : smN n x y = 19 := by
    unfold smN
    rw [if_neg]
    rintro ⟨h1, h2⟩
    rcases F with h | h
    · rw [h] at h1; cases h1
    · rw [h] at h2; cases h2
  unfold SmR
  rw [e]
  exact ⟨none, 0, none, 0, rfl, bld_none _ _ _ hb.size _, bld_none _ _ _ hb.size _, hb⟩
end Go.Proofs.YtppebegleedifaaDoor
