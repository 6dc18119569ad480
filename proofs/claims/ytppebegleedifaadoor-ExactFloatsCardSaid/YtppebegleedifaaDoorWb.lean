/- Words for laws: what stays when one built slice is written. -/
import Derived.Test.YtppebegleedifaaDoorWa
import Derived.Laws.AppendOwnNone
namespace Go.Proofs.YtppebegleedifaaDoor
open Go.RowKit

/-- Nothing that was there has changed. -/
def Nx (w w' : World) : Prop := Below w.heap.size w w'
theorem Nx.refl (w : World) : Nx w w := Below.refl _ _
theorem Nx.trans {a b c : World} (h : Nx a b) (k : Nx b c) : Nx a c := Below.trans h (Below.mono k h.size)
theorem Nx.alloc {a b : World} (h : Nx a b) (o : Obj) : Nx a (b.alloc o) := Below.alloc h h.size o
theorem Nx.drewN {a b : World} (h : Nx a b) (k : Nat) : Nx a (b.drewN k) := below_drewN h k
theorem nx_alloc (w : World) (o : Obj) : Nx w (w.alloc o) := (Nx.refl w).alloc o
theorem Nx.le {a b : World} (h : Nx a b) : a.heap.size ≤ b.heap.size := h.size
/-- Nothing that was there has changed, but for one block. -/
def Kp (g : Option Nat) (w w' : World) : Prop := w.grownBy w' g
theorem Kp.refl (g : Option Nat) (w : World) : Kp g w w := ⟨rfl, rfl, rfl, Nat.le_refl _, fun _ _ _ => rfl⟩
theorem Kp.trans {g : Option Nat} {a b c : World} (h : Kp g a b) (k : Kp g b c) : Kp g a c :=
  ⟨k.os.trans h.os, k.tape.trans h.tape, k.output.trans h.output, Nat.le_trans h.size k.size, fun i hi hn => (k.block i (Nat.lt_of_lt_of_le hi h.size) hn).trans (h.block i hi hn)⟩
theorem Nx.kp {a b : World} (h : Nx a b) (g : Option Nat) : Kp g a b := ⟨h.os, h.tape, h.output, h.size, fun i hi _ => h.block i hi⟩
theorem Kp.setCell {g : Nat} {a b : World} (h : Kp (some g) a b) (j : Nat) (v : Value) : Kp (some g) a (b.setCell ⟨g, j, none⟩ v) :=
  h.trans ⟨rfl, rfl, rfl, by simp [World.setCell], fun k hk hn => Below.heap_setCell _ _ _ _ (fun e => hn (by rw [e]))⟩
theorem Kp.drewN {g : Option Nat} {a b : World} (h : Kp g a b) (k : Nat) : Kp g a (b.drewN k) := ⟨h.os, h.tape, h.output, h.size, h.block⟩
theorem Kp.below {g : Option Nat} {B : Nat} {a b : World} (h : Kp g a b) (hB : B ≤ a.heap.size) (hg : ∀ k, g = some k → B ≤ k) : Below B a b :=
  ⟨h.os, h.tape, h.output, h.size, fun i hi => h.block i (by omega) (fun e => by have := hg i e.symm; omega)⟩
theorem RS.kp {w w' : World} {A : Option Addr} {n c : Nat} {f : Nat → Value} {g : Option Nat} (h : RS w A n c f) (hk : Kp g w w') (hs : ∀ ad, A = some ad → some ad.block ≠ g) : RS w' A n c f :=
  ⟨h.nc, h.cm, fun j hj => by
    obtain ⟨ad, e, hc⟩ := h.cell j hj
    have hb : (ad.add j).block = ad.block := by unfold Addr.add; split <;> rfl
    exact ⟨ad, e, hk.cell hc (by rw [hb]; exact hs ad e)⟩⟩
theorem RS.nx {w w' : World} {A : Option Addr} {n c : Nat} {f : Nat → Value} (h : RS w A n c f) (hk : Nx w w') : RS w' A n c f := h.below hk
theorem Bld.nx {w w' : World} {B : Nat} {e : TypeId} {v : Value} {k : Nat} {F : Nat → Value} (h : Bld w B e v k F) (hb : Nx w w') : Bld w' B e v k F := h.below hb
theorem Bld.kp {w w' : World} {B : Nat} {e : TypeId} {v : Value} {k : Nat} {F : Nat → Value} {g : Option Nat} (h : Bld w B e v k F) (hk : Kp g w w') (hs : v.ownBlock = none ∨ v.ownBlock ≠ g) : Bld w' B e v k F :=
  ⟨h.own.kept hk hs, Nat.le_trans h.hB hk.size⟩
/-- The slice lies below B. -/
def Lo (A : Option Addr) (B : Nat) : Prop := ∀ ad, A = some ad → ad.block < B
/-- The slice lies from B on. -/
def Hi (A : Option Addr) (B : Nat) : Prop := ∀ ad, A = some ad → B ≤ ad.block
theorem Bld.hi {w : World} {B : Nat} {e : TypeId} {A : Option Addr} {n c k : Nat} {F : Nat → Value} (h : Bld w B e (.slice A n c) k F) : Hi A B := by
  intro ad e; subst e; exact (h.own.lt ad.block rfl).1
theorem Bld.lo {w : World} {B : Nat} {e : TypeId} {A : Option Addr} {n c k : Nat} {F : Nat → Value} (h : Bld w B e (.slice A n c) k F) : Lo A w.heap.size := by
  intro ad e; subst e; exact (h.own.lt ad.block rfl).2
theorem Lo.mono {A : Option Addr} {B B' : Nat} (h : Lo A B) (hb : B ≤ B') : Lo A B' := fun ad e => Nat.lt_of_lt_of_le (h ad e) hb
theorem Hi.mono {A : Option Addr} {B B' : Nat} (h : Hi A B) (hb : B' ≤ B) : Hi A B' := fun ad e => Nat.le_trans hb (h ad e)
theorem RS.lo {w : World} {A : Option Addr} {n c : Nat} {f : Nat → Value} (h : RS w A n c f) (hn : 0 < n) : Lo A w.heap.size := by
  intro ad e
  obtain ⟨ad', e', hc⟩ := h.cell 0 hn
  rw [e] at e'; injection e' with e'; subst e'
  exact World.block_lt_of_cell? w _ hc
theorem sep_lo {A A' : Option Addr} {B : Nat} {n c : Nat} (h : Lo A B) (h' : Hi A' B) : ∀ ad, A = some ad → some ad.block ≠ (Value.slice A' n c).ownBlock := by
  intro ad e e'
  cases A' with
  | none => cases e'
  | some b => injection e' with e'; have := h ad e; have := h' b rfl; omega
theorem sep_hi {A A' : Option Addr} {B : Nat} {n c : Nat} (h : Hi A B) (h' : Lo A' B) : ∀ ad, A = some ad → some ad.block ≠ (Value.slice A' n c).ownBlock := by
  intro ad e e'
  cases A' with
  | none => cases e'
  | some b => injection e' with e'; have := h ad e; have := h' b rfl; omega
/-- The cells that were just made. -/
theorem addr_add0 (b j : Nat) : (⟨b, 0, none⟩ : Addr).add j = ⟨b, j, none⟩ := by
  unfold Addr.add
  by_cases e : j = 0
  · subst e; rfl
  · simp [e]
theorem rs_new (w : World) (t : TypeId) (c : Array Value) (F : Nat → Value) (n : Nat) (hn : n ≤ 1000) (h : ∀ j, j < n → c[j]? = some (F j)) : RS (w.alloc (.cells c t)) (some ⟨w.heap.size, 0, none⟩) n n F :=
  ⟨Nat.le_refl _, by omega, fun j hj => ⟨_, rfl, by rw [addr_add0, cell_of_row _ _ j _ _ _ (heap_alloc_new w _)]; exact h j hj⟩⟩
/-- .. as a slice of the call's own. -/
theorem bld_new (w : World) (t : TypeId) (c : Array Value) (F : Nat → Value) (n : Nat) (hn : n ≤ 1000) (hc : c.size = n) (h : ∀ j, j < n → c[j]? = some (F j)) (B : Nat) (hB : B ≤ w.heap.size) : Bld (w.alloc (.cells c t)) B t (.slice (some ⟨w.heap.size, 0, none⟩) n n) n F := by
  have e : c.toList = (List.range n).map F := by
    apply List.ext_getElem
    · simp [hc]
    · intro i h1 h2
      have := h i (by simpa using h2)
      rw [Array.getElem?_eq_getElem (by simpa using h1)] at this
      injection this with this
      simpa using this
  exact ⟨⟨by simp, .inr ⟨w.heap.size, n, c, rfl, hB, heap_alloc_new w _, Nat.le_refl _, by unfold maxLen; omega, by simp [hc], by rw [e, Nat.mul_one]; exact List.take_of_length_le (by simp)⟩⟩, by simp; omega⟩
section
variable {P : Program} {w : World} {ops : Array Oper} {rest : List Oper} {o : Oper} {a : Act} {Q : Exit → Act → World → Prop}
/-- 'append(s, x...)' where x is read: all but s's block stays. -/
theorem wpl_catK (hg : o.guard = none) (s x : Operand) (t e : TypeId) (z : Value) (bytes : Nat)
    (ho : o.op = .call { callee := .builtin .append, args := #[s, x], argTypes := #[t, t] })
    (ht : P.underlying t = some (.slice e)) (hinfo : (P.info? e).map (fun i => (i.zero, i.size, i.bytes)) = some (some z, 1, bytes)) (hz : z.cells.size = 1)
    (B : Nat) (v : Value) (k m cx : Nat) (Ax : Option Addr) (F G H : Nat → Value) (hs : a.eval s = v) (hx : a.eval x = .slice Ax m cx) (hnil : Ax = none → cx = 0)
    (hbld : Bld w B e v k F) (hr : RS w Ax m cx G) (hH : (∀ j, j < k → F j = H j) ∧ ∀ j, j < m → G j = H (k + j)) (hH1 : ∀ j, (H j).oneCell' = true)
    (hk : (k + m) * bytes ≤ 140737488355328) (hb1 : 1 ≤ bytes)
    (hK : ∀ A c w', Bld w' B e (.slice A (k + m) c) (k + m) H → Kp v.ownBlock w w' → ((Value.slice A (k + m) c).ownBlock = v.ownBlock ∨ (Value.slice A (k + m) c).ownBlock = some w.heap.size) → k + m ≤ c → c ≤ 9223372036854775807 → wpList P ops Q rest (a.put o.dst (.slice A (k + m) c)) w') :
    wpList P ops Q (o :: rest) a w := by
  obtain ⟨i0, hi, hz0, hz1, hz2⟩ := info_parts hinfo
  have hk2 : k + m ≤ 140737488355328 := Nat.le_trans (Nat.le_mul_of_pos_right _ hb1) hk
  cases Ax with
  | none =>
    have hm : m = 0 := by
      rcases Nat.eq_zero_or_pos m with h | h
      · exact h
      · obtain ⟨ad, e1, _⟩ := hr.cell 0 h; cases e1
    have hc := hnil rfl
    subst hm; subst hc
    refine wpList_append_own_none hg s x t ho B e i0 1 ht hi v k _ hs hbld.own hx ?_
    have hb2 : Bld w B e v k H := hbld.congr hH.1
    obtain ⟨A, c, rfl, h1, h2⟩ := hb2.shape
    exact hK A c w hb2 (Kp.refl _ _) (.inl rfl) h1 h2
  | some ad =>
    refine wpList_append_own_at w hg s x t ho B e i0 z 1 bytes ht hi hz0 hz1 hz2 hz (by decide) v k _ hs hbld.own ad m cx ((List.range m).map G) hx (by simp) ?_ ?_ (by unfold maxLen; omega) hk hbld.hB ?_
    · intro j u hj
      simp only [List.getElem?_map] at hj
      rcases Nat.lt_or_ge j m with hjm | hjm
      · rw [List.getElem?_range hjm] at hj
        simp at hj
        subst hj
        obtain ⟨ad', e1, hc⟩ := hr.cell j hjm
        injection e1 with e1
        subst e1
        exact hc
      · rw [List.getElem?_eq_none (by simpa using hjm)] at hj
        simp at hj
    · intro u hu
      simp only [List.mem_map, List.mem_range] at hu
      obtain ⟨j, hj, rfl⟩ := hu
      rw [hH.2 j hj]; exact hH1 _
    · intro v' w' hown hgrow _ hor
      have e1 : (List.range k).map F ++ (List.range m).map G = (List.range (k + m)).map H := by
        rw [List.range_add, List.map_append, List.map_map]
        congr 1
        · exact List.map_congr_left fun j hj => hH.1 j (List.mem_range.1 hj)
        · exact List.map_congr_left fun j hj => hH.2 j (List.mem_range.1 hj)
      rw [e1] at hown
      have hb2 : Bld w' B e v' (k + m) H := ⟨hown, Nat.le_trans hbld.hB hgrow.size⟩
      obtain ⟨A, c, rfl, h1, h2⟩ := hb2.shape
      exact hK A c w' hb2 hgrow hor h1 h2
/-- 'append(s, y)'. -/
theorem wpl_pushK (hg : o.guard = none) (s x : Operand) (t e : TypeId) (z : Value) (bytes : Nat)
    (ho : o.op = .call { callee := .builtin .append, args := #[s, x], argTypes := #[t, t] })
    (ht : P.underlying t = some (.slice e)) (hinfo : (P.info? e).map (fun i => (i.zero, i.size, i.bytes)) = some (some z, 1, bytes)) (hz : z.cells.size = 1)
    (B : Nat) (v : Value) (k b : Nat) (F H : Nat → Value) (hs : a.eval s = v) (hx : a.eval x = .slice (some ⟨b, 0, none⟩) 1 1)
    (hbld : Bld w B e v k F) (hc : w.cell? ⟨b, 0, none⟩ = some (H k)) (hH : ∀ j, j < k → F j = H j) (hH1 : ∀ j, (H j).oneCell' = true)
    (hk : (k + 1) * bytes ≤ 140737488355328) (hb1 : 1 ≤ bytes)
    (hK : ∀ A c w', Bld w' B e (.slice A (k + 1) c) (k + 1) H → Kp v.ownBlock w w' → ((Value.slice A (k + 1) c).ownBlock = v.ownBlock ∨ (Value.slice A (k + 1) c).ownBlock = some w.heap.size) → k + 1 ≤ c → c ≤ 9223372036854775807 → wpList P ops Q rest (a.put o.dst (.slice A (k + 1) c)) w') :
    wpList P ops Q (o :: rest) a w :=
  wpl_catK hg s x t e z bytes ho ht hinfo hz B v k 1 1 (some ⟨b, 0, none⟩) F (fun j => H (k + j)) H hs hx (fun h => by cases h) hbld
    ⟨Nat.le_refl _, by decide, fun j hj => ⟨_, rfl, by
      have : j = 0 := by omega
      subst this
      rw [addr_add0]; exact hc⟩⟩ ⟨hH, fun _ _ => rfl⟩ hH1 hk hb1 hK
end
end Go.Proofs.YtppebegleedifaaDoor
