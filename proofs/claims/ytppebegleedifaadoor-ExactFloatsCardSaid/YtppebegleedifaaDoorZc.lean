/- The reference's spread: sums of products. -/
import Derived.Test.YtppebegleedifaaDoorZb
import Derived.Test.YtppebegleedifaaDoorYd
namespace Go.Proofs.YtppebegleedifaaDoor
open Go.RowKit

/-- A block of the reference's wide numbers: number j is S j. -/
structure Wrs (w : World) (B n : Nat) (S : Nat → Int) : Prop where
  num : ∀ j, j < n → ∃ a0 a1 a2 : Nat, R3 (S j) a0 a1 a2 ∧ w.cell? ⟨B, j * 3, none⟩ = some (.int .u64 (a2 : Nat)) ∧ w.cell? ⟨B, j * 3 + 1, none⟩ = some (.int .u64 (a1 : Nat)) ∧ w.cell? ⟨B, j * 3 + 2, none⟩ = some (.int .u64 (a0 : Nat))
  free : ∀ j, w.frozen? ⟨B, j, none⟩ = false
theorem Wrs.below {w w' : World} {B n : Nat} {S : Nat → Int} (h : Wrs w B n S) (hB : B < w.heap.size) (hb : Nx w w') : Wrs w' B n S := by
  have e := hb.block B hB
  constructor
  · intro j hj
    obtain ⟨a0, a1, a2, h1, h2, h3, h4⟩ := h.num j hj
    exact ⟨a0, a1, a2, h1, (World.cell?_of_block e).trans h2, (World.cell?_of_block e).trans h3, (World.cell?_of_block e).trans h4⟩
  · intro j; exact (World.frozen?_of_block e).trans (h.free j)
/-- Three cells are written. -/
def upd3v (w : World) (D o : Nat) (s0 s1 s2 : Nat) : World := ((w.setCell ⟨D, o, none⟩ (.int .u64 (s2 : Nat))).setCell ⟨D, o + 1, none⟩ (.int .u64 (s1 : Nat))).setCell ⟨D, o + 2, none⟩ (.int .u64 (s0 : Nat))
theorem Wrs.put {w : World} {B n : Nat} {S : Nat → Int} (h : Wrs w B n S) (i : Nat) (T : Int) (s0 s1 s2 : Nat) (hi : i < n) (hr : R3 T s0 s1 s2) :
    Wrs (upd3v w B (i * 3) s0 s1 s2) B n (fun j => if j = i then T else S j) := by
  have ne : ∀ x y : Nat, x ≠ y → (⟨B, x, none⟩ : Addr) ≠ ⟨B, y, none⟩ := fun x y hxy e => by injection e with _ e _; exact hxy e
  have oth : ∀ (w : World) (x y : Nat) (v : Value), x ≠ y → (w.setCell ⟨B, x, none⟩ v).cell? ⟨B, y, none⟩ = w.cell? ⟨B, y, none⟩ := fun w x y v hxy => World.cell?_setCell_other _ _ _ _ (ne x y hxy)
  unfold upd3v
  constructor
  · intro j hj
    by_cases e : j = i
    · subst e
      obtain ⟨a0, a1, a2, h1, h2, h3, h4⟩ := h.num j hj
      refine ⟨s0, s1, s2, by rw [if_pos rfl]; exact hr, ?_, ?_, ?_⟩
      · rw [oth _ _ _ _ (by omega), oth _ _ _ _ (by omega)]; exact World.cell?_setCell_same _ _ _ h2
      · rw [oth _ _ _ _ (by omega)]; exact World.cell?_setCell_same _ _ _ (by rw [oth _ _ _ _ (by omega)]; exact h3)
      · exact World.cell?_setCell_same _ _ _ (by rw [oth _ _ _ _ (by omega), oth _ _ _ _ (by omega)]; exact h4)
    · obtain ⟨a0, a1, a2, h1, h2, h3, h4⟩ := h.num j hj
      refine ⟨a0, a1, a2, by rw [if_neg e]; exact h1, ?_, ?_, ?_⟩
      · rw [oth _ _ _ _ (by omega), oth _ _ _ _ (by omega), oth _ _ _ _ (by omega)]; exact h2
      · rw [oth _ _ _ _ (by omega), oth _ _ _ _ (by omega), oth _ _ _ _ (by omega)]; exact h3
      · rw [oth _ _ _ _ (by omega), oth _ _ _ _ (by omega), oth _ _ _ _ (by omega)]; exact h4
  · intro j
    rw [World.frozen?_setCell, World.frozen?_setCell, World.frozen?_setCell]; exact h.free j
theorem below3v {B0 D : Nat} {w w' : World} (h : Below B0 w w') (hD : B0 ≤ D) (o s0 s1 s2 : Nat) : Below B0 w (upd3v w' D o s0 s1 s2) := ((h.setCell hD _).setCell hD _).setCell hD _
theorem Wrs.range {w : World} {B j : Nat} {a0 a1 a2 : Nat} (h2 : w.cell? ⟨B, j * 3, none⟩ = some (.int .u64 (a2 : Nat))) (h3 : w.cell? ⟨B, j * 3 + 1, none⟩ = some (.int .u64 (a1 : Nat))) (h4 : w.cell? ⟨B, j * 3 + 2, none⟩ = some (.int .u64 (a0 : Nat))) :
    w.rangeAt B (j * 3) [.int .u64 (a2 : Nat), .int .u64 (a1 : Nat), .int .u64 (a0 : Nat)] := by
  intro i v hv
  match i, hv with
  | 0, hv => injection hv with hv; rw [← hv]; exact h2
  | 1, hv => injection hv with hv; rw [← hv]; exact h3
  | 2, hv => injection hv with hv; rw [← hv]; exact h4
theorem Wrs.there {w : World} {B j n : Nat} {S : Nat → Int} (h : Wrs w B n S) (hj : j < n) : w.there B (j * 3) 3 := by
  obtain ⟨a0, a1, a2, _, h2, h3, h4⟩ := h.num j hj
  intro i hi
  refine ⟨?_, h.free _⟩
  rcases (show i = 0 ∨ i = 1 ∨ i = 2 by omega) with rfl | rfl | rfl
  · show (w.cell? ⟨B, j * 3, none⟩).isSome = true; rw [h2]; rfl
  · rw [h3]; rfl
  · rw [h4]; rfl
theorem info74 : (Tryd.prog.info? 74).map (fun i => (i.zero, i.size, i.bytes)) = some (some (.agg #[.int .u64 0, .int .u64 0, .int .u64 0]), 3, 24) := by kernel_rfl
theorem size74 : (Tryd.prog.info? 74).map (·.size) = some 3 := by kernel_rfl
theorem wrs_zero (w : World) (n : Nat) : Wrs (w.alloc (.cells (madeCells #[.int .u64 0, .int .u64 0, .int .u64 0] (n * 3)) 74)) w.heap.size n (fun _ => 0) := by
  have hh := heap_alloc_new w (.cells (madeCells #[.int .u64 0, .int .u64 0, .int .u64 0] (n * 3)) 74)
  have hc : ∀ x, x < n * 3 → (madeCells #[Value.int .u64 0, .int .u64 0, .int .u64 0] (n * 3))[x]? = some (.int .u64 0) := by
    intro x hx
    unfold madeCells
    rw [Array.getElem?_map, Array.getElem?_range]
    simp only [hx, if_true, Option.map_some]
    have : x % 3 = 0 ∨ x % 3 = 1 ∨ x % 3 = 2 := by omega
    show some ((#[Value.int .u64 0, .int .u64 0, .int .u64 0] : Array Value)[x % 3]!) = _
    rcases this with e | e | e <;> rw [e] <;> rfl
  constructor
  · intro j hj
    refine ⟨0, 0, 0, ⟨by decide, by decide, by decide, 0, by omega⟩, ?_, ?_, ?_⟩
    · rw [cell_of_row _ _ (j * 3) _ _ _ hh, hc _ (by omega)]; rfl
    · rw [cell_of_row _ _ (j * 3 + 1) _ _ _ hh, hc _ (by omega)]; rfl
    · rw [cell_of_row _ _ (j * 3 + 2) _ _ _ hh, hc _ (by omega)]; rfl
  · intro j
    exact frozen_of_row _ _ j _ _ hh
section
variable {w : World} {ops : Array Oper} {rest : List Oper} {o : Oper} {a : Act} {Q : Exit → Act → World → Prop}
/-- 'make([]wide, n)', of the reference. -/
theorem wpl_make3R (hg : o.guard = none) (l c : Operand) (hop : o.op = Op.makeSlice 87 l c) (kl kc : IntKind) (L C : Int) (n : Nat) (hl : a.eval l = .int kl L) (hL : L = (n : Int)) (hc : a.eval c = .int kc C) (hC : C = (n : Int)) (hn : n ≤ 4194304)
    (hK : ∀ w', Wrs w' w.heap.size n (fun _ => 0) → Below w.heap.size w w' → w.heap.size < w'.heap.size → wpList Tryd.prog ops Q rest (a.put o.dst (.slice (some ⟨w.heap.size, 0, none⟩) n n)) w') :
    wpList Tryd.prog ops Q (o :: rest) a w := by
  obtain ⟨i0, hi, hz0, hz1, hz2⟩ : ∃ i0, Tryd.prog.info? 74 = some i0 ∧ i0.zero = some (.agg #[.int .u64 0, .int .u64 0, .int .u64 0]) ∧ i0.size = 3 ∧ i0.bytes = 24 := by
    have h := info74
    cases hq : Tryd.prog.info? 74 with
    | none => rw [hq] at h; cases h
    | some i0 =>
      rw [hq] at h
      simp only [Option.map_some, Option.some.injEq, Prod.mk.injEq] at h
      exact ⟨i0, rfl, h.1, h.2.1, h.2.2⟩
  refine wpList_plain hg fun K hK' => ?_
  subst hL
  subst hC
  have hrun := run_make (P := Tryd.prog) w 87 74 i0 _ Tryd.underlying87 hi hz0 kl kc (n : Int) (n : Int) (by omega) (by omega) (by rw [hz2]; omega) (by omega)
  rw [hz1, Int.toNat_natCast] at hrun
  have := hK _ (wrs_zero w n) ((Below.refl _ _).alloc (Nat.le_refl _) _) (by simp)
  unfold Oper.wp
  simp [execOp, hop, hl, hc, Result.andThen]
  rw [hrun]
  exact hK' _ _ this
end
def SpR (N : Nat) (S : Nat → Int) (w : World) (e : Ending) (w' : World) : Prop :=
  ∃ A c, e = .returned (.tuple #[.slice A (lenOf (if allFit S N = true then 0 else 19) N) c, .int .i64 ((if allFit S N = true then 0 else 19 : Nat) : Int)]) ∧ Bld w' w.heap.size 2 (.slice A (lenOf (if allFit S N = true then 0 else 19) N) c) (lenOf (if allFit S N = true then 0 else 19) N) (iw S) ∧ Nx w w'
theorem spr_ok {N : Nat} {S : Nat → Int} {w w' : World} {A : Option Addr} {c : Nat} (F : allFit S N = true) (hB : Bld w' w.heap.size 2 (.slice A N c) N (iw S)) (hb : Nx w w') : SpR N S w (.returned (.tuple #[.slice A N c, .int .i64 0])) w' := by
  unfold SpR
  rw [if_pos F]
  exact ⟨A, c, rfl, hB, hb⟩
theorem spr_no {N : Nat} {S : Nat → Int} {w w' : World} (F : allFit S N = false) (hb : Nx w w') : SpR N S w (.returned (.tuple #[.slice none 0 0, .int .i64 19])) w' := by
  unfold SpR
  rw [if_neg (by rw [F]; decide)]
  exact ⟨none, 0, rfl, bld_none _ _ _ hb.size _, hb⟩
set_option maxRecDepth 20000 in
set_option maxHeartbeats 8000000 in
theorem spread_any (A : Option Addr) (n c : Nat) (A' : Option Addr) (m c' N : Nat) (x y : Nat → Int) (w : World) (hr : RS w A n c (iw x)) (hr' : RS w A' m c' (iw y)) (hx : ∀ i, i64B (x i)) (hy : ∀ j, i64B (y j))
    (hnm : n * m ≤ 1048576) (hn : n ≤ 1048576) (hm : m ≤ 1048576) (hN : N ≤ 2097152) (hN1 : 1 ≤ N) :
    Calls Tryd.prog 36 #[.slice A n c, .slice A' m c', .int .i64 (N : Int)] w (SpR N (allS x y (fun i j => (i + j) % N) m n) w) := by
  have k1 := hr.nc
  have k2 := hr.cm
  have k3 := hr'.nc
  have k4 := hr'.cm
  have hn' : (n : Int) ≤ 1048576 := by omega
  have hm' : (m : Int) ≤ 1048576 := by omega
  have hN' : (N : Int) ≤ 2097152 := by omega
  have z1 : (N : Int) ≠ 0 := by omega
  have z2 : (0 : Int) < N := by omega
  have Hr := Lib.hid hr
  have Hr' := Lib.hid hr'
  have Hx := Lib.hid hx
  have Hy := Lib.hid hy
  have HBd := Lib.hid (allS_bound (at_ := fun i j => (i + j) % N) hx hy hnm)
  clear hr hr' hx hy hnm
  obtain ⟨R, hR⟩ : ∃ R, SpR N (allS x y (fun i j => (i + j) % N) m n) w = R := ⟨_, rfl⟩
  rw [hR]
  have HR := Lib.hid hR
  clear hR
  go_enter Tryd.func36, Tryd.ntmps36
  go_wp2_with ((with_reducible show wpList _ _ _ (⟨some 20, _, _, _, _, _⟩ :: _) _ _); refine wpl_make3R rfl _ _ rfl .i64 .i64 (N : Int) (N : Int) N rfl rfl rfl rfl (by omega) ?_; intro w1 hW1 hb1 hsz1)
  obtain ⟨D, hD⟩ : ∃ D, w.heap.size = D := ⟨_, rfl⟩
  try rw [hD]
  rw [hD] at hb1 hsz1 hW1
  have HRx : Hid (∀ wr, Below D w wr → RS wr A n c (iw x)) := fun wr hb => by rw [← hD] at hb; exact Hr.out.below hb
  have HRy : Hid (∀ wr, Below D w wr → RS wr A' m c' (iw y)) := fun wr hb => by rw [← hD] at hb; exact Hr'.out.below hb
  have HW1 := Lib.hid hW1
  have Hb1 := Lib.hid hb1
  have HD := Lib.hid hD
  clear hW1 hb1 hD
  go_loopw [23] (fun o wr => ∃ i : Nat, i ≤ n ∧ o = .int .i64 i ∧ Wrs wr D N (allS x y (fun i j => (i + j) % N) m i) ∧ Below D w wr ∧ D < wr.heap.size) (fun o _ => n - (intOf o).toNat)
  case atStart => exact ⟨0, Nat.zero_le _, rfl, HW1.out, Hb1.out, hsz1⟩
  case round =>
    obtain ⟨i, hi, rfl, hW, hb, hsz⟩ := hrel
    clear HW1 Hb1 hsz1
    have HW := Lib.hid hW
    have Hb := Lib.hid hb
    clear hW hb
    by_cases hlt : i < n
    · have hlt' : (i : Int) < n := by omega
      have hrr := HRx.out _ Hb.out
      go_wp2_with ((with_reducible show wpList _ _ _ (⟨some 26, _, _, _, _, _⟩ :: _) _ _); refine wpl_ix rfl 34 2 _ _ rfl Tryd.underlying34 cells2 A n c i _ _ (iw x) rfl rfl rfl hlt hrr ?_; intro pp hpp; have hpp2 : wr.cell? pp = some (.int .i64 (x i)) := hpp; clear hpp)
      obtain ⟨wo, hwo⟩ : ∃ wo, wr = wo := ⟨_, rfl⟩
      rw [hwo] at hsz HW Hb
      clear hrr
      try clear hpp2
      subst hwo
      go_loopw [30] (fun o wr2 => ∃ j : Nat, j ≤ m ∧ o = .int .i64 j ∧ Wrs wr2 D N (rowS x y (fun i j => (i + j) % N) i (allS x y (fun i j => (i + j) % N) m i) j) ∧ Below D w wr2 ∧ D < wr2.heap.size) (fun o _ => m - (intOf o).toNat)
      case atStart => exact ⟨0, Nat.zero_le _, rfl, HW.out, Hb.out, hsz⟩
      case round =>
        obtain ⟨j, hj, rfl, hW2, hb2, hsz2⟩ := hrel
        by_cases hjl : j < m
        · have hjl' : (j : Int) < m := by omega
          have hry := HRy.out _ hb2
          obtain ⟨t, ht⟩ : ∃ t, (i + j) % N = t := ⟨_, rfl⟩
          have hatl : t < N := by rw [← ht]; exact Nat.mod_lt _ (by omega)
          have hti : ((i : Int) + j) % N = (t : Int) := by rw [← ht]; rfl
          have htl : (t : Int) < N := by omega
          obtain ⟨a0, a1, a2, h3, q0, q1, q2⟩ := hW2.num t hatl
          have HRg := Lib.hid (Wrs.range q0 q1 q2)
          have HSet : Hid (∀ (w5 : World), Nx wr w5 → ∀ s0 s1 s2 : Nat, R3 (rowS x y (fun i j => (i + j) % N) i (allS x y (fun i j => (i + j) % N) m i) j t + x i * y j) s0 s1 s2 → Wrs (upd3v w5 D (t * 3) s0 s1 s2) D N (rowS x y (fun i j => (i + j) % N) i (allS x y (fun i j => (i + j) % N) m i) (j + 1))) := by
            intro w5 hn5 s0 s1 s2 h
            have := (hW2.below hsz2 hn5).put t _ s0 s1 s2 hatl h
            rw [rowS]
            show Wrs _ _ _ (fun k => if k = (i + j) % N then _ else _)
            rw [ht]
            exact this
          have HTh : Hid (∀ w5, Nx wr w5 → w5.there D (t * 3) 3) := fun w5 hn5 => (hW2.below hsz2 hn5).there hatl
          have Hb2 := Lib.hid hb2
          have H3 := Lib.hid h3
          have Ht := Lib.hid ht
          have Hsz2 := Lib.hid hsz2
          clear hW2 hb2 q0 q1 q2 h3 ht hsz2
          go_wp2_with (first
            | ((with_reducible show wpList _ _ _ (⟨some 33, _, _, _, _, _⟩ :: _) _ _); refine wpl_ix rfl 34 2 _ _ rfl Tryd.underlying34 cells2 A' m c' j _ _ (iw y) rfl rfl rfl hjl hry ?_; intro pp2 hpp3; have hpp4 : wr.cell? pp2 = some (.int .i64 (y j)) := hpp3; clear hpp3)
            | ((with_reducible show wpList _ _ _ (⟨some 45, _, _, _, _, _⟩ :: _) _ _); refine wpList_load_mid rfl 74 _ rfl D (t * 3) rfl [.int .u64 (a2 : Nat), .int .u64 (a1 : Nat), .int .u64 (a0 : Nat)] _ HRg.out Tryd.underlying74 rfl size74 ?_)
            | (go_at_call 40; refine (plusR_any a0 a1 a2 _ (x i) (y j) _ H3.out (Hx.out i) (Hy.out j)).mono ?_; rintro e w5 ⟨s0, s1, s2, rfl, hR3, hn5⟩; have HR3 := Lib.hid hR3; have Hn5 := Lib.hid hn5; clear hR3 hn5)
            | ((with_reducible show wpList _ _ _ (⟨none, _, _, _, _, _⟩ :: _) _ _); refine wpList_store_mid rfl 74 _ _ rfl D (t * 3) #[.int .u64 (s2 : Nat), .int .u64 (s1 : Nat), .int .u64 (s0 : Nat)] rfl rfl (HTh.out _ Hn5.out) size74 (by kernel_rfl) ?_))
          exact ⟨⟨j + 1, by omega, by go_num, HSet.out _ Hn5.out s0 s1 s2 HR3.out, below3v (Hb2.out.trans (Hn5.out.mono (Nat.le_of_lt Hsz2.out))) (Nat.le_refl D) (t * 3) s0 s1 s2, by
            show D < (upd3v w5 D (t * 3) s0 s1 s2).heap.size
            have e1 : (upd3v w5 D (t * 3) s0 s1 s2).heap.size = w5.heap.size := by simp [upd3v, World.setCell]
            rw [e1]
            exact Nat.lt_of_lt_of_le Hsz2.out Hn5.out.le⟩, by simp only [intOf]; omega⟩
        · obtain rfl : j = m := by omega
          have HW2 := Lib.hid hW2
          have Hb2 := Lib.hid hb2
          clear hW2 hb2
          go_wp2_with fail
          exact ⟨⟨i + 1, by omega, by go_num, HW2.out, Hb2.out, hsz2⟩, by simp only [intOf]; omega⟩
    · obtain rfl : i = n := by omega
      obtain ⟨S, hS⟩ : ∃ S, allS x y (fun i j => (i + j) % N) m i = S := ⟨_, rfl⟩
      rw [hS] at HW HBd HR
      have HB0 := Lib.hid (bld_new wr 2 #[] (iw S) 0 (by decide) rfl (fun j hj => absurd hj (by omega)) wr.heap.size (Nat.le_refl _))
      have HWn : Hid (∀ w', Nx wr w' → Wrs w' D N S) := fun w' h => HW.out.below hsz h
      have HS := Lib.hid hS
      clear hS HW
      go_wp2_with fail
      obtain ⟨wo, hwo⟩ : ∃ wo, wr = wo := ⟨_, rfl⟩
      rw [hwo] at hsz HWn Hb HB0
      try rw [hwo]
      obtain ⟨B, hB⟩ : ∃ B, wo.heap.size = B := ⟨_, rfl⟩
      have hB' := Lib.hid hB
      try rw [hB] at HB0
      try rw [hB]
      clear hB hwo
      go_loopw [55, 14] (fun o s wr2 => ∃ j cj : Nat, ∃ Aj, j ≤ N ∧ o = .int .i64 j ∧ s = .slice Aj j cj ∧ Hid (allFit S j = true) ∧ Bld wr2 B 2 (.slice Aj j cj) j (iw S) ∧ Below B wo wr2) (fun o _ _ => N - (intOf o).toNat)
      case atStart => exact ⟨0, 0, _, Nat.zero_le _, rfl, rfl, rfl, HB0.out, by rw [← hB'.out]; exact nx_alloc _ _⟩
      case round =>
        obtain ⟨j, cj, Aj, hj, rfl, rfl, HF, hBr, hbr⟩ := hrel
        clear HB0
        have hnx : Nx wo wr := by rw [← hB'.out] at hbr; exact hbr
        by_cases hjl : j < N
        · have hjl' : (j : Int) < N := by omega
          obtain ⟨a0, a1, a2, h3, q0, q1, q2⟩ := (HWn.out _ hnx).num j hjl
          have HRg := Lib.hid (Wrs.range q0 q1 q2)
          have H3 := Lib.hid h3
          have HBr := Lib.hid hBr
          have Hnx := Lib.hid hnx
          obtain ⟨b, hb⟩ : ∃ b, fitB (S j) = b := ⟨_, rfl⟩
          have Hb' := Lib.hid hb
          clear q0 q1 q2 h3 hBr hbr hnx hb
          cases b
          · have HN := Lib.hid (allFit_false (n := N) hjl Hb'.out)
            go_wp2_with (first
              | ((with_reducible show wpList _ _ _ (⟨some 58, _, _, _, _, _⟩ :: _) _ _); refine wpList_load_mid rfl 74 _ rfl D (j * 3) rfl [.int .u64 (a2 : Nat), .int .u64 (a1 : Nat), .int .u64 (a0 : Nat)] _ HRg.out Tryd.underlying74 rfl size74 ?_)
              | (go_at_call 41; refine (fitsR_any a0 a1 a2 (S j) _ H3.out (HBd.out j)).mono ?_; rw [Hb'.out]; rintro e w5 ⟨r, rfl, _, hn5⟩; have Hn5 := Lib.hid hn5; clear hn5))
            rw [← HR.out]
            exact spr_no HN.out (Nx.trans (b := wo) (by show Below _ _ _; rw [HD.out]; exact Hb.out) (Hnx.out.trans ((nx_alloc _ _).trans Hn5.out)))
          · have HF2 : Hid (allFit S (j + 1) = true) := by show _ = _; rw [allFit, HF.out, Hb'.out]; rfl
            go_wp2_with (first
              | ((with_reducible show wpList _ _ _ (⟨some 58, _, _, _, _, _⟩ :: _) _ _); refine wpList_load_mid rfl 74 _ rfl D (j * 3) rfl [.int .u64 (a2 : Nat), .int .u64 (a1 : Nat), .int .u64 (a0 : Nat)] _ HRg.out Tryd.underlying74 rfl size74 ?_)
              | (go_at_call 41; refine (fitsR_any a0 a1 a2 (S j) _ H3.out (HBd.out j)).mono ?_; rw [Hb'.out]; rintro e w5 ⟨r, rfl, hrS, hn5⟩; have hn6 : Nx wr w5 := (nx_alloc _ _).trans hn5; have Hn6 := Lib.hid hn6; have HV : Hid (some (Value.int .i64 r) = some (iw S j)) := (by show _ = _; rw [hrS rfl]; rfl); clear hn5 hn6 hrS)
              | ((with_reducible show wpList _ _ _ (⟨some 69, _, _, _, _, _⟩ :: _) _ _); refine wpl_pushK rfl _ _ 34 2 (.int .i64 0) 8 rfl Tryd.underlying34 info2 rfl B (.slice Aj j cj) j w5.heap.size (iw S) (iw S) rfl rfl ((HBr.out.nx Hn6.out).alloc _) (by rw [cells_new]; exact HV.out) (fun _ _ => rfl) (fun _ => rfl) (by omega) (by decide) ?_; intro A2 c2 w6 hB2 hk2 _ _ _; have HB2 := Lib.hid hB2; have Hb2 : Hid (Nx wo w6) := nx_kp (Hnx.out.trans (Hn6.out.alloc _)) hk2 (by rw [hB'.out]; exact (HBr.out.nx Hn6.out).base); clear hB2 hk2))
            exact ⟨⟨j + 1, _, _, by omega, by go_num, rfl, HF2.out, HB2.out, by rw [← hB'.out]; exact Hb2.out⟩, by simp only [intOf]; omega⟩
        · obtain rfl : j = N := by omega
          have HBr := Lib.hid hBr
          have Hnx := Lib.hid hnx
          clear hBr hbr hnx
          go_wp2_with fail
          try go_ret2
          have hnw : Nx w wo := by show Below _ _ _; rw [HD.out]; exact Hb.out
          rw [← HR.out]
          exact spr_ok HF.out (HBr.out.mono (by rw [← hB'.out]; exact hnw.le)) (hnw.trans Hnx.out)
end Go.Proofs.YtppebegleedifaaDoor
