/- gather. -/
import Derived.Test.YtppebegleedifaaDoorXq
namespace Go.Proofs.YtppebegleedifaaDoor
open Go.RowKit

/-- Row i of the products, laid at the places that at_ tells: the first j. -/
def rowS (a b : Nat → Int) (at_ : Nat → Nat → Nat) (i : Nat) (S : Nat → Int) : Nat → Nat → Int
  | 0 => S
  | j + 1 => fun k => if k = at_ i j then rowS a b at_ i S j (at_ i j) + a i * b j else rowS a b at_ i S j k
def allS (a b : Nat → Int) (at_ : Nat → Nat → Nat) (m : Nat) : Nat → Nat → Int
  | 0 => fun _ => 0
  | i + 1 => rowS a b at_ i (allS a b at_ m i) m
def i64B (x : Int) : Prop := -9223372036854775808 ≤ x ∧ x ≤ 9223372036854775807
theorem rowS_le {a b : Nat → Int} {at_ : Nat → Nat → Nat} {i : Nat} {S : Nat → Int} {P M : Int} (hM : 0 ≤ M) (hP : ∀ j, -M ≤ a i * b j ∧ a i * b j ≤ M) (hS : ∀ k, -P ≤ S k ∧ S k ≤ P) (j : Nat) :
    ∀ k, -(P + j * M) ≤ rowS a b at_ i S j k ∧ rowS a b at_ i S j k ≤ P + j * M := by
  induction j with
  | zero => intro k; have := hS k; rw [rowS]; simp; omega
  | succ j ih =>
    intro k
    have e : ((j + 1 : Nat) : Int) * M = j * M + M := by rw [Int.natCast_add, Int.add_mul]; simp
    rw [rowS, e]
    dsimp only
    have h1 := ih (at_ i j)
    have h2 := ih k
    have h3 := hP j
    generalize (j : Int) * M = u at *
    generalize a i * b j = v at *
    split <;> omega
theorem prodB {a b : Nat → Int} (ha : ∀ i, i64B (a i)) (hb : ∀ j, i64B (b j)) (i j : Nat) : -85070591730234615865843651857942052864 ≤ a i * b j ∧ a i * b j ≤ 85070591730234615865843651857942052864 :=
  mul_bound (ha i) (hb j)
theorem allS_le {a b : Nat → Int} {at_ : Nat → Nat → Nat} {m : Nat} (ha : ∀ i, i64B (a i)) (hb : ∀ j, i64B (b j)) (i : Nat) :
    ∀ k, -((i : Int) * (m * 85070591730234615865843651857942052864)) ≤ allS a b at_ m i k ∧ allS a b at_ m i k ≤ (i : Int) * (m * 85070591730234615865843651857942052864) := by
  induction i with
  | zero => intro k; rw [allS]; simp
  | succ i ih =>
    intro k
    have e : ((i + 1 : Nat) : Int) * ((m : Int) * 85070591730234615865843651857942052864) = i * (m * 85070591730234615865843651857942052864) + m * 85070591730234615865843651857942052864 := by rw [Int.natCast_add, Int.add_mul]; simp
    rw [allS, e]
    exact rowS_le (by decide) (fun j => prodB ha hb i j) ih m k
theorem allS_bound {a b : Nat → Int} {at_ : Nat → Nat → Nat} {n m : Nat} (ha : ∀ i, i64B (a i)) (hb : ∀ j, i64B (b j)) (h : n * m ≤ 1048576) (k : Nat) :
    -1532495540865888858358347027150309183618739122183602176 ≤ allS a b at_ m n k ∧ allS a b at_ m n k ≤ 1532495540865888858358347027150309183618739122183602176 := by
  have h1 := allS_le (at_ := at_) (m := m) ha hb n k
  have e : (n : Int) * ((m : Int) * 85070591730234615865843651857942052864) = ((n * m : Nat) : Int) * 85070591730234615865843651857942052864 := by rw [← Int.mul_assoc, Int.natCast_mul]
  rw [e] at h1
  omega
/-- The beginning: all are 0. -/
theorem wds_zero (w : World) (n : Nat) : Wds (w.alloc (.cells (madeCells #[.int .u64 0, .int .u64 0, .int .u64 0] (n * 3)) 70)) w.heap.size n (fun _ => 0) := by
  have hh := heap_alloc_new w (.cells (madeCells #[.int .u64 0, .int .u64 0, .int .u64 0] (n * 3)) 70)
  have hc : ∀ x, x < n * 3 → (madeCells #[Value.int .u64 0, .int .u64 0, .int .u64 0] (n * 3))[x]? = some (.int .u64 0) := by
    intro x hx
    unfold madeCells
    rw [Array.getElem?_map, Array.getElem?_range]
    simp only [hx, if_true, Option.map_some]
    have : x % 3 = 0 ∨ x % 3 = 1 ∨ x % 3 = 2 := by omega
    show some ((#[Value.int .u64 0, .int .u64 0, .int .u64 0] : Array Value)[x % 3]!) = _
    rcases this with e | e | e <;> rw [e] <;> rfl
  constructor
  · intro j hj
    refine ⟨0, 0, 0, ⟨by decide, by decide, by decide, 0, by omega⟩, ?_, ?_, ?_⟩
    · rw [cell_of_row _ _ (3 * j) _ _ _ hh, hc _ (by omega)]; rfl
    · rw [cell_of_row _ _ (3 * j + 1) _ _ _ hh, hc _ (by omega)]; rfl
    · rw [cell_of_row _ _ (3 * j + 2) _ _ _ hh, hc _ (by omega)]; rfl
  · intro j
    exact frozen_of_row _ _ j _ _ hh
theorem info70 : (Tryd.prog.info? 70).map (fun i => (i.zero, i.size, i.bytes)) = some (some (.agg #[.int .u64 0, .int .u64 0, .int .u64 0]), 3, 24) := by kernel_rfl
section
variable {w : World} {ops : Array Oper} {rest : List Oper} {o : Oper} {a : Act} {Q : Exit → Act → World → Prop}
/-- 'make([]wide, n)'. -/
theorem wpl_make3 (hg : o.guard = none) (l c : Operand) (hop : o.op = Op.makeSlice 68 l c) (kl kc : IntKind) (L C : Int) (n : Nat) (hl : a.eval l = .int kl L) (hL : L = (n : Int)) (hc : a.eval c = .int kc C) (hC : C = (n : Int)) (hn : n ≤ 4194304)
    (hK : ∀ w', Wds w' w.heap.size n (fun _ => 0) → Below w.heap.size w w' → w.heap.size < w'.heap.size → wpList Tryd.prog ops Q rest (a.put o.dst (.slice (some ⟨w.heap.size, 0, none⟩) n n)) w') :
    wpList Tryd.prog ops Q (o :: rest) a w := by
  obtain ⟨i0, hi, hz0, hz1, hz2⟩ : ∃ i0, Tryd.prog.info? 70 = some i0 ∧ i0.zero = some (.agg #[.int .u64 0, .int .u64 0, .int .u64 0]) ∧ i0.size = 3 ∧ i0.bytes = 24 := by
    have h := info70
    cases hq : Tryd.prog.info? 70 with
    | none => rw [hq] at h; cases h
    | some i0 =>
      rw [hq] at h
      simp only [Option.map_some, Option.some.injEq, Prod.mk.injEq] at h
      exact ⟨i0, rfl, h.1, h.2.1, h.2.2⟩
  refine wpList_plain hg fun K hK' => ?_
  subst hL
  subst hC
  have hrun := run_make (P := Tryd.prog) w 68 70 i0 _ Tryd.underlying68 hi hz0 kl kc (n : Int) (n : Int) (by omega) (by omega) (by rw [hz2]; omega) (by omega)
  rw [hz1, Int.toNat_natCast] at hrun
  have := hK _ (wds_zero w n) ((Below.refl _ _).alloc (Nat.le_refl _) _) (by simp)
  unfold Oper.wp
  simp [execOp, hop, hl, hc, Result.andThen]
  rw [hrun]
  exact hK' _ _ this
end
theorem linear1_any (i j t : Nat) (hi : i < 1048576) (hj : j < 1048576) (ht : i + j = t) (w : World) : Calls Tryd.prog 35 #[.int .i64 (i : Nat), .int .i64 (j : Nat)] w fun e w' => e = .returned (.int .i64 (t : Nat)) ∧ w = w' := by
  have h : (i : Int) + j = (t : Int) := by omega
  have h1 : (i : Int) < 1048576 := by omega
  have h2 : (j : Int) < 1048576 := by omega
  go_enter Tryd.func35, Tryd.ntmps35
  go_wp2_with fail
  go_ret
  exact ⟨by first | rfl | go_num, rfl⟩
theorem cyclic1_any (cb i j N t : Nat) (hi : i < 1048576) (hj : j < 1048576) (hN : 1 ≤ N) (hN2 : N ≤ 2097152) (ht : (i + j) % N = t) (w : World) (hcb : w.cell? ⟨cb, 0, none⟩ = some (.int .i64 (N : Nat))) :
    Calls Tryd.prog 37 #[.int .i64 (i : Nat), .int .i64 (j : Nat), .pointer (some ⟨cb, 0, none⟩)] w fun e w' => e = .returned (.int .i64 (t : Nat)) ∧ w = w' := by
  have h : ((i : Int) + j) % N = (t : Int) := by rw [← ht]; rfl
  have h1 : (i : Int) < 1048576 := by omega
  have h2 : (j : Int) < 1048576 := by omega
  have h3 : (N : Int) ≠ 0 := by omega
  have h4 : (0 : Int) < N := by omega
  go_enter Tryd.func37, Tryd.ntmps37
  go_wp2_with fail
  go_ret
  exact ⟨by first | rfl | go_num, rfl⟩
set_option maxHeartbeats 4000000 in
theorem gatherL (A : Option Addr) (n c : Nat) (A' : Option Addr) (m c' N : Nat) (x y : Nat → Int) (ea : Nat → Addr) (w : World) (hr : RS w A n c (iw x)) (hr' : RS w A' m c' (iw y)) (hx : ∀ i, i64B (x i)) (hy : ∀ j, i64B (y j))
    (hnm : n * m ≤ 1048576) (hn : n ≤ 1048576) (hm : m ≤ 1048576) (hN : N ≤ 2097152) (hat : ∀ i j, i < n → j < m → i + j < N) (hE : Ers w (eV ea)) :
    Calls Tryd.prog 34 #[.slice A n c, .slice A' m c', .int .i64 N, .func (Fn.func 35) #[] #[]] w (WRes ea (allS x y (fun i j => i + j) m n) N w) := by
  have k1 := hr.nc
  have k2 := hr.cm
  have k3 := hr'.nc
  have k4 := hr'.cm
  have hn' : (n : Int) ≤ 1048576 := by omega
  have hm' : (m : Int) ≤ 1048576 := by omega
  have hN' : (N : Int) ≤ 2097152 := by omega
  have Hr := Lib.hid hr
  have Hr' := Lib.hid hr'
  have HE := Lib.hid hE
  have Hx := Lib.hid hx
  have Hy := Lib.hid hy
  have Hat := Lib.hid hat
  have HBd := Lib.hid (allS_bound (at_ := fun i j => i + j) hx hy hnm)
  clear hr hr' hE hx hy hat hnm
  go_enter Tryd.func34, Tryd.ntmps34
  go_wp2_with (first
    | ((with_reducible show wpList _ _ _ (⟨some 16, _, _, _, _, _⟩ :: _) _ _); refine wpl_make3 rfl _ _ rfl .i64 .i64 (N : Int) (N : Int) N rfl rfl rfl rfl (by omega) ?_; intro w1 hW1 hb1 hsz1))
  obtain ⟨D, hD⟩ : ∃ D, w.heap.size = D := ⟨_, rfl⟩
  try rw [hD]
  rw [hD] at hb1 hsz1 hW1
  have HRx : Hid (∀ wr, Below D w wr → RS wr A n c (iw x)) := fun wr hb => by rw [← hD] at hb; exact Hr.out.below hb
  have HRy : Hid (∀ wr, Below D w wr → RS wr A' m c' (iw y)) := fun wr hb => by rw [← hD] at hb; exact Hr'.out.below hb
  have HEr : Hid (∀ wr, Below D w wr → Ers wr (eV ea)) := fun wr hb => by rw [← hD] at hb; exact HE.out.below hb
  have HW1 := Lib.hid hW1
  have Hb1 := Lib.hid hb1
  clear hW1 hb1
  go_loopw [19] (fun o wr => ∃ i : Nat, i ≤ n ∧ o = .int .i64 i ∧ Wds wr D N (allS x y (fun i j => i + j) m i) ∧ Below D w wr ∧ D < wr.heap.size) (fun o _ => n - (intOf o).toNat)
  case atStart => exact ⟨0, Nat.zero_le _, rfl, HW1.out, Hb1.out, hsz1⟩
  case round =>
    obtain ⟨i, hi, rfl, hW, hb, hsz⟩ := hrel
    clear HW1 Hb1
    have HW := Lib.hid hW
    have Hb := Lib.hid hb
    clear hW hb
    by_cases hlt : i < n
    · have hlt' : (i : Int) < n := by omega
      have hrr := HRx.out _ Hb.out
      go_wp2_with (first
        | ((with_reducible show wpList _ _ _ (⟨some 22, _, _, _, _, _⟩ :: _) _ _); refine wpl_ix rfl 34 2 _ _ rfl Tryd.underlying34 cells2 A n c i _ _ (iw x) rfl rfl rfl hlt hrr ?_; intro pp hpp; have hpp2 : wr.cell? pp = some (.int .i64 (x i)) := hpp; clear hpp))
      go_loopw [26] (fun o wr2 => ∃ j : Nat, j ≤ m ∧ o = .int .i64 j ∧ Wds wr2 D N (rowS x y (fun i j => i + j) i (allS x y (fun i j => i + j) m i) j) ∧ Below D w wr2 ∧ D < wr2.heap.size) (fun o _ => m - (intOf o).toNat)
      case atStart => exact ⟨0, Nat.zero_le _, rfl, HW.out, Hb.out, hsz⟩
      case round =>
        obtain ⟨j, hj, rfl, hW2, hb2, hsz2⟩ := hrel
        by_cases hjl : j < m
        · have hjl' : (j : Int) < m := by omega
          have hry := HRy.out _ hb2
          have hatl := Hat.out i j hlt hjl
          obtain ⟨t, ht⟩ : ∃ t, i + j = t := ⟨_, rfl⟩
          rw [ht] at hatl
          obtain ⟨a0, a1, a2, h3, q0, q1, q2⟩ := hW2.num t hatl
          have f0 := hW2.free (t * 3)
          have f1 := hW2.free (t * 3 + 1)
          have f2 := hW2.free (t * 3 + 2)
          rw [Nat.mul_comm 3 t] at q0 q1 q2
          have HA := Lib.hid (fun w0 : World => fun (e : w0.heap = wr.heap) => wadd_any D (t * 3) a0 a1 a2 _ (x i) (y j) w0 h3 (Hx.out i) (Hy.out j) (by rw [← q0]; simp [World.cell?, e]) (by rw [← q1]; simp [World.cell?, e]) (by rw [← q2]; simp [World.cell?, e]) (by rw [← f0]; simp [World.frozen?, e]) (by rw [← f1]; simp [World.frozen?, e]) (by rw [← f2]; simp [World.frozen?, e]))
          have HSet : Hid (∀ s0 s1 s2 : Nat, R3 (rowS x y (fun i j => i + j) i (allS x y (fun i j => i + j) m i) j t + x i * y j) s0 s1 s2 → Wds (((wr.setCell ⟨D, t * 3, none⟩ (.int .u64 (s0 : Nat))).setCell ⟨D, t * 3 + 1, none⟩ (.int .u64 (s1 : Nat))).setCell ⟨D, t * 3 + 2, none⟩ (.int .u64 (s2 : Nat))) D N (rowS x y (fun i j => i + j) i (allS x y (fun i j => i + j) m i) (j + 1))) := by
            intro s0 s1 s2 h
            have := hW2.set t _ s0 s1 s2 hatl h
            rw [Nat.mul_comm 3 t] at this
            rw [rowS]
            show Wds _ _ _ (fun k => if k = (i + j) then _ else _)
            rw [ht]
            exact this
          have HbS : Hid (∀ s0 s1 s2 : Value, Below D w (((wr.setCell ⟨D, t * 3, none⟩ s0).setCell ⟨D, t * 3 + 1, none⟩ s1).setCell ⟨D, t * 3 + 2, none⟩ s2)) := fun s0 s1 s2 => ((hb2.setCell (Nat.le_refl D) _).setCell (Nat.le_refl D) _).setCell (Nat.le_refl D) _
          have Hsz : Hid (∀ s0 s1 s2 : Value, D < (((wr.setCell ⟨D, t * 3, none⟩ s0).setCell ⟨D, t * 3 + 1, none⟩ s1).setCell ⟨D, t * 3 + 2, none⟩ s2).heap.size) := fun s0 s1 s2 => by simp [World.setCell]; exact hsz2
          have HW2 := Lib.hid hW2
          have Hb2 := Lib.hid hb2
          have Ht := Lib.hid ht
          have hti : (t : Int) < N := by omega
          clear hW2 hb2 q0 q1 q2 f0 f1 f2 h3
          go_wp2_with (first
            | ((with_reducible show wpList _ _ _ (⟨some 29, _, _, _, _, _⟩ :: _) _ _); refine wpl_ix rfl 34 2 _ _ rfl Tryd.underlying34 cells2 A' m c' j _ _ (iw y) rfl rfl rfl hjl hry ?_; intro pp2 hpp3; have hpp4 : wr.cell? pp2 = some (.int .i64 (y j)) := hpp3; clear hpp3)
            | (go_at_call 35; refine (linear1_any i j t (by omega) (by omega) Ht.out _).mono ?_; rintro e w4 ⟨rfl, rfl⟩)
            | (go_at_call 38; refine (HA.out _ rfl).mono ?_; rintro e w4 ⟨k4, r4, s0, s1, s2, rfl, hR4, rfl⟩))
          all_goals
            go_roundw
            case rel => exact ⟨j + 1, by omega, by go_num, (HSet.out s0 s1 s2 hR4).drewN _, below_drewN (HbS.out _ _ _) _, Hsz.out _ _ _⟩
            case measure => simp only [intOf]; omega

        · obtain rfl : j = m := by omega
          have HW2 := Lib.hid hW2
          have Hb2 := Lib.hid hb2
          clear hW2 hb2
          go_wp2_with fail
          go_roundw
          case rel => exact ⟨i + 1, by omega, by go_num, HW2.out, Hb2.out, hsz2⟩
          case measure => simp only [intOf]; omega
    · obtain rfl : i = n := by omega
      have HWh := Lib.hid (whole_any ea D N N (allS x y (fun i j => i + j) m i) wr HW.out hsz (by omega) (Nat.le_refl _) (by omega) (HEr.out _ Hb.out) (fun k _ => HBd.out k))
      have Hle : Hid (w.heap.size ≤ wr.heap.size) := Hb.out.size
      have HbB : Hid (Below w.heap.size w wr) := by show Below _ _ _; rw [hD]; exact Hb.out
      go_wp2_with (go_at_call 39; refine HWh.out.mono ?_; rintro e w5 ⟨hcase, hb5⟩; have Hb5 := Lib.hid (HbB.out.trans (hb5.mono Hle.out)); clear hb5; rcases hcase with ⟨F1, A5, c5, rfl, hB5⟩ | ⟨F1, rfl⟩)
      all_goals go_ret2
      · exact ⟨.inl ⟨F1, _, _, rfl, by first | exact hB5.mono Hle.out | (rw [← hD]; exact hB5.mono Hle.out)⟩, by first | exact Hb5.out | (rw [← hD]; exact Hb5.out)⟩
      · exact ⟨.inr ⟨F1, rfl⟩, by first | exact Hb5.out | (rw [← hD]; exact Hb5.out)⟩
set_option maxHeartbeats 4000000 in
theorem gatherC (A : Option Addr) (n c : Nat) (A' : Option Addr) (m c' N : Nat) (x y : Nat → Int) (ea : Nat → Addr) (cb : Nat) (w : World) (hr : RS w A n c (iw x)) (hr' : RS w A' m c' (iw y)) (hx : ∀ i, i64B (x i)) (hy : ∀ j, i64B (y j))
    (hnm : n * m ≤ 1048576) (hn : n ≤ 1048576) (hm : m ≤ 1048576) (hN : N ≤ 2097152) (hat : ∀ i j, i < n → j < m → (i + j) % N < N) (hcb : w.cell? ⟨cb, 0, none⟩ = some (.int .i64 (N : Nat))) (hN1 : 1 ≤ N) (hE : Ers w (eV ea)) :
    Calls Tryd.prog 34 #[.slice A n c, .slice A' m c', .int .i64 N, .func (Fn.func 37) #[] #[.pointer (some ⟨cb, 0, none⟩)]] w (WRes ea (allS x y (fun i j => (i + j) % N) m n) N w) := by
  have k1 := hr.nc
  have k2 := hr.cm
  have k3 := hr'.nc
  have k4 := hr'.cm
  have hn' : (n : Int) ≤ 1048576 := by omega
  have hm' : (m : Int) ≤ 1048576 := by omega
  have hN' : (N : Int) ≤ 2097152 := by omega
  have Hr := Lib.hid hr
  have Hr' := Lib.hid hr'
  have HE := Lib.hid hE
  have Hx := Lib.hid hx
  have Hy := Lib.hid hy
  have Hat := Lib.hid hat
  have HBd := Lib.hid (allS_bound (at_ := fun i j => (i + j) % N) hx hy hnm)
  clear hr hr' hE hx hy hat hnm
  go_enter Tryd.func34, Tryd.ntmps34
  go_wp2_with (first
    | ((with_reducible show wpList _ _ _ (⟨some 16, _, _, _, _, _⟩ :: _) _ _); refine wpl_make3 rfl _ _ rfl .i64 .i64 (N : Int) (N : Int) N rfl rfl rfl rfl (by omega) ?_; intro w1 hW1 hb1 hsz1))
  obtain ⟨D, hD⟩ : ∃ D, w.heap.size = D := ⟨_, rfl⟩
  try rw [hD]
  rw [hD] at hb1 hsz1 hW1
  have HRx : Hid (∀ wr, Below D w wr → RS wr A n c (iw x)) := fun wr hb => by rw [← hD] at hb; exact Hr.out.below hb
  have HRy : Hid (∀ wr, Below D w wr → RS wr A' m c' (iw y)) := fun wr hb => by rw [← hD] at hb; exact Hr'.out.below hb
  have HEr : Hid (∀ wr, Below D w wr → Ers wr (eV ea)) := fun wr hb => by rw [← hD] at hb; exact HE.out.below hb
  have HCb : Hid (∀ wr, Below D w wr → wr.cell? ⟨cb, 0, none⟩ = some (.int .i64 (N : Nat))) := fun wr hb => by rw [← hD] at hb; exact (hb.cell (World.block_lt_of_cell? w _ hcb)).trans hcb
  clear hcb
  have HW1 := Lib.hid hW1
  have Hb1 := Lib.hid hb1
  clear hW1 hb1
  go_loopw [19] (fun o wr => ∃ i : Nat, i ≤ n ∧ o = .int .i64 i ∧ Wds wr D N (allS x y (fun i j => (i + j) % N) m i) ∧ Below D w wr ∧ D < wr.heap.size) (fun o _ => n - (intOf o).toNat)
  case atStart => exact ⟨0, Nat.zero_le _, rfl, HW1.out, Hb1.out, hsz1⟩
  case round =>
    obtain ⟨i, hi, rfl, hW, hb, hsz⟩ := hrel
    clear HW1 Hb1
    have HW := Lib.hid hW
    have Hb := Lib.hid hb
    clear hW hb
    by_cases hlt : i < n
    · have hlt' : (i : Int) < n := by omega
      have hrr := HRx.out _ Hb.out
      go_wp2_with (first
        | ((with_reducible show wpList _ _ _ (⟨some 22, _, _, _, _, _⟩ :: _) _ _); refine wpl_ix rfl 34 2 _ _ rfl Tryd.underlying34 cells2 A n c i _ _ (iw x) rfl rfl rfl hlt hrr ?_; intro pp hpp; have hpp2 : wr.cell? pp = some (.int .i64 (x i)) := hpp; clear hpp))
      go_loopw [26] (fun o wr2 => ∃ j : Nat, j ≤ m ∧ o = .int .i64 j ∧ Wds wr2 D N (rowS x y (fun i j => (i + j) % N) i (allS x y (fun i j => (i + j) % N) m i) j) ∧ Below D w wr2 ∧ D < wr2.heap.size) (fun o _ => m - (intOf o).toNat)
      case atStart => exact ⟨0, Nat.zero_le _, rfl, HW.out, Hb.out, hsz⟩
      case round =>
        obtain ⟨j, hj, rfl, hW2, hb2, hsz2⟩ := hrel
        by_cases hjl : j < m
        · have hjl' : (j : Int) < m := by omega
          have hry := HRy.out _ hb2
          have hatl := Hat.out i j hlt hjl
          obtain ⟨t, ht⟩ : ∃ t, (i + j) % N = t := ⟨_, rfl⟩
          rw [ht] at hatl
          obtain ⟨a0, a1, a2, h3, q0, q1, q2⟩ := hW2.num t hatl
          have f0 := hW2.free (t * 3)
          have f1 := hW2.free (t * 3 + 1)
          have f2 := hW2.free (t * 3 + 2)
          rw [Nat.mul_comm 3 t] at q0 q1 q2
          have HA := Lib.hid (fun w0 : World => fun (e : w0.heap = wr.heap) => wadd_any D (t * 3) a0 a1 a2 _ (x i) (y j) w0 h3 (Hx.out i) (Hy.out j) (by rw [← q0]; simp [World.cell?, e]) (by rw [← q1]; simp [World.cell?, e]) (by rw [← q2]; simp [World.cell?, e]) (by rw [← f0]; simp [World.frozen?, e]) (by rw [← f1]; simp [World.frozen?, e]) (by rw [← f2]; simp [World.frozen?, e]))
          have HSet : Hid (∀ s0 s1 s2 : Nat, R3 (rowS x y (fun i j => (i + j) % N) i (allS x y (fun i j => (i + j) % N) m i) j t + x i * y j) s0 s1 s2 → Wds (((wr.setCell ⟨D, t * 3, none⟩ (.int .u64 (s0 : Nat))).setCell ⟨D, t * 3 + 1, none⟩ (.int .u64 (s1 : Nat))).setCell ⟨D, t * 3 + 2, none⟩ (.int .u64 (s2 : Nat))) D N (rowS x y (fun i j => (i + j) % N) i (allS x y (fun i j => (i + j) % N) m i) (j + 1))) := by
            intro s0 s1 s2 h
            have := hW2.set t _ s0 s1 s2 hatl h
            rw [Nat.mul_comm 3 t] at this
            rw [rowS]
            show Wds _ _ _ (fun k => if k = ((i + j) % N) then _ else _)
            rw [ht]
            exact this
          have HbS : Hid (∀ s0 s1 s2 : Value, Below D w (((wr.setCell ⟨D, t * 3, none⟩ s0).setCell ⟨D, t * 3 + 1, none⟩ s1).setCell ⟨D, t * 3 + 2, none⟩ s2)) := fun s0 s1 s2 => ((hb2.setCell (Nat.le_refl D) _).setCell (Nat.le_refl D) _).setCell (Nat.le_refl D) _
          have Hsz : Hid (∀ s0 s1 s2 : Value, D < (((wr.setCell ⟨D, t * 3, none⟩ s0).setCell ⟨D, t * 3 + 1, none⟩ s1).setCell ⟨D, t * 3 + 2, none⟩ s2).heap.size) := fun s0 s1 s2 => by simp [World.setCell]; exact hsz2
          have HW2 := Lib.hid hW2
          have Hb2 := Lib.hid hb2
          have Ht := Lib.hid ht
          have hti : (t : Int) < N := by omega
          clear hW2 hb2 q0 q1 q2 f0 f1 f2 h3
          have cC := HCb.out _ Hb2.out
          go_wp2_with (first
            | ((with_reducible show wpList _ _ _ (⟨some 29, _, _, _, _, _⟩ :: _) _ _); refine wpl_ix rfl 34 2 _ _ rfl Tryd.underlying34 cells2 A' m c' j _ _ (iw y) rfl rfl rfl hjl hry ?_; intro pp2 hpp3; have hpp4 : wr.cell? pp2 = some (.int .i64 (y j)) := hpp3; clear hpp3)
            | (go_at_call 37; refine (cyclic1_any cb i j N t (by omega) (by omega) (by omega) (by omega) Ht.out _ (HCb.out _ Hb2.out)).mono ?_; rintro e w4 ⟨rfl, rfl⟩)
            | (go_at_call 38; refine (HA.out _ rfl).mono ?_; rintro e w4 ⟨k4, r4, s0, s1, s2, rfl, hR4, rfl⟩))
          all_goals
            go_roundw
            case rel => exact ⟨j + 1, by omega, by go_num, (HSet.out s0 s1 s2 hR4).drewN _, below_drewN (HbS.out _ _ _) _, Hsz.out _ _ _⟩
            case measure => simp only [intOf]; omega

        · obtain rfl : j = m := by omega
          have HW2 := Lib.hid hW2
          have Hb2 := Lib.hid hb2
          clear hW2 hb2
          go_wp2_with fail
          go_roundw
          case rel => exact ⟨i + 1, by omega, by go_num, HW2.out, Hb2.out, hsz2⟩
          case measure => simp only [intOf]; omega
    · obtain rfl : i = n := by omega
      have HWh := Lib.hid (whole_any ea D N N (allS x y (fun i j => (i + j) % N) m i) wr HW.out hsz (by omega) (Nat.le_refl _) (by omega) (HEr.out _ Hb.out) (fun k _ => HBd.out k))
      have Hle : Hid (w.heap.size ≤ wr.heap.size) := Hb.out.size
      have HbB : Hid (Below w.heap.size w wr) := by show Below _ _ _; rw [hD]; exact Hb.out
      go_wp2_with (go_at_call 39; refine HWh.out.mono ?_; rintro e w5 ⟨hcase, hb5⟩; have Hb5 := Lib.hid (HbB.out.trans (hb5.mono Hle.out)); clear hb5; rcases hcase with ⟨F1, A5, c5, rfl, hB5⟩ | ⟨F1, rfl⟩)
      all_goals go_ret2
      · exact ⟨.inl ⟨F1, _, _, rfl, by first | exact hB5.mono Hle.out | (rw [← hD]; exact hB5.mono Hle.out)⟩, by first | exact Hb5.out | (rw [← hD]; exact Hb5.out)⟩
      · exact ⟨.inr ⟨F1, rfl⟩, by first | exact Hb5.out | (rw [← hD]; exact Hb5.out)⟩
end Go.Proofs.YtppebegleedifaaDoor
