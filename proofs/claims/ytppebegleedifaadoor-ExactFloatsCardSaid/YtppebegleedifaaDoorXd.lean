/- Factors of both sides. -/
import Derived.Test.YtppebegleedifaaDoorXc
namespace Go.Proofs.YtppebegleedifaaDoor
open Go.RowKit

theorem info3 : (Tryd.prog.info? 3).map (fun i => (i.zero, i.size, i.bytes)) = some (some (.int .i64 0), 1, 8) := by kernel_rfl
theorem cells3 : Tryd.prog.cellsOf 3 = 1 := by kernel_rfl
theorem cell_one (w : World) (y : Value) (t : TypeId) : (w.alloc (.cells #[y] t)).cell? ⟨w.heap.size, 0, none⟩ = some y := by
  rw [cell_of_row _ _ 0 _ _ _ (heap_alloc_new w _)]; rfl
/-- The factors' loops, so many steps: false: the outer head, true: the inner. -/
def fc : Nat → Bool → Nat → Nat → Option (List Nat)
  | 0, _, _, _ => none
  | k + 1, false, n, d => if d * d ≤ n then fc k true n d else some (if 1 < n then [n] else [])
  | k + 1, true, n, d => if n % d = 0 then (fc k true (n / d) d).map (d :: ·) else fc k false n (d + 1)
def Fc (b : Bool) (n d : Nat) (T : List Nat) : Prop := ∃ k, fc k b n d = some T
theorem Fc.out {n d : Nat} {T : List Nat} (h : Fc false n d T) : (d * d ≤ n → Fc true n d T) ∧ (¬ d * d ≤ n → T = if 1 < n then [n] else []) := by
  obtain ⟨k, hk⟩ := h
  match k, hk with
  | k + 1, hk =>
    rw [fc] at hk
    constructor
    · intro h; rw [if_pos h] at hk; exact ⟨k, hk⟩
    · intro h; rw [if_neg h] at hk; injection hk with hk; exact hk.symm
theorem Fc.inn {n d : Nat} {T : List Nat} (h : Fc true n d T) : (n % d = 0 → ∃ L, T = d :: L ∧ Fc true (n / d) d L) ∧ (¬ n % d = 0 → Fc false n (d + 1) T) := by
  obtain ⟨k, hk⟩ := h
  match k, hk with
  | k + 1, hk =>
    rw [fc] at hk
    constructor
    · intro h
      rw [if_pos h] at hk
      cases hL : fc k true (n / d) d with
      | none => rw [hL] at hk; simp at hk
      | some L => rw [hL] at hk; simp at hk; exact ⟨L, hk.symm, k, hL⟩
    · intro h; rw [if_neg h] at hk; exact ⟨k, hk⟩
/-- Where there is no divisor. -/
theorem fc_prime {p : Nat} (hp : Npr p) (j d : Nat) (hj : d + j = 65537) (hd : 2 ≤ d) : Fc false p d [p] := by
  induction j generalizing d with
  | zero =>
    refine ⟨1, ?_⟩
    have h1 : 65537 * 65537 ≤ d * d := Nat.mul_le_mul (by omega) (by omega)
    have := hp.1
    have := hp.2.1
    rw [fc, if_neg (by omega), if_pos (by omega)]
  | succ j ih =>
    obtain ⟨k, hk⟩ := ih (d + 1) (by omega) (by omega)
    by_cases h : d * d ≤ p
    · refine ⟨k + 2, ?_⟩
      have h2 := hp.2.2 d hd (by rcases Nat.lt_or_ge d 65536 with h3 | h3; exact h3; have := Nat.mul_le_mul h3 h3; have := hp.2.1; omega)
      rw [fc, if_pos h, fc, if_neg h2]
      exact hk
    · refine ⟨1, ?_⟩
      have := hp.1
      rw [fc, if_neg h, if_pos (by omega)]
def nat3 (T : List Nat) : Nat → Value := fun j => .int .i64 (T.getD j 0 : Nat)
theorem drop_cons {T L : List Nat} {m d : Nat} (h : T.drop m = d :: L) : m < T.length ∧ T.getD m 0 = d ∧ L = T.drop (m + 1) := by
  have hm : m < T.length := by
    rcases Nat.lt_or_ge m T.length with h' | h'
    · exact h'
    · rw [List.drop_eq_nil_of_le h'] at h; cases h
  rw [List.drop_eq_getElem_cons hm] at h
  injection h with h1 h2
  exact ⟨hm, by rw [List.getD_eq_getElem?_getD, List.getElem?_eq_getElem hm]; exact h1, h2.symm⟩
theorem drop_nil {T : List Nat} {m : Nat} (h : T.drop m = []) (hm : m ≤ T.length) : m = T.length := by
  have := List.drop_eq_nil_iff.1 h
  omega
theorem sq_le {d n : Nat} (h : d * d ≤ n) (hn : n ≤ 4294967296) : d ≤ 65536 := by
  rcases Nat.lt_or_ge 65536 d with h' | h'
  · have := Nat.mul_le_mul (show 65537 ≤ d by omega) (show 65537 ≤ d by omega); omega
  · exact h'
def IntsAt (T : List Nat) (w : World) (e : Ending) (w' : World) : Prop :=
  ∃ A c, e = .returned (.slice A T.length c) ∧ Bld w' w.heap.size 3 (.slice A T.length c) T.length (nat3 T) ∧ Below w.heap.size w w'
set_option maxHeartbeats 2000000 in
theorem factors_any (n0 : Nat) (T : List Nat) (hn : 2 ≤ n0) (hn2 : n0 ≤ 4294967296) (hT : Fc false n0 2 T) (hl : T.length ≤ 1000) (w : World) :
    Calls Tryd.prog 63 #[.int .i64 n0] w (IntsAt T w) := by
  have h1 : ¬ (n0 : Int) < 2 := by omega
  have h2 : ¬ (4294967296 : Int) < n0 := by omega
  have h3 : (2 : Int) ≤ n0 := by omega
  have h4 : (n0 : Int) ≤ 4294967296 := by omega
  have HT : Hid (Fc false n0 2 (T.drop 0)) := by rw [List.drop_zero]; exact hT
  clear hT
  go_enter Tryd.func63, Tryd.ntmps63
  go_wp2_with fail
  go_loopw [0, 3, 4] (fun x l y wr => ∃ n d m c : Nat, ∃ A, x = .int .i64 n ∧ y = .int .i64 d ∧ l = .slice A m c ∧ 1 ≤ n ∧ n ≤ 4294967296 ∧ 2 ≤ d ∧ d ≤ 65537 ∧ m ≤ T.length ∧ Hid (Fc false n d (T.drop m)) ∧
    Bld wr w.heap.size 3 (.slice A m c) m (nat3 T) ∧ Below w.heap.size w wr) (fun x _ y _ => 2 * (intOf x).toNat - (intOf y).toNat)
  case atStart => exact ⟨n0, 2, 0, 0, none, rfl, rfl, rfl, by omega, by omega, by omega, by omega, Nat.zero_le _, HT, ⟨⟨by simp, .inl ⟨rfl, rfl⟩⟩, Nat.le_refl _⟩, Below.refl _ _⟩
  case round =>
    obtain ⟨n, d, m, c, A, rfl, rfl, rfl, a1, a2, a3, a4, a5, HI, HB, hbel⟩ := hrel
    clear HT h1 h2 h3 h4
    have HB' := Lib.hid HB
    have Hbel := Lib.hid hbel
    have b1 : (d : Int) * d ≤ 4295098369 := by have := Nat.mul_le_mul a4 a4; rw [← Int.natCast_mul]; omega
    have b2 : (0 : Int) ≤ (d : Int) * d := by rw [← Int.natCast_mul]; omega
    clear HB hbel
    by_cases hc : d * d ≤ n
    · have HI2 := Lib.hid (HI.out.out.1 hc)
      have b3 : (d : Int) * d ≤ (n : Int) := by rw [← Int.natCast_mul]; omega
      have a6 := sq_le hc a2
      have a7 : d ≤ n := Nat.le_trans (Nat.le_mul_of_pos_left d (by omega)) hc
      clear hc HI
      go_wp2_with fail
      go_loopw [0, 3] (fun x l wr => ∃ n' m' c' : Nat, ∃ A', x = .int .i64 n' ∧ l = .slice A' m' c' ∧ 1 ≤ n' ∧ n' ≤ n ∧ m' ≤ T.length ∧ Hid (Fc true n' d (T.drop m')) ∧
        Bld wr w.heap.size 3 (.slice A' m' c') m' (nat3 T) ∧ Below w.heap.size w wr) (fun x _ _ => (intOf x).toNat)
      case atStart => exact ⟨n, m, c, A, rfl, rfl, a1, Nat.le_refl _, a5, HI2, HB'.out, Hbel.out⟩
      case round =>
        obtain ⟨n', m', c', A', rfl, rfl, c1, c2, c3, HI, HB, hbel⟩ := hrel
        clear HI2 HB' Hbel
        have HBs := Lib.hid HB
        have Hbel := Lib.hid hbel
        have e1 : (d : Int) ≠ 0 := by omega
        have hsh : m' ≤ c' ∧ c' ≤ 9223372036854775807 := ⟨HB.rs.nc, HB.rs.cm⟩
        clear HB hbel
        by_cases hz : n' % d = 0
        · obtain ⟨L, hL, hF⟩ := HI.out.inn.1 hz
          obtain ⟨d1, d2, rfl⟩ := drop_cons hL
          have HF := Lib.hid hF
          have e2 : (n' : Int) % d = 0 := by omega
          have e3 : n' / d < n' := Nat.div_lt_self (by omega) (by omega)
          have e4 : 1 ≤ n' / d := by
            rcases Nat.eq_zero_or_pos (n' / d) with h | h
            · exfalso; have := Nat.div_add_mod n' d; rw [h, hz, Nat.mul_zero] at this; omega
            · exact h
          have e5 : (Value.int .i64 (d : Int)) = nat3 T m' := by unfold nat3; rw [d2]
          have E5 := Lib.hid e5
          clear hL hF hz d2 e5 HI
          go_wp2_with (first
            | ((with_reducible show wpList _ _ _ (⟨some 26, _, _, _, _, _⟩ :: _) _ _); refine wpl_push (w0 := w) rfl _ _ 50 3 (.int .i64 0) 8 rfl Tryd.underlying50 info3 rfl w.heap.size _ m' _ (nat3 T) (.int .i64 (d : Int)) rfl rfl (HBs.out.alloc _) (Hbel.out.alloc HBs.out.hB _) (cell_one _ _ _) E5.out rfl (by omega) (by omega) ?_; intro A2 c2 w2 hB2 hbel2 hk2 hc2))
          go_roundw
          case rel => exact ⟨n' / d, m' + 1, c2, A2, by go_num, rfl, e4, by omega, by omega, HF.out, hB2, hbel2⟩
          case measure => simp only [intOf]; omega
        · have HF := Lib.hid (HI.out.inn.2 hz)
          have e2 : ((n' : Int) % d == 0) = false := by simp; omega
          clear hz HI
          go_wp2_with fail
          go_roundw
          case rel => exact ⟨n', d + 1, m', c', A', rfl, by go_num, rfl, c1, by omega, by omega, by omega, c3, HF.out, HBs.out, Hbel.out⟩
          case measure => simp only [intOf]; omega
    · have HI2 := Lib.hid (HI.out.out.2 hc)
      have b3 : ¬ (d : Int) * d ≤ (n : Int) := by rw [← Int.natCast_mul]; omega
      have hsh : m ≤ c ∧ c ≤ 9223372036854775807 := ⟨HB'.out.rs.nc, HB'.out.rs.cm⟩
      clear hc HI
      by_cases hg : 1 < n
      · have hI := HI2.out
        rw [if_pos hg] at hI
        obtain ⟨d1, d2, d3⟩ := drop_cons hI
        have E5 : Hid ((Value.int .i64 (n : Int)) = nat3 T m) := by show _ = _; unfold nat3; rw [d2]
        have d4 : m + 1 = T.length := drop_nil d3.symm (by omega)
        have g1 : (1 : Int) < n := by omega
        clear hI d2 d3 hg HI2
        go_wp2_with (first
            | ((with_reducible show wpList _ _ _ (⟨some 35, _, _, _, _, _⟩ :: _) _ _); refine wpl_push (w0 := w) rfl _ _ 50 3 (.int .i64 0) 8 rfl Tryd.underlying50 info3 rfl w.heap.size _ m _ (nat3 T) (.int .i64 (n : Int)) rfl rfl (HB'.out.alloc _) (Hbel.out.alloc HB'.out.hB _) (cell_one _ _ _) E5.out rfl (by omega) (by omega) ?_; intro A2 c2 w2 hB2 hbel2 hk2 hc2))
        go_ret
        rw [d4] at hB2 
        exact ⟨A2, c2, by rw [← d4]; rfl, hB2, hbel2⟩
      · have hI := HI2.out
        rw [if_neg hg] at hI
        have d4 : m = T.length := drop_nil hI a5
        have g1 : ¬ (1 : Int) < n := by omega
        clear hI hg HI2
        go_wp2_with fail
        go_ret
        have hB2 := HB'.out
        rw [d4] at hB2
        exact ⟨A, c, by rw [← d4]; rfl, hB2, Hbel.out⟩
set_option maxHeartbeats 2000000 in
theorem factorsR_any (n0 : Nat) (T : List Nat) (hn : 2 ≤ n0) (hn2 : n0 ≤ 4294967296) (hT : Fc false n0 2 T) (hl : T.length ≤ 1000) (w : World) :
    Calls Tryd.prog 66 #[.int .i64 n0] w (IntsAt T w) := by
  have h1 : ¬ (n0 : Int) < 2 := by omega
  have h2 : ¬ (4294967296 : Int) < n0 := by omega
  have h3 : (2 : Int) ≤ n0 := by omega
  have h4 : (n0 : Int) ≤ 4294967296 := by omega
  have HT : Hid (Fc false n0 2 (T.drop 0)) := by rw [List.drop_zero]; exact hT
  clear hT
  go_enter Tryd.func66, Tryd.ntmps66
  go_wp2_with fail
  go_loopw [0, 3, 4] (fun x l y wr => ∃ n d m c : Nat, ∃ A, x = .int .i64 n ∧ y = .int .i64 d ∧ l = .slice A m c ∧ 1 ≤ n ∧ n ≤ 4294967296 ∧ 2 ≤ d ∧ d ≤ 65537 ∧ m ≤ T.length ∧ Hid (Fc false n d (T.drop m)) ∧
    Bld wr w.heap.size 3 (.slice A m c) m (nat3 T) ∧ Below w.heap.size w wr) (fun x _ y _ => 2 * (intOf x).toNat - (intOf y).toNat)
  case atStart => exact ⟨n0, 2, 0, 0, none, rfl, rfl, rfl, by omega, by omega, by omega, by omega, Nat.zero_le _, HT, ⟨⟨by simp, .inl ⟨rfl, rfl⟩⟩, Nat.le_refl _⟩, Below.refl _ _⟩
  case round =>
    obtain ⟨n, d, m, c, A, rfl, rfl, rfl, a1, a2, a3, a4, a5, HI, HB, hbel⟩ := hrel
    clear HT h1 h2 h3 h4
    have HB' := Lib.hid HB
    have Hbel := Lib.hid hbel
    have b1 : (d : Int) * d ≤ 4295098369 := by have := Nat.mul_le_mul a4 a4; rw [← Int.natCast_mul]; omega
    have b2 : (0 : Int) ≤ (d : Int) * d := by rw [← Int.natCast_mul]; omega
    clear HB hbel
    by_cases hc : d * d ≤ n
    · have HI2 := Lib.hid (HI.out.out.1 hc)
      have b3 : (d : Int) * d ≤ (n : Int) := by rw [← Int.natCast_mul]; omega
      have a6 := sq_le hc a2
      have a7 : d ≤ n := Nat.le_trans (Nat.le_mul_of_pos_left d (by omega)) hc
      clear hc HI
      go_wp2_with fail
      go_loopw [0, 3] (fun x l wr => ∃ n' m' c' : Nat, ∃ A', x = .int .i64 n' ∧ l = .slice A' m' c' ∧ 1 ≤ n' ∧ n' ≤ n ∧ m' ≤ T.length ∧ Hid (Fc true n' d (T.drop m')) ∧
        Bld wr w.heap.size 3 (.slice A' m' c') m' (nat3 T) ∧ Below w.heap.size w wr) (fun x _ _ => (intOf x).toNat)
      case atStart => exact ⟨n, m, c, A, rfl, rfl, a1, Nat.le_refl _, a5, HI2, HB'.out, Hbel.out⟩
      case round =>
        obtain ⟨n', m', c', A', rfl, rfl, c1, c2, c3, HI, HB, hbel⟩ := hrel
        clear HI2 HB' Hbel
        have HBs := Lib.hid HB
        have Hbel := Lib.hid hbel
        have e1 : (d : Int) ≠ 0 := by omega
        have hsh : m' ≤ c' ∧ c' ≤ 9223372036854775807 := ⟨HB.rs.nc, HB.rs.cm⟩
        clear HB hbel
        by_cases hz : n' % d = 0
        · obtain ⟨L, hL, hF⟩ := HI.out.inn.1 hz
          obtain ⟨d1, d2, rfl⟩ := drop_cons hL
          have HF := Lib.hid hF
          have e2 : (n' : Int) % d = 0 := by omega
          have e3 : n' / d < n' := Nat.div_lt_self (by omega) (by omega)
          have e4 : 1 ≤ n' / d := by
            rcases Nat.eq_zero_or_pos (n' / d) with h | h
            · exfalso; have := Nat.div_add_mod n' d; rw [h, hz, Nat.mul_zero] at this; omega
            · exact h
          have e5 : (Value.int .i64 (d : Int)) = nat3 T m' := by unfold nat3; rw [d2]
          have E5 := Lib.hid e5
          clear hL hF hz d2 e5 HI
          go_wp2_with (first
            | ((with_reducible show wpList _ _ _ (⟨some 26, _, _, _, _, _⟩ :: _) _ _); refine wpl_push (w0 := w) rfl _ _ 50 3 (.int .i64 0) 8 rfl Tryd.underlying50 info3 rfl w.heap.size _ m' _ (nat3 T) (.int .i64 (d : Int)) rfl rfl (HBs.out.alloc _) (Hbel.out.alloc HBs.out.hB _) (cell_one _ _ _) E5.out rfl (by omega) (by omega) ?_; intro A2 c2 w2 hB2 hbel2 hk2 hc2))
          go_roundw
          case rel => exact ⟨n' / d, m' + 1, c2, A2, by go_num, rfl, e4, by omega, by omega, HF.out, hB2, hbel2⟩
          case measure => simp only [intOf]; omega
        · have HF := Lib.hid (HI.out.inn.2 hz)
          have e2 : ((n' : Int) % d == 0) = false := by simp; omega
          clear hz HI
          go_wp2_with fail
          go_roundw
          case rel => exact ⟨n', d + 1, m', c', A', rfl, by go_num, rfl, c1, by omega, by omega, by omega, c3, HF.out, HBs.out, Hbel.out⟩
          case measure => simp only [intOf]; omega
    · have HI2 := Lib.hid (HI.out.out.2 hc)
      have b3 : ¬ (d : Int) * d ≤ (n : Int) := by rw [← Int.natCast_mul]; omega
      have hsh : m ≤ c ∧ c ≤ 9223372036854775807 := ⟨HB'.out.rs.nc, HB'.out.rs.cm⟩
      clear hc HI
      by_cases hg : 1 < n
      · have hI := HI2.out
        rw [if_pos hg] at hI
        obtain ⟨d1, d2, d3⟩ := drop_cons hI
        have E5 : Hid ((Value.int .i64 (n : Int)) = nat3 T m) := by show _ = _; unfold nat3; rw [d2]
        have d4 : m + 1 = T.length := drop_nil d3.symm (by omega)
        have g1 : (1 : Int) < n := by omega
        clear hI d2 d3 hg HI2
        go_wp2_with (first
            | ((with_reducible show wpList _ _ _ (⟨some 35, _, _, _, _, _⟩ :: _) _ _); refine wpl_push (w0 := w) rfl _ _ 50 3 (.int .i64 0) 8 rfl Tryd.underlying50 info3 rfl w.heap.size _ m _ (nat3 T) (.int .i64 (n : Int)) rfl rfl (HB'.out.alloc _) (Hbel.out.alloc HB'.out.hB _) (cell_one _ _ _) E5.out rfl (by omega) (by omega) ?_; intro A2 c2 w2 hB2 hbel2 hk2 hc2))
        go_ret
        rw [d4] at hB2 
        exact ⟨A2, c2, by rw [← d4]; rfl, hB2, hbel2⟩
      · have hI := HI2.out
        rw [if_neg hg] at hI
        have d4 : m = T.length := drop_nil hI a5
        have g1 : ¬ (1 : Int) < n := by omega
        clear hI hg HI2
        go_wp2_with fail
        go_ret
        have hB2 := HB'.out
        rw [d4] at hB2
        exact ⟨A, c, by rw [← d4]; rfl, hB2, Hbel.out⟩
end Go.Proofs.YtppebegleedifaaDoor
