/- lives; floats. -/
import Derived.Test.YtdfbmfmfhdifpaaBl
namespace Go.Proofs.Ytdfbmfmfhdifpaa
open Go.RowKit

theorem eq_of_cn {r v : Nat} (h : cn r = v) (hv : v ≠ nanW) : r = v := by
  unfold cn at h
  split at h
  · exact absurd h.symm hv
  · exact h
theorem sval_abs (b : Nat) : (sval b).natAbs = mag b := by
  unfold sval; split <;> omega
theorem sumF_le (g : Nat → Nat) (n : Nat) : (sumF g n).natAbs ≤ n * Mx 66 := by
  induction n with
  | zero => simp [sumF]
  | succ n ih =>
    have h1 := sval_abs (g n)
    have h2 := mag_lt (g n)
    rw [sumF, Nat.succ_mul]
    split
    · generalize n * Mx 66 = u at *
      generalize Mx 66 = v at *
      omega
    · generalize n * Mx 66 = u at *
      generalize Mx 66 = v at *
      omega
theorem sum_hS (g : Nat → Nat) (n : Nat) (hn : n ≤ 17592186044416) : Hid (∀ k, k = 2239 → (sumF g n).natAbs < 2 ^ k) := by
  refine Lib.hid fun k hk => Nat.lt_of_le_of_lt (sumF_le g n) ?_
  have ek : k - 127 = 32 * 66 := by omega
  have e : Mx 66 = 2 ^ (k - 127) := by rw [ek, Mx]
  clear ek
  rw [e]
  have h1 : 2 ^ 44 * 2 ^ (k - 127) = 2 ^ (k - 83) := by rw [← Nat.pow_add, show 44 + (k - 127) = k - 83 from by omega]
  have h2 : 2 ^ (k - 83) < 2 ^ k := Nat.pow_lt_pow_right (by decide) (by omega)
  have h3 := Nat.mul_le_mul_right (2 ^ (k - 127)) hn
  generalize 2 ^ (k - 127) = x at *
  generalize 2 ^ (k - 83) = y at *
  generalize 2 ^ k = z at *
  generalize n * x = u at *
  omega
theorem below_drewN {B : Nat} {a w : World} (h : Below B a w) (m : Nat) : Below B a (w.drewN m) := ⟨h.os, h.tape, h.output, h.size, h.block⟩
theorem cell_one (w : World) (v : Value) (t : TypeId) : (w.alloc (.cells #[v] t)).cell? ⟨w.heap.size, 0, none⟩ = some v := by
  rw [cell_of_row _ _ 0 _ _ _ (heap_alloc_new w _)]; rfl
def gL : Nat → Nat
  | 1 => 4846369599423283200
  | 2 => 14069741636278059008
  | _ => 4607182418800017408
theorem gL_left : cn (leftG gL 4) = 4607182418800017408 := by decide +kernel
theorem gL_pair : cn (pairK 4 gL 4) = 0 := by decide +kernel
theorem gL_kept : cn (keptG gL 4) = 4611686018427387904 := by decide +kernel
theorem gL_exact : cn (exactG gL 4) = 4611686018427387904 := by decide +kernel
theorem gL_lt (j : Nat) : gL j < 18446744073709551616 := by
  unfold gL; split <;> decide

def eqW (v : Nat) : Prop := (FloatKind.f64.format.order v v == some .eq) = true
theorem eqL1 : (FloatKind.f64.format.order 4607182418800017408 4607182418800017408 == some .eq) = true := by decide +kernel
theorem eqL2 : (FloatKind.f64.format.order 0 0 == some .eq) = true := by decide +kernel
theorem eqL3 : (FloatKind.f64.format.order 4611686018427387904 4611686018427387904 == some .eq) = true := by decide +kernel

theorem bld_nil (w : World) (F : Nat → Value) : Bld (w.alloc (.cells #[] 26)) w.heap.size 26 (.slice (some ⟨w.heap.size, 0, none⟩) 0 0) 0 F := by
  refine ⟨⟨by simp, .inr ⟨w.heap.size, 0, #[], rfl, Nat.le_refl _, heap_alloc_new w _, by omega, by decide, rfl, rfl⟩⟩, by simp⟩

theorem lives_rs (w : World) : RS (w.alloc (.cells #[.float .f64 4607182418800017408, .float .f64 4846369599423283200, .float .f64 14069741636278059008, .float .f64 4607182418800017408] 26)) (some ⟨w.heap.size, 0, none⟩) 4 4 (fl gL) := by
  refine ⟨by omega, by omega, fun j hj => ⟨_, rfl, ?_⟩⟩
  have hh := heap_alloc_new w (.cells #[.float .f64 4607182418800017408, .float .f64 4846369599423283200, .float .f64 14069741636278059008, .float .f64 4607182418800017408] 26)
  rw [show (Addr.add ⟨w.heap.size, 0, none⟩ j) = ⟨w.heap.size, j, none⟩ from by unfold Addr.add; simp; omega]
  rw [cell_of_row _ _ j _ _ _ hh]
  match j, hj with
  | 0, _ => rfl
  | 1, _ => rfl
  | 2, _ => rfl
  | 3, _ => rfl

set_option maxHeartbeats 1000000 in
theorem lives_any (w : World) : Calls Try.prog 7 #[] w fun e w' => e = .returned (.bool true) ∧ Below w.heap.size w w' := by
  have e1 := eqL1
  have e2 := eqL2
  have e3 := eqL3
  have hR := lives_rs w
  go_enter Try.func7, Try.ntmps7
  go_wp2_with (first
    | (go_at_call 9; refine (left_any _ 4 4 gL _ ?_ ?_).mono ?_; exact fun j _ => gL_lt j; exact hR; rintro e w1 ⟨r, m1, rfl, hb, hv, rfl⟩; obtain rfl := eq_of_cn (hv.trans gL_left) (by decide); clear hb hv)
    | (go_at_call 10; refine (pair_any 4 _ 4 4 gL _ ?_ ?_ ?_ ?_).mono ?_; omega; omega; exact fun j _ => gL_lt j; exact hR.same rfl; rintro e w1 ⟨r, m2, rfl, hb, hv, rfl⟩; obtain rfl := eq_of_cn (hv.trans gL_pair) (by decide); clear hb hv)
    | (go_at_call 11; refine (kept_any _ 4 4 gL _ ?_ ?_).mono ?_; exact fun j _ => gL_lt j; exact hR.same rfl; rintro e w1 ⟨r, m3, rfl, hb, hv, rfl⟩; obtain rfl := eq_of_cn (hv.trans gL_kept) (by decide); clear hb hv)
    | (go_at_call 12; refine (exact_any _ 4 4 gL _ ?_ ?_ ?_).mono ?_; exact fun j _ => gL_lt j; exact hR.same rfl; exact sum_hS gL 4 (by omega); rintro e w1 ⟨r, rfl, hb, hv, hbel⟩; obtain rfl := eq_of_cn (hv.trans gL_exact) (by decide); clear hb hv))
  go_ret
  refine ⟨rfl, ?_⟩
  exact (below_drewN ((Below.refl w.heap.size w).alloc (Nat.le_refl _) _) _).trans (hbel.mono (by simp))

set_option maxHeartbeats 1000000 in
theorem floats_any (A : Option Addr) (n c : Nat) (b : Nat → Nat) (w : World) (hn : n ≤ 17592186044415) (hb : ∀ j, j < n → b j < 18446744073709551616) (hr : RS w A n c (fun j => .int .u64 (b j))) :
    Calls Try.prog 8 #[.slice A n c] w fun e w' => (∃ A' c', e = .returned (.slice A' n c') ∧ Bld w' w.heap.size 26 (.slice A' n c') n (fl fun j => cn (b j))) ∧ Below w.heap.size w w' := by
  have Hb := Lib.hid hb
  clear hb
  have hm := hr.cm
  have hnc := hr.nc
  go_enter Try.func8, Try.ntmps8
  go_wp2_with fail
  go_loopw [3, 5, 9] (fun s x i wr => ∃ k c' : Nat, ∃ A' : Option Addr, k ≤ n ∧ i = .int .i64 k ∧ s = .slice A' k c' ∧ Bld wr w.heap.size 26 (.slice A' k c') k (fl fun j => cn (b j)) ∧ Below w.heap.size w wr) (fun _ _ i _ => n - (intOf i).toNat)
  case atStart => exact ⟨0, 0, _, by omega, rfl, rfl, bld_nil w _, (Below.refl _ _).alloc (Nat.le_refl _) _⟩
  case round =>
    obtain ⟨k, c', A', hk, rfl, rfl, hB, hbel⟩ := hrel
    have hrr := hr.below hbel
    by_cases hlt : k < n
    · go_wp2_with (first
        | ((with_reducible show wpList _ _ _ (⟨some 11, _, _, _, _, _⟩ :: _) _ _); refine wpl_ix rfl 22 39 _ _ rfl Try.underlying22 cells39 A n c k _ _ _ rfl rfl rfl hlt hrr ?_; intro p hp)
        | (go_at_call 22; refine (float_any _ _).mono ?_; rintro e w1 ⟨rfl, rfl⟩)
        | ((with_reducible show wpList _ _ _ (⟨some 17, _, _, _, _, _⟩ :: _) _ _); refine wpl_push (w0 := w) rfl _ _ 24 26 (.float .f64 0) 8 rfl Try.underlying24 info26 rfl w.heap.size _ k _ (fl fun j => cn (b j)) (.float .f64 (cn (b k))) rfl rfl (hB.alloc _) (hbel.alloc hB.hB _) ?_ rfl rfl ?_ (by omega) ?_; exact cell_one _ _ _; omega; intro A2 c2 w2 hB2 hbel2 hk2 hc2))
      go_roundw
      case rel => exact ⟨k + 1, c2, A2, by omega, by go_num, rfl, hB2, hbel2⟩
      case measure => simp [intOf]; omega
    · obtain rfl : k = n := by omega
      go_wp2
      go_ret
      exact ⟨⟨_, _, rfl, hB⟩, hbel⟩
end Go.Proofs.Ytdfbmfmfhdifpaa
