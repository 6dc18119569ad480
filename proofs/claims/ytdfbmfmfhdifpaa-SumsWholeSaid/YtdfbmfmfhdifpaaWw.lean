/- SumsWhole: the walk. -/
import Derived.Test.YtdfbmfmfhdifpaaWl
namespace Go.Proofs.Ytdfbmfmfhdifpaa
open Go.RowKit

theorem whole_vals {p : Nat → Int} {k r : Nat} (h : asum p k ≤ 9007199254740992) {v : Nat} (hv : cn r = cn v) (e : v = Wz (isum p k)) : r = floatOfInt .f64 (isum p k) := by
  have hi := isum_abs p k
  have hz : (isum p k).natAbs ≤ 9007199254740992 := by omega
  rw [e, Wz_cn hz] at hv
  exact eq_of_cn hv (Wz_nn hz)
theorem asum_next {p : Nat → Int} {k : Nat} {m : Int} (h : -p k ≤ p k ∧ m = p k ∨ p k < -p k ∧ m = -p k) : (asum p k : Int) + m = (asum p (k + 1) : Int) := by
  rw [asum]; omega
theorem gW_lt {p : Nat → Int} {k : Nat} (h : asum p k ≤ 9007199254740992) (j : Nat) (hj : j < k) : gW p j < 18446744073709551616 :=
  Wz_lt (by have := asum_le p hj; omega)
theorem asum_bound {p : Nat → Int} {k : Nat} {m : Int} (hm : -p k ≤ p k ∧ m = p k ∨ p k < -p k ∧ m = -p k) (h : (asum p k : Int) ≤ 9007199254740992 - m) : asum p (k + 1) ≤ 9007199254740992 := by
  rw [asum]; omega

set_option maxHeartbeats 4000000 in
theorem whole_any (A : Option Addr) (n c : Nat) (p : Nat → Int) (w : World) (hn : n ≤ 17592186044415) (hr : RS w A n c (fun j => .int .i64 (p j))) :
    Calls Try.prog 5 #[.slice A n c] w fun e w' => e = .returned (.bool true) ∧ Below w.heap.size w w' := by
  have hm := hr.cm
  have hnc := hr.nc
  go_enter Try.func5, Try.ntmps5
  go_wp2_with (go_at_call 7; refine (lives_any _).mono ?_; rintro e w1 ⟨rfl, hb1⟩)
  have hr1 := hr.below hb1
  have hB0 := bld_nil w1 (fl (gW p))
  go_loopw [4, 5, 6, 8, 16] (fun l s z x i wr => ∃ k c' : Nat, ∃ A' : Option Addr, k ≤ n ∧ i = .int .i64 k ∧ l = .slice A' k c' ∧ s = .int .i64 (isum p k) ∧ z = .int .i64 (asum p k : Int) ∧ asum p k ≤ 9007199254740992 ∧
    Bld wr w1.heap.size 26 (.slice A' k c') k (fl (gW p)) ∧ Below w1.heap.size w1 wr) (fun _ _ _ _ i _ => n - (intOf i).toNat)
  case atStart => exact ⟨0, 0, _, by omega, rfl, rfl, rfl, rfl, by simp [asum], hB0, (Below.refl _ _).alloc (Nat.le_refl _) _⟩
  case round =>
    obtain ⟨k, c', A', hk, rfl, rfl, rfl, rfl, hsz, hB, hbel⟩ := hrel
    have hrr := hr1.below hbel
    have hi := isum_abs p k
    have hi1 : -9007199254740992 ≤ isum p k := by omega
    have hi2 : isum p k ≤ 9007199254740992 := by omega
    have hsz2 : (asum p k : Int) ≤ 9007199254740992 := by omega
    have hE : (FloatKind.f64.format.order (floatOfInt .f64 (isum p k)) (floatOfInt .f64 (isum p k)) == some .eq) = true := Wz_eqq (z := isum p k) (by omega)
    have V1 := Lib.hid (left_whole p k hsz)
    have V2 := Lib.hid (pair_whole k p k (Nat.le_refl _) hsz)
    have V3 := Lib.hid (kept_whole p k hsz)
    have V4 := Lib.hid (exact_whole p k hsz)
    have VL := Lib.hid (fun j (hj : j < k) => gW_lt hsz j hj)
    have VV := Lib.hid (fun (r v : Nat) (hv : cn r = cn v) (e : v = Wz (isum p k)) => whole_vals hsz hv e)
    have VS := sum_hS (gW p) k (by omega)
    have VB := hB.shape
    have VA := Lib.hid (fun (m : Int) (h : -p k ≤ p k ∧ m = p k ∨ p k < -p k ∧ m = -p k) => asum_next h)
    have VC := Lib.hid (fun (m : Int) (hm : -p k ≤ p k ∧ m = p k ∨ p k < -p k ∧ m = -p k) (h : (asum p k : Int) ≤ 9007199254740992 - m) => asum_bound hm h)
    clear hi
    by_cases hlt : k < n <;> go_wp2_with (first
        | ((with_reducible show wpList _ _ _ (⟨some 18, _, _, _, _, _⟩ :: _) _ _); refine wpl_ix rfl 31 3 _ _ rfl Try.underlying31 cells3 A n c k _ _ _ rfl rfl rfl hlt hrr ?_; intro q hq)
        | ((with_reducible show wpList _ _ _ (⟨some 39, _, _, _, _, _⟩ :: _) _ _); refine wpl_push (w0 := w1) rfl _ _ 24 26 (.float .f64 0) 8 rfl Try.underlying24 info26 rfl w1.heap.size _ k _ (fl (gW p)) (.float .f64 (floatOfInt .f64 (p k))) rfl rfl (hB.alloc _) (hbel.alloc hB.hB _) ?_ rfl rfl ?_ (by omega) ?_; exact cell_one _ _ _; omega; intro A2 c2 w2 hB2 hbel2 hk2 hc2)
        | (go_at_call 9; refine (left_any _ k c' (gW p) _ ?_ ?_).mono ?_; exact VL.out; exact hB.rs.same rfl; rintro e w1 ⟨r, m1, rfl, hb, hv, rfl⟩; obtain rfl := VV.out _ _ hv V1.out; clear hb hv)
        | (go_at_call 10; refine (pair_any k _ k c' (gW p) _ ?_ ?_ ?_ ?_).mono ?_; omega; omega; exact VL.out; exact hB.rs.same rfl; rintro e w1 ⟨r, m2, rfl, hb, hv, rfl⟩; obtain rfl := VV.out _ _ hv V2.out; clear hb hv)
        | (go_at_call 11; refine (kept_any _ k c' (gW p) _ ?_ ?_).mono ?_; exact VL.out; exact hB.rs.same rfl; rintro e w1 ⟨r, m3, rfl, hb, hv, rfl⟩; obtain rfl := VV.out _ _ hv V3.out; clear hb hv)
        | (go_at_call 12; refine (exact_any _ k c' (gW p) _ ?_ ?_ ?_).mono ?_; exact VL.out; exact hB.rs.same rfl; exact VS; rintro e w9 ⟨r, rfl, hb, hv, hbel9⟩; obtain rfl := VV.out _ _ hv V4.out; clear hb hv))
    all_goals first
      | (go_ret; exact ⟨rfl, hb1.trans ((hbel.trans (below_drewN (Below.refl _ _) _)).mono (by have := hb1.size; omega) |>.trans (hbel9.mono (by have := hb1.size; have := hbel.size; simp; omega)))⟩)
      | (rename_i hcond
         have hmm : -p k ≤ p k ∧ (if p k < -p k then -p k else p k) = p k ∨ p k < -p k ∧ (if p k < -p k then -p k else p k) = -p k := by
           split
           · exact .inr ⟨by omega, rfl⟩
           · exact .inl ⟨by omega, rfl⟩
         exact ⟨⟨k + 1, c2, A2, by omega, by go_num, rfl, rfl, congrArg _ (VA.out _ hmm), VC.out _ hmm hcond.2, hB2, hbel2⟩, by simp [intOf]; omega⟩)
      | (trace_state; fail)
end Go.Proofs.Ytdfbmfmfhdifpaa
