/- The roots of unity at lengths 1, 2, 4. -/
import Derived.Test.YtppebegleedifaaDoorEc
namespace Go.Proofs.YtppebegleedifaaDoor
open Go.RowKit Fw

/-- Cosine and sine after q quarters, as the loop turns them. -/
def cW : Nat → Nat
  | 0 => 4607182418800017408
  | 1 => 9223372036854775808
  | 2 => 13830554455654793216
  | _ => 0
def sW : Nat → Nat
  | 0 => 0
  | 1 => 4607182418800017408
  | 2 => 9223372036854775808
  | _ => 13830554455654793216
/-- The same without a negative zero. -/
def pW (b : Nat) : Nat := if b = 9223372036854775808 then 0 else b
theorem neg_sW (j : Nat) (hj : j < 3) (w : World) : (Op.unary .neg (.float .f64 (sW j))).run Tryd.prog w = .ok (.float .f64 (cW (j + 1))) w := by
  rcases (show j = 0 ∨ j = 1 ∨ j = 2 by omega) with rfl | rfl | rfl <;> rfl
theorem cW_succ (j : Nat) (hj : j < 3) : sW (j + 1) = cW j := by
  rcases (show j = 0 ∨ j = 1 ∨ j = 2 by omega) with rfl | rfl | rfl <;> rfl
theorem eighth0 (m : Int) (w : World) : Calls Tryd.prog 71 #[.int .i64 0, .int .i64 m] w fun e w' => e = .returned (.tuple #[.float .f64 4607182418800017408, .float .f64 0]) ∧ w = w' := by
  go_enter Tryd.func71, Tryd.ntmps71
  go_wp2_with fail
  go_ret2
  exact ⟨rfl, rfl⟩
theorem mod_any (k n : Nat) (hn : 1 ≤ n) (hk : k < n) (hn4 : n ≤ 4) (w : World) : Calls Tryd.prog 70 #[.int .i64 k, .int .i64 n] w fun e w' => e = .returned (.int .i64 k) ∧ w = w' := by
  have z1 : (n : Int) ≠ 0 := by omega
  have z2 : (0 : Int) < n := by omega
  have h1 : (k : Int) % n = k := by rw [← Int.natCast_emod, Nat.mod_eq_of_lt hk]
  have h2 : ((k : Int) + n) % n = k := by rw [Int.add_emod_right, h1]
  go_enter Tryd.func70, Tryd.ntmps70
  go_wp2_with fail
  go_ret
  exact ⟨by show Ending.returned (.int .i64 (((k : Int) + n) % n)) = _; rw [h2], rfl⟩
theorem plus_f (b : Nat) (hb : b = 0 ∨ b = 4607182418800017408 ∨ b = 9223372036854775808 ∨ b = 13830554455654793216) (w : World) : Calls Tryd.prog 68 #[.float .f64 b] w fun e w' => e = .returned (.float .f64 (pW b)) ∧ w = w' := by
  rcases hb with rfl | rfl | rfl | rfl
  · have h : (FloatKind.f64.format.order 0 0 == some .eq) = true := by decide
    go_enter Tryd.func68, Tryd.ntmps68
    go_wp2_with fail
    go_ret
    exact ⟨rfl, rfl⟩
  · have h : (FloatKind.f64.format.order 4607182418800017408 0 == some .eq) = false := by decide
    go_enter Tryd.func68, Tryd.ntmps68
    go_wp2_with fail
    go_ret
    exact ⟨rfl, rfl⟩
  · have h : (FloatKind.f64.format.order 9223372036854775808 0 == some .eq) = true := by decide
    go_enter Tryd.func68, Tryd.ntmps68
    go_wp2_with fail
    go_ret
    exact ⟨rfl, rfl⟩
  · have h : (FloatKind.f64.format.order 13830554455654793216 0 == some .eq) = false := by decide
    go_enter Tryd.func68, Tryd.ntmps68
    go_wp2_with fail
    go_ret
    exact ⟨rfl, rfl⟩
theorem W_of (j : Nat) : (cW j = 0 ∨ cW j = 4607182418800017408 ∨ cW j = 9223372036854775808 ∨ cW j = 13830554455654793216) ∧ (sW j = 0 ∨ sW j = 4607182418800017408 ∨ sW j = 9223372036854775808 ∨ sW j = 13830554455654793216) := by
  unfold cW sW
  split <;> simp
set_option maxHeartbeats 4000000 in
theorem pair_any (n k q : Nat) (hn : n = 1 ∨ n = 2 ∨ n = 4) (hk : k < n) (hq : 4 * k / n = q) (w : World) :
    Calls Tryd.prog 67 #[.int .i64 n, .int .i64 k] w fun e w' => e = .returned (.tuple #[.float .f64 (pW (cW q)), .float .f64 (pW (sW q)), .nilIface]) ∧ w = w' := by
  have hn1 : 1 ≤ n := by omega
  have hn4 : n ≤ 4 := by omega
  have hn1' : (1 : Int) ≤ n := by omega
  have hn4' : (n : Int) ≤ 4 := by omega
  obtain ⟨k4, hk4⟩ : ∃ t, 4 * k = t := ⟨_, rfl⟩
  have i1 : (4 : Int) * k = (k4 : Int) := by rw [← hk4]; rfl
  have hb : k4 ≤ 16 := by omega
  have hm : k4 % n = 0 := by
    rcases hn with rfl | rfl | rfl
    · omega
    · omega
    · omega
  have i2 : (k4 : Int) % n = 0 := by rw [← Int.natCast_emod, hm]; rfl
  have i3 : (k4 : Int) / n = (q : Int) := by rw [← hq, hk4]; rfl
  have hq3 : q ≤ 3 := by
    rcases hn with rfl | rfl | rfl
    · omega
    · omega
    · omega
  have z1 : (n : Int) ≠ 0 := by omega
  have z2 : (0 : Int) < n := by omega
  have Hm := Lib.hid hm
  have Hq := Lib.hid hq
  have Hk4 := Lib.hid hk4
  have Hn := Lib.hid hn
  clear hm hq hk4 hn
  go_enter Tryd.func67, Tryd.ntmps67
  go_wp2_with (first
    | (go_at_call 70; refine (mod_any k n hn1 hk hn4 _).mono ?_; rintro e w' ⟨rfl, rfl⟩)
    | (go_at_call 71; refine (eighth0 _ _).mono ?_; rintro e w' ⟨rfl, rfl⟩))
  go_loop [48, 9, 10] (fun o s t => ∃ j : Nat, j ≤ q ∧ o = .int .i64 j ∧ s = .float .f64 (cW j) ∧ t = .float .f64 (sW j)) (fun o _ _ => q - (intOf o).toNat)
  case atStart => exact ⟨0, Nat.zero_le _, rfl, rfl, rfl⟩
  case round =>
    obtain ⟨j, hj, rfl, rfl, rfl⟩ := hrel
    by_cases hlt : j < q
    · have hlt' : (j : Int) < q := by omega
      have hneg := fun w => neg_sW j (by omega) w
      have hc := Lib.hid (cW_succ j (by omega))
      go_wp2_with fail
      exact ⟨⟨j + 1, by omega, by go_num, rfl, by rw [hc.out]⟩, by simp only [intOf]; omega⟩
    · obtain rfl : j = q := by omega
      go_wp2_with (first
        | (go_at_call_of 68 (Value.float .f64 (cW j)); refine (plus_f (cW j) (W_of j).1 _).mono ?_; rintro e w' ⟨rfl, rfl⟩)
        | (go_at_call 68; refine (plus_f (sW j) (W_of j).2 _).mono ?_; rintro e w' ⟨rfl, rfl⟩))
      go_ret3
      exact ⟨rfl, rfl⟩
end Go.Proofs.YtppebegleedifaaDoor
