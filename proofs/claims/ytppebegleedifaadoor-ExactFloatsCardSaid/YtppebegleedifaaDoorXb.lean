/- Mul64, Rem64, Div64 (high word 0), Mul of both sides. -/
import Derived.Test.YtppebegleedifaaDoorWa
namespace Go.Proofs.YtppebegleedifaaDoor
open Go.RowKit

theorem maskN (a : Nat) (ha : a < 18446744073709551616) : bits .and .u64 (a : Int) 4294967295 = ((a % 4294967296 : Nat) : Int) := by
  have h := bits_and_u64_nat a 4294967295 ha (by omega)
  have e : a &&& 4294967295 = a % 4294967296 := Nat.and_two_pow_sub_one_eq_mod a 32
  rw [e] at h
  exact h
theorem divN (a : Nat) : (a : Int) / 4294967296 = ((a / 4294967296 : Nat) : Int) := by omega
theorem mulN (a b : Nat) : (a : Int) * (b : Int) = ((a * b : Nat) : Int) := (Int.natCast_mul a b).symm
theorem addN (a b : Nat) : (a : Int) + (b : Int) = ((a + b : Nat) : Int) := (Int.natCast_add a b).symm
theorem wrapN (a : Nat) (ha : a < 18446744073709551616) : IntKind.u64.wrap (a : Int) = (a : Int) := by rw [IntKind.wrap_u64]; omega
theorem wrapM (a : Nat) : IntKind.u64.wrap (a : Int) = ((a % 18446744073709551616 : Nat) : Int) := by rw [IntKind.wrap_u64]; omega
set_option maxHeartbeats 1000000 in
theorem mul64_any (x y : Nat) (hx : x < 18446744073709551616) (hy : y < 18446744073709551616) (w : World) :
    Calls Tryd.prog 51 #[.int .u64 x, .int .u64 y] w fun e w' => e = .returned (.tuple #[.int .u64 ((x * y / 18446744073709551616 : Nat) : Int), .int .u64 ((x * y % 18446744073709551616 : Nat) : Int)]) ∧ w = w' := by
  obtain ⟨bd, bt, bw, hhi⟩ := Lib.mul64_hi x y hx hy
  have ba := Lib.half_mul_le (a := x / 4294967296) (b := y / 4294967296) (by omega) (by omega)
  have bb := Lib.half_mul_le (a := x / 4294967296) (b := y % 4294967296) (by omega) (by omega)
  have bc := Lib.half_mul_le (a := x % 4294967296) (b := y / 4294967296) (by omega) (by omega)
  have ba' : x / 4294967296 * (y / 4294967296) < 18446744073709551616 := by omega
  have bb' : x / 4294967296 * (y % 4294967296) < 18446744073709551616 := by omega
  have bc' : x % 4294967296 * (y / 4294967296) < 18446744073709551616 := by omega
  have bh1 : x / 4294967296 * (y / 4294967296) + (x / 4294967296 * (y % 4294967296) + x % 4294967296 * (y % 4294967296) / 4294967296) / 4294967296 < 18446744073709551616 := by omega
  have bh : x / 4294967296 * (y / 4294967296) + (x / 4294967296 * (y % 4294967296) + x % 4294967296 * (y % 4294967296) / 4294967296) / 4294967296 + ((x / 4294967296 * (y % 4294967296) + x % 4294967296 * (y % 4294967296) / 4294967296) % 4294967296 + x % 4294967296 * (y / 4294967296)) / 4294967296 < 18446744073709551616 := by omega
  go_enter Tryd.func51, Tryd.ntmps51
  go_wp2
  simp only [maskN x hx, maskN y hy, divN, mulN, addN, wrapN _ bd, wrapN _ bb', wrapN _ bt, maskN _ bt, wrapN _ bc', wrapN _ bw, wrapN _ ba', wrapN _ bh1, wrapN _ bh, wrapM (x * y)]
  rw [hhi]
  go_ret2
  exact ⟨rfl, rfl⟩
set_option maxHeartbeats 1000000 in
theorem div64_any (y m : Nat) (hy : y < 18446744073709551616) (hm : 0 < m) (hm2 : m < 4294967296) (w : World) :
    Calls Tryd.prog 64 #[.int .u64 0, .int .u64 y, .int .u64 m] w fun e w' => ∃ k, e = .returned (.tuple #[.int .u64 ((y / m : Nat) : Int), .int .u64 ((y % m : Nat) : Int)]) ∧ w' = w.drewN k := by
  have h1 : ((m : Int) == 0) = false := by simp; omega
  have h2 : ¬ (m : Int) ≤ 0 := by omega
  have h3 : (0 : Int) < m := by omega
  have h4 : (m : Int) ≠ 0 := by omega
  have h5 : IntKind.u64.wrap ((y : Int) / m) = ((y / m : Nat) : Int) := by
    have := Nat.div_le_self y m
    exact wrapN (y / m) (by omega)
  go_enter Tryd.func64, Tryd.ntmps64
  go_wp2_with fail
  go_quiet (fail)
  go_wp2_with fail
  go_ret2
  exact ⟨_, rfl, rfl⟩
set_option maxHeartbeats 1000000 in
theorem rem64_any (y m : Nat) (hy : y < 18446744073709551616) (hm : 0 < m) (hm2 : m < 4294967296) (w : World) :
    Calls Tryd.prog 58 #[.int .u64 0, .int .u64 y, .int .u64 m] w fun e w' => ∃ k, e = .returned (.int .u64 ((y % m : Nat) : Int)) ∧ w' = w.drewN k := by
  have h1 : ((m : Int) == 0) = false := by simp; omega
  have h3 : (0 : Int) < m := by omega
  have h4 : (m : Int) ≠ 0 := by omega
  go_enter Tryd.func58, Tryd.ntmps58
  go_wp2_with (go_at_call 64; refine (div64_any y m hy hm hm2 _).mono ?_; rintro e w1 ⟨k, rfl, rfl⟩)
  go_ret
  exact ⟨_, rfl, rfl⟩
theorem lt_mul_of {x y m : Nat} (hm : 0 < m) (hm2 : m < 4294967296) : x % m * (y % m) / 18446744073709551616 = 0 ∧ x % m * (y % m) % 18446744073709551616 % m = x * y % m ∧ x % m < 18446744073709551616 ∧ y % m < 18446744073709551616 := by
  have h1 := Nat.mod_lt x hm
  have h2 := Nat.mod_lt y hm
  have h3 : x % m * (y % m) ≤ 4294967295 * 4294967295 := Nat.mul_le_mul (by omega) (by omega)
  refine ⟨by omega, ?_, by omega, by omega⟩
  rw [Nat.mod_eq_of_lt (show x % m * (y % m) < 18446744073709551616 by omega), ← Nat.mul_mod]
set_option maxHeartbeats 1000000 in
theorem mul_any (x y m : Nat) (hx : x < 18446744073709551616) (hy : y < 18446744073709551616) (hm : 0 < m) (hm2 : m < 4294967296) (w : World) :
    Calls Tryd.prog 47 #[.int .u64 x, .int .u64 y, .int .u64 m] w fun e w' => ∃ k, e = .returned (.int .u64 ((x * y % m : Nat) : Int)) ∧ w' = w.drewN k := by
  have h1 : ((m : Int) == 0) = false := by simp; omega
  have h3 : (0 : Int) < m := by omega
  have h4 : (m : Int) ≠ 0 := by omega
  have hM := lt_mul_of (x := x) (y := y) hm hm2
  obtain ⟨L, hL⟩ : ∃ L, x % m * (y % m) % 18446744073709551616 = L := ⟨_, rfl⟩
  obtain ⟨R, hR⟩ : ∃ R, x * y % m = R := ⟨_, rfl⟩
  have hLl : L < 18446744073709551616 := by rw [← hL]; exact Nat.mod_lt _ (by decide)
  rw [hL, hR] at hM
  rw [hR]
  have HM := Lib.hid hM
  have HL := Lib.hid hL
  clear hM hL hR
  go_enter Tryd.func47, Tryd.ntmps47
  go_wp2_with fail
  go_region_with (go_at_call 51; refine (mul64_any (x % m) (y % m) HM.out.2.2.1 HM.out.2.2.2 _).mono ?_; rintro e w1 ⟨rfl, rfl⟩; rw [HM.out.1, HL.out])
  go_wp2_with (go_at_call 58; refine (rem64_any L m hLl hm hm2 _).mono ?_; rintro e w2 ⟨k, rfl, rfl⟩; rw [HM.out.2.1])
  all_goals (go_ret; exact ⟨_, rfl, rfl⟩)
set_option maxHeartbeats 1000000 in
theorem mulR_any (x y m : Nat) (hx : x < 18446744073709551616) (hy : y < 18446744073709551616) (hm : 0 < m) (hm2 : m < 4294967296) (w : World) :
    Calls Tryd.prog 50 #[.int .u64 x, .int .u64 y, .int .u64 m] w fun e w' => ∃ k, e = .returned (.int .u64 ((x * y % m : Nat) : Int)) ∧ w' = w.drewN k := by
  have h1 : ((m : Int) == 0) = false := by simp; omega
  have h3 : (0 : Int) < m := by omega
  have h4 : (m : Int) ≠ 0 := by omega
  have hM := lt_mul_of (x := x) (y := y) hm hm2
  obtain ⟨L, hL⟩ : ∃ L, x % m * (y % m) % 18446744073709551616 = L := ⟨_, rfl⟩
  obtain ⟨R, hR⟩ : ∃ R, x * y % m = R := ⟨_, rfl⟩
  have hLl : L < 18446744073709551616 := by rw [← hL]; exact Nat.mod_lt _ (by decide)
  rw [hL, hR] at hM
  rw [hR]
  have HM := Lib.hid hM
  have HL := Lib.hid hL
  clear hM hL hR
  go_enter Tryd.func50, Tryd.ntmps50
  go_wp2_with fail
  go_region_with (go_at_call 51; refine (mul64_any (x % m) (y % m) HM.out.2.2.1 HM.out.2.2.2 _).mono ?_; rintro e w1 ⟨rfl, rfl⟩; rw [HM.out.1, HL.out])
  go_wp2_with (go_at_call 58; refine (rem64_any L m hLl hm hm2 _).mono ?_; rintro e w2 ⟨k, rfl, rfl⟩; rw [HM.out.2.1])
  all_goals (go_ret; exact ⟨_, rfl, rfl⟩)
end Go.Proofs.YtppebegleedifaaDoor
