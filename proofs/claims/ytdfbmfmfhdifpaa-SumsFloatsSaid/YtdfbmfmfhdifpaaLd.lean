/- math.Ldexp of a whole number: the walks. -/
import Derived.Test.YtdfbmfmfhdifpaaFm
namespace Go.Proofs.Ytdfbmfmfhdifpaa
open Go.RowKit

set_option maxHeartbeats 400000 in
theorem nan_any (w : World) : Calls Try.prog 26 #[] w fun e w' => e = .returned (.float .f64 9221120237041090561) ∧ w = w' := by
  have h41 := run41
  go_enter Try.func26, Try.ntmps26
  go_wp2_with fail
  go_ret
  exact ⟨rfl, rfl⟩
set_option maxHeartbeats 400000 in
theorem inf_pos (w : World) : Calls Try.prog 27 #[.int .i64 1] w fun e w' => e = .returned (.float .f64 9218868437227405312) ∧ w = w' := by
  have h41 := run41
  go_enter Try.func27, Try.ntmps27
  go_wp2_with fail
  go_ret
  exact ⟨rfl, rfl⟩
set_option maxHeartbeats 400000 in
theorem inf_neg (w : World) : Calls Try.prog 27 #[.int .i64 (-1)] w fun e w' => e = .returned (.float .f64 18442240474082181120) ∧ w = w' := by
  have h41 := run41
  go_enter Try.func27, Try.ntmps27
  go_wp2_with fail
  go_ret
  exact ⟨rfl, rfl⟩
set_option maxHeartbeats 400000 in
theorem copysign_zero (w : World) : Calls Try.prog 30 #[.float .f64 0, .float .f64 13830554455654793216] w fun e w' => e = .returned (.float .f64 9223372036854775808) ∧ w = w' := by
  have h41 := run41
  have h42 := run42
  have a1 : bits .andNot .u64 ((0 : Nat) : Int) 9223372036854775808 = 0 := by decide
  have a2 : bits .and .u64 ((13830554455654793216 : Nat) : Int) 9223372036854775808 = 9223372036854775808 := by decide
  have a3 : bits .or .u64 0 9223372036854775808 = 9223372036854775808 := by decide
  go_enter Try.func30, Try.ntmps30
  go_wp2_with fail
  go_ret
  exact ⟨rfl, rfl⟩
set_option maxHeartbeats 400000 in
theorem isinf_fin (b : Nat) (w : World) (hb : b < 18446744073709551616)
    (h : (FloatKind.f64.format.order (b % 9223372036854775808) 9218868437227405311 == some .gt) = false) :
    Calls Try.prog 58 #[.float .f64 b, .int .i64 0] w fun e w' => e = .returned (.bool false) ∧ w = w' := by
  have Hb := Lib.hid hb
  clear hb
  go_enter Try.func58, Try.ntmps58
  go_wp2_with (go_at_call 23; refine (abs_any _ _ Hb.out).mono ?_; rintro e w' ⟨rfl, rfl⟩)
  go_ret
  exact ⟨rfl, rfl⟩
set_option maxHeartbeats 400000 in
theorem isnan_fin (b : Nat) (w : World) (h : (FloatKind.f64.format.order b b != some .eq) = false) :
    Calls Try.prog 59 #[.float .f64 b] w fun e w' => e = .returned (.bool false) ∧ w = w' := by
  go_enter Try.func59, Try.ntmps59
  go_wp2_with fail
  go_ret
  exact ⟨rfl, rfl⟩
set_option maxHeartbeats 400000 in
theorem normalize_fin (b : Nat) (w : World) (hb : b < 18446744073709551616) (h : (FloatKind.f64.format.order (b % 9223372036854775808) 4503599627370496 == some .lt) = false) :
    Calls Try.prog 60 #[.float .f64 b] w fun e w' => e = .returned (.tuple #[.float .f64 b, .int .i64 0]) ∧ w = w' := by
  have Hb := Lib.hid hb
  clear hb
  go_enter Try.func60, Try.ntmps60
  go_wp2_with (go_at_call 23; refine (abs_any _ _ Hb.out).mono ?_; rintro e w' ⟨rfl, rfl⟩)
  go_ret2
  exact ⟨rfl, rfl⟩

theorem i64_and2047 (n : Int) : bits .and .i64 n 2047 = n % 2048 := by
  have h : (BitVec.ofInt 64 2047).toNat = 2 ^ 11 - 1 := by decide
  have key : (BitVec.ofInt 64 n &&& BitVec.ofInt 64 2047).toNat = (n % ((2 ^ 64 : Nat) : Int)).toNat % 2 ^ 11 := by
    rw [BitVec.toNat_and, BitVec.toNat_ofInt, h, Nat.and_two_pow_sub_one_eq_mod]
  show IntKind.i64.wrap ((BitVec.ofInt 64 n &&& BitVec.ofInt 64 2047).toNat : Nat) = n % 2048
  rw [key, IntKind.wrap_i64]
  omega
/-- What ldexp asks of a word: normal, without a sign. -/
structure LdF (b z : Nat) : Prop where
  lt : b < 18446744073709551616
  hz : (FloatKind.f64.format.order b 0 == some .eq) = false
  hlt : (FloatKind.f64.format.order b 0 == some .lt) = false
  hinf : (FloatKind.f64.format.order (b % 9223372036854775808) 9218868437227405311 == some .gt) = false
  hnan : (FloatKind.f64.format.order b b != some .eq) = false
  hnorm : (FloatKind.f64.format.order (b % 9223372036854775808) 4503599627370496 == some .lt) = false
  hd : (b : Int) / 4503599627370496 = (z : Int)
  hx : bits .and .i64 (z : Int) 2047 = (z : Int)
  ha : bits .andNot .u64 (b : Int) 9218868437227405312 = ((b % 4503599627370496 : Nat) : Int)
theorem ldF (b : Nat) (h1 : 4503599627370496 ≤ b) (h2 : b < 9218868437227405312) : LdF b (b / 4503599627370496) := by
  have e : b % 9223372036854775808 = b := by omega
  have o0 := order_words b 0 h2 (by decide)
  refine ⟨by omega, ?_, ?_, ?_, cmp_num b (by omega), ?_, rfl, ?_, ?_⟩
  · rw [o0, Nat.compare_eq_gt.2 (by omega)]; rfl
  · rw [o0, Nat.compare_eq_gt.2 (by omega)]; rfl
  · rw [e, order_words b _ h2 (by decide)]
    rcases Nat.lt_or_ge b 9218868437227405311 with h | h
    · rw [Nat.compare_eq_lt.2 h]; rfl
    · rw [show b = 9218868437227405311 from by omega]; rfl
  · rw [e, order_words b _ h2 (by decide)]
    rcases Nat.lt_or_ge 4503599627370496 b with h | h
    · rw [Nat.compare_eq_gt.2 h]; rfl
    · rw [show b = 4503599627370496 from by omega]; rfl
  · have hz : b / 4503599627370496 < 2048 := by omega
    generalize b / 4503599627370496 = z at *
    rw [i64_and2047]
    omega
  · rw [show (9218868437227405312 : Int) = ((9218868437227405312 : Nat) : Int) from rfl, u64_andNot_nat b _ (by omega) (by decide)]
    congr 1
    have e1 : (18446744073709551615 - 9218868437227405312 : Nat) = 2 ^ 63 + (2 ^ 52 - 1) := by decide
    rw [e1]
    have e2 := Nat.two_pow_add_eq_or_of_lt (show 2 ^ 52 - 1 < 2 ^ 63 by decide) 1
    rw [Nat.mul_one] at e2
    rw [e2, Nat.and_or_distrib_left, Nat.and_two_pow_sub_one_eq_mod]
    have e3 : b &&& 2 ^ 63 = 0 := by
      apply Nat.eq_of_testBit_eq
      intro i
      rw [Nat.testBit_and, Nat.testBit_two_pow]
      by_cases hi : 63 = i
      · subst hi; rw [Nat.testBit_lt_two_pow (by omega : b < 2 ^ 63)]; rfl
      · simp [hi]
    rw [e3, Nat.zero_or]

set_option maxHeartbeats 1000000 in
theorem ldexp_big (b z cut : Nat) (w : World) (F : Hid (LdF b z)) (hc : cut < 2500) (hz2 : z < 2047) (hbig : 3120 < (cut : Int) + z) :
    Calls Try.prog 54 #[.float .f64 b, .int .i64 ((cut : Int) - 1074)] w fun e w' => e = .returned (.float .f64 9218868437227405312) ∧ w = w' := by
  have h41 := run41
  have h42 := run42
  have e1 := F.out.hz
  have e2 := F.out.hlt
  have e3 := F.out.hd
  have e4 := F.out.hx
  have e5 := F.out.ha
  go_enter Try.func54, Try.ntmps54
  go_wp2_with (first
    | (go_at_call 58; refine (isinf_fin b _ F.out.lt F.out.hinf).mono ?_; rintro e w' ⟨rfl, rfl⟩)
    | (go_at_call 59; refine (isnan_fin b _ F.out.hnan).mono ?_; rintro e w' ⟨rfl, rfl⟩)
    | (go_at_call 60; refine (normalize_fin b _ F.out.lt F.out.hnorm).mono ?_; rintro e w' ⟨rfl, rfl⟩)
    | (go_at_call 27; refine (inf_pos _).mono ?_; rintro e w' ⟨rfl, rfl⟩))
  go_ret
  exact ⟨rfl, rfl⟩

set_option maxHeartbeats 1000000 in
theorem ldexp_norm (b z cut x : Nat) (w : World) (F : Hid (LdF b z)) (hc : cut < 2500) (hz2 : z < 2047) (h1 : (cut : Int) + z ≤ 3120) (h2 : 1075 ≤ (cut : Int) + z)
    (hy : bits .or .u64 ((b : Int) % 4503599627370496) (((cut : Int) - 1074 + ((z : Int) - 1023) + 1023) * 4503599627370496) = (x : Int))
    (hm : ∀ w : World, (binOp .mul 26 (.float .f64 4607182418800017408) (.float .f64 x)).run Try.prog w = .ok (.float .f64 x) w) :
    Calls Try.prog 54 #[.float .f64 b, .int .i64 ((cut : Int) - 1074)] w fun e w' => e = .returned (.float .f64 x) ∧ w = w' := by
  have h41 := run41
  have h42 := run42
  have e1 := F.out.hz
  have e2 := F.out.hlt
  have e3 := F.out.hd
  have e4 := F.out.hx
  have e5 := F.out.ha
  go_enter Try.func54, Try.ntmps54
  go_wp2_with (first
    | (go_at_call 58; refine (isinf_fin b _ F.out.lt F.out.hinf).mono ?_; rintro e w' ⟨rfl, rfl⟩)
    | (go_at_call 59; refine (isnan_fin b _ F.out.hnan).mono ?_; rintro e w' ⟨rfl, rfl⟩)
    | (go_at_call 60; refine (normalize_fin b _ F.out.lt F.out.hnorm).mono ?_; rintro e w' ⟨rfl, rfl⟩)
    | (go_at_call 27; refine (inf_pos _).mono ?_; rintro e w' ⟨rfl, rfl⟩))
  go_ret
  exact ⟨rfl, rfl⟩

set_option maxHeartbeats 1000000 in
theorem ldexp_den (b z x r : Nat) (e : Int) (w : World) (F : Hid (LdF b z)) (he : -3000 ≤ e) (he2 : e ≤ 0) (hz2 : z < 2047) (h1 : -1075 ≤ e + ((z : Int) - 1023)) (hd1 : decide (e + ((z : Int) - 1023) < -1075) = false) (hd2 : decide (1023 < e + ((z : Int) - 1023)) = false) (hd3 : decide (e + ((z : Int) - 1023) < -1022) = true)
    (hy : bits .or .u64 ((b : Int) % 4503599627370496) ((e + ((z : Int) - 1023) + 53 + 1023) * 4503599627370496) = (x : Int))
    (hm : ∀ w : World, (binOp .mul 26 (.float .f64 4368491638549381120) (.float .f64 x)).run Try.prog w = .ok (.float .f64 r) w) :
    Calls Try.prog 54 #[.float .f64 b, .int .i64 e] w fun e w' => e = .returned (.float .f64 r) ∧ w = w' := by
  have h41 := run41
  have h42 := run42
  have e1 := F.out.hz
  have e2 := F.out.hlt
  have e3 := F.out.hd
  have e4 := F.out.hx
  have e5 := F.out.ha
  go_enter Try.func54, Try.ntmps54
  go_wp2_with (first
    | (go_at_call 58; refine (isinf_fin b _ F.out.lt F.out.hinf).mono ?_; rintro e w' ⟨rfl, rfl⟩)
    | (go_at_call 59; refine (isnan_fin b _ F.out.hnan).mono ?_; rintro e w' ⟨rfl, rfl⟩)
    | (go_at_call 60; refine (normalize_fin b _ F.out.lt F.out.hnorm).mono ?_; rintro e w' ⟨rfl, rfl⟩)
    | (go_at_call 27; refine (inf_pos _).mono ?_; rintro e w' ⟨rfl, rfl⟩))
  go_ret
  exact ⟨rfl, rfl⟩
end Go.Proofs.Ytdfbmfmfhdifpaa
