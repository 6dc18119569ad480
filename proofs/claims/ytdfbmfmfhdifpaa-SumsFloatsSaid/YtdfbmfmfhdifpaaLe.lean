/- math.Ldexp of a whole number. -/
import Derived.Test.YtdfbmfmfhdifpaaLd
namespace Go.Proofs.Ytdfbmfmfhdifpaa
open Go.RowKit

theorem or_high (f y : Nat) (hf : f < 4503599627370496) (hy : y < 4096) : bits .or .u64 ((f : Int)) ((y : Int) * 4503599627370496) = ((f + y * 4503599627370496 : Nat) : Int) := by
  rw [show (y : Int) * 4503599627370496 = ((y * 4503599627370496 : Nat) : Int) from by omega, u64_or_nat f _ (by omega) (by omega)]
  congr 1
  have := Nat.two_pow_add_eq_or_of_lt (show f < 2 ^ 52 from hf) y
  rw [Nat.or_comm, show y * 4503599627370496 = 2 ^ 52 * y from by omega, ← this]
  omega

set_option maxHeartbeats 400000 in
theorem ldexp_calls {a r : Nat} {e : Int} {w : World}
    (h : Calls Try.prog 54 #[.float .f64 a, .int .i64 e] w fun x w' => x = .returned (.float .f64 r) ∧ w = w') :
    Calls Try.prog 48 #[.float .f64 a, .int .i64 e] w fun x w' => x = .returned (.float .f64 r) ∧ w = w' := by
  have H := Lib.hid h; clear h
  go_enter Try.func48, Try.ntmps48
  go_wp2_with (go_at_call 54; refine H.out.mono ?_; rintro x w' ⟨rfl, rfl⟩)
  go_ret
  exact ⟨rfl, rfl⟩

/-- The word that Ldexp answers. -/
def ldW (m cut : Nat) : Nat := min (cut * 4503599627370496 + m) 9218868437227405312

theorem mul_run {a b r : Nat} (h : floatBits .mul .f64 a b = some r) : ∀ w : World, (binOp .mul 26 (.float .f64 a) (.float .f64 b)).run Try.prog w = .ok (.float .f64 r) w :=
  fun w => run_float_arith w .mul 26 .f64 a b r h

theorem min_big {cut m : Nat} (h : 2046 ≤ cut) (hm : 4503599627370496 ≤ m) : ldW m cut = 9218868437227405312 := by
  unfold ldW
  exact Nat.min_eq_right (by omega)
theorem min_norm {cut m : Nat} (h : cut ≤ 2045) (hm : m < 9007199254740992) : ldW m cut = cut * 4503599627370496 + m := by
  unfold ldW
  exact Nat.min_eq_left (by omega)
theorem word_div {b z k S : Nat} (hb : b = (k + 1022) * 4503599627370496 + S) (h1 : 4503599627370496 ≤ S) (h2 : S < 9007199254740992) (hz : z = k + 1023) : b / 4503599627370496 = z := by omega
theorem word_mod {b k S : Nat} (hb : b = (k + 1022) * 4503599627370496 + S) (h1 : 4503599627370496 ≤ S) (h2 : S < 9007199254740992) : b % 4503599627370496 = S - 4503599627370496 := by omega
theorem word_lo {b k S : Nat} (hb : b = (k + 1022) * 4503599627370496 + S) : 4503599627370496 ≤ b := by omega
theorem word_hi {b k S : Nat} (hk : k ≤ 52) (hb : b = (k + 1022) * 4503599627370496 + S) (h2 : S < 9007199254740992) : b < 9218868437227405312 := by omega
theorem norm_sum {cut z S : Nat} (h1 : 4503599627370496 ≤ S) (hz : z = 1075) : S - 4503599627370496 + (cut + z - 1074) * 4503599627370496 = cut * 4503599627370496 + S := by omega
theorem den_sum {k S : Nat} (h1 : 4503599627370496 ≤ S) : S - 4503599627370496 + (k + 2) * 4503599627370496 = (k + 1) * 4503599627370496 + S := by omega
theorem norm_lt {cut m : Nat} (h : cut ≤ 2045) (hm : m < 9007199254740992) : cut * 4503599627370496 + m < 9218868437227405312 := by omega
theorem exp_cast {cut z : Nat} (h : 1075 ≤ cut + z) : ((cut + z - 1074 : Nat) : Int) = (cut : Int) - 1074 + ((z : Int) - 1023) + 1023 := by omega
theorem exp_cast0 {z k : Nat} (h : z = k + 1023) : ((k + 2 : Nat) : Int) = ((0 : Nat) : Int) - 1074 + ((z : Int) - 1023) + 53 + 1023 := by omega
theorem ldexp_norm' {b z cut x f : Nat} (w : World) (F : Hid (LdF b z)) (hc : cut < 2500) (hz2 : z < 2047) (h1 : cut + z ≤ 3120) (h2 : 1075 ≤ cut + z)
    (hf : b % 4503599627370496 = f) (hf2 : f < 4503599627370496) (hx : f + (cut + z - 1074) * 4503599627370496 = x) (hx1 : x < 9218868437227405312) (hx2 : 4503599627370496 ≤ x) :
    Calls Try.prog 54 #[.float .f64 b, .int .i64 ((cut : Int) - 1074)] w fun e w' => e = .returned (.float .f64 x) ∧ w = w' := by
  have hy := or_high f (cut + z - 1074) hf2 (by omega)
  rw [hx] at hy
  refine ldexp_norm b z cut x w F hc hz2 (by omega) (by omega) ?_ (mul_run (one_mul x hx1 hx2))
  rw [← hy, ← exp_cast h2, ← hf]
  rfl
theorem bool_false {p : Prop} [Decidable p] (h : ¬ p) : decide p = false := decide_eq_false h

/-- A word with power k: what stands in its fields. -/
theorem ldexp_word (b z m cut k S : Nat) (w : World) (hz : z = k + 1023) (hS : m * 2 ^ (52 - k) = S) (hb : b = (k + 1022) * 4503599627370496 + S) (hk : k ≤ 52) (h1 : 2 ^ k ≤ m) (h2 : m < 2 ^ (k + 1))
    (hc : cut < 2400) (hcut : cut = 0 ∨ k = 52) :
    Calls Try.prog 54 #[.float .f64 b, .int .i64 ((cut : Int) - 1074)] w fun e w' => e = .returned (.float .f64 (ldW m cut)) ∧ w = w' := by
  have hS1 : 4503599627370496 ≤ S := by
    calc (4503599627370496 : Nat) = 2 ^ k * 2 ^ (52 - k) := by rw [← Nat.pow_add, show k + (52 - k) = 52 from by omega]
      _ ≤ m * 2 ^ (52 - k) := Nat.mul_le_mul_right _ h1
      _ = S := hS
  have hS2 : S < 9007199254740992 := by
    calc S = m * 2 ^ (52 - k) := hS.symm
      _ < 2 ^ (k + 1) * 2 ^ (52 - k) := Nat.mul_lt_mul_of_pos_right h2 (Nat.two_pow_pos _)
      _ = 9007199254740992 := by rw [← Nat.pow_add, show k + 1 + (52 - k) = 53 from by omega]
  have hbz := word_div hb hS1 hS2 hz
  have hbf := word_mod hb hS1 hS2
  have F := ldF b (word_lo hb) (word_hi hk hb hS2)
  rw [hbz] at F
  by_cases hk52 : k = 52
  · subst hk52
    have hSm : S = m := by rw [← hS]; simp
    have hz' : z = 1075 := hz
    by_cases hbig : 2046 ≤ cut
    · rw [min_big hbig (by rw [← hSm]; exact hS1)]
      exact ldexp_big b z cut w F (by clear hb hbf hS1 hS2; omega) (by rw [hz']; decide) (by clear hb hbf hS1 hS2; omega)
    · have hle : cut ≤ 2045 := by clear hb hbf hS1 hS2; omega
      have hml : m < 9007199254740992 := by rw [← hSm]; exact hS2
      rw [min_norm hle hml]
      refine ldexp_norm' w F (by clear hb hbf hS1 hS2; omega) (by rw [hz']; decide) (by clear hb hbf hS1 hS2; omega) (by clear hb hbf hS1 hS2; omega) hbf ?_ ?_ (norm_lt hle hml) ?_
      · clear hb hbf; omega
      · rw [norm_sum hS1 hz', hSm]
      · rw [hSm] at hS1; clear hb hbf hS2; omega
  · have hc0 : cut = 0 := hcut.resolve_right hk52
    subst hc0
    have hm52 : m < 4503599627370496 := by
      calc m < 2 ^ (k + 1) := h2
        _ ≤ 2 ^ 52 := Nat.pow_le_pow_right (by decide) (by omega)
        _ = 4503599627370496 := rfl
    have e : ldW m 0 = m := by
      rw [min_norm (by decide) (by clear hb hbf hS1 hS2; omega)]; clear hb hbf hS1 hS2; omega
    rw [e]
    have hy := or_high (b % 4503599627370496) (k + 2) (Nat.mod_lt _ (by decide)) (by clear hb hbf hS1 hS2; omega)
    have e2 : b % 4503599627370496 + (k + 2) * 4503599627370496 = (k + 1) * 4503599627370496 + m * 2 ^ (52 - k) := by rw [hbf, den_sum hS1, hS]
    rw [e2] at hy
    clear hb hbf hS1 hS2 e2
    refine ldexp_den b z _ m _ w F (by omega) (by omega) (by omega) (by omega) (bool_false (by omega)) (bool_false (by omega)) (decide_eq_true (by omega)) ?_ (mul_run (denorm_mul m k hk h1 h2 hm52))
    rw [← hy, ← exp_cast0 hz]
    rfl

theorem ldexp_top (cut : Nat) (w : World) (hc : cut < 2400) :
    Calls Try.prog 54 #[.float .f64 4845873199050653696, .int .i64 ((cut : Int) - 1074)] w fun e w' => e = .returned (.float .f64 (ldW 9007199254740992 cut)) ∧ w = w' := by
  have F := ldF 4845873199050653696 (by decide) (by decide)
  have ez : 4845873199050653696 / 4503599627370496 = 1076 := by decide
  rw [ez] at F
  by_cases hbig : 2045 ≤ cut
  · have e : ldW 9007199254740992 cut = 9218868437227405312 := by unfold ldW; exact Nat.min_eq_right (by omega)
    rw [e]
    exact ldexp_big _ 1076 cut w F (by omega) (by omega) (by omega)
  · have e : ldW 9007199254740992 cut = cut * 4503599627370496 + 9007199254740992 := by unfold ldW; exact Nat.min_eq_left (by omega)
    rw [e]
    exact ldexp_norm' (f := 0) w F (by omega) (by omega) (by omega) (by omega) (by decide) (by decide) (by omega) (by omega) (by omega)

theorem ldexp_any (m cut : Nat) (w : World) (h1 : 1 ≤ m) (h2 : m ≤ 9007199254740992) (hc : cut < 2400) (hcut : cut = 0 ∧ m < 9007199254740992 ∨ 4503599627370496 ≤ m) :
    Calls Try.prog 48 #[.float .f64 (floatOfInt .f64 (m : Int)), .int .i64 ((cut : Int) - 1074)] w fun e w' => e = .returned (.float .f64 (ldW m cut)) ∧ w = w' := by
  refine ldexp_calls ?_
  have hl1 := Nat.log2_self_le (show m ≠ 0 by omega)
  have hl2 := Fl.lt_log2 m
  have hl3 : m.log2 ≤ 53 := by
    have : m.log2 < 54 := (Nat.log2_lt (by omega)).2 (by omega)
    omega
  rw [ofInt_word m m.log2 hl3 hl1 hl2 h2]
  by_cases hk : m.log2 ≤ 52
  · rw [if_pos hk]
    refine ldexp_word _ (m.log2 + 1023) m cut m.log2 _ w rfl rfl rfl hk hl1 hl2 hc ?_
    rcases hcut with h | h
    · exact .inl h.1
    · refine .inr ?_
      have : 52 ≤ m.log2 := (Nat.le_log2 (by omega)).2 h
      omega
  · rw [if_neg hk]
    have hk3 : m.log2 = 53 := by omega
    have hm : m = 9007199254740992 := by
      have : 2 ^ 53 ≤ m := by rw [← hk3]; exact hl1
      omega
    rw [hm]
    exact ldexp_top cut w hc
end Go.Proofs.Ytdfbmfmfhdifpaa
