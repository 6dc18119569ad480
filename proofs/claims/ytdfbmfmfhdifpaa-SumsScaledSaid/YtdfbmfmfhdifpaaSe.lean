/- SumsScaled: the plain law. -/
import Derived.Test.YtdfbmfmfhdifpaaSd
namespace Go.Proofs.Ytdfbmfmfhdifpaa
open Go.RowKit

theorem mag_le {a b : Nat} (h : a ≤ b) (hb : b < 9218868437227405312) : mag a ≤ mag b := by
  rcases Nat.lt_or_eq_of_le h with h1 | h1
  · exact Nat.le_of_lt (mag_mono h1 hb)
  · rw [h1]; exact Nat.le_refl _
theorem pw_le {p q : Nat} (h : p ≤ q) : pw p ≤ pw q := Nat.mul_le_mul_right _ h
theorem mag_pw {p : Nat} (h1 : 1 ≤ p) (h2 : p ≤ 2046) : mag (pw p) = 2 ^ 52 * 2 ^ (p - 1) := by
  obtain ⟨_, a, b, _⟩ := pw_fin h1 h2
  unfold mag
  rw [a, b]
theorem fQ_le {b q : Nat} (h : b % 9223372036854775808 ≤ q * 4503599627370496) (hq : q ≤ 2046) : fQ b ≤ q := by
  have e : b / 4503599627370496 % 2048 = b % 9223372036854775808 / 4503599627370496 := by omega
  have : b % 9223372036854775808 / 4503599627370496 ≤ q := by
    have := Nat.div_le_div_right (c := 4503599627370496) h
    rw [Nat.mul_div_cancel _ (by decide)] at this
    exact this
  unfold fQ
  rw [e]
  omega
theorem in_range {b m : Nat} (hm : m = 900 ∨ m = 950) (hf : fin b) (h1 : pw (1023 - m) ≤ b % 9223372036854775808) (h2 : b % 9223372036854775808 ≤ pw (1023 + m)) :
    2 ^ 124 ≤ mag b ∧ fQ b ≤ 1974 := by
  have k1 : pw 73 ≤ b % 9223372036854775808 := Nat.le_trans (pw_le (by omega)) h1
  have k2 : b % 9223372036854775808 ≤ pw 1973 := Nat.le_trans h2 (pw_le (by omega))
  constructor
  · rw [← mag_mod]
    have := mag_le k1 hf.2
    rw [mag_pw (by decide) (by decide), ← Nat.pow_add] at this
    exact this
  · have := fQ_le (q := 1973) k2 (by decide)
    omega
theorem zero_of {b : Nat} (hb : b < 18446744073709551616) (h : (FloatKind.f64.format.order b 0 != some .eq) = false) : fin b ∧ mag b = 0 := by
  have h' : FloatKind.f64.format.order b 0 = some .eq := by
    rw [bne_eq_false_iff_eq] at h; exact h
  clear h
  by_cases hn : b % 9223372036854775808 > 9218868437227405312
  · rw [order_nan_left hn] at h'; cases h'
  · by_cases he : b % 9223372036854775808 = 9218868437227405312
    · exfalso
      have h2 : b = 9218868437227405312 ∨ b = 18442240474082181120 := by omega
      rcases h2 with rfl | rfl
      · rw [order_inf (by decide)] at h'; cases h'
      · have : FloatKind.f64.format.order 18442240474082181120 0 = some .lt := by decide +kernel
        rw [this] at h'; cases h'
    · have hf : fin b := ⟨hb, by omega⟩
      refine ⟨hf, ?_⟩
      have e : Fl.D.order b 0 = some .eq := h'
      unfold Ieee.Format.order at e
      rw [read_fin2 hf, show Fl.D.read 0 = .number false 0 (-1074) from by decide] at e
      simp only [Ieee.Datum.order, signed_zero] at e
      injection e with e
      rw [Int.compare_eq_eq] at e
      rw [show min (-1074 + (fQ b : Int)) (-1074) = -1074 from by omega, show (-1074 + (fQ b : Int) - -1074).toNat = fQ b from by omega] at e
      unfold mag
      cases hs : sg b
      · rw [hs, signed_pos, Nat.shiftLeft_eq] at e; omega
      · rw [hs, signed_neg, Nat.shiftLeft_eq] at e; omega
theorem zero_ok {b : Nat} (h : b = 0 ∨ b = 9223372036854775808) : (FloatKind.f64.format.order b 0 != some .eq) = false := by
  rcases h with rfl | rfl <;> decide +kernel
theorem zeros_eq {a b : Nat} (ha : a = 0 ∨ a = 9223372036854775808) (hb : b = 0 ∨ b = 9223372036854775808) : (FloatKind.f64.format.order a b == some .eq) = true := by
  rcases ha with rfl | rfl <;> rcases hb with rfl | rfl <;> decide +kernel

/-- The list that is scaled. -/
def gS (g : Nat → Nat) (e : Nat) : Nat → Nat := fun j => fop .mul (g j) (pw (959 + e))
def Nice (b : Nat) : Prop := fin b ∧ (mag b = 0 ∨ (2 ^ 124 ≤ mag b ∧ fQ b ≤ 1974))
theorem sum_fin_all {g : Nat → Nat} {n : Nat} (h : ∀ j, j < n → fin (g j)) : ∀ c, (c = 9 ∨ c = 8 ∨ c = 1) → seenF g n c = false :=
  fun c hc => seen_none fun j hj => by have := fin_cls (h j hj); omega
theorem gS_fin {g : Nat → Nat} {n e : Nat} (he : e ≤ 128) (h : ∀ j, j < n → Nice (g j)) : ∀ j, j < n → fin (gS g e j) := fun j hj => (elem_scaled (h j hj).1 he (h j hj).2).1
theorem sum_scaled {g : Nat → Nat} {n e : Nat} (he : e ≤ 128) (h : ∀ j, j < n → Nice (g j)) : sumF (gS g e) n * ((2 ^ 64 : Nat) : Int) = sumF g n * ((2 ^ e : Nat) : Int) := by
  induction n with
  | zero => simp [sumF]
  | succ n ih =>
    obtain ⟨f1, f2⟩ := elem_scaled (h n (by omega)).1 he (h n (by omega)).2
    rw [sumF, sumF, if_pos (fin_finB (show fin (gS g e n) from f1)), if_pos (fin_finB (h n (by omega)).1), Int.add_mul, Int.add_mul, ih (fun j hj => h j (by omega))]
    rw [show gS g e n = fop .mul (g n) (pw (959 + e)) from rfl, f2]
theorem zero_cases (g : Nat → Nat) (n : Nat) : (if n ≠ 0 ∧ all4 g n = true then 9223372036854775808 else 0) = 0 ∨ (if n ≠ 0 ∧ all4 g n = true then 9223372036854775808 else 0) = 9223372036854775808 := by
  split
  · exact .inr rfl
  · exact .inl rfl
theorem exact_num {g : Nat → Nat} {n : Nat} (h : ∀ j, j < n → fin (g j)) : ¬ exactG g n % 9223372036854775808 > 9218868437227405312 := by
  have hs := sum_fin_all h
  by_cases h0 : sumF g n = 0
  · rw [exactG_zero (hs 9 (by omega)) (hs 8 (by omega)) (hs 1 (by omega)) h0]
    rcases zero_cases g n with e | e <;> rw [e] <;> decide
  · rw [exactG_sum (hs 9 (by omega)) (hs 8 (by omega)) (hs 1 (by omega)) h0]
    exact word_num _ _
theorem num_of {r v : Nat} (hv : ¬ v % 9223372036854775808 > 9218868437227405312) (h : cn r = cn v) : r = v := by
  have e : cn v = v := by unfold cn; rw [if_neg hv]
  rw [e] at h
  exact eq_of_cn h (by intro e; rw [e] at hv; exact hv (by decide))
theorem num_of1 {r v : Nat} (hv : ¬ v % 9223372036854775808 > 9218868437227405312) (h : cn r = v) : r = v :=
  eq_of_cn h (by intro e; rw [e] at hv; exact hv (by decide))

theorem sc_end {g : Nat → Nat} {n e r0 r1 : Nat} (he : e ≤ 128) (h : ∀ j, j < n → Nice (g j)) (h0 : r0 = exactG g n) (h1 : cn r1 = fop .mul r0 (pw (959 + e))) :
    ((FloatKind.f64.format.order r1 0 != some .eq) = false ∧ (FloatKind.f64.format.order r0 0 != some .eq) = false ∧ ∀ r2, cn r2 = cn (exactG (gS g e) n) → (FloatKind.f64.format.order r2 r1 == some .eq) = true) ∨
    ((FloatKind.f64.format.order r0 0 != some .eq) = true ∧ ((fin r0 ∧ pw (1023 - 950) ≤ r0 % 9223372036854775808 ∧ r0 % 9223372036854775808 ≤ pw (1023 + 950)) →
      ∀ r2, cn r2 = cn (exactG (gS g e) n) → (FloatKind.f64.format.order r2 r1 == some .eq) = true)) := by
  have hf : ∀ j, j < n → fin (g j) := fun j hj => (h j hj).1
  have hf' := gS_fin he h
  have hs := sum_fin_all hf
  have hs' := sum_fin_all hf'
  have hS := sum_scaled he h
  have hn' := exact_num hf'
  have p64 : (0 : Int) < ((2 ^ 64 : Nat) : Int) := by decide
  have pe : 0 < 2 ^ e := Nat.two_pow_pos e
  by_cases hz : sumF g n = 0
  · left
    have hz' : sumF (gS g e) n = 0 := by
      rw [hz, Int.zero_mul] at hS
      rcases Int.mul_eq_zero.1 hS with h2 | h2
      · exact h2
      · omega
    have c0 : r0 = 0 ∨ r0 = 9223372036854775808 := by
      rw [h0, exactG_zero (hs 9 (by omega)) (hs 8 (by omega)) (hs 1 (by omega)) hz]; exact zero_cases g n
    have c1 : r1 = 0 ∨ r1 = 9223372036854775808 := by
      have hfr : fin r0 ∧ mag r0 = 0 := by rcases c0 with rfl | rfl <;> exact ⟨⟨by decide, by decide⟩, by decide⟩
      rw [mul_pw (x := 0) hfr.1 he (by rw [hfr.2]; simp), Fl.rung_zero] at h1
      cases hsg : sg r0
      · rw [hsg, word_false] at h1; exact .inl (num_of1 (by decide) h1)
      · rw [hsg, word_true] at h1; exact .inr (num_of1 (by decide) h1)
    refine ⟨zero_ok c1, zero_ok c0, fun r2 h2 => ?_⟩
    have c2 : r2 = 0 ∨ r2 = 9223372036854775808 := by
      rw [num_of hn' h2, exactG_zero (hs' 9 (by omega)) (hs' 8 (by omega)) (hs' 1 (by omega)) hz']; exact zero_cases _ n
    exact zeros_eq c2 c1
  · right
    have hz' : sumF (gS g e) n ≠ 0 := by
      intro h2
      rw [h2, Int.zero_mul] at hS
      rcases Int.mul_eq_zero.1 hS.symm with h3 | h3
      · exact hz h3
      · omega
    have e0 := exactG_sum (hs 9 (by omega)) (hs 8 (by omega)) (hs 1 (by omega)) hz
    have e1 := exactG_sum (hs' 9 (by omega)) (hs' 8 (by omega)) (hs' 1 (by omega)) hz'
    rw [e0] at h0
    have hsgn : decide (sumF (gS g e) n < 0) = decide (sumF g n < 0) := by
      rw [Bool.eq_iff_iff, decide_eq_true_iff, decide_eq_true_iff]
      constructor
      · intro h2
        have h3 := Int.mul_neg_of_neg_of_pos h2 p64
        rw [hS] at h3
        rcases Int.lt_or_le (sumF g n) 0 with h4 | h4
        · exact h4
        · have := Int.mul_nonneg h4 (show (0 : Int) ≤ ((2 ^ e : Nat) : Int) by omega); omega
      · intro h2
        have h3 := Int.mul_neg_of_neg_of_pos h2 (show (0 : Int) < ((2 ^ e : Nat) : Int) by omega)
        rw [← hS] at h3
        rcases Int.lt_or_le (sumF (gS g e) n) 0 with h4 | h4
        · exact h4
        · have := Int.mul_nonneg h4 (Int.le_of_lt p64); omega
    have hA' : (sumF (gS g e) n).natAbs * 2 ^ 64 = (sumF g n).natAbs * 2 ^ e := by
      have := congrArg Int.natAbs hS
      rw [Int.natAbs_mul, Int.natAbs_mul, Int.natAbs_natCast, Int.natAbs_natCast] at this
      exact this
    have hA : (sumF g n).natAbs ≠ 0 := by omega
    generalize (sumF (gS g e) n).natAbs = A' at *
    generalize (sumF g n).natAbs = A at *
    generalize decide (sumF g n < 0) = s at *
    have hrl := rung_le A 0
    have hmod : r0 % 9223372036854775808 = Fl.rung A 0 := by
      rw [h0]
      cases s
      · rw [word_false]; omega
      · rw [word_true]; omega
    have hsg : sg r0 = s := by
      rw [h0]
      unfold sg
      cases s
      · rw [word_false]; exact decide_eq_false (by omega)
      · rw [word_true]; exact decide_eq_true (by omega)
    constructor
    · rcases hc : (FloatKind.f64.format.order r0 0 != some .eq) with _ | _
      · exfalso
        have hb : r0 < 18446744073709551616 := by
          rw [h0]
          cases s
          · rw [word_false]; omega
          · rw [word_true]; omega
        obtain ⟨z1, z2⟩ := zero_of hb hc
        -- a rung that is 0: the number is under half a unit
        rw [← mag_mod, hmod] at z2
        have hr0 : Fl.rung A 0 = 0 := by
          have h3 := z1.2
          rw [hmod] at h3
          exact mag_inj h3 (by decide) (by rw [z2]; decide)
        rcases Nat.lt_or_ge A 9007199254740992 with h4 | h4
        · have := rung_small A 0 h4
          rw [Nat.pow_zero, Nat.mul_one, hr0] at this
          exact hA this.symm
        · have hl : 53 ≤ A.log2 := (Nat.le_log2 hA).2 h4
          have hn := rung_norm (A := A) (t := 0) (by omega)
          have hlo := Nat.log2_self_le hA
          have hhi := Fl.lt_log2 A
          obtain ⟨j, hj⟩ : ∃ j, A.log2 = j + 52 := ⟨A.log2 - 52, by omega⟩
          rw [hj] at hlo hhi hn
          obtain ⟨r1', _⟩ := rne_norm hlo hhi
          rw [hr0, Nat.add_sub_cancel] at hn
          generalize (j - 0) * 4503599627370496 = u at hn
          omega
      · rfl
    · rintro ⟨k1, k2, k3⟩ r2 h2
      obtain ⟨m1, _⟩ := in_range (m := 950) (.inr rfl) k1 k2 k3
      rw [← mag_mod, hmod] at m1
      have hlt : Fl.rung A 0 < 9218868437227405312 := by rw [← hmod]; exact k1.2
      obtain ⟨x, x1, x2⟩ := scale_exact hA hA' hlt m1
      have x1' : mag r0 * 2 ^ e = x * 2 ^ 64 := by rw [← mag_mod, hmod]; exact x1
      rw [mul_pw k1 he x1', hsg] at h1
      have hr1 := num_of1 (word_num _ _) h1
      have hr2 := num_of hn' h2
      rw [e1, hsgn, x2] at hr2
      rw [hr1, hr2]
      exact order_self (word_num _ _)
end Go.Proofs.Ytdfbmfmfhdifpaa
