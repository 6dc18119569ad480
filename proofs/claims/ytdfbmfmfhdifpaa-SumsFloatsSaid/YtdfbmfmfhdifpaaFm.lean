/- Floats as numbers: what a word is read as, the order of words, exact products; plain arithmetic. -/
import Derived.Test.YtdfbmfmfhdifpaaKe
import Derived.Test.YtdfbmfmfhdifpaaAe
namespace Go.Proofs.Ytdfbmfmfhdifpaa
open Ieee

theorem read_fin (b : Nat) (h : b % 9223372036854775808 < 9218868437227405312) :
    Fl.D.read b = .number (b / 9223372036854775808 % 2 == 1) (fM b) (-1074 + (fQ b : Int)) := by
  have h2 : b % 9223372036854775808 / 4503599627370496 = b / 4503599627370496 % 2048 := by omega
  unfold Format.read fM fQ
  simp only [Fl.D_sign, Fl.D_bin, Fl.D_inf, Fl.D_least]
  by_cases h0 : b % 9223372036854775808 < 4503599627370496
  · have e1 : b / 4503599627370496 % 2048 = 0 := by omega
    rw [if_pos h0, if_pos e1, e1]
    have : b % 9223372036854775808 = b % 4503599627370496 := by omega
    rw [this]; rfl
  · have e1 : ¬ b / 4503599627370496 % 2048 = 0 := by omega
    rw [if_neg h0, if_pos h, if_neg e1, h2]
    have : 4503599627370496 + b % 9223372036854775808 % 4503599627370496 = b % 4503599627370496 + 4503599627370496 := by omega
    rw [this]

theorem mag_mono {a b : Nat} (h : a < b) (hb : b < 9218868437227405312) : mag a < mag b := by
  unfold mag
  have ea : a / 4503599627370496 % 2048 = a / 4503599627370496 := by omega
  have eb : b / 4503599627370496 % 2048 = b / 4503599627370496 := by omega
  by_cases hE : a / 4503599627370496 = b / 4503599627370496
  · have e1 : fQ a = fQ b := by unfold fQ; rw [ea, eb, hE]
    rw [e1]
    apply Nat.mul_lt_mul_of_pos_right _ (Nat.two_pow_pos _)
    unfold fM
    rw [ea, eb, hE]
    split <;> omega
  · have hlt : a / 4503599627370496 < b / 4503599627370496 := by omega
    have hMb : 4503599627370496 ≤ fM b := by unfold fM; rw [eb, if_neg (by omega)]; omega
    have hQb : fQ b = b / 4503599627370496 - 1 := by unfold fQ; rw [eb]
    by_cases h0 : a / 4503599627370496 = 0
    · have hMa : fM a < 4503599627370496 := by unfold fM; rw [ea, if_pos h0]; omega
      have hQa : fQ a = 0 := by unfold fQ; rw [ea, h0]
      rw [hQa, Nat.pow_zero, Nat.mul_one]
      calc fM a < 4503599627370496 := hMa
        _ ≤ fM b := hMb
        _ ≤ fM b * 2 ^ fQ b := Nat.le_mul_of_pos_right _ (Nat.two_pow_pos _)
    · have hQa : fQ a = a / 4503599627370496 - 1 := by unfold fQ; rw [ea]
      have hle : fQ a + 1 ≤ fQ b := by omega
      calc fM a * 2 ^ fQ a < 9007199254740992 * 2 ^ fQ a := Nat.mul_lt_mul_of_pos_right (fM_lt a) (Nat.two_pow_pos _)
        _ = 4503599627370496 * 2 ^ (fQ a + 1) := by rw [Nat.pow_succ]; omega
        _ ≤ 4503599627370496 * 2 ^ fQ b := Nat.mul_le_mul_left _ (Nat.pow_le_pow_right (by decide) hle)
        _ ≤ fM b * 2 ^ fQ b := Nat.mul_le_mul_right _ hMb

/-- Words without a sign stand as their numbers do. -/
theorem shl_common (m e base : Nat) (q : Int) (hb : (base : Int) ≤ q) (hq : q = (e : Int)) : (m <<< (q - base).toNat) * 2 ^ base = m * 2 ^ e := by
  rw [Nat.shiftLeft_eq, Nat.mul_assoc, ← Nat.pow_add]
  congr 2
  omega
theorem order_fin (a b : Nat) (ha : a < 9218868437227405312) (hb : b < 9218868437227405312) : FloatKind.f64.format.order a b = some (compare (mag a) (mag b)) := by
  have ra := read_fin a (by omega)
  have rb := read_fin b (by omega)
  have sa : (a / 9223372036854775808 % 2 == 1) = false := by rw [beq_eq_false_iff_ne]; omega
  have sb : (b / 9223372036854775808 % 2 == 1) = false := by rw [beq_eq_false_iff_ne]; omega
  rw [sa] at ra
  rw [sb] at rb
  show Fl.D.order a b = _
  unfold Format.order
  rw [ra, rb]
  simp only [Datum.order, signed_pos]
  congr 1
  have e1 : (-1074 + (fQ a : Int) - min (-1074 + (fQ a : Int)) (-1074 + (fQ b : Int))).toNat = fQ a - min (fQ a) (fQ b) := by omega
  have e2 : (-1074 + (fQ b : Int) - min (-1074 + (fQ a : Int)) (-1074 + (fQ b : Int))).toNat = fQ b - min (fQ a) (fQ b) := by omega
  rw [e1, e2]
  have h1 : mag a = (fM a <<< (fQ a - min (fQ a) (fQ b))) * 2 ^ min (fQ a) (fQ b) := by
    unfold mag; rw [Nat.shiftLeft_eq, Nat.mul_assoc, ← Nat.pow_add]; congr 2; omega
  have h2 : mag b = (fM b <<< (fQ b - min (fQ a) (fQ b))) * 2 ^ min (fQ a) (fQ b) := by
    unfold mag; rw [Nat.shiftLeft_eq, Nat.mul_assoc, ← Nat.pow_add]; congr 2; omega
  rw [h1, h2]
  generalize fM a <<< (fQ a - min (fQ a) (fQ b)) = x
  generalize fM b <<< (fQ b - min (fQ a) (fQ b)) = y
  have hp : 0 < 2 ^ min (fQ a) (fQ b) := Nat.two_pow_pos _
  generalize 2 ^ min (fQ a) (fQ b) = P at *
  rcases Nat.lt_trichotomy x y with h | h | h
  · rw [Int.compare_eq_lt.2 (by omega), Nat.compare_eq_lt.2 (Nat.mul_lt_mul_of_pos_right h hp)]
  · subst h; simp
  · rw [Int.compare_eq_gt.2 (by omega), Nat.compare_eq_gt.2 (Nat.mul_lt_mul_of_pos_right h hp)]
theorem order_words (a b : Nat) (ha : a < 9218868437227405312) (hb : b < 9218868437227405312) : FloatKind.f64.format.order a b = some (compare a b) := by
  rw [order_fin a b ha hb]
  rcases Nat.lt_trichotomy a b with h | h | h
  · rw [Nat.compare_eq_lt.2 h, Nat.compare_eq_lt.2 (mag_mono h hb)]
  · subst h; simp
  · rw [Nat.compare_eq_gt.2 h, Nat.compare_eq_gt.2 (mag_mono h ha)]

theorem log2_of {S k : Nat} (h1 : 2 ^ k ≤ S) (h2 : S < 2 ^ (k + 1)) : S.log2 = k := by
  have h0 : S ≠ 0 := by have := Nat.two_pow_pos k; omega
  exact (Nat.log2_eq_iff h0).2 ⟨h1, h2⟩
theorem rung_val (S j t : Nat) (h1 : 4503599627370496 ≤ S) (h2 : S < 9007199254740992) : Fl.rung (S * 2 ^ (j + t)) t = min (j * 4503599627370496 + S) 9218868437227405312 := by
  have hl : S.log2 = 52 := log2_of (k := 52) h1 h2
  unfold Fl.rung
  rw [Fl.log2_mul_pow S _ (by omega), hl]
  have e : max (52 + (j + t) - 52) t = j + t := by omega
  rw [e, Fl.rne_exact, Nat.add_sub_cancel]
theorem rung_small (r t : Nat) (h : r < 9007199254740992) : Fl.rung (r * 2 ^ t) t = r := by
  by_cases h0 : r = 0
  · subst h0; rw [Nat.zero_mul, Fl.rung_zero]
  · have hl : r.log2 ≤ 52 := by
      have : r.log2 < 53 := (Nat.log2_lt h0).2 h
      omega
    unfold Fl.rung
    rw [Fl.log2_mul_pow r _ h0]
    have e : max (r.log2 + t - 52) t = t := by omega
    rw [e, Fl.rne_exact]
    omega
theorem word_false (r : Nat) : Fl.D.word false r = r := rfl

/-- A product of two finite words without a sign. -/
theorem mul_bits (a b : Nat) (ha : a < 9218868437227405312) (hb : b < 9218868437227405312) (t : Nat) (ht : -1074 - (t : Int) ≤ -2148 + (fQ a : Int) + fQ b) :
    floatBits .mul .f64 a b = some (Fl.rung (fM a * fM b * 2 ^ (-2148 + (fQ a : Int) + fQ b + 1074 + t).toNat) t) := by
  have ra := read_fin a (by omega)
  have rb := read_fin b (by omega)
  have sa : (a / 9223372036854775808 % 2 == 1) = false := by rw [beq_eq_false_iff_ne]; omega
  have sb : (b / 9223372036854775808 % 2 == 1) = false := by rw [beq_eq_false_iff_ne]; omega
  rw [sa] at ra
  rw [sb] at rb
  have e : floatBits .mul .f64 a b = some (Fl.D.nearest false (fM a * fM b) (-1074 + (fQ a : Int) + (-1074 + (fQ b : Int)))) := by
    show (((Fl.D.read a).product (Fl.D.read b)).map Fl.D.write) = _
    rw [ra, rb]
    rfl
  rw [e, Fl.nearest_eq false _ _ t (by omega), word_false]
  rw [show -1074 + (fQ a : Int) + (-1074 + (fQ b : Int)) + 1074 + (t : Int) = -2148 + (fQ a : Int) + fQ b + 1074 + t from by omega]

/-- 1 x b. -/
theorem one_mul (b : Nat) (hb : b < 9218868437227405312) (h0 : 4503599627370496 ≤ b) : floatBits .mul .f64 4607182418800017408 b = some b := by
  have m1 : fM 4607182418800017408 = 4503599627370496 := by decide
  have q1 : fQ 4607182418800017408 = 1022 := by decide
  have eb : b / 4503599627370496 % 2048 = b / 4503599627370496 := by omega
  have hM : fM b = b % 4503599627370496 + 4503599627370496 := by unfold fM; rw [eb, if_neg (by omega)]
  have hQ : fQ b = b / 4503599627370496 - 1 := by unfold fQ; rw [eb]
  rw [mul_bits _ _ (by decide) hb 52 (by rw [q1]; omega), m1, q1]
  have e : (-2148 + ((1022 : Nat) : Int) + (fQ b : Int) + 1074 + ((52 : Nat) : Int)).toNat = fQ b := by omega
  rw [e, Nat.mul_comm 4503599627370496, show (4503599627370496 : Nat) = 2 ^ 52 from rfl, Nat.mul_assoc, ← Nat.pow_add, Nat.add_comm 52]
  rw [rung_val (fM b) (fQ b) 52 (by rw [hM]; omega) (fM_lt b), hM, hQ]
  have := fM_lt b
  refine congrArg some ?_
  omega

/-- 2^-53 x the word (k+2) x 2^52 + S - 2^52 is the rung S / 2^(52-k), where that is whole. -/
theorem denorm_mul (r k : Nat) (hk : k ≤ 52) (h1 : 2 ^ k ≤ r) (h2 : r < 2 ^ (k + 1)) (h3 : r < 4503599627370496) :
    floatBits .mul .f64 4368491638549381120 ((k + 1) * 4503599627370496 + r * 2 ^ (52 - k)) = some r := by
  have m1 : fM 4368491638549381120 = 4503599627370496 := by decide
  have q1 : fQ 4368491638549381120 = 969 := by decide
  have hS1 : 4503599627370496 ≤ r * 2 ^ (52 - k) := by
    calc (4503599627370496 : Nat) = 2 ^ k * 2 ^ (52 - k) := by rw [← Nat.pow_add, show k + (52 - k) = 52 from by omega]
      _ ≤ r * 2 ^ (52 - k) := Nat.mul_le_mul_right _ h1
  have hS2 : r * 2 ^ (52 - k) < 9007199254740992 := by
    calc r * 2 ^ (52 - k) < 2 ^ (k + 1) * 2 ^ (52 - k) := Nat.mul_lt_mul_of_pos_right h2 (Nat.two_pow_pos _)
      _ = 9007199254740992 := by rw [← Nat.pow_add, show k + 1 + (52 - k) = 53 from by omega]
  generalize hS : r * 2 ^ (52 - k) = S at *
  generalize hx : (k + 1) * 4503599627370496 + S = x
  have ex : x / 4503599627370496 % 2048 = k + 2 := by omega
  have hM : fM x = S := by unfold fM; rw [ex, if_neg (by omega)]; omega
  have hQ : fQ x = k + 1 := by unfold fQ; rw [ex]; omega
  rw [mul_bits _ _ (by decide) (by omega) (157 - k) (by rw [q1, hQ]; omega), m1, q1, hM, hQ]
  have e : (-2148 + ((969 : Nat) : Int) + ((k + 1 : Nat) : Int) + 1074 + ((157 - k : Nat) : Int)).toNat = 53 := by omega
  rw [e, ← hS]
  have e2 : 4503599627370496 * (r * 2 ^ (52 - k)) * 2 ^ 53 = r * 2 ^ (157 - k) := by
    rw [Nat.mul_comm 4503599627370496, show (4503599627370496 : Nat) = 2 ^ 52 from rfl, Nat.mul_assoc, Nat.mul_assoc, ← Nat.pow_add, ← Nat.pow_add]
    congr 2
    omega
  rw [e2, rung_small r _ (by omega)]

/-- The word of a whole number up to 2^53. -/
theorem ofInt_word (n k : Nat) (hk : k ≤ 53) (h1 : 2 ^ k ≤ n) (h2 : n < 2 ^ (k + 1)) (h3 : n ≤ 9007199254740992) :
    floatOfInt .f64 (n : Int) = if k ≤ 52 then (k + 1022) * 4503599627370496 + n * 2 ^ (52 - k) else 4845873199050653696 := by
  have hn : 0 < n := by have := Nat.two_pow_pos k; omega
  have e : floatOfInt .f64 (n : Int) = Fl.D.nearest false n 0 := by
    show Fl.D.write (.number ((n : Int) < 0) (n : Int).natAbs 0) = _
    have : decide ((n : Int) < 0) = false := by simp
    rw [this, Int.natAbs_natCast]
    rfl
  rw [e, Fl.nearest_eq false n 0 0 (by omega), word_false]
  obtain ⟨c, hc⟩ : ∃ c, ((0 : Int) + 1074 + ((0 : Nat) : Int)).toNat = c := ⟨_, rfl⟩
  rw [hc]
  have hc : c = 1074 := by omega
  by_cases hk2 : k ≤ 52
  · rw [if_pos hk2]
    have hS1 : 4503599627370496 ≤ n * 2 ^ (52 - k) := by
      calc (4503599627370496 : Nat) = 2 ^ k * 2 ^ (52 - k) := by rw [← Nat.pow_add, show k + (52 - k) = 52 from by omega]
        _ ≤ n * 2 ^ (52 - k) := Nat.mul_le_mul_right _ h1
    have hS2 : n * 2 ^ (52 - k) < 9007199254740992 := by
      calc n * 2 ^ (52 - k) < 2 ^ (k + 1) * 2 ^ (52 - k) := Nat.mul_lt_mul_of_pos_right h2 (Nat.two_pow_pos _)
        _ = 9007199254740992 := by rw [← Nat.pow_add, show k + 1 + (52 - k) = 53 from by omega]
    have e3 : n * 2 ^ c = n * 2 ^ (52 - k) * 2 ^ (k + 1022 + 0) := by
      rw [Nat.mul_assoc, ← Nat.pow_add, show 52 - k + (k + 1022 + 0) = c from by omega]
    rw [e3, rung_val _ (k + 1022) 0 hS1 hS2]
    generalize n * 2 ^ (52 - k) = S at *
    clear e3 h1 h2
    exact Nat.min_eq_left (by omega)
  · rw [if_neg hk2]
    have hk3 : k = 53 := by omega
    subst hk3
    have hnn : n = 4503599627370496 * 2 ^ 1 := by omega
    obtain ⟨j, hj⟩ : ∃ j, j = 1075 := ⟨_, rfl⟩
    have e3 : n * 2 ^ c = 4503599627370496 * 2 ^ (j + 0) := by
      rw [hnn, Nat.mul_assoc, ← Nat.pow_add, show 1 + c = j + 0 from by omega]
    rw [e3, rung_val _ j 0 (by decide) (by decide), hj]
    decide

end Go.Proofs.Ytdfbmfmfhdifpaa
