/- Floats as whole numbers of the least unit: sums, differences, what is exact. -/
import Derived.Test.YtdfbmfmfhdifpaaFo
namespace Go.Proofs.Ytdfbmfmfhdifpaa
open Ieee Go.RowKit

def fin (b : Nat) : Prop := b < 18446744073709551616 ∧ b % 9223372036854775808 < 9218868437227405312
def sg (b : Nat) : Bool := decide (9223372036854775808 ≤ b)
def sgn (s : Bool) (m : Nat) : Int := if s = true then -(m : Int) else (m : Int)
theorem read_fin2 {b : Nat} (h : fin b) : Fl.D.read b = .number (sg b) (fM b) (-1074 + (fQ b : Int)) := by
  rw [read_fin b h.2]
  congr 1
  unfold sg
  have := h.1
  rw [Bool.eq_iff_iff, beq_iff_eq, decide_eq_true_iff]
  omega
theorem sval_sgn (b : Nat) : sval b = sgn (sg b) (fM b * 2 ^ fQ b) := by
  unfold sval sgn sg mag
  simp only [decide_eq_true_eq, ge_iff_le]

/-- The word nearest to x least units; s: the sign of a zero. -/
def wordI (s : Bool) (x : Int) : Nat := Fl.D.word (if x = 0 then s else decide (x < 0)) (Fl.rung x.natAbs 0)

theorem signed_mul (s : Bool) (m q k : Nat) (h : k ≤ q) : signed s m (q - k) * ((2 ^ k : Nat) : Int) = sgn s (m * 2 ^ q) := by
  have e : (m <<< (q - k)) * 2 ^ k = m * 2 ^ q := by
    rw [Nat.shiftLeft_eq, Nat.mul_assoc, ← Nat.pow_add, show q - k + k = q from by omega]
  cases s
  · rw [signed_pos, ← Int.natCast_mul, e]; rfl
  · rw [signed_neg, Int.neg_mul, ← Int.natCast_mul, e]; rfl

theorem sum_fin (sa sb : Bool) (ma mb qa qb : Nat) :
    ((Datum.number sa ma (-1074 + (qa : Int))).sum (.number sb mb (-1074 + (qb : Int)))).map Fl.D.write
      = some (wordI (sa && sb) (sgn sa (ma * 2 ^ qa) + sgn sb (mb * 2 ^ qb))) := by
  simp only [Datum.sum, Option.map_some]
  have e1 : (-1074 + (qa : Int) - min (-1074 + (qa : Int)) (-1074 + (qb : Int))).toNat = qa - min qa qb := by omega
  have e2 : (-1074 + (qb : Int) - min (-1074 + (qa : Int)) (-1074 + (qb : Int))).toNat = qb - min qa qb := by omega
  rw [e1, e2, ← signed_mul sa ma qa (min qa qb) (by omega), ← signed_mul sb mb qb (min qa qb) (by omega), ← Int.add_mul]
  generalize signed sa ma (qa - min qa qb) + signed sb mb (qb - min qa qb) = T
  refine congrArg some ?_
  show Fl.D.nearest _ T.natAbs _ = _
  rw [Fl.nearest_eq _ _ _ 0 (by omega)]
  have e3 : (min (-1074 + (qa : Int)) (-1074 + (qb : Int)) + 1074 + ((0 : Nat) : Int)).toNat = min qa qb := by omega
  rw [e3]
  generalize min qa qb = k
  unfold wordI
  have hp : 0 < 2 ^ k := Nat.two_pow_pos k
  have e4 : (T * ((2 ^ k : Nat) : Int)).natAbs = T.natAbs * 2 ^ k := by rw [Int.natAbs_mul, Int.natAbs_natCast]
  rw [e4]
  generalize 2 ^ k = p at *
  congr 1
  by_cases h0 : T = 0
  · rw [if_pos h0, if_pos (by rw [h0]; simp)]
  · have : T * (p : Int) ≠ 0 := Int.mul_ne_zero h0 (by omega)
    rw [if_neg h0, if_neg this]
    rw [Bool.eq_iff_iff, decide_eq_true_iff, decide_eq_true_iff]
    constructor
    · intro h; exact Int.mul_neg_of_neg_of_pos h (by omega)
    · intro h
      rcases Int.lt_or_le T 0 with h2 | h2
      · exact h2
      · have := Int.mul_nonneg h2 (show (0 : Int) ≤ p by omega); omega

theorem add_fin {a b : Nat} (ha : fin a) (hb : fin b) : fop .add a b = wordI (sg a && sg b) (sval a + sval b) := by
  have e : floatBits .add .f64 a b = some (wordI (sg a && sg b) (sval a + sval b)) := by
    show ((Fl.D.read a).sum (Fl.D.read b)).map Fl.D.write = _
    rw [read_fin2 ha, read_fin2 hb, sum_fin, sval_sgn, sval_sgn]
  unfold fop; rw [e]
theorem sgn_not (s : Bool) (m : Nat) : sgn (!s) m = -sgn s m := by cases s <;> simp [sgn]
theorem sub_fin {a b : Nat} (ha : fin a) (hb : fin b) : fop .sub a b = wordI (sg a && !sg b) (sval a - sval b) := by
  have e : floatBits .sub .f64 a b = some (wordI (sg a && !sg b) (sval a - sval b)) := by
    show ((Fl.D.read a).sum (Fl.D.read b).opposite).map Fl.D.write = _
    rw [read_fin2 ha, read_fin2 hb]
    show ((Datum.number _ _ _).sum (Datum.number (!sg b) _ _)).map Fl.D.write = _
    rw [sum_fin, sgn_not, ← sval_sgn, ← sval_sgn, Int.sub_eq_add_neg]
  unfold fop; rw [e]

theorem blk_div (B j r : Nat) (hr : r < B) : (j * B + (B + r)) / B = j + 1 ∧ (j * B + (B + r)) % B = r := by
  have e : j * B + (B + r) = B * (j + 1) + r := by rw [Nat.mul_succ, Nat.mul_comm B j, Nat.add_assoc]
  rw [e]
  exact ⟨by rw [Nat.mul_add_div (by omega), Nat.div_eq_of_lt hr, Nat.add_zero], by rw [Nat.mul_add_mod, Nat.mod_eq_of_lt hr]⟩
theorem blk_mag (j r : Nat) (hj : j ≤ 2045) (hr : r < 4503599627370496) : mag (j * 4503599627370496 + (4503599627370496 + r)) = (4503599627370496 + r) * 2 ^ j := by
  obtain ⟨d1, d2⟩ := blk_div 4503599627370496 j r hr
  unfold mag fM fQ
  rw [d1, d2, show (j + 1) % 2048 = j + 1 from by omega, if_neg (by omega), Nat.add_sub_cancel, Nat.add_comm r]
theorem blk_lt (B j r : Nat) (hj : j ≤ 2045) (hr : r < 2 * B) : j * B + r < 2047 * B := by
  have := Nat.mul_le_mul_right B hj
  generalize j * B = u at *
  omega
theorem rung_exact (S q : Nat) (hS : S < 9007199254740992) (hq : q ≤ 2045) :
    Fl.rung (S * 2 ^ q) 0 < 9218868437227405312 ∧ mag (Fl.rung (S * 2 ^ q) 0) = S * 2 ^ q := by
  by_cases h : S * 2 ^ q < 4503599627370496
  · have e := rung_small (S * 2 ^ q) 0 (by omega)
    rw [Nat.pow_zero, Nat.mul_one] at e
    rw [e]
    refine ⟨by omega, ?_⟩
    generalize S * 2 ^ q = r at *
    have e1 : r / 4503599627370496 % 2048 = 0 := by omega
    unfold mag fM fQ
    rw [e1, if_pos rfl, Nat.pow_zero, Nat.mul_one]
    omega
  · have h0 : S ≠ 0 := by intro h0; rw [h0, Nat.zero_mul] at h; omega
    have hl : S.log2 < 53 := (Nat.log2_lt h0).2 hS
    have hN : (S * 2 ^ q).log2 = S.log2 + q := Fl.log2_mul_pow S q h0
    have hN52 : 52 ≤ S.log2 + q := by
      rw [← hN]
      exact (Nat.le_log2 (by omega)).2 (by omega)
    have hlo := Nat.log2_self_le h0
    have hhi := Fl.lt_log2 S
    generalize S.log2 = l at *
    have e1 : S * 2 ^ q = (S * 2 ^ (52 - l)) * 2 ^ (q - (52 - l) + 0) := by
      rw [Nat.mul_assoc, ← Nat.pow_add, show 52 - l + (q - (52 - l) + 0) = q from by omega]
    have h1 : 4503599627370496 ≤ S * 2 ^ (52 - l) := by
      have := Nat.mul_le_mul_right (2 ^ (52 - l)) hlo
      rw [← Nat.pow_add, show l + (52 - l) = 52 from by omega] at this
      exact this
    have h2 : S * 2 ^ (52 - l) < 9007199254740992 := by
      have := Nat.mul_lt_mul_of_pos_right hhi (Nat.two_pow_pos (52 - l))
      rw [← Nat.pow_add, show l + 1 + (52 - l) = 53 from by omega] at this
      exact this
    have hj : q - (52 - l) ≤ 2045 := by omega
    have hr := rung_val (S * 2 ^ (52 - l)) (q - (52 - l)) 0 h1 h2
    rw [← e1] at hr
    rw [hr]
    generalize q - (52 - l) = j at *
    rw [e1]
    generalize S * 2 ^ (52 - l) = S' at *
    have hm : j * 4503599627370496 + S' < 9218868437227405312 := blk_lt 4503599627370496 j S' hj h2
    rw [Nat.min_eq_left (Nat.le_of_lt hm)]
    refine ⟨hm, ?_⟩
    clear hm
    obtain ⟨r, rfl⟩ : ∃ r, S' = 4503599627370496 + r := ⟨S' - 4503599627370496, by omega⟩
    rw [Nat.add_zero]
    exact blk_mag j r hj (by omega)

theorem mag_mod (b : Nat) : mag (b % 9223372036854775808) = mag b := by
  have e : b % 9223372036854775808 / 4503599627370496 % 2048 = b / 4503599627370496 % 2048 := by omega
  have e2 : b % 9223372036854775808 % 4503599627370496 = b % 4503599627370496 := by omega
  unfold mag fM fQ
  rw [e, e2]
theorem fQ_fin {b : Nat} (h : fin b) : fQ b ≤ 2045 := by
  have := h.2
  unfold fQ
  omega
theorem mag_inj {a b : Nat} (ha : a < 9218868437227405312) (hb : b < 9218868437227405312) (h : mag a = mag b) : a = b := by
  rcases Nat.lt_trichotomy a b with h1 | h1 | h1
  · have := mag_mono h1 hb; omega
  · exact h1
  · have := mag_mono h1 ha; omega
theorem rung_mag {b : Nat} (h : fin b) : Fl.rung (mag b) 0 = b % 9223372036854775808 := by
  obtain ⟨h1, h2⟩ := rung_exact (fM b) (fQ b) (fM_lt b) (fQ_fin h)
  exact mag_inj h1 h.2 (by rw [mag_mod]; exact h2)

theorem wordI_zero (s : Bool) : wordI s 0 = if s = true then 9223372036854775808 else 0 := by
  unfold wordI
  rw [if_pos rfl]
  have : (0 : Int).natAbs = 0 := rfl
  rw [this, Fl.rung_zero]
  cases s <;> rfl
theorem wordI_word (s : Bool) (x : Int) : wordI s x = if (if x = 0 then s else decide (x < 0)) = true then 9223372036854775808 + Fl.rung x.natAbs 0 else Fl.rung x.natAbs 0 := by
  unfold wordI
  cases (if x = 0 then s else decide (x < 0))
  · rfl
  · rw [word_true]; rfl
/-- A number that the format has. -/
theorem wordI_fin (s : Bool) (x : Int) (S q : Nat) (hx : x.natAbs = S * 2 ^ q) (hS : S < 9007199254740992) (hq : q ≤ 2045) :
    fin (wordI s x) ∧ sval (wordI s x) = x ∧ sg (wordI s x) = (if x = 0 then s else decide (x < 0)) := by
  obtain ⟨h1, h2⟩ := rung_exact S q hS hq
  rw [← hx] at h1 h2
  rw [wordI_word]
  generalize Fl.rung x.natAbs 0 = r at *
  by_cases hs : (if x = 0 then s else decide (x < 0)) = true
  · rw [if_pos hs]
    have hg : sg (9223372036854775808 + r) = true := by unfold sg; rw [decide_eq_true_iff]; omega
    refine ⟨⟨by omega, by omega⟩, ?_, by rw [hs, hg]⟩
    unfold sval
    have e : mag (9223372036854775808 + r) = x.natAbs := by
      rw [← mag_mod, show (9223372036854775808 + r) % 9223372036854775808 = r from by omega, h2]
    rw [if_pos (by omega), e]
    by_cases h0 : x = 0
    · rw [h0]; rfl
    · rw [if_neg h0, decide_eq_true_iff] at hs; omega
  · rw [if_neg hs]
    have hs' : (if x = 0 then s else decide (x < 0)) = false := Bool.eq_false_iff.mpr hs
    have hg : sg r = false := by unfold sg; rw [decide_eq_false_iff_not]; omega
    refine ⟨⟨by omega, by omega⟩, ?_, by rw [hs', hg]⟩
    unfold sval
    rw [if_neg (by omega), h2]
    by_cases h0 : x = 0
    · rw [h0]; rfl
    · rw [if_neg h0, decide_eq_false_iff_not] at hs'; omega

/-- A finite word is its number's. -/
theorem word_of {b : Nat} (h : fin b) : wordI (sg b) (sval b) = b := by
  rw [wordI_word, sval_abs, rung_mag h]
  have := h.1
  by_cases hb : 9223372036854775808 ≤ b
  · have hg : sg b = true := decide_eq_true hb
    have hv : sval b = -(mag b : Int) := by unfold sval; rw [if_pos hb]
    rw [if_pos, show 9223372036854775808 + b % 9223372036854775808 = b from by omega]
    rw [hg, hv]
    split
    · rfl
    · rw [decide_eq_true_iff]; omega
  · have hg : sg b = false := decide_eq_false hb
    have hv : sval b = (mag b : Int) := by unfold sval; rw [if_neg hb]
    rw [if_neg, show b % 9223372036854775808 = b from by omega]
    rw [hg, hv]
    split
    · simp
    · rw [decide_eq_true_iff]; omega

/-! ### Whole numbers -/
def U : Nat := 2 ^ 1074
theorem U_eq (k : Nat) (hk : k = 1074) : U = 2 ^ k := by rw [hk, U]
theorem U_pos : 0 < U := by
  obtain ⟨k, hk⟩ : ∃ k : Nat, k = 1074 := ⟨_, rfl⟩
  rw [U_eq k hk]
  exact Nat.two_pow_pos k
def Wz (z : Int) : Nat := floatOfInt .f64 z
theorem Wz_eq (z : Int) : Wz z = wordI false (z * (U : Int)) := by
  have h0 : Wz z = Fl.D.nearest (decide (z < 0)) z.natAbs 0 := rfl
  rw [h0]
  clear h0
  rw [Fl.nearest_eq _ _ _ 0 (by omega)]
  rw [show ((0 : Int) + 1074 + ((0 : Nat) : Int)).toNat = 1074 from rfl, ← U_eq 1074 rfl]
  have hU := U_pos
  unfold wordI
  have e4 : (z * (U : Int)).natAbs = z.natAbs * U := by rw [Int.natAbs_mul, Int.natAbs_natCast]
  rw [e4]
  generalize U = p at *
  congr 1
  by_cases h0 : z = 0
  · subst h0; simp
  · have : z * (p : Int) ≠ 0 := Int.mul_ne_zero h0 (by omega)
    rw [if_neg this, Bool.eq_iff_iff, decide_eq_true_iff, decide_eq_true_iff]
    constructor
    · intro h; exact Int.mul_neg_of_neg_of_pos h (by omega)
    · intro h
      rcases Int.lt_or_le z 0 with h2 | h2
      · exact h2
      · have := Int.mul_nonneg h2 (show (0 : Int) ≤ p by omega); omega
theorem Wz_fin {z : Int} (h : z.natAbs ≤ 9007199254740992) : fin (Wz z) ∧ sval (Wz z) = z * (U : Int) ∧ (sg (Wz z) = true → z < 0) := by
  have hU := U_pos
  have key : fin (Wz z) ∧ sval (Wz z) = z * (U : Int) ∧ sg (Wz z) = (if z * (U : Int) = 0 then false else decide (z * (U : Int) < 0)) := by
    rw [Wz_eq]
    by_cases h2 : z.natAbs < 9007199254740992
    · obtain ⟨k, hk⟩ : ∃ k : Nat, k = 1074 := ⟨_, rfl⟩
      exact wordI_fin false _ z.natAbs k (by rw [Int.natAbs_mul, Int.natAbs_natCast, U_eq k hk]) h2 (by omega)
    · obtain ⟨k, hk⟩ : ∃ k : Nat, k = 1074 := ⟨_, rfl⟩
      refine wordI_fin false _ 4503599627370496 (k + 1) ?_ (by omega) (by omega)
      rw [Int.natAbs_mul, Int.natAbs_natCast, show z.natAbs = 4503599627370496 * 2 from by omega, Nat.mul_assoc, U_eq k hk, Nat.mul_comm 2, ← Nat.pow_succ]
  obtain ⟨k1, k2, k3⟩ := key
  refine ⟨k1, k2, fun hs => ?_⟩
  rw [k3] at hs
  split at hs
  · cases hs
  · rw [decide_eq_true_iff] at hs
    rcases Int.lt_or_le z 0 with h2 | h2
    · exact h2
    · have := Int.mul_nonneg h2 (show (0 : Int) ≤ (U : Int) by omega); omega
theorem Wz_add {a b : Int} (ha : a.natAbs ≤ 9007199254740992) (hb : b.natAbs ≤ 9007199254740992) : fop .add (Wz a) (Wz b) = Wz (a + b) := by
  obtain ⟨a1, a2, a3⟩ := Wz_fin ha
  obtain ⟨b1, b2, b3⟩ := Wz_fin hb
  rw [add_fin a1 b1, a2, b2, ← Int.add_mul, Wz_eq (a + b)]
  have hU := U_pos
  unfold wordI
  congr 1
  by_cases h0 : (a + b) * (U : Int) = 0
  · rw [if_pos h0, if_pos h0]
    rcases Int.mul_eq_zero.1 h0 with h1 | h1
    · rw [Bool.and_eq_false_iff]
      cases hs : sg (Wz a) with
      | false => exact .inl rfl
      | true =>
        refine .inr ?_
        have := a3 hs
        cases ht : sg (Wz b) with
        | false => rfl
        | true => have := b3 ht; omega
    · omega
  · rw [if_neg h0, if_neg h0]
theorem Wz_sub {a b : Int} (ha : a.natAbs ≤ 9007199254740992) (hb : b.natAbs ≤ 9007199254740992) : fop .sub (Wz a) (Wz b) = Wz (a - b) := by
  obtain ⟨a1, a2, a3⟩ := Wz_fin ha
  obtain ⟨b1, b2, b3⟩ := Wz_fin hb
  rw [sub_fin a1 b1, a2, b2, ← Int.sub_mul, Wz_eq (a - b)]
  have hU := U_pos
  unfold wordI
  congr 1
  by_cases h0 : (a - b) * (U : Int) = 0
  · rw [if_pos h0, if_pos h0]
    rcases Int.mul_eq_zero.1 h0 with h1 | h1
    · have : a = b := by omega
      subst this
      cases sg (Wz a) <;> rfl
    · omega
  · rw [if_neg h0, if_neg h0]
theorem Wz_zero : Wz 0 = 0 := by
  rw [Wz_eq, Int.zero_mul, wordI_zero]; rfl
theorem Wz_lt {z : Int} (h : z.natAbs ≤ 9007199254740992) : Wz z < 18446744073709551616 := (Wz_fin h).1.1
end Go.Proofs.Ytdfbmfmfhdifpaa
