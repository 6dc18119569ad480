/- Floats times a power of two: what is exact; the exact sum of a list times a power of two. -/
import Derived.Test.YtdfbmfmfhdifpaaNo
namespace Go.Proofs.Ytdfbmfmfhdifpaa
open Ieee Go.RowKit

/-- The word of 2^k, k + 1023 = p. -/
def pw (p : Nat) : Nat := p * 4503599627370496
theorem pw_fin {p : Nat} (h1 : 1 ≤ p) (h2 : p ≤ 2046) : fin (pw p) ∧ fM (pw p) = 4503599627370496 ∧ fQ (pw p) = p - 1 ∧ sg (pw p) = false := by
  unfold pw
  have hlt : p * 4503599627370496 ≤ 2046 * 4503599627370496 := Nat.mul_le_mul_right _ h2
  have h3 : p * 4503599627370496 < 9218868437227405312 := Nat.lt_of_le_of_lt hlt (by decide)
  have e1 : p * 4503599627370496 / 4503599627370496 = p := Nat.mul_div_cancel _ (by decide)
  have e2 : p * 4503599627370496 % 4503599627370496 = 0 := Nat.mul_mod_left _ _
  refine ⟨⟨Nat.lt_trans h3 (by decide), ?_⟩, ?_, ?_, ?_⟩
  · rw [Nat.mod_eq_of_lt (Nat.lt_trans h3 (by decide))]; exact h3
  · unfold fM
    rw [e1, e2, Nat.mod_eq_of_lt (by omega), if_neg (by omega), Nat.zero_add]
  · unfold fQ
    rw [e1, Nat.mod_eq_of_lt (by omega)]
  · exact decide_eq_false (Nat.not_le.2 (Nat.lt_trans h3 (by decide)))

/-- A finite word times 2^(e - 64): x: its least units. -/
theorem mul_pw {b e x : Nat} (hb : fin b) (h2 : e ≤ 128) (hx : mag b * 2 ^ e = x * 2 ^ 64) :
    fop .mul b (pw (959 + e)) = Fl.D.word (sg b) (Fl.rung x 0) := by
  obtain ⟨T, hT⟩ : ∃ T : Nat, T = 1023 := ⟨_, rfl⟩
  obtain ⟨p1, p2, p3, p4⟩ := pw_fin (p := 959 + e) (by omega) (by omega)
  have e0 : floatBits .mul .f64 b (pw (959 + e)) = some (Fl.D.nearest (sg b) (fM b * 4503599627370496) (-1074 + (fQ b : Int) + (-1074 + ((959 + e - 1 : Nat) : Int)))) := by
    show (((Fl.D.read b).product (Fl.D.read (pw (959 + e)))).map Fl.D.write) = _
    rw [read_fin2 hb, read_fin2 p1, p2, p3, p4]
    show some (Fl.D.nearest (sg b ^^ false) _ _) = _
    rw [Bool.xor_false]
  have e2 : fop .mul b (pw (959 + e)) = Fl.D.nearest (sg b) (fM b * 4503599627370496) (-1074 + (fQ b : Int) + (-1074 + ((959 + e - 1 : Nat) : Int))) := by
    unfold fop; rw [e0]
  rw [e2, Fl.nearest_eq _ _ _ T (by omega)]
  refine congrArg (Fl.D.word (sg b)) ?_
  have e3 : (-1074 + (fQ b : Int) + (-1074 + ((959 + e - 1 : Nat) : Int)) + 1074 + ((T : Nat) : Int)).toNat = fQ b + (907 + e) := by omega
  rw [e3]
  clear e0 e2 e3
  have e4 : fM b * 4503599627370496 * 2 ^ (fQ b + (907 + e)) = x * 2 ^ T := by
    have k1 : 2 ^ (fQ b + (907 + e)) * 2 ^ 52 = 2 ^ fQ b * (2 ^ e * 2 ^ (T - 64)) := by
      rw [← Nat.pow_add, ← Nat.pow_add, ← Nat.pow_add]; congr 1; omega
    have k2 : 2 ^ T = 2 ^ 64 * 2 ^ (T - 64) := by rw [← Nat.pow_add]; congr 1; omega
    rw [k2, ← Nat.mul_assoc, ← hx]
    unfold mag
    rw [show (4503599627370496 : Nat) = 2 ^ 52 from rfl, Nat.mul_assoc, Nat.mul_comm (2 ^ 52), k1, Nat.mul_assoc, Nat.mul_assoc]
  rw [e4]
  by_cases hx0 : x = 0
  · subst hx0
    rw [Nat.zero_mul, Fl.rung_zero, Fl.rung_zero]
  · have := Fl.rung_scale x 0 T hx0
    rw [Nat.zero_add] at this
    exact this

theorem word_sgn (s : Bool) (x : Nat) : Fl.D.word s (Fl.rung x 0) = wordI s (sgn s x) := by
  unfold wordI sgn
  cases s
  · simp only [Bool.false_eq_true, if_false, Int.natAbs_natCast]
    congr 1
    split
    · rfl
    · exact (decide_eq_false (by omega)).symm
  · simp only [if_true, Int.natAbs_neg, Int.natAbs_natCast]
    congr 1
    split
    · rfl
    · exact (decide_eq_true (by omega)).symm
theorem sgn_mul (s : Bool) (x y : Nat) : sgn s (x * y) = sgn s x * (y : Int) := by
  unfold sgn
  cases s
  · rw [if_neg (by decide), if_neg (by decide), Int.natCast_mul]
  · rw [if_pos rfl, if_pos rfl, Int.natCast_mul, Int.neg_mul]
theorem sgn_abs (s : Bool) (x : Nat) : (sgn s x).natAbs = x := by unfold sgn; split <;> omega
theorem sval_mag (b : Nat) : sval b = sgn (sg b) (mag b) := sval_sgn b

/-- An element of the list: 0, or far from both ends. -/
theorem elem_scaled {b e : Nat} (hb : fin b) (he : e ≤ 128) (hm : mag b = 0 ∨ (2 ^ 124 ≤ mag b ∧ fQ b ≤ 1974)) :
    fin (fop .mul b (pw (959 + e))) ∧ sval (fop .mul b (pw (959 + e))) * ((2 ^ 64 : Nat) : Int) = sval b * ((2 ^ e : Nat) : Int) := by
  have key : ∃ S q, mag b * 2 ^ e = S * 2 ^ q * 2 ^ 64 ∧ S < 9007199254740992 ∧ q ≤ 2045 := by
    rcases hm with h0 | ⟨h1, h2⟩
    · exact ⟨0, 0, by rw [h0]; simp, by decide, by decide⟩
    · have h3 : 71 ≤ fQ b := by
        rcases Nat.lt_or_ge (fQ b) 71 with h4 | h4
        · exfalso
          have k1 : mag b < 2 ^ 53 * 2 ^ fQ b := Nat.mul_lt_mul_of_pos_right (fM_lt b) (Nat.two_pow_pos _)
          have k2 : 2 ^ 53 * 2 ^ fQ b ≤ 2 ^ 53 * 2 ^ 70 := Nat.mul_le_mul_left _ (Nat.pow_le_pow_right (by decide) (by omega))
          omega
        · exact h4
      refine ⟨fM b, fQ b + e - 64, ?_, fM_lt b, by omega⟩
      unfold mag
      rw [Nat.mul_assoc, Nat.mul_assoc, ← Nat.pow_add, ← Nat.pow_add]
      congr 2
      omega
  obtain ⟨S, q, k1, k2, k3⟩ := key
  rw [mul_pw hb he k1, word_sgn]
  obtain ⟨f1, f2, _⟩ := wordI_fin (sg b) (sgn (sg b) (S * 2 ^ q)) S q (sgn_abs _ _) k2 k3
  refine ⟨f1, ?_⟩
  rw [f2, ← sgn_mul, ← k1, sgn_mul, ← sval_mag]

theorem rne_norm {A L : Nat} (h1 : 2 ^ (L + 52) ≤ A) (h2 : A < 2 ^ (L + 53)) : 4503599627370496 ≤ Fl.rne A L ∧ Fl.rne A L ≤ 9007199254740992 := by
  have hp := Nat.two_pow_pos L
  have e1 : 4503599627370496 * 2 ^ L ≤ A := by rw [show (4503599627370496 : Nat) = 2 ^ 52 from rfl, ← Nat.pow_add, Nat.add_comm]; exact h1
  have e2 : A < 9007199254740992 * 2 ^ L := by rw [show (9007199254740992 : Nat) = 2 ^ 53 from rfl, ← Nat.pow_add, Nat.add_comm 53]; exact h2
  have d1 : 4503599627370496 ≤ A / 2 ^ L := (Nat.le_div_iff_mul_le hp).2 e1
  have d2 : A / 2 ^ L < 9007199254740992 := (Nat.div_lt_iff_lt_mul hp).2 e2
  unfold Fl.rne
  generalize A / 2 ^ L = u at *
  split <;> omega
theorem blk_succ (B j : Nat) : (j + 1) * B + B = j * B + B * 2 := by rw [Nat.succ_mul]; generalize j * B = u; omega
theorem blk_j1 (B j R : Nat) (hB : 0 < B) (h1 : B ≤ R) (h : j * B + R < 2047 * B) : j ≤ 2045 := by
  have : (j + 1) * B < 2047 * B := by rw [Nat.succ_mul]; omega
  have := Nat.lt_of_mul_lt_mul_right this
  omega
theorem blk_j2 (B j : Nat) (h : j * B + B * 2 < 2047 * B) : j + 1 ≤ 2045 := by
  rw [← blk_succ, ← Nat.succ_mul] at h
  have := Nat.lt_of_mul_lt_mul_right h
  omega
theorem rung_up (R j : Nat) (h1 : 4503599627370496 ≤ R) (h2 : R ≤ 9007199254740992) : Fl.rung (R * 2 ^ j) 0 = min (j * 4503599627370496 + R) 9218868437227405312 := by
  by_cases h : R < 9007199254740992
  · have := rung_val R j 0 h1 h
    rw [Nat.add_zero] at this
    exact this
  · have e : R = 4503599627370496 * 2 := by omega
    have := rung_val 4503599627370496 (j + 1) 0 (by decide) (by decide)
    rw [Nat.add_zero, blk_succ] at this
    rw [e, Nat.mul_assoc, Nat.mul_comm 2, ← Nat.pow_succ]
    exact this
theorem mag_up (R j : Nat) (h1 : 4503599627370496 ≤ R) (h2 : R ≤ 9007199254740992) (hj : j * 4503599627370496 + R < 9218868437227405312) : mag (j * 4503599627370496 + R) = R * 2 ^ j := by
  have hj2 : j ≤ 2045 := blk_j1 4503599627370496 j R (by decide) h1 hj
  have hr := rung_up R j h1 h2
  rw [Nat.min_eq_left (Nat.le_of_lt hj)] at hr
  by_cases h : R < 9007199254740992
  · rw [← hr]; exact (rung_exact R j h hj2).2
  · have e : R = 4503599627370496 * 2 := by omega
    have hj3 : j + 1 ≤ 2045 := by rw [e] at hj; exact blk_j2 4503599627370496 j hj
    have := (rung_exact 4503599627370496 (j + 1) (by decide) hj3).2
    rw [← hr, e, Nat.mul_assoc, Nat.mul_comm 2, ← Nat.pow_succ]
    exact this
theorem rung_norm {A t : Nat} (h : 52 + t ≤ A.log2) : Fl.rung A t = min ((A.log2 - 52 - t) * 4503599627370496 + Fl.rne A (A.log2 - 52)) 9218868437227405312 := by
  unfold Fl.rung
  rw [show max (A.log2 - 52) t = A.log2 - 52 from by omega]

theorem scale_exact {A A' e : Nat} (hA : A ≠ 0) (hA' : A' * 2 ^ 64 = A * 2 ^ e) (hfin : Fl.rung A 0 < 9218868437227405312) (hlow : 2 ^ 124 ≤ mag (Fl.rung A 0)) :
    ∃ x, mag (Fl.rung A 0) * 2 ^ e = x * 2 ^ 64 ∧ Fl.rung A' 0 = Fl.rung x 0 := by
  have hL0 : 53 ≤ A.log2 := by
    rcases Nat.lt_or_ge A 9007199254740992 with h | h
    · exfalso
      have := (rung_exact A 0 h (by decide)).2
      rw [Nat.pow_zero, Nat.mul_one] at this
      omega
    · exact (Nat.le_log2 hA).2 h
  have hlo := Nat.log2_self_le hA
  have hhi := Fl.lt_log2 A
  have hn := rung_norm (A := A) (t := 0) (by omega)
  have hA0 : A' ≠ 0 := by
    intro h0
    rw [h0, Nat.zero_mul] at hA'
    have := Nat.mul_pos (Nat.pos_of_ne_zero hA) (Nat.two_pow_pos e)
    omega
  have hs1 := Fl.rung_scale A' 0 64 hA0
  rw [Nat.zero_add, hA'] at hs1
  have hl2 := Fl.log2_mul_pow A e hA
  have hlog : ∀ L, A.log2 = L → A.log2 = L := fun _ h => h
  generalize hL : A.log2 = L at *
  obtain ⟨j, rfl⟩ : ∃ j, L = j + 52 := ⟨L - 52, by omega⟩
  obtain ⟨r1, r2⟩ := rne_norm (A := A) (L := j) hlo hhi
  rw [Nat.add_sub_cancel, Nat.sub_zero] at hn
  have hsc := Fl.rne_scale A j e
  generalize Fl.rne A j = R at *
  have hlt : j * 4503599627370496 + R < 9218868437227405312 := by
    rw [hn] at hfin
    rcases Nat.lt_or_ge (j * 4503599627370496 + R) 9218868437227405312 with h | h
    · exact h
    · rw [Nat.min_eq_right h] at hfin; exact absurd hfin (Nat.lt_irrefl _)
  rw [Nat.min_eq_left (Nat.le_of_lt hlt)] at hn
  have hmag : mag (Fl.rung A 0) = R * 2 ^ j := by rw [hn]; exact mag_up R j r1 r2 hlt
  have hj : 71 ≤ j := by
    rcases Nat.lt_or_ge j 71 with h4 | h4
    · exfalso
      have k1 : R * 2 ^ j ≤ 2 ^ 53 * 2 ^ j := Nat.mul_le_mul_right _ r2
      have k2 : 2 ^ 53 * 2 ^ j ≤ 2 ^ 53 * 2 ^ 70 := Nat.mul_le_mul_left _ (Nat.pow_le_pow_right (by decide) (by omega))
      rw [hmag] at hlow
      omega
    · exact h4
  refine ⟨R * 2 ^ (j + e - 64), ?_, ?_⟩
  · rw [hmag, Nat.mul_assoc, Nat.mul_assoc, ← Nat.pow_add, ← Nat.pow_add]
    congr 2
    omega
  · rw [← hs1, rung_norm (by rw [hl2]; omega), hl2, rung_up R _ r1 r2]
    rw [show j + 52 + e - 52 = j + e from by omega, hsc]
end Go.Proofs.Ytdfbmfmfhdifpaa
