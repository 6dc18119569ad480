/- The exact sum does not hang on the order; numbers with their negatives put in turn nothing. -/
import Derived.Test.YtdfbmfmfhdifpaaWl
namespace Go.Proofs.Ytdfbmfmfhdifpaa
open Ieee Go.RowKit

/-- The sum of what t tells of the words. -/
def ssum (t : Nat → Int) (g : Nat → Nat) : Nat → Int
  | 0 => 0
  | k + 1 => ssum t g k + t (g k)
def upd (g : Nat → Nat) (j v : Nat) : Nat → Nat := fun i => if i = j then v else g i
def front (v : Nat) (g : Nat → Nat) : Nat → Nat := fun i => if i = 0 then v else g (i - 1)
theorem ssum_congr {t : Nat → Int} {g g' : Nat → Nat} {n : Nat} (h : ∀ j, j < n → g j = g' j) : ssum t g n = ssum t g' n := by
  induction n with
  | zero => rfl
  | succ n ih => rw [ssum, ssum, ih (fun j hj => h j (by omega)), h n (by omega)]
theorem ssum_upd (t : Nat → Int) (g : Nat → Nat) (n j v : Nat) (hj : j < n) : ssum t (upd g j v) n = ssum t g n - t (g j) + t v := by
  induction n with
  | zero => omega
  | succ n ih =>
    rw [ssum, ssum]
    by_cases e : j = n
    · subst e
      rw [ssum_congr (g' := g) (fun i hi => by unfold upd; rw [if_neg (by omega)])]
      unfold upd
      rw [if_pos rfl]
      omega
    · rw [ih (by omega)]
      have : upd g j v n = g n := by unfold upd; rw [if_neg (by omega)]
      rw [this]
      omega
theorem ssum_front (t : Nat → Int) (g : Nat → Nat) (n v : Nat) : ssum t (front v g) (n + 1) = t v + ssum t g n := by
  induction n with
  | zero => simp [ssum, front]
  | succ n ih =>
    rw [ssum, ih, ssum]
    have : front v g (n + 1) = g n := by unfold front; rw [if_neg (by omega)]; rfl
    rw [this]
    omega
theorem ssum_nonneg {t : Nat → Int} (h : ∀ b, 0 ≤ t b) (g : Nat → Nat) (n : Nat) : 0 ≤ ssum t g n := by
  induction n with
  | zero => exact Int.le_refl _
  | succ n ih => rw [ssum]; have := h (g n); omega
/-- Two places exchanged. -/
def swp (g : Nat → Nat) (h j : Nat) : Nat → Nat := upd (upd g h (g j)) j (g h)
theorem ssum_swp (t : Nat → Int) (g : Nat → Nat) (n h j : Nat) (hh : h < n) (hj : j < n) : ssum t (swp g h j) n = ssum t g n := by
  unfold swp
  rw [ssum_upd _ _ _ _ _ hj, ssum_upd _ _ _ _ _ hh]
  have : upd g h (g j) j = g j := by unfold upd; split <;> rfl
  rw [this]
  omega

/-! ### What the exact sum asks of its words, as sums -/
def tC (c : Nat) : Nat → Int := fun b => if c = cN b then 1 else 0
def tS : Nat → Int := fun b => if finB b = true then sval b else 0
def tN : Nat → Int := fun b => if cN b = 4 then 0 else 1
theorem tC_nonneg (c b : Nat) : 0 ≤ tC c b := by unfold tC; split <;> omega
theorem tN_nonneg (b : Nat) : 0 ≤ tN b := by unfold tN; split <;> omega
theorem seen_sum (g : Nat → Nat) (n c : Nat) : seenF g n c = decide (ssum (tC c) g n ≠ 0) := by
  induction n with
  | zero => rfl
  | succ n ih =>
    have h0 := ssum_nonneg (tC_nonneg c) g n
    rw [seenF, ssum]
    by_cases e : c = cN (g n)
    · have : tC c (g n) = 1 := by unfold tC; rw [if_pos e]
      rw [if_pos e, this]
      exact (decide_eq_true (by omega)).symm
    · have : tC c (g n) = 0 := by unfold tC; rw [if_neg e]
      rw [if_neg e, this, ih, Int.add_zero]
theorem sumF_sum (g : Nat → Nat) (n : Nat) : sumF g n = ssum tS g n := by
  induction n with
  | zero => rfl
  | succ n ih =>
    rw [sumF, ssum, ih]
    unfold tS
    split
    · rfl
    · rw [Int.add_zero]
theorem all4_sum (g : Nat → Nat) (n : Nat) : all4 g n = decide (ssum tN g n = 0) := by
  induction n with
  | zero => rfl
  | succ n ih =>
    have h0 := ssum_nonneg tN_nonneg g n
    rw [all4, ih, ssum]
    by_cases e : cN (g n) = 4
    · have : tN (g n) = 0 := by unfold tN; rw [if_pos e]
      rw [this, e, Int.add_zero]
      simp
    · have : tN (g n) = 1 := by unfold tN; rw [if_neg e]
      rw [this, beq_eq_false_iff_ne.2 e, Bool.and_false]
      exact (decide_eq_false (by omega)).symm
/-- Lists of one length that hold the same words have one exact sum. -/
theorem exact_same {g g' : Nat → Nat} {n : Nat} (h : ∀ t, ssum t g' n = ssum t g n) : exactG g' n = exactG g n := by
  unfold exactG
  simp only [seen_sum, sumF_sum, all4_sum, h]

/-- What a sum keeps when a number and its negative are put in. -/
structure Paird (g : Nat → Nat) (n : Nat) (g' : Nat → Nat) (n' : Nat) : Prop where
  s9 : ssum (tC 9) g' n' = ssum (tC 9) g n
  s8 : ssum (tC 8) g' n' = ssum (tC 8) g n
  s1 : ssum (tC 1) g' n' = ssum (tC 1) g n
  ss : ssum tS g' n' = ssum tS g n
theorem Paird.of_same {g g' : Nat → Nat} {n : Nat} (h : ∀ t, ssum t g' n = ssum t g n) : Paird g n g' n := ⟨h _, h _, h _, h _⟩
def negW (b : Nat) : Nat := if b < 9223372036854775808 then b + 9223372036854775808 else b - 9223372036854775808
theorem fin_neg {b : Nat} (h : fin b) : fin (negW b) := by
  have h1 := h.1
  have h2 := h.2
  unfold negW
  split
  · exact ⟨by omega, by omega⟩
  · exact ⟨by omega, by omega⟩
theorem sval_neg {b : Nat} (h : fin b) : sval (negW b) = -sval b := by
  have h1 := h.1
  unfold negW
  split
  · have e : mag (b + 9223372036854775808) = mag b := by
      rw [← mag_mod (b + 9223372036854775808), ← mag_mod b, show (b + 9223372036854775808) % 9223372036854775808 = b % 9223372036854775808 from by omega]
    unfold sval
    rw [if_pos (by omega), if_neg (by omega), e]
  · have e : mag (b - 9223372036854775808) = mag b := by
      rw [← mag_mod (b - 9223372036854775808), ← mag_mod b, show (b - 9223372036854775808) % 9223372036854775808 = b % 9223372036854775808 from by omega]
    unfold sval
    rw [if_neg (by omega), if_pos (by omega), e]
    omega
theorem tC_fin {b : Nat} (h : fin b) (c : Nat) (hc : c = 9 ∨ c = 8 ∨ c = 1) : tC c b = 0 := by
  have := fin_cls h
  unfold tC
  rw [if_neg (by omega)]
theorem tS_fin {b : Nat} (h : fin b) : tS b = sval b := by unfold tS; rw [if_pos (fin_finB h)]
theorem Paird.put {g g' : Nat → Nat} {n n' f : Nat} (h : Paird g n g' n') (hf : fin f) : Paird g n (front (negW f) (upd g' n' f)) (n' + 1 + 1) := by
  have e : ∀ t : Nat → Int, ssum t (front (negW f) (upd g' n' f)) (n' + 1 + 1) = t (negW f) + (ssum t g' n' + t f) := by
    intro t
    rw [ssum_front, ssum]
    have e1 : upd g' n' f n' = f := by unfold upd; rw [if_pos rfl]
    have e2 : ssum t (upd g' n' f) n' = ssum t g' n' := ssum_congr fun j hj => by unfold upd; rw [if_neg (by omega)]
    rw [e1, e2]
  have hm := fin_neg hf
  refine ⟨?_, ?_, ?_, ?_⟩
  · rw [e, tC_fin hm 9 (by omega), tC_fin hf 9 (by omega), h.s9]; omega
  · rw [e, tC_fin hm 8 (by omega), tC_fin hf 8 (by omega), h.s8]; omega
  · rw [e, tC_fin hm 1 (by omega), tC_fin hf 1 (by omega), h.s1]; omega
  · rw [e, tS_fin hm, tS_fin hf, sval_neg hf, h.ss]; omega

/-- f - f: zero where f is finite, else a NaN. -/
theorem sub_self_fin {b : Nat} (h : fin b) : fop .sub b b = 0 := by
  rw [sub_fin h h, Int.sub_self, wordI_zero]
  simp
theorem sub_self_not {b : Nat} (hb : b < 18446744073709551616) (h : ¬ fin b) : fop .sub b b = nanW := by
  by_cases e : b % 9223372036854775808 = 9218868437227405312
  · have : b = 9218868437227405312 ∨ b = 18442240474082181120 := by omega
    rcases this with rfl | rfl <;> decide +kernel
  · have hn : b % 9223372036854775808 > 9218868437227405312 := by
      unfold fin at h
      omega
    have := arith_nan_left .sub b b (read_nan b hn)
    unfold fop
    rw [this]
/-- Whether f - f is 0. -/
theorem test_fin {b r : Nat} (h : fin b) (hr : cn r = fop .sub b b) : (FloatKind.f64.format.order r 0 != some .eq) = false := by
  rw [sub_self_fin h] at hr
  have e : r = 0 := eq_of_cn hr (by decide)
  subst e
  decide +kernel
theorem test_not {b r : Nat} (hb : b < 18446744073709551616) (h : ¬ fin b) (hr : cn r = fop .sub b b) : (FloatKind.f64.format.order r 0 != some .eq) = true := by
  rw [sub_self_not hb h] at hr
  have hn : r % 9223372036854775808 > 9218868437227405312 := by
    unfold cn at hr
    split at hr
    · assumption
    · rw [hr]; decide
  rw [order_nan_left hn]
  rfl

theorem order_self {a : Nat} (h : ¬ a % 9223372036854775808 > 9218868437227405312) : (FloatKind.f64.format.order a a == some .eq) = true := by
  have := order_refl _ (read_num a h)
  show (((Fl.D.read a).order (Fl.D.read a)) == some .eq) = true
  rw [this]
  rfl
theorem order_zeros : (FloatKind.f64.format.order 0 9223372036854775808 == some .eq) = true ∧ (FloatKind.f64.format.order 9223372036854775808 0 == some .eq) = true := by
  constructor <;> decide +kernel
theorem word_num (s : Bool) (a : Nat) : ¬ Fl.D.word s (Fl.rung a 0) % 9223372036854775808 > 9218868437227405312 := by
  have := rung_le a 0
  cases s
  · rw [word_false]; omega
  · rw [word_true]; omega
/-- The end of SumsNoOrder. -/
theorem par_end {g g' : Nat → Nat} {n n' : Nat} (h : Paird g n g' n') :
    (exactG g n = nanW ∧ exactG g' n' = nanW) ∨ (FloatKind.f64.format.order (exactG g n) (exactG g' n') == some .eq) = true := by
  have hs : seenF g' n' 9 = seenF g n 9 ∧ seenF g' n' 8 = seenF g n 8 ∧ seenF g' n' 1 = seenF g n 1 ∧ sumF g' n' = sumF g n := by
    simp only [seen_sum, sumF_sum, h.s9, h.s8, h.s1, h.ss, and_self]
  obtain ⟨h9, h8, h1, hS⟩ := hs
  by_cases c1 : (seenF g n 9 || (seenF g n 8 && seenF g n 1)) = true
  · left
    exact ⟨exactG_nan c1, exactG_nan (by rw [h9, h8, h1]; exact c1)⟩
  · right
    have c1' : (seenF g n 9 || (seenF g n 8 && seenF g n 1)) = false := Bool.eq_false_iff.2 c1
    rw [Bool.or_eq_false_iff] at c1'
    obtain ⟨d9, d81⟩ := c1'
    cases d8 : seenF g n 8 with
    | true =>
      rw [d8, Bool.true_and] at d81
      rw [exactG_inf d9 d8 d81, exactG_inf (h9.trans d9) (h8.trans d8) (h1.trans d81)]
      decide +kernel
    | false =>
      cases d1 : seenF g n 1 with
      | true =>
        rw [exactG_ninf d9 d8 d1, exactG_ninf (h9.trans d9) (h8.trans d8) (h1.trans d1)]
        decide +kernel
      | false =>
        by_cases hz : sumF g n = 0
        · rw [exactG_zero d9 d8 d1 hz, exactG_zero (h9.trans d9) (h8.trans d8) (h1.trans d1) (hS.trans hz)]
          have z := order_zeros
          split <;> split
          · exact order_self (by decide)
          · exact z.2
          · exact z.1
          · exact order_self (by decide)
        · rw [exactG_sum d9 d8 d1 hz, exactG_sum (h9.trans d9) (h8.trans d8) (h1.trans d1) (by rw [hS]; exact hz), hS]
          exact order_self (word_num _ _)
end Go.Proofs.Ytdfbmfmfhdifpaa
