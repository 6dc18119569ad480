/- Whole numbers: every sum of them is exact. -/
import Derived.Test.YtdfbmfmfhdifpaaNu
namespace Go.Proofs.Ytdfbmfmfhdifpaa
open Go.RowKit

def isum (p : Nat → Int) : Nat → Int
  | 0 => 0
  | k + 1 => isum p k + p k
def asum (p : Nat → Int) : Nat → Nat
  | 0 => 0
  | k + 1 => asum p k + (p k).natAbs
def gW (p : Nat → Int) : Nat → Nat := fun j => Wz (p j)
theorem isum_abs (p : Nat → Int) (n : Nat) : (isum p n).natAbs ≤ asum p n := by
  induction n with
  | zero => simp [isum, asum]
  | succ n ih => rw [isum, asum]; omega
theorem asum_le (p : Nat → Int) {j n : Nat} (h : j < n) : (p j).natAbs ≤ asum p n := by
  induction n with
  | zero => omega
  | succ n ih =>
    rw [asum]
    by_cases e : j = n
    · subst e; omega
    · have := ih (by omega); omega
theorem asum_pre (p : Nat → Int) {j n : Nat} (h : j ≤ n) : asum p j ≤ asum p n := by
  induction n with
  | zero => rw [show j = 0 from by omega]; exact Nat.le_refl _
  | succ n ih =>
    by_cases e : j = n + 1
    · subst e; exact Nat.le_refl _
    · have := ih (by omega); rw [asum]; omega
theorem isum_cut (p : Nat → Int) (h m : Nat) : isum p (h + m) = isum p h + isum (fun j => p (h + j)) m := by
  induction m with
  | zero => simp [isum]
  | succ m ih => rw [← Nat.add_assoc, isum, ih, isum]; omega
theorem asum_cut (p : Nat → Int) (h m : Nat) : asum p (h + m) = asum p h + asum (fun j => p (h + j)) m := by
  induction m with
  | zero => simp [asum]
  | succ m ih => rw [← Nat.add_assoc, asum, ih, asum]; omega

theorem left_whole (p : Nat → Int) (n : Nat) (h : asum p n ≤ 9007199254740992) : leftG (gW p) n = Wz (isum p n) := by
  induction n with
  | zero => exact Wz_zero.symm
  | succ n ih =>
    cases n with
    | zero => simp [leftG, gW, isum]
    | succ n =>
      have h1 := asum_pre p (j := n + 1) (n := n + 1 + 1) (by omega)
      have h2 := asum_le p (j := n + 1) (n := n + 1 + 1) (by omega)
      have h3 := isum_abs p (n + 1)
      rw [leftG, ih (by omega)]
      show fop .add (Wz _) (Wz (p (n + 1))) = _
      rw [Wz_add (by omega) (by omega)]
      rfl
theorem pair_whole (k : Nat) : ∀ (p : Nat → Int) (n : Nat), n ≤ k → asum p n ≤ 9007199254740992 → pairK k (gW p) n = Wz (isum p n) := by
  induction k with
  | zero =>
    intro p n hn _
    rw [show n = 0 from by omega]
    exact Wz_zero.symm
  | succ k ih =>
    intro p n hn h
    rw [pairK]
    by_cases h0 : n = 0
    · subst h0; rw [if_pos rfl]; exact Wz_zero.symm
    · rw [if_neg h0]
      by_cases h1 : n = 1
      · subst h1; rw [if_pos rfl]; simp [gW, isum]
      · rw [if_neg h1]
        generalize hm : (n + 1) / 2 = m
        have e : n = m + (n - m) := by omega
        have a1 := asum_cut p m (n - m)
        have s1 := isum_cut p m (n - m)
        rw [← e] at a1 s1
        have b1 := isum_abs p m
        have b2 := isum_abs (fun j => p (m + j)) (n - m)
        rw [ih p m (by omega) (by omega)]
        have := ih (fun j => p (m + j)) (n - m) (by omega) (by omega)
        rw [show (fun j => gW p (m + j)) = gW (fun j => p (m + j)) from rfl, this, Wz_add (by omega) (by omega), s1]
theorem add00 : fop .add 0 0 = 0 := by
  have := Wz_add (a := 0) (b := 0) (by decide) (by decide)
  rw [Wz_zero] at this
  exact this
theorem keptSt_whole (p : Nat → Int) (n : Nat) (h : asum p n ≤ 9007199254740992) : keptSt (gW p) n = (Wz (isum p n), 0) := by
  induction n with
  | zero => rw [keptSt, isum, Wz_zero]
  | succ n ih =>
    cases n with
    | zero => simp [keptSt, gW, isum]
    | succ n =>
      have h1 := asum_pre p (j := n + 1) (n := n + 1 + 1) (by omega)
      have h2 := asum_le p (j := n + 1) (n := n + 1 + 1) (by omega)
      have h3 := isum_abs p (n + 1)
      have h4 := isum_abs p (n + 1 + 1)
      have ei : isum p (n + 1 + 1) = isum p (n + 1) + p (n + 1) := rfl
      rw [keptSt, ih (by omega)]
      show (fop .add (Wz (isum p (n + 1))) (Wz (p (n + 1))),
        if absge (Wz (isum p (n + 1))) (Wz (p (n + 1))) = true
        then fop .add 0 (fop .add (fop .sub (Wz (isum p (n + 1))) (fop .add (Wz (isum p (n + 1))) (Wz (p (n + 1))))) (Wz (p (n + 1))))
        else fop .add 0 (fop .add (fop .sub (Wz (p (n + 1))) (fop .add (Wz (isum p (n + 1))) (Wz (p (n + 1))))) (Wz (isum p (n + 1))))) = _
      rw [ei]
      generalize isum p (n + 1) = s at *
      generalize p (n + 1) = x at *
      rw [Wz_add (by omega) (by omega), Wz_sub (by omega) (by omega), Wz_add (by omega) (by omega), Wz_sub (by omega) (by omega), Wz_add (by omega) (by omega),
        show s - (s + x) + x = 0 from by omega, show x - (s + x) + s = 0 from by omega, Wz_zero, add00]
      simp
theorem kept_whole (p : Nat → Int) (n : Nat) (h : asum p n ≤ 9007199254740992) : keptG (gW p) n = Wz (isum p n) := by
  unfold keptG
  split
  · exact left_whole p n h
  · rw [keptSt_whole p n h]
    have h3 := isum_abs p n
    show fop .add (Wz _) 0 = _
    rw [← Wz_zero, Wz_add (by omega) (by decide), Int.add_zero]

theorem fin_cls {b : Nat} (h : fin b) : 1 < cN b ∧ cN b < 8 := by
  have h2 := h.2
  have h1 := h.1
  unfold cN classN
  rw [if_neg (by omega)]
  by_cases e1 : b % 9223372036854775808 = 0
  · simp only [e1, if_true]; split <;> decide
  · by_cases e2 : b % 9223372036854775808 < 4503599627370496
    · simp only [e1, e2, if_true, if_false]; split <;> decide
    · have e3 : ¬ b % 9223372036854775808 = 9218868437227405312 := by omega
      simp only [e1, e2, e3, if_false]; split <;> decide
theorem fin_finB {b : Nat} (h : fin b) : finB b = true := decide_eq_true (fin_cls h)
theorem cls4 {b : Nat} (hb : b < 18446744073709551616) (h : cN b = 4) : b = 9223372036854775808 := by
  unfold cN classN at h
  by_cases e0 : b % 9223372036854775808 > 9218868437227405312
  · rw [if_pos e0] at h; exact absurd h (by decide)
  · rw [if_neg e0] at h
    by_cases e1 : b % 9223372036854775808 = 0
    · simp only [e1, if_true] at h
      split at h
      · omega
      · exact absurd h (by decide)
    · exfalso
      simp only [e1, if_false] at h
      split at h <;> split at h <;> first | exact absurd h (by decide) | (split at h <;> exact absurd h (by decide))
theorem cls4_of : cN 9223372036854775808 = 4 := by decide
theorem seen_none {g : Nat → Nat} {n c : Nat} (h : ∀ j, j < n → cN (g j) ≠ c) : seenF g n c = false := by
  induction n with
  | zero => rfl
  | succ n ih =>
    rw [seenF, if_neg (fun e => h n (by omega) e.symm)]
    exact ih fun j hj => h j (by omega)
theorem sum_whole (p : Nat → Int) (n : Nat) (h : asum p n ≤ 9007199254740992) : sumF (gW p) n = isum p n * (U : Int) := by
  induction n with
  | zero => simp [sumF, isum]
  | succ n ih =>
    have h1 := asum_pre p (j := n) (n := n + 1) (by omega)
    have h2 := asum_le p (j := n) (n := n + 1) (by omega)
    obtain ⟨k1, k2, _⟩ := Wz_fin (z := p n) (by omega)
    rw [sumF, if_pos (fin_finB (show fin (gW p n) from k1)), ih (by omega)]
    show _ + sval (Wz (p n)) = _
    rw [k2, isum, Int.add_mul]
theorem wordI_ne {x : Int} (s : Bool) (h : x ≠ 0) : wordI s x = Fl.D.word (decide (x < 0)) (Fl.rung x.natAbs 0) := by unfold wordI; rw [if_neg h]
theorem exact_whole (p : Nat → Int) (n : Nat) (h : asum p n ≤ 9007199254740992) : exactG (gW p) n = Wz (isum p n) := by
  have hf : ∀ j, j < n → fin (gW p j) := fun j hj => (Wz_fin (by have := asum_le p hj; omega)).1
  have hs : ∀ c, (c = 9 ∨ c = 8 ∨ c = 1) → seenF (gW p) n c = false := fun c hc => seen_none fun j hj => by have := fin_cls (hf j hj); omega
  by_cases h0 : sumF (gW p) n = 0
  · rw [exactG_zero (hs 9 (.inl rfl)) (hs 8 (.inr (.inl rfl))) (hs 1 (.inr (.inr rfl))) h0]
    rw [sum_whole p n h] at h0
    have hU := U_pos
    have hz : isum p n = 0 := by
      rcases Int.mul_eq_zero.1 h0 with h1 | h1
      · exact h1
      · omega
    rw [hz, Wz_zero]
    rw [if_neg]
    rintro ⟨h1, h2⟩
    have h4 : cN (gW p 0) = 4 := by
      by_cases e : cN (gW p 0) = 4
      · exact e
      · rw [all4_false (show 0 < n by omega) e] at h2; cases h2
    have h5 := cls4 (hf 0 (by omega)).1 h4
    obtain ⟨_, k2, k3⟩ := Wz_fin (z := p 0) (by have := asum_le p (show 0 < n by omega); omega)
    have h5' : Wz (p 0) = 9223372036854775808 := h5
    rw [h5'] at k2 k3
    have k4 := k3 (by decide)
    have k5 : sval 9223372036854775808 = 0 := by decide
    rw [k5] at k2
    rcases Int.mul_eq_zero.1 k2.symm with h1 | h1 <;> omega
  · rw [exactG_sum (hs 9 (.inl rfl)) (hs 8 (.inr (.inl rfl))) (hs 1 (.inr (.inr rfl))) h0, ← wordI_ne false h0, sum_whole p n h, ← Wz_eq]
theorem Wz_cn {z : Int} (h : z.natAbs ≤ 9007199254740992) : cn (Wz z) = Wz z := by
  have := (Wz_fin h).1.2
  unfold cn
  rw [if_neg (by omega)]
theorem Wz_nn {z : Int} (h : z.natAbs ≤ 9007199254740992) : Wz z ≠ nanW := by
  have := (Wz_fin h).1.2
  intro e
  rw [e] at this
  exact absurd this (by decide)
theorem Wz_eqq {z : Int} (h : z.natAbs ≤ 9007199254740992) : (FloatKind.f64.format.order (Wz z) (Wz z) == some .eq) = true := by
  have := (Wz_fin h).1.2
  have := order_refl _ (read_num (Wz z) (by omega))
  show (((Fl.D.read (Wz z)).order (Fl.D.read (Wz z))) == some .eq) = true
  rw [this]
  rfl
end Go.Proofs.Ytdfbmfmfhdifpaa
