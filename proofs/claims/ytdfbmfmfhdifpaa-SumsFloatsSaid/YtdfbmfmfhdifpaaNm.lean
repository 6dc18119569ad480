/- Nearest: what it answers where the other number is a power of two. -/
import Derived.Test.YtdfbmfmfhdifpaaNl
namespace Go.Proofs.Ytdfbmfmfhdifpaa
open Go.RowKit

theorem rung_bits {N b : Nat} (hN : N ≠ 0) (hb : blen N = b) : Fl.rung N 0 = bitsOf (b - 53) (Fl.rne N (b - 53)) := by
  have hl : N.log2 + 1 = b := by rw [← hb]; unfold blen; rw [if_neg hN]
  unfold Fl.rung bitsOf
  have e : max (N.log2 - 52) 0 = b - 53 := by omega
  rw [e, Nat.sub_zero]
theorem rung_low {N : Nat} (h : N < 9007199254740992) : Fl.rung N 0 = N := by
  by_cases hN : N = 0
  · subst hN; exact Fl.rung_zero 0
  · rw [rung_bits hN rfl]
    have hl : N.log2 < 53 := (Nat.log2_lt hN).2 h
    have e : blen N - 53 = 0 := by unfold blen; rw [if_neg hN]; omega
    rw [e, Fl.rne_zero]
    unfold bitsOf
    omega
theorem near_core {N b q : Nat} {more : Bool} (hN : N ≠ 0) (hb : blen N = b) (h54 : 54 ≤ b)
    (h : (b ≤ 56 ∧ q = N * 2 ^ (56 - b) ∧ more = false) ∨ (56 < b ∧ q = N / 2 ^ (b - 56) ∧ more = decide (N % 2 ^ (b - 56) ≠ 0))) :
    36028797018963968 ≤ q ∧ q < 72057594037927936 ∧ bitsOf (b - 53) (up3 q more) = Fl.rung N 0 := by
  have hl := blen_lt N
  obtain ⟨hg, _⟩ := blen_le hN
  rw [hb] at hl hg
  rw [rung_bits hN hb]
  rcases h with ⟨h1, rfl, rfl⟩ | ⟨h1, rfl, rfl⟩
  · have e1 : 2 ^ (b - 1) * 2 ^ (56 - b) = 36028797018963968 := by rw [← Nat.pow_add, show b - 1 + (56 - b) = 55 by omega]
    have e2 : 2 ^ b * 2 ^ (56 - b) = 72057594037927936 := by rw [← Nat.pow_add, show b + (56 - b) = 56 by omega]
    have m1 := Nat.mul_le_mul_right (2 ^ (56 - b)) hg
    have m2 := Nat.mul_lt_mul_of_pos_right hl (Nat.two_pow_pos (56 - b))
    rw [e1] at m1
    rw [e2] at m2
    refine ⟨m1, m2, ?_⟩
    have hu := up3_rne (N * 2 ^ (56 - b)) 0
    rw [Nat.pow_zero, Nat.div_one, Nat.mod_one, Nat.zero_add] at hu
    have hd : decide ((0 : Nat) ≠ 0) = false := rfl
    rw [hd] at hu
    rw [hu]
    have hs := Fl.rne_scale N (b - 53) (56 - b)
    rw [show b - 53 + (56 - b) = 3 by omega] at hs
    rw [hs]
  · have hp := Nat.two_pow_pos (b - 56)
    refine ⟨?_, ?_, ?_⟩
    · rw [Nat.le_div_iff_mul_le hp]
      calc 36028797018963968 * 2 ^ (b - 56) = 2 ^ 55 * 2 ^ (b - 56) := rfl
        _ = 2 ^ (b - 1) := by rw [← Nat.pow_add, show 55 + (b - 56) = b - 1 by omega]
        _ ≤ N := hg
    · rw [Nat.div_lt_iff_lt_mul hp]
      calc N < 2 ^ b := hl
        _ = 2 ^ 56 * 2 ^ (b - 56) := by rw [← Nat.pow_add, show 56 + (b - 56) = b by omega]
        _ = 72057594037927936 * 2 ^ (b - 56) := rfl
    · rw [up3_rne, show b - 56 + 3 = b - 53 by omega]
/-- The quotient and what is left, for the two ways of shifting. -/
theorem near_low {N b k : Nat} (hN : N ≠ 0) (hb : blen N = b) (h54 : 54 ≤ b) (hlt : b < k + 56) :
    36028797018963968 ≤ N * 2 ^ (k + 56 - b) / 2 ^ k ∧ N * 2 ^ (k + 56 - b) / 2 ^ k < 72057594037927936
      ∧ bitsOf (b - 53) (up3 (N * 2 ^ (k + 56 - b) / 2 ^ k) (decide (N * 2 ^ (k + 56 - b) % 2 ^ k ≠ 0))) = Fl.rung N 0 := by
  apply near_core hN hb h54
  by_cases h1 : b ≤ 56
  · left
    have e : N * 2 ^ (k + 56 - b) = N * 2 ^ (56 - b) * 2 ^ k := by rw [Nat.mul_assoc, ← Nat.pow_add, show 56 - b + k = k + 56 - b by omega]
    rw [e, Nat.mul_div_cancel _ (Nat.two_pow_pos k), Nat.mul_mod_left]
    exact ⟨h1, rfl, rfl⟩
  · right
    have e : 2 ^ k = 2 ^ (b - 56) * 2 ^ (k + 56 - b) := by rw [← Nat.pow_add, show b - 56 + (k + 56 - b) = k by omega]
    have hp := Nat.two_pow_pos (k + 56 - b)
    rw [e, Nat.mul_div_mul_right _ _ hp, Nat.mul_mod_mul_right]
    refine ⟨by omega, rfl, ?_⟩
    congr 1
    apply propext
    rw [Nat.mul_ne_zero_iff]
    exact ⟨fun h => h.1, fun h => ⟨h, by omega⟩⟩
theorem near_high {N b k : Nat} (hN : N ≠ 0) (hb : blen N = b) (h54 : 54 ≤ b) (hge : k + 56 ≤ b) :
    36028797018963968 ≤ N / (2 ^ k * 2 ^ (b - (k + 56))) ∧ N / (2 ^ k * 2 ^ (b - (k + 56))) < 72057594037927936
      ∧ bitsOf (b - 53) (up3 (N / (2 ^ k * 2 ^ (b - (k + 56)))) (decide (N % (2 ^ k * 2 ^ (b - (k + 56))) ≠ 0))) = Fl.rung N 0 := by
  apply near_core hN hb h54
  rw [← Nat.pow_add, show k + (b - (k + 56)) = b - 56 by omega]
  by_cases h1 : b = 56
  · left
    subst h1
    exact ⟨by omega, by simp, by simp [Nat.mod_one]⟩
  · right
    exact ⟨by omega, rfl, rfl⟩
end Go.Proofs.Ytdfbmfmfhdifpaa
