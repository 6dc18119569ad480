/- Rounding of whole numbers and of products to IEEE double words, over Ieee's own functions: plain arithmetic, no program in sight. -/
import Ieee.Arith
import Derived.Laws.FloatBits
namespace Go.Proofs.Ytdfbmfmfhdifpaa.Fl
open Ieee

/-- n / 2^d to the nearest whole number, a half to the even one. -/
def rne (n d : Nat) : Nat := n / 2 ^ d + (if 2 ^ d < 2 * (n % 2 ^ d) ∨ (2 ^ d = 2 * (n % 2 ^ d) ∧ n / 2 ^ d % 2 = 1) then 1 else 0)

theorem lt_log2 (n : Nat) : n < 2 ^ (n.log2 + 1) := Nat.lt_log2_self

theorem rne_scale (n d j : Nat) : rne (n * 2 ^ j) (d + j) = rne n d := by
  have hj : 0 < 2 ^ j := Nat.two_pow_pos _
  unfold rne
  rw [Nat.pow_add, Nat.mul_div_mul_right _ _ hj, Nat.mul_mod_mul_right]
  have e1 : (2 ^ d * 2 ^ j < 2 * (n % 2 ^ d * 2 ^ j)) ↔ (2 ^ d < 2 * (n % 2 ^ d)) := by
    rw [← Nat.mul_assoc]; exact Nat.mul_lt_mul_right hj
  have e2 : (2 ^ d * 2 ^ j = 2 * (n % 2 ^ d * 2 ^ j)) ↔ (2 ^ d = 2 * (n % 2 ^ d)) := by
    rw [← Nat.mul_assoc]; exact Nat.mul_left_inj (by omega)
  simp only [e1, e2]

theorem rne_zero (n : Nat) : rne n 0 = n := by
  unfold rne
  simp [Nat.mod_one]

theorem rne_exact (n d : Nat) : rne (n * 2 ^ d) d = n := by
  have := rne_scale n 0 d
  rw [Nat.zero_add] at this
  rw [this, rne_zero]

theorem rne_small (n d : Nat) (h : 2 * n < 2 ^ d) : rne n d = 0 := by
  unfold rne
  rw [Nat.div_eq_of_lt (by omega), Nat.mod_eq_of_lt (by omega)]
  rw [if_neg (by omega)]

theorem two_pow_succ (k : Nat) : 2 ^ (k + 1) = 2 * 2 ^ k := by rw [Nat.pow_succ, Nat.mul_comm]

/-- Ieee's own cut to the nearest is rne. -/
theorem cut_even (neg : Bool) (n d : Nat) : Toward.even.cut neg n d = rne n d := by
  unfold Toward.cut
  simp only [Nat.one_shiftLeft]
  by_cases h : d ≤ n.log2 + 2
  · rw [Nat.min_eq_left h]
    unfold rne
    congr 1
    by_cases hc : 2 ^ d < 2 * (n % 2 ^ d) ∨ (2 ^ d = 2 * (n % 2 ^ d) ∧ n / 2 ^ d % 2 = 1)
    · rw [if_pos hc]
      have : (decide (2 ^ d < 2 * (n % 2 ^ d)) || 2 ^ d == 2 * (n % 2 ^ d) && n / 2 ^ d % 2 == 1) = true := by
        simpa using hc
      rw [this]; rfl
    · rw [if_neg hc]
      have : (decide (2 ^ d < 2 * (n % 2 ^ d)) || 2 ^ d == 2 * (n % 2 ^ d) && n / 2 ^ d % 2 == 1) = false := by
        rw [← Bool.not_eq_true]; simpa using hc
      rw [this]; rfl
  · have hlt := lt_log2 n
    have h2 : 2 ^ (n.log2 + 2) = 2 * 2 ^ (n.log2 + 1) := two_pow_succ _
    have h3 : 2 ^ (n.log2 + 2) < 2 ^ d := Nat.pow_lt_pow_right (by omega) (by omega)
    rw [Nat.min_eq_right (by omega), rne_small n d (by omega), Nat.div_eq_of_lt (by omega), Nat.mod_eq_of_lt (by omega)]
    have : (decide (2 ^ (n.log2 + 2) < 2 * n) || 2 ^ (n.log2 + 2) == 2 * n && 0 % 2 == 1) = false := by
      simp; omega
    rw [this]; rfl

theorem log2_mul_pow (m j : Nat) (h : m ≠ 0) : (m * 2 ^ j).log2 = m.log2 + j := by
  have hm : m * 2 ^ j ≠ 0 := Nat.mul_ne_zero h (by have := Nat.two_pow_pos j; omega)
  apply (Nat.log2_eq_iff hm).2
  have h1 := Nat.log2_self_le h
  have h2 := lt_log2 m
  constructor
  · rw [Nat.pow_add]; exact Nat.mul_le_mul_right _ h1
  · rw [Nat.add_right_comm, Nat.pow_add]; exact Nat.mul_lt_mul_of_pos_right h2 (Nat.two_pow_pos _)

abbrev D : Format := double
theorem D_least : D.leastPlace = -1074 := by decide
theorem D_bin : D.binade = 4503599627370496 := by decide
theorem D_inf : D.infRung = 9218868437227405312 := by decide
theorem D_sign : D.signWeight = 9223372036854775808 := by decide
theorem D_frac : D.fractionBits = 52 := rfl

/-- The rung nearest to n / 2^t times the least place (2^-1074). -/
def rung (n t : Nat) : Nat := min ((max (n.log2 - 52) t - t) * 4503599627370496 + rne n (max (n.log2 - 52) t)) 9218868437227405312

theorem rung_zero (t : Nat) : rung 0 t = 0 := by
  have e : rne 0 (max ((0 : Nat).log2 - 52) t) = 0 := by
    unfold rne; simp
  unfold rung
  rw [e]
  have : (0 : Nat).log2 = 0 := by decide
  rw [this]
  simp

theorem rung_scale (n t j : Nat) (h : n ≠ 0) : rung (n * 2 ^ j) (t + j) = rung n t := by
  unfold rung
  rw [log2_mul_pow n j h]
  by_cases hc : n.log2 + j - 52 ≤ t + j
  · rw [Nat.max_eq_right hc]
    have : rne (n * 2 ^ j) (t + j) = rne n t := rne_scale n t j
    rw [this, Nat.max_eq_right (by omega)]
    simp
  · rw [Nat.max_eq_left (by omega)]
    by_cases h52 : 52 ≤ n.log2
    · have e : n.log2 + j - 52 = (n.log2 - 52) + j := by omega
      rw [e, rne_scale, Nat.max_eq_left (by omega)]
      have : n.log2 - 52 + j - (t + j) = n.log2 - 52 - t := by omega
      rw [this]
    · exfalso; omega

/-- Ieee's nearest word, at whatever place from -1074 - t on. -/
theorem nearest_eq (neg : Bool) (m : Nat) (p : Int) (t : Nat) (hp : -1074 - (t : Int) ≤ p) :
    D.nearest neg m p = D.word neg (rung (m * 2 ^ (p + 1074 + t).toNat) t) := by
  by_cases hm : m = 0
  · subst hm
    unfold Format.nearest
    rw [if_pos rfl, Nat.zero_mul, rung_zero]
  · unfold Format.nearest
    rw [if_neg hm]
    simp only [cut_even]
    rw [D_least, D_bin, D_inf, D_frac]
    refine congrArg (D.word neg) ?_
    unfold rung
    obtain ⟨j, hj⟩ : ∃ j : Nat, (j : Int) = p + 1074 + t := ⟨(p + 1074 + t).toNat, by omega⟩
    have hj' : (p + 1074 + (t : Int)).toNat = j := by omega
    rw [hj', log2_mul_pow m j hm]
    generalize hL : m.log2 = L
    -- last
    generalize hlast : max (p + (L : Int) - 52) (-1074) = last
    -- two cases: the place is above or below last
    by_cases hge : last ≤ p
    · -- exact
      obtain ⟨u, hu⟩ : ∃ u : Nat, (u : Int) = p - last := ⟨(p - last).toNat, by omega⟩
      have e1 : (p - last).toNat = u := by omega
      have e2 : (last - p).toNat = 0 := by omega
      rw [e1, e2, rne_zero, Nat.shiftLeft_eq]
      have e3 : max (L + j - 52) t = j - u := by omega
      have e4 : (last - -1074).toNat = j - u - t := by omega
      have e5 : j = u + (j - u) := by omega
      rw [e3, e4]
      have e6 : m * 2 ^ j = (m * 2 ^ u) * 2 ^ (j - u) := by
        rw [Nat.mul_assoc, ← Nat.pow_add, ← e5]
      rw [e6, rne_exact]
    · obtain ⟨u, hu⟩ : ∃ u : Nat, (u : Int) = last - p := ⟨(last - p).toNat, by omega⟩
      have e1 : (p - last).toNat = 0 := by omega
      have e2 : (last - p).toNat = u := by omega
      rw [e1, e2]
      have e3 : max (L + j - 52) t = u + j := by omega
      have e4 : (last - -1074).toNat = u + j - t := by omega
      rw [e3, e4, rne_scale]
      simp

end Go.Proofs.Ytdfbmfmfhdifpaa.Fl
