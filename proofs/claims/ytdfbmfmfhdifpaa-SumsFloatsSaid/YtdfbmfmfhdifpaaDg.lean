/- Digits of 32 bits: plain arithmetic. -/
namespace Go.Proofs.Ytdfbmfmfhdifpaa

/-- Digit i of N, of 32 bits. -/
def dig (N i : Nat) : Nat := N / 2 ^ (32 * i) % 4294967296

theorem dig_lt (N i : Nat) : dig N i < 4294967296 := Nat.mod_lt _ (by decide)
theorem pow_succ32 (i : Nat) : 2 ^ (32 * (i + 1)) = 2 ^ (32 * i) * 4294967296 := by
  rw [Nat.mul_add, Nat.pow_add]
def carA (N X i : Nat) : Nat := (N % 2 ^ (32 * i) + X % 2 ^ (32 * i)) / 2 ^ (32 * i)

theorem split_mod (N P : Nat) : N % (P * 4294967296) = (N / P % 4294967296) * P + N % P := by
  rw [Nat.mod_mul, Nat.add_comm, Nat.mul_comm P]

theorem dig_add (N X i : Nat) : dig (N + X) i = (dig N i + dig X i + carA N X i) % 4294967296 := by
  unfold dig carA
  have hP : 0 < 2 ^ (32 * i) := Nat.two_pow_pos _
  generalize 2 ^ (32 * i) = P at *
  have h1 := Nat.div_add_mod N P
  have h2 := Nat.div_add_mod X P
  have e : N + X = P * (N / P + X / P) + (N % P + X % P) := by rw [Nat.mul_add]; omega
  have e2 : (N + X) / P = N / P + X / P + (N % P + X % P) / P := by
    rw [e, Nat.mul_add_div hP]
  rw [e2]
  omega
theorem carA_succ (N X i : Nat) : carA N X (i + 1) = (dig N i + dig X i + carA N X i) / 4294967296 := by
  unfold carA dig
  rw [pow_succ32]
  have hP : 0 < 2 ^ (32 * i) := Nat.two_pow_pos _
  generalize 2 ^ (32 * i) = P at *
  rw [split_mod N P, split_mod X P]
  rw [show N / P % 4294967296 * P + N % P + (X / P % 4294967296 * P + X % P) = P * (N / P % 4294967296 + X / P % 4294967296) + (N % P + X % P) from by
    rw [Nat.mul_add, Nat.mul_comm P, Nat.mul_comm P]; omega]
  rw [← Nat.div_div_eq_div_mul, Nat.mul_add_div hP]
theorem carA_zero (N X : Nat) : carA N X 0 = 0 := by unfold carA; simp [Nat.mod_one]
theorem carA_le (N X i : Nat) : carA N X i ≤ 1 := by
  unfold carA
  have hP : 0 < 2 ^ (32 * i) := Nat.two_pow_pos _
  have h1 := Nat.mod_lt N hP
  have h2 := Nat.mod_lt X hP
  have : (N % 2 ^ (32 * i) + X % 2 ^ (32 * i)) / 2 ^ (32 * i) < 2 := by
    rw [Nat.div_lt_iff_lt_mul hP]; omega
  omega

/-- 2^(32 k). -/
def Mx (k : Nat) : Nat := 2 ^ (32 * k)
theorem Mx_pos (k : Nat) : 0 < Mx k := by unfold Mx; exact Nat.two_pow_pos _
theorem Mx_split {i k : Nat} (h : i < k) : ∃ j, Mx k = 2 ^ (32 * i) * (4294967296 * 2 ^ j) := by
  refine ⟨32 * k - 32 * i - 32, ?_⟩
  unfold Mx
  rw [show 32 * k = 32 * i + (32 + (32 * k - 32 * i - 32)) from by omega, Nat.pow_add, Nat.pow_add]
  congr 4
  omega
/-- 2^2240. -/
def M70 : Nat := Mx 70
theorem M70_pos : 0 < M70 := Mx_pos 70
theorem dig_modx (Y i k : Nat) (h : i < k) : dig (Y % Mx k) i = dig Y i := by
  obtain ⟨j, hj⟩ := Mx_split h
  unfold dig
  rw [hj, Nat.mod_mul_right_div_self, Nat.mod_mul_right_mod]
theorem dig_mod (Y i : Nat) (h : i < 70) : dig (Y % M70) i = dig Y i := dig_modx Y i 70 h
theorem dig_bigx (N i k : Nat) (h : N < Mx k) (hi : k ≤ i) : dig N i = 0 := by
  unfold dig
  rw [Nat.div_eq_of_lt]
  unfold Mx at h
  exact Nat.lt_of_lt_of_le h (Nat.pow_le_pow_right (by decide) (by omega))
theorem dig_big (N i : Nat) (h : N < M70) (hi : 70 ≤ i) : dig N i = 0 := dig_bigx N i 70 h hi

def borS (N X i : Nat) : Nat := if N % 2 ^ (32 * i) < X % 2 ^ (32 * i) then 1 else 0
theorem borS_zero (N X : Nat) : borS N X 0 = 0 := by unfold borS; simp [Nat.mod_one]
theorem borS_le (N X i : Nat) : borS N X i ≤ 1 := by unfold borS; split <;> omega
theorem borS_succ (N X i : Nat) : borS N X (i + 1) = if dig N i < dig X i + borS N X i then 1 else 0 := by
  unfold borS dig
  rw [pow_succ32]
  have hP : 0 < 2 ^ (32 * i) := Nat.two_pow_pos _
  generalize 2 ^ (32 * i) = P at *
  rw [split_mod N P, split_mod X P]
  generalize N / P % 4294967296 = a
  generalize X / P % 4294967296 = b
  have h1 := Nat.mod_lt N hP
  have h2 := Nat.mod_lt X hP
  generalize N % P = r at *
  generalize X % P = s at *
  have key : (a * P + r < b * P + s) ↔ (a < b + if r < s then 1 else 0) := by
    constructor
    · intro h
      rcases Nat.lt_or_ge a b with hab | hab
      · omega
      · have : b * P ≤ a * P := Nat.mul_le_mul_right _ hab
        rw [if_pos (by omega)]
        rcases Nat.lt_or_ge b a with hba | hba
        · have : (b + 1) * P ≤ a * P := Nat.mul_le_mul_right _ hba
          rw [Nat.add_mul] at this; omega
        · omega
    · intro h
      rcases Nat.lt_or_ge a b with hab | hab
      · have : (a + 1) * P ≤ b * P := Nat.mul_le_mul_right _ hab
        rw [Nat.add_mul] at this; omega
      · split at h
        · have : a = b := by omega
          subst this; omega
        · omega
  simp only [key]
theorem dig_subx (N X i k : Nat) (hX : X ≤ Mx k) (h : i < k) : (dig ((N + Mx k - X) % Mx k) i : Int) = ((dig N i : Int) - (dig X i + borS N X i)) % 4294967296 := by
  rw [dig_modx _ _ _ h]
  unfold dig borS
  obtain ⟨k, eM⟩ := Mx_split h
  have hP : 0 < 2 ^ (32 * i) := Nat.two_pow_pos _
  rw [eM] at hX ⊢
  generalize 2 ^ (32 * i) = P at *
  generalize 2 ^ k = K at *
  have h1 := Nat.div_add_mod N P
  have h2 := Nat.div_add_mod X P
  have m1 := Nat.mod_lt N hP
  have m2 := Nat.mod_lt X hP
  have hxq : X / P ≤ 4294967296 * K := by
    rw [← Nat.mul_div_cancel_left (4294967296 * K) hP]; exact Nat.div_le_div_right hX
  generalize N / P = n at *
  generalize X / P = x at *
  by_cases hrs : N % P < X % P
  · rw [if_pos hrs]
    have hx1 : x + 1 ≤ 4294967296 * K := by
      rcases Nat.lt_or_ge x (4294967296 * K) with hlt | hge
      · exact hlt
      · have : x = 4294967296 * K := by omega
        subst this; omega
    have e : N + P * (4294967296 * K) - X = P * (n + (4294967296 * K) - x - 1) + (P + N % P - X % P) := by
      rw [Nat.mul_sub, Nat.mul_sub, Nat.mul_add, Nat.mul_one]
      have : P * (x + 1) ≤ P * (4294967296 * K) := Nat.mul_le_mul_left _ hx1
      rw [Nat.mul_add, Nat.mul_one] at this
      omega
    have e2 : (N + P * (4294967296 * K) - X) / P = n + 4294967296 * K - x - 1 := by
      rw [e, Nat.mul_add_div hP, Nat.div_eq_of_lt (by omega), Nat.add_zero]
    rw [e2]
    omega
  · rw [if_neg hrs]
    have e : N + P * (4294967296 * K) - X = P * (n + (4294967296 * K) - x) + (N % P - X % P) := by
      rw [Nat.mul_sub, Nat.mul_add]
      have : P * x ≤ P * (4294967296 * K) := Nat.mul_le_mul_left _ hxq
      omega
    have e2 : (N + P * (4294967296 * K) - X) / P = n + 4294967296 * K - x := by
      rw [e, Nat.mul_add_div hP, Nat.div_eq_of_lt (by omega), Nat.add_zero]
    rw [e2]
    omega

theorem dig_sub (N X i : Nat) (hX : X ≤ M70) (h : i < 70) : (dig ((N + M70 - X) % M70) i : Int) = ((dig N i : Int) - (dig X i + borS N X i)) % 4294967296 := dig_subx N X i 70 hX h

/-- Two numbers below 2^2240 with the same digits are one. -/
theorem dig_ext_aux (k : Nat) : ∀ A B : Nat, (∀ i, i < k → dig A i = dig B i) → A % 2 ^ (32 * k) = B % 2 ^ (32 * k) := by
  induction k with
  | zero => intro A B _; simp [Nat.mod_one]
  | succ k ih =>
    intro A B h
    rw [pow_succ32, split_mod, split_mod, ih A B (fun i hi => h i (by omega))]
    have := h k (by omega)
    unfold dig at this
    rw [this]
theorem dig_extx {A B k : Nat} (hA : A < Mx k) (hB : B < Mx k) (h : ∀ i, i < k → dig A i = dig B i) : A = B := by
  have := dig_ext_aux k A B h
  unfold Mx at hA hB
  rw [Nat.mod_eq_of_lt hA, Nat.mod_eq_of_lt hB] at this
  exact this
theorem dig_ext {A B : Nat} (hA : A < M70) (hB : B < M70) (h : ∀ i, i < 70 → dig A i = dig B i) : A = B := dig_extx hA hB h

/-- The digits of Y x 2^(32 j). -/
theorem dig_shift (Y j i : Nat) : dig (Y * 2 ^ (32 * j)) i = if i < j then 0 else dig Y (i - j) := by
  unfold dig
  by_cases h : i < j
  · rw [if_pos h]
    obtain ⟨k, rfl⟩ : ∃ k, j = i + 1 + k := ⟨j - i - 1, by omega⟩
    rw [show 32 * (i + 1 + k) = 32 * i + (32 + 32 * k) from by omega, Nat.pow_add, ← Nat.mul_assoc, Nat.mul_comm Y, Nat.mul_assoc, Nat.mul_div_cancel_left _ (Nat.two_pow_pos _), Nat.pow_add,
      Nat.mul_comm Y, Nat.mul_assoc]
    exact Nat.mul_mod_right _ _
  · rw [if_neg h]
    obtain ⟨k, rfl⟩ : ∃ k, i = j + k := ⟨i - j, by omega⟩
    rw [show 32 * (j + k) = 32 * j + 32 * k from by omega, Nat.pow_add, ← Nat.div_div_eq_div_mul, Nat.mul_div_cancel _ (Nat.two_pow_pos _)]
    congr 3
    rw [show j + k - j = k from by omega]

/-- A bit is the bit of its digit. -/
theorem bit_dig (N i : Nat) : dig N (i / 32) / 2 ^ (i % 32) % 2 = N / 2 ^ i % 2 := by
  unfold dig
  have hr : i % 32 < 32 := Nat.mod_lt _ (by decide)
  obtain ⟨k, hk⟩ : ∃ k, 32 = i % 32 + 1 + k := ⟨31 - i % 32, by omega⟩
  have e32 : (4294967296 : Nat) = 2 ^ (i % 32) * (2 * 2 ^ k) := by
    rw [show (4294967296 : Nat) = 2 ^ 32 from rfl]
    conv => lhs; rw [hk]
    rw [Nat.pow_add, Nat.pow_add, Nat.mul_assoc]
  rw [e32, Nat.mod_mul_right_div_self, Nat.mod_mul_right_mod, Nat.div_div_eq_div_mul, ← Nat.pow_add]
  congr 3
  omega

end Go.Proofs.Ytdfbmfmfhdifpaa
