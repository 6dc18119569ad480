/- Plain numbers: powers modulo a prime, the three primes. -/
import Derived.Test.YtppebegleedifaaDoorWa
namespace Go.Proofs.YtppebegleedifaaDoor
/-! Powers modulo m -/
def pwm : Nat → Nat → Nat → Nat → Nat
  | 0, _, _, m => 1 % m
  | k + 1, a, e, m => if e = 0 then 1 % m else if e % 2 = 1 then a * pwm k (a * a % m) (e / 2) m % m else pwm k (a * a % m) (e / 2) m
theorem pow_mod' (a n m : Nat) : a ^ n % m = (a % m) ^ n % m := Nat.pow_mod a n m
theorem pwm_eq (k : Nat) : ∀ a e m, e < 2 ^ k → pwm k a e m = a ^ e % m := by
  induction k with
  | zero => intro a e m h; have : e = 0 := by simpa using h
            subst this; rfl
  | succ k ih =>
    intro a e m h
    rw [pwm]
    have h2 : e / 2 < 2 ^ k := by rw [Nat.pow_succ] at h; omega
    by_cases h0 : e = 0
    · rw [if_pos h0, h0]; rfl
    rw [if_neg h0, ih _ _ _ h2]
    have e1 : (a * a % m) ^ (e / 2) % m = a ^ (2 * (e / 2)) % m := by
      rw [← Nat.pow_mod, Nat.pow_mul, show a ^ 2 = a * a from Nat.pow_two a]
    by_cases h1 : e % 2 = 1
    · rw [if_pos h1, e1, Nat.mul_mod, Nat.mod_mod, ← Nat.mul_mod, ← Nat.pow_succ', show (2 * (e / 2)).succ = e by omega]
    · rw [if_neg h1, e1, show 2 * (e / 2) = e by omega]
/-- All of 2^f numbers from lo on. -/
def allF (t : Nat → Bool) : Nat → Nat → Bool
  | 0, lo => t lo
  | f + 1, lo => allF t f lo && allF t f (lo + 2 ^ f)
theorem allF_of {t : Nat → Bool} : ∀ {f lo : Nat}, allF t f lo = true → ∀ x, lo ≤ x → x < lo + 2 ^ f → t x = true := by
  intro f
  induction f with
  | zero => intro lo h x h1 h2; have : x = lo := by simp at h2; omega
            subst this; exact h
  | succ f ih =>
    intro lo h x h1 h2
    rw [allF, Bool.and_eq_true] at h
    rw [Nat.pow_succ] at h2
    rcases Nat.lt_or_ge x (lo + 2 ^ f) with h3 | h3
    · exact ih h.1 x h1 h3
    · exact ih h.2 x h3 (by omega)
def tdiv (p d : Nat) : Bool := Nat.ble d 1 || Nat.ble 1 (p % d)
def P1 : Nat := 2013265921
def P2 : Nat := 1811939329
def P3 : Nat := 469762049
theorem nodiv1 : allF (tdiv P1) 16 0 = true := by decide +kernel
theorem nodiv2 : allF (tdiv P2) 16 0 = true := by decide +kernel
theorem nodiv3 : allF (tdiv P3) 16 0 = true := by decide +kernel
def Npr (p : Nat) : Prop := 2 ≤ p ∧ p < 4294967296 ∧ ∀ d, 2 ≤ d → d < 65536 → p % d ≠ 0
theorem npr_of {p : Nat} (h1 : 2 ≤ p) (h2 : p < 4294967296) (h : allF (tdiv p) 16 0 = true) : Npr p := by
  refine ⟨h1, h2, fun d h3 h4 => ?_⟩
  have := allF_of h d (Nat.zero_le _) (by simpa using h4)
  unfold tdiv at this
  rw [Bool.or_eq_true, Nat.ble_eq, Nat.ble_eq] at this
  omega
theorem npr1 : Npr P1 := npr_of (by decide) (by decide) nodiv1
theorem npr2 : Npr P2 := npr_of (by decide) (by decide) nodiv2
theorem npr3 : Npr P3 := npr_of (by decide) (by decide) nodiv3
end Go.Proofs.YtppebegleedifaaDoor
