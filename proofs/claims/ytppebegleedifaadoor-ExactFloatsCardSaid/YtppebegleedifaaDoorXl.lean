/- The program's sums are the reference's: plain numbers. -/
import Derived.Test.YtppebegleedifaaDoorXk
namespace Go.Proofs.YtppebegleedifaaDoor
open Go.RowKit

theorem mul_mod_eq {a b c m : Nat} (h : a % m = b % m) : a * c % m = b * c % m := by rw [Nat.mul_mod, h, ← Nat.mul_mod]
theorem pow_one_mod {a n k m : Nat} (h : a ^ n % m = 1 % m) : a ^ (n * k) % m = 1 % m := by
  rw [Nat.pow_mul, Nat.pow_mod, h, ← Nat.pow_mod, Nat.one_pow]
/-- Inverses are one. -/
theorem inv_unique {a b c m : Nat} (h1 : a * c % m = 1 % m) (h2 : b * c % m = 1 % m) : a % m = b % m := by
  have e1 : a * (b * c) % m = a % m := by rw [Nat.mul_mod, h2, ← Nat.mul_mod, Nat.mul_one]
  have e2 : b * (a * c) % m = b % m := by rw [Nat.mul_mod, h1, ← Nat.mul_mod, Nat.mul_one]
  rw [← e1, ← e2]
  congr 1
  rw [← Nat.mul_assoc, ← Nat.mul_assoc, Nat.mul_comm a b]
theorem pow_at {r n p e : Nat} (h : r ^ n % p = 1 % p) : r ^ (e % n) % p = r ^ e % p := by
  have h1 : e = n * (e / n) + e % n := (Nat.div_add_mod e n).symm
  have h2 : r ^ e % p = r ^ (n * (e / n)) * r ^ (e % n) % p := by rw [← Nat.pow_add, ← h1]
  rw [h2, Nat.mul_mod, pow_one_mod h, ← Nat.mul_mod, Nat.one_mul]
theorem fore_eq {x : Nat → Nat} {r n p k : Nat} (h : r ^ n % p = 1 % p) (j : Nat) : psum x (powF r p) n k p j = dsum x (powF r p k) p j := by
  induction j with
  | zero => rfl
  | succ j ih =>
    rw [psum, dsum, ih]
    have e1 : powF r p (j * k % n) = powF r p k ^ j % p := by
      unfold powF
      rw [pow_at h, ← Nat.pow_mod, ← Nat.pow_mul, Nat.mul_comm k j]
    rw [e1]
    generalize powF r p k ^ j % p = f
    rw [Nat.add_mod, Nat.mod_mod, ← Nat.add_mod, Nat.add_mod (dsum x (powF r p k) p j) (x j * f), Nat.mul_mod, Nat.add_mod (dsum x (powF r p k) p j) (x j % p * f), Nat.mul_mod (x j % p) f, Nat.mod_mod]
theorem back_eq {x : Nat → Nat} {r n p k b : Nat} (h : r ^ n % p = 1 % p) (hb : b * r % p = 1 % p) (hk : k ≤ n) (j : Nat) : psum x (powF r p) n (n - k) p j = dsum x (powF b p k) p j := by
  induction j with
  | zero => rfl
  | succ j ih =>
    rw [psum, dsum, ih]
    have e1 : powF r p (j * (n - k) % n) = powF b p k ^ j % p := by
      unfold powF
      rw [pow_at h, ← Nat.pow_mod, ← Nat.pow_mul]
      refine inv_unique (c := r ^ (k * j)) ?_ ?_
      · rw [← Nat.pow_add]
        have : j * (n - k) + k * j = n * j := by
          rw [Nat.mul_sub, Nat.mul_comm k j, Nat.sub_add_cancel (Nat.mul_le_mul_left j hk), Nat.mul_comm]
        rw [this]; exact pow_one_mod h
      · rw [← Nat.mul_pow, Nat.pow_mod, hb, ← Nat.pow_mod, Nat.one_pow]
    rw [e1]
    generalize powF b p k ^ j % p = f
    rw [Nat.add_mod, Nat.mod_mod, ← Nat.add_mod, Nat.add_mod (dsum x (powF b p k) p j) (x j * f), Nat.mul_mod, Nat.add_mod (dsum x (powF b p k) p j) (x j % p * f), Nat.mul_mod (x j % p) f, Nat.mod_mod]
def ferm (p n : Nat) : Bool := Nat.beq n 0 || Nat.beq (pwm 40 n (p - 1) p) 1
theorem ferm1 : allF (ferm 2013265921) 11 0 = true := by decide +kernel
theorem ferm2 : allF (ferm 1811939329) 11 0 = true := by decide +kernel
theorem ferm3 : allF (ferm 469762049) 11 0 = true := by decide +kernel
theorem fermat (i n : Nat) (hi : i < 3) (hn : 1 ≤ n) (hn2 : n < 2048) : n ^ (primeF i - 1) % primeF i = 1 := by
  have key : ∀ p, allF (ferm p) 11 0 = true → p ≤ 4294967296 → n ^ (p - 1) % p = 1 := by
    intro p h hp
    have := allF_of h n (Nat.zero_le _) (by omega)
    unfold ferm at this
    rw [Bool.or_eq_true, Nat.beq_eq, Nat.beq_eq, pwm_eq 40 _ _ _ (by omega)] at this
    omega
  rcases (show i = 0 ∨ i = 1 ∨ i = 2 by omega) with rfl | rfl | rfl
  · exact key _ ferm1 (by decide)
  · exact key _ ferm2 (by decide)
  · exact key _ ferm3 (by decide)
/-- The root of a length. -/
def rootN (i n : Nat) : Nat := gF i ^ ((primeF i - 1) / n) % primeF i
theorem gF_lt (i : Nat) : 1 ≤ gF i ∧ gF i < 2048 := by unfold gF; split <;> (try split) <;> omega
theorem prime_two (i : Nat) (hi : i < 3) : 3 ≤ primeF i := (prF i hi).p3
theorem root_pow (i n : Nat) (hi : i < 3) (hd : (primeF i - 1) % n = 0) : rootN i n ^ n % primeF i = 1 % primeF i := by
  unfold rootN
  rw [← Nat.pow_mod, ← Nat.pow_mul, Nat.div_mul_cancel (Nat.dvd_of_mod_eq_zero hd), fermat i (gF i) hi (gF_lt i).1 (gF_lt i).2]
  rw [Nat.mod_eq_of_lt (by have := prime_two i hi; omega)]
theorem root_back (i n : Nat) (hi : i < 3) : rootN i n ^ (primeF i - 2) % primeF i * rootN i n % primeF i = 1 % primeF i := by
  have h3 := prime_two i hi
  rw [Nat.mod_mul_mod, ← Nat.pow_succ, show (primeF i - 2).succ = primeF i - 1 by omega]
  unfold rootN
  rw [← Nat.pow_mod, ← Nat.pow_mul, Nat.mul_comm, Nat.pow_mul, Nat.pow_mod, fermat i (gF i) hi (gF_lt i).1 (gF_lt i).2, Nat.one_pow]
theorem inv_eq (i n inv : Nat) (hi : i < 3) (hn : 1 ≤ n) (hn2 : n ≤ 1024) (h : inv * n % primeF i = 1) (hl : inv < primeF i) : inv = n ^ (primeF i - 2) % primeF i := by
  have h3 := prime_two i hi
  have e1 : (1 : Nat) % primeF i = 1 := Nat.mod_eq_of_lt (by omega)
  have := inv_unique (a := inv) (b := n ^ (primeF i - 2)) (c := n) (m := primeF i) (by rw [h, e1])
    (by rw [← Nat.pow_succ, show (primeF i - 2).succ = primeF i - 1 by omega, fermat i n hi hn (by omega), e1])
  rw [Nat.mod_eq_of_lt hl] at this
  exact this
end Go.Proofs.YtppebegleedifaaDoor
