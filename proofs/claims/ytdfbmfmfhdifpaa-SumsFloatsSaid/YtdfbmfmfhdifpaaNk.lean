/- rounded: the plain law. -/
import Derived.Test.YtdfbmfmfhdifpaaNj
namespace Go.Proofs.Ytdfbmfmfhdifpaa
open Go.RowKit

/-- What rounded does to 56 digits: the last three cut off. -/
def up3 (q : Nat) (more : Bool) : Nat := q / 8 + (if 4 < q % 8 ∨ (q % 8 = 4 ∧ (more = true ∨ q / 8 % 2 = 1)) then 1 else 0)
/-- From t + 3 digits cut off, t of them seen only as 'more'. -/
theorem up3_rne (N t : Nat) : up3 (N / 2 ^ t) (decide (N % 2 ^ t ≠ 0)) = Fl.rne N (t + 3) := by
  have hp := Nat.two_pow_pos t
  unfold up3 Fl.rne
  rw [Nat.pow_add, ← Nat.div_div_eq_div_mul]
  have e1 : N % (2 ^ t * 2 ^ 3) = N / 2 ^ t % 8 * 2 ^ t + N % 2 ^ t := by
    rw [Nat.mod_mul]; rw [Nat.mul_comm]; show _ + N / 2 ^ t % 8 * _ = _; omega
  rw [e1]
  have hm : N % 2 ^ t < 2 ^ t := Nat.mod_lt _ hp
  generalize N % 2 ^ t = m at *
  generalize N / 2 ^ t = q at *
  generalize 2 ^ t = P at *
  congr 1
  have h8 : q % 8 < 8 := Nat.mod_lt _ (by decide)
  have hq8 : q / 2 ^ 3 = q / 8 := rfl
  rw [hq8]
  generalize q / 8 % 2 = o
  generalize q % 8 = r at *
  have key : (4 < r ∨ (r = 4 ∧ (decide (m ≠ 0) = true ∨ o = 1))) ↔ (P * 2 ^ 3 < 2 * (r * P + m) ∨ (P * 2 ^ 3 = 2 * (r * P + m) ∧ o = 1)) := by
    rw [decide_eq_true_iff]
    rcases (show r = 0 ∨ r = 1 ∨ r = 2 ∨ r = 3 ∨ r = 4 ∨ r = 5 ∨ r = 6 ∨ r = 7 from by omega) with rfl | rfl | rfl | rfl | rfl | rfl | rfl | rfl <;> omega
  by_cases h : 4 < r ∨ (r = 4 ∧ (decide (m ≠ 0) = true ∨ o = 1))
  · rw [if_pos h, if_pos (key.1 h)]
  · rw [if_neg h, if_neg (fun h' => h (key.2 h'))]
end Go.Proofs.Ytdfbmfmfhdifpaa
