/- The three primes, their least roots. -/
import Derived.Test.YtppebegleedifaaDoorXe
namespace Go.Proofs.YtppebegleedifaaDoor
open Go.RowKit

def T1 : List Nat := List.replicate 27 2 ++ [3, 5]
def T2 : List Nat := List.replicate 26 2 ++ [3, 3, 3]
def T3 : List Nat := List.replicate 26 2 ++ [7]
/-- Does h fail as a root? -/
def hits (p h : Nat) (T : List Nat) : Bool := T.any fun q => Nat.beq (pwm 40 h ((p - 1) / q) p) 1
theorem hits_iff {p h : Nat} {T : List Nat} (hp : p ≤ 4294967296) : hits p h T = true ↔ ∃ j, j < T.length ∧ h ^ ((p - 1) / T.getD j 0) % p = 1 := by
  have e : ∀ q, pwm 40 h ((p - 1) / q) p = h ^ ((p - 1) / q) % p := fun q => pwm_eq 40 _ _ _ (Nat.lt_of_le_of_lt (Nat.div_le_self _ _) (by omega))
  unfold hits
  rw [List.any_eq_true]
  constructor
  · rintro ⟨q, hq, h1⟩
    obtain ⟨j, hj, rfl⟩ := List.getElem_of_mem hq
    refine ⟨j, hj, ?_⟩
    rw [Nat.beq_eq, e] at h1
    rw [List.getD_eq_getElem?_getD, List.getElem?_eq_getElem hj]
    exact h1
  · rintro ⟨j, hj, h1⟩
    refine ⟨T[j], List.getElem_mem hj, ?_⟩
    rw [Nat.beq_eq, e]
    rw [List.getD_eq_getElem?_getD, List.getElem?_eq_getElem hj] at h1
    exact h1
def below (p g : Nat) (T : List Nat) : Bool := (List.range g).all fun h => Nat.beq h 0 || hits p h T
def okT (T : List Nat) : Bool := T.all fun q => Nat.ble 2 q && Nat.ble q 4294967295
theorem pr_of {p g : Nat} {T : List Nat} (np : Npr p) (p3 : 3 ≤ p) (fcT : Fc false (p - 1) 2 T) (hl : T.length ≤ 1000) (hT : okT T = true) (lo : below p g T = true) (hi : hits p g T = false) (g1 : 1 ≤ g) (g2 : g ≤ 1000) : PR p g T := by
  have hp := np.2.1
  have hq : ∀ j, j < T.length → 2 ≤ T.getD j 0 ∧ T.getD j 0 < 4294967296 := by
    intro j hj
    unfold okT at hT
    rw [List.all_eq_true] at hT
    have := hT T[j] (List.getElem_mem hj)
    rw [Bool.and_eq_true, Nat.ble_eq, Nat.ble_eq] at this
    rw [List.getD_eq_getElem?_getD, List.getElem?_eq_getElem hj]
    show 2 ≤ T[j] ∧ T[j] < 4294967296
    omega
  refine ⟨np, p3, fcT, hl, fun j hj => (hq j hj).1, fun j hj => (hq j hj).2, ?_, ?_, g1, g2⟩
  · intro h h1 h2
    unfold below at lo
    rw [List.all_eq_true] at lo
    have := lo h (List.mem_range.2 h2)
    rw [Bool.or_eq_true, Nat.beq_eq] at this
    rcases this with h0 | h0
    · omega
    · exact (hits_iff (by omega)).1 h0
  · intro j hj e
    have : hits p g T = true := (hits_iff (by omega)).2 ⟨j, hj, e⟩
    rw [hi] at this
    cases this
theorem pr1 : PR 2013265921 31 T1 := pr_of npr1 (by decide) ⟨100, by decide +kernel⟩ (by decide) (by decide +kernel) (by decide +kernel) (by decide +kernel) (by decide) (by decide)
theorem pr2 : PR 1811939329 13 T2 := pr_of npr2 (by decide) ⟨100, by decide +kernel⟩ (by decide) (by decide +kernel) (by decide +kernel) (by decide +kernel) (by decide) (by decide)
theorem pr3 : PR 469762049 3 T3 := pr_of npr3 (by decide) ⟨100, by decide +kernel⟩ (by decide) (by decide +kernel) (by decide +kernel) (by decide +kernel) (by decide) (by decide)
end Go.Proofs.YtppebegleedifaaDoor
