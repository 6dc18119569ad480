/- The reference's numbers of 192 bits: fits. -/
import Derived.Test.YtppebegleedifaaDoorZa
namespace Go.Proofs.YtppebegleedifaaDoor
open Go.RowKit

set_option maxRecDepth 20000 in
set_option maxHeartbeats 4000000 in
theorem fitsR_core (a0 a1 a2 b : Nat) (T r : Int) (c1 c2 : Bool) (w : World) (e1 : (a0 : Int) / 9223372036854775808 = (b : Int)) (g3 : ((b : Int) == 1) = true ∧ T = 18446744073709551615 ∨ ((b : Int) == 1) = false ∧ T = 0)
    (hr : IntKind.i64.wrap (a0 : Int) = r) (h1 : ((a1 : Int) == T) = c1) (h2 : ((a2 : Int) == T) = c2) :
    Calls Tryd.prog 41 #[wv a0 a1 a2] w fun e w' => e = .returned (.tuple #[.int .i64 r, .bool (c1 && c2)]) ∧ Nx w w' := by
  unfold wv
  rcases g3 with ⟨g3a, rfl⟩ | ⟨g3a, rfl⟩
  all_goals cases c1
  all_goals
    go_enter Tryd.func41, Tryd.ntmps41
    go_wp2_with fail
    go_quiet (fail)
    go_wp2_with fail
    go_ret2
    exact ⟨rfl, (nx_alloc _ _).drewN _⟩
theorem fitsR_any (a0 a1 a2 : Nat) (S : Int) (w : World) (h : R3 S a0 a1 a2) (hS : -1532495540865888858358347027150309183618739122183602176 ≤ S ∧ S ≤ 1532495540865888858358347027150309183618739122183602176) :
    Calls Tryd.prog 41 #[wv a0 a1 a2] w fun e w' => ∃ r, e = .returned (.tuple #[.int .i64 r, .bool (fitB S)]) ∧ (fitB S = true → r = S) ∧ Nx w w' := by
  have hf := fits_iff h hS
  have l0 := h.l0
  obtain ⟨b, hb1⟩ : ∃ b, a0 / 9223372036854775808 = b := ⟨_, rfl⟩
  have hbi : (a0 : Int) / 9223372036854775808 = (b : Int) := by omega
  have g3 : ((b : Int) == 1) = true ∧ (signW a0 : Int) = 18446744073709551615 ∨ ((b : Int) == 1) = false ∧ (signW a0 : Int) = 0 := by
    unfold signW
    by_cases hc : 9223372036854775808 ≤ a0
    · left; rw [if_pos hc]; exact ⟨by simp; omega, rfl⟩
    · right; rw [if_neg hc]; exact ⟨by simp; omega, rfl⟩
  refine (fitsR_core a0 a1 a2 b (signW a0) _ _ _ w hbi g3 rfl rfl rfl).mono ?_
  rintro e w' ⟨rfl, hw⟩
  have ec : (((a1 : Int) == (signW a0 : Int)) && ((a2 : Int) == (signW a0 : Int))) = fitB S := by
    rw [Bool.eq_iff_iff, Bool.and_eq_true, beq_iff_eq, beq_iff_eq, ← hf.1]
    omega
  exact ⟨_, by rw [ec], hf.2, hw⟩
end Go.Proofs.YtppebegleedifaaDoor
