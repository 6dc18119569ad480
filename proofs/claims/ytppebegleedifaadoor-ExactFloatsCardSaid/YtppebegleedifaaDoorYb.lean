/- lives: the fixed facts. -/
import Derived.Test.YtppebegleedifaaDoorXz
import Derived.Test.YtppebegleedifaaDoorYa
import Derived.Test.YtppebegleedifaaDoorWb
namespace Go.Proofs.YtppebegleedifaaDoor
open Go.RowKit

theorem sameU_nx (A A' : Option Addr) (n c c' : Nat) (f : Nat → Nat) (w : World) (hr : RS w A n c (uw f)) (hr' : RS w A' n c' (uw f)) :
    Calls Tryd.prog 14 #[.slice A n c, .slice A' n c'] w fun e w' => e = .returned (.bool true) ∧ Nx w w' :=
  (sameU_any A A' n c c' f w hr hr').mono fun _ _ ⟨k, he, hw⟩ => ⟨he, by rw [hw]; exact (Nx.refl w).drewN k⟩
theorem sameI_nx (A A' : Option Addr) (n c c' : Nat) (f : Nat → Int) (w : World) (hr : RS w A n c (iw f)) (hr' : RS w A' n c' (iw f)) :
    Calls Tryd.prog 19 #[.slice A n c, .slice A' n c'] w fun e w' => e = .returned (.bool true) ∧ Nx w w' :=
  (sameI_any A A' n c c' f w hr hr').mono fun _ _ ⟨k, he, hw⟩ => ⟨he, by rw [hw]; exact (Nx.refl w).drewN k⟩

def x12 : Nat → Nat := fun j => if j = 0 then 1 else 2
def y12 : Nat → Nat := fun j => if j = 0 then 3 else 2013265920
theorem rootN_pwm (i n : Nat) (hi : i < 3) : rootN i n = pwm 40 (gF i) ((primeF i - 1) / n) (primeF i) := by
  have hp : primeF i < 4294967296 := (prF i hi).np.2.1
  rw [pwm_eq 40 _ _ _ (Nat.lt_of_le_of_lt (Nat.div_le_self _ _) (by omega))]
  rfl
theorem root02 : rootN 0 2 = 2013265920 := by rw [rootN_pwm 0 2 (by decide)]; decide +kernel
theorem live_f (j : Nat) (hj : j < 2) : tF false 0 2 x12 j = y12 j := by
  unfold tF dftN
  rw [if_neg (by decide), show (0 : Int).toNat = 0 from rfl, root02]
  rcases (show j = 0 ∨ j = 1 by omega) with rfl | rfl <;> decide +kernel
theorem dsum_congr {x y : Nat → Nat} {s p n : Nat} (h : ∀ j, j < n → x j = y j) : dsum x s p n = dsum y s p n := by
  induction n with
  | zero => rfl
  | succ n ih => rw [dsum, dsum, ih (fun j hj => h j (by omega)), h n (by omega)]
theorem tF_congr {b : Bool} {i : Int} {n : Nat} {x y : Nat → Nat} (h : ∀ j, j < n → x j = y j) (k : Nat) : tF b i n x k = tF b i n y k := by
  unfold tF
  cases b
  · rw [if_neg (by decide), if_neg (by decide)]; unfold dftN; exact dsum_congr h
  · rw [if_pos rfl, if_pos rfl]; rw [dsum_congr h]
theorem live_b (j : Nat) (hj : j < 2) : tF true 0 2 y12 j = x12 j := by
  rw [← tF_congr (x := tF false 0 2 x12) (fun j hj => live_f j hj) j]
  have := back_fore 0 2 (by decide) (by decide) (by decide) (by decide) x12 j hj
  rw [show ((0 : Nat) : Int) = 0 from rfl] at this
  rw [this]
  rcases (show j = 0 ∨ j = 1 by omega) with rfl | rfl <;> decide +kernel
def l2 : Nat → Int := fun j => if j = 0 then 1 else 2
def l3 : Nat → Int := fun j => if j = 0 then 3 else if j = 1 then 4 else 5
def l4 : Nat → Int := fun j => if j = 0 then 3 else if j = 2 then 13 else 10
def c3 : Nat → Int := fun j => if j = 0 then 1 else if j = 1 then 2 else 3
def d3 : Nat → Int := fun j => if j = 0 then 4 else if j = 1 then 5 else 6
def e3 : Nat → Int := fun j => if j = 0 ∨ j = 1 then 31 else 28
def s4 : Nat → Int := fun j => if j = 0 then 1 else if j = 1 then 2 else if j = 2 then 3 else 4
def z4 : Nat → Int := fun _ => 0
def a4 : Nat → Int := fun j => if j = 0 then 10 else -2
def b4 : Nat → Int := fun j => if j = 1 then 2 else if j = 3 then -2 else 0
theorem i64B_of {f : Nat → Int} (h : ∀ j, f j = 0 ∨ (-100 ≤ f j ∧ f j ≤ 100)) (j : Nat) : i64B (f j) := by have := h j; unfold i64B; omega
section
variable (a : Nat → Addr) (A : Option Addr) (w : World)
theorem fwd_live (hr : RS w A 2 2 (uw x12)) (hE : Ers w (eV a)) : Calls Tryd.prog 11 #[.slice A 2 2, .int .i64 0] w fun e w' => ∃ A' c', e = .returned (.tuple #[.slice A' 2 c', .nilIface]) ∧ RS w' A' 2 c' (uw y12) ∧ Nx w w' := by
  refine (forward_any A 2 2 0 x12 a w (fun j _ => by unfold x12; split <;> omega) hr hE).mono ?_
  rintro e w' ⟨A', c', rfl, hB, hb⟩
  exact ⟨A', c', rfl, hB.rs.congr fun j hj => (by unfold uw; rw [live_f j hj]), hb⟩
theorem inv_live (c : Nat) (hr : RS w A 2 c (uw y12)) (hE : Ers w (eV a)) : Calls Tryd.prog 15 #[.slice A 2 c, .int .i64 0] w fun e w' => ∃ A' c', e = .returned (.tuple #[.slice A' 2 c', .nilIface]) ∧ RS w' A' 2 c' (uw x12) ∧ Nx w w' := by
  refine (inverseT_any A 2 c 0 y12 a w (fun j _ => by unfold y12; split <;> omega) hr hE).mono ?_
  rintro e w' ⟨A', c', rfl, hB, hb⟩
  exact ⟨A', c', rfl, hB.rs.congr fun j hj => (by unfold uw; rw [live_b j hj]), hb⟩
theorem lin_live (A2 : Option Addr) (hr : RS w A 2 2 (iw l2)) (hr2 : RS w A2 3 3 (iw l3)) (hE : Ers w (eV a)) : Calls Tryd.prog 17 #[.slice A 2 2, .slice A2 3 3] w fun e w' => ∃ A' c', e = .returned (.tuple #[.slice A' 4 c', .nilIface]) ∧ RS w' A' 4 c' (iw l4) ∧ Nx w w' := by
  refine (linear_any A 2 2 A2 3 3 l2 l3 a w hr hr2 (i64B_of fun j => by unfold l2; split <;> omega) (i64B_of fun j => by unfold l3; split <;> (try split) <;> omega) hE).mono ?_
  have e0 : linN 2 3 l2 l3 = 0 := by decide +kernel
  rw [e0]
  rintro e w' ⟨A', c', rfl, hB, hb⟩
  refine ⟨A', c', rfl, hB.rs.congr fun j hj => ?_, hb⟩
  have hj' : j < 4 := hj
  unfold iw
  rcases (show j = 0 ∨ j = 1 ∨ j = 2 ∨ j = 3 by omega) with rfl | rfl | rfl | rfl <;> exact congrArg (Value.int .i64) (by decide +kernel)
theorem cyc_live (A2 : Option Addr) (hr : RS w A 3 3 (iw c3)) (hr2 : RS w A2 3 3 (iw d3)) (hE : Ers w (eV a)) : Calls Tryd.prog 20 #[.slice A 3 3, .slice A2 3 3] w fun e w' => ∃ A' c', e = .returned (.tuple #[.slice A' 3 c', .nilIface]) ∧ RS w' A' 3 c' (iw e3) ∧ Nx w w' := by
  refine (cyclic_any A 3 3 A2 3 3 c3 d3 a w hr hr2 (i64B_of fun j => by unfold c3; split <;> (try split) <;> omega) (i64B_of fun j => by unfold d3; split <;> (try split) <;> omega) hE).mono ?_
  have e0 : cycN 3 3 c3 d3 = 0 := by decide +kernel
  rw [e0]
  rintro e w' ⟨A', c', rfl, hB, hb⟩
  refine ⟨A', c', rfl, hB.rs.congr fun j hj => ?_, hb⟩
  have hj' : j < 3 := hj
  unfold iw
  rcases (show j = 0 ∨ j = 1 ∨ j = 2 by omega) with rfl | rfl | rfl <;> exact congrArg (Value.int .i64) (by decide +kernel)
end
end Go.Proofs.YtppebegleedifaaDoor
