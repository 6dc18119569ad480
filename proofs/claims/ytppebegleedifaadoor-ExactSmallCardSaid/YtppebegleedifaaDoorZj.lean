/- Small and the reference's Small, at every length. -/
import Derived.Test.YtppebegleedifaaDoorZf
import Derived.Test.YtppebegleedifaaDoorXx
import Derived.Test.YtppebegleedifaaDoorZe
namespace Go.Proofs.YtppebegleedifaaDoor
open Go.RowKit

def smQ (n m : Nat) (x y : Nat → Int) : Nat := if n = m ∧ (n = 1 ∨ n = 2 ∨ n = 4) then smN n x y else 7
theorem smN_cases (n : Nat) (x y : Nat → Int) : smN n x y = 0 ∨ smN n x y = 19 := by unfold smN; split; exact .inl rfl; exact .inr rfl
theorem smQ_good {n m : Nat} {x y : Nat → Int} (h : n = m ∧ (n = 1 ∨ n = 2 ∨ n = 4)) : smQ n m x y = smN n x y := if_pos h
theorem smQ_bad {n m : Nat} {x y : Nat → Int} (h : ¬ (n = m ∧ (n = 1 ∨ n = 2 ∨ n = 4))) : smQ n m x y = 7 := if_neg h
theorem smQ_le (n m : Nat) (x y : Nat → Int) : smQ n m x y ≤ 19 := by
  unfold smQ
  split
  · rcases smN_cases n x y with h | h <;> rw [h] <;> decide
  · decide
theorem smQ_len (n m : Nat) (x y : Nat → Int) : lenOf (smQ n m x y) n ≤ 4 := by
  by_cases h : n = m ∧ (n = 1 ∨ n = 2 ∨ n = 4)
  · have := lenOf_le (smQ n m x y) n
    omega
  · rw [smQ_bad h]
    exact Nat.zero_le _
theorem bad_cases {n m : Nat} (h : ¬ (n = m ∧ (n = 1 ∨ n = 2 ∨ n = 4))) : ((m : Int) != (n : Int)) = true ∨ (((m : Int) != (n : Int)) = false ∧ ((n : Int) != 1) = true ∧ ((n : Int) != 2) = true ∧ ((n : Int) != 4) = true) := by
  simp only [bne_iff_ne, ne_eq, bne_eq_false_iff_eq]
  omega
section
variable (A : Option Addr) (n c : Nat) (A' : Option Addr) (m c' : Nat) (x y : Nat → Int) (a : Nat → Addr) (w : World) (hr : RS w A n c (iw x)) (hr' : RS w A' m c' (iw y)) (hx : ∀ i, i64B (x i)) (hy : ∀ j, i64B (y j))
include hr hr'
set_option maxRecDepth 100000 in
set_option maxHeartbeats 4000000 in
theorem small_bad (hE : Ers w (eV a)) (h : ¬ (n = m ∧ (n = 1 ∨ n = 2 ∨ n = 4))) : Calls Tryd.prog 22 #[.slice A n c, .slice A' m c'] w fun e w' => e = .returned (.tuple #[.slice none 0 0, .slice none 0 0, eV a 0]) ∧ Nx w w' := by
  have k1 := hr.nc
  have k2 := hr.cm
  have k3 := hr'.nc
  have k4 := hr'.cm
  have hc : w.cell? ⟨0, 0, none⟩ = some (.iface 110 (.pointer (some (a 0)))) := hE.cell 0 (by decide)
  rcases bad_cases h with g | ⟨g1, g2, g3, g4⟩
  all_goals
    go_enter Tryd.func22, Tryd.ntmps22
    go_wp2_with fail
    go_quiet (fail)
    go_wp2_with fail
    go_ret3
    exact ⟨rfl, (Nx.refl w).drewN _⟩
set_option maxRecDepth 100000 in
set_option maxHeartbeats 4000000 in
theorem smallR_bad (h : ¬ (n = m ∧ (n = 1 ∨ n = 2 ∨ n = 4))) : Calls Tryd.prog 23 #[.slice A n c, .slice A' m c'] w fun e w' => e = .returned (.tuple #[.slice none 0 0, .slice none 0 0, .int .i64 7]) ∧ Nx w w' := by
  have k1 := hr.nc
  have k2 := hr.cm
  have k3 := hr'.nc
  have k4 := hr'.cm
  rcases bad_cases h with g | ⟨g1, g2, g3, g4⟩
  all_goals
    go_enter Tryd.func23, Tryd.ntmps23
    go_wp2_with fail
    go_ret3
    exact ⟨rfl, Nx.refl w⟩
include hx hy
theorem small_er (hE : Ers w (eV a)) (q L : Nat) (hq : smQ n m x y = q) (hL : lenOf q n = L) (S1 S2 : Nat → Int) (hS1 : (fun i => reS n x y i n) = S1) (hS2 : (fun i => imS n x y i n) = S2) : Calls Tryd.prog 22 #[.slice A n c, .slice A' m c'] w fun e w' => ∃ A2 c2 A3 c3, e = .returned (.tuple #[.slice A2 L c2, .slice A3 L c3, erV a q]) ∧
    Bld w' w.heap.size 2 (.slice A2 L c2) L (iw S1) ∧ Bld w' w.heap.size 2 (.slice A3 L c3) L (iw S2) ∧ (∀ g g', (Value.slice A2 L c2).ownBlock = some g → (Value.slice A3 L c3).ownBlock = some g' → g ≠ g') ∧ Nx w w' := by
  subst hS1 hS2
  by_cases h : n = m ∧ (n = 1 ∨ n = 2 ∨ n = 4)
  · have hq' : smN n x y = q := by rw [← hq]; exact (smQ_good h).symm
    obtain ⟨rfl, h⟩ := h
    refine (small_any A n c A' c' x y a w hr hr' hx hy hE h).mono ?_
    rintro e w' ⟨A2, c2, A3, c3, rfl, h1, h2, h3, h4⟩
    have he : eV2 a (smN n x y) = erV a (smN n x y) := by rcases smN_cases n x y with h | h <;> rw [h] <;> rfl
    rw [he, hq', hL]
    rw [hq', hL] at h1 h2 h3
    exact ⟨A2, c2, A3, c3, rfl, h1, h2, h3, h4⟩
  · rw [smQ_bad h] at hq
    subst hq
    have hL' : 0 = L := hL
    subst hL'
    refine (small_bad A n c A' m c' x y a w hr hr' hE h).mono ?_
    rintro e w' ⟨rfl, hb⟩
    exact ⟨none, 0, none, 0, rfl, bld_none _ _ _ hb.size _, bld_none _ _ _ hb.size _, fun g g' h => (by cases h), hb⟩
theorem smallR_er (q L : Nat) (hq : smQ n m x y = q) (hL : lenOf q n = L) (S1 S2 : Nat → Int) (hS1 : (fun i => reS n x y i n) = S1) (hS2 : (fun i => imS n x y i n) = S2) : Calls Tryd.prog 23 #[.slice A n c, .slice A' m c'] w fun e w' => ∃ A2 c2 A3 c3, e = .returned (.tuple #[.slice A2 L c2, .slice A3 L c3, .int .i64 (q : Nat)]) ∧
    Bld w' w.heap.size 2 (.slice A2 L c2) L (iw S1) ∧ Bld w' w.heap.size 2 (.slice A3 L c3) L (iw S2) ∧ Nx w w' := by
  subst hS1 hS2
  by_cases h : n = m ∧ (n = 1 ∨ n = 2 ∨ n = 4)
  · have hq' : smN n x y = q := by rw [← hq]; exact (smQ_good h).symm
    obtain ⟨rfl, h⟩ := h
    refine (smallR_any A n c A' c' x y w hr hr' hx hy h).mono ?_
    rintro e w' ⟨A2, c2, A3, c3, rfl, h1, h2, h4⟩
    rw [hq', hL]
    rw [hq', hL] at h1 h2
    exact ⟨A2, c2, A3, c3, rfl, h1, h2, h4⟩
  · rw [smQ_bad h] at hq
    subst hq
    have hL' : 0 = L := hL
    subst hL'
    refine (smallR_bad A n c A' m c' x y w hr hr' h).mono ?_
    rintro e w' ⟨rfl, hb⟩
    exact ⟨none, 0, none, 0, rfl, bld_none _ _ _ hb.size _, bld_none _ _ _ hb.size _, hb⟩
end
end Go.Proofs.YtppebegleedifaaDoor
