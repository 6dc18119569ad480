/- Linear, Cyclic. -/
import Derived.Test.YtppebegleedifaaDoorXr
namespace Go.Proofs.YtppebegleedifaaDoor
open Go.RowKit

def eV2 (a : Nat → Addr) (num : Nat) : Value := if num = 19 then eV a 1 else eVal a num
def lenOf (num N : Nat) : Nat := if num = 0 then N else 0
def CR (a : Nat → Addr) (num N : Nat) (S : Nat → Int) (w : World) (e : Ending) (w' : World) : Prop :=
  ∃ A c, e = .returned (.tuple #[.slice A (lenOf num N) c, eV2 a num]) ∧ Bld w' w.heap.size 2 (.slice A (lenOf num N) c) (lenOf num N) (iw S) ∧ Below w.heap.size w w'
def linS (n m : Nat) (x y : Nat → Int) : Nat → Int := allS x y (fun i j => i + j) m n
def cycS (n m : Nat) (x y : Nat → Int) : Nat → Int := allS x y (fun i j => (i + j) % n) m n
def linN (n m : Nat) (x y : Nat → Int) : Nat := if n = 0 ∨ m = 0 ∨ 1048576 / m < n then 7 else if allFit (linS n m x y) (n + m - 1) = true then 0 else 19
def cycN (n m : Nat) (x y : Nat → Int) : Nat := if n = 0 ∨ 1024 < n ∨ m ≠ n then 7 else if allFit (cycS n m x y) n = true then 0 else 19
theorem cr_of {a : Nat → Addr} {N : Nat} {S : Nat → Int} {w : World} {e : Ending} {w' : World} (h : WRes a S N w e w') : CR a (if allFit S N = true then 0 else 19) N S w e w' := by
  obtain ⟨h1 | h1, hb⟩ := h
  · obtain ⟨F, A, c, rfl, hB⟩ := h1
    rw [if_pos F]
    exact ⟨A, c, rfl, hB, hb⟩
  · obtain ⟨F, rfl⟩ := h1
    rw [if_neg (by rw [F]; decide)]
    exact ⟨none, 0, rfl, bld_none _ _ _ hb.size _, hb⟩
set_option maxHeartbeats 2000000 in
theorem linear_any (A : Option Addr) (n c : Nat) (A' : Option Addr) (m c' : Nat) (x y : Nat → Int) (ea : Nat → Addr) (w : World) (hr : RS w A n c (iw x)) (hr' : RS w A' m c' (iw y)) (hx : ∀ i, i64B (x i)) (hy : ∀ j, i64B (y j)) (hE : Ers w (eV ea)) :
    Calls Tryd.prog 17 #[.slice A n c, .slice A' m c'] w (CR ea (linN n m x y) (n + m - 1) (linS n m x y) w) := by
  have k1 := hr.nc
  have k2 := hr.cm
  have k3 := hr'.nc
  have k4 := hr'.cm
  have hc0 : w.cell? ⟨0, 0, none⟩ = some (.iface 110 (.pointer (some (ea 0)))) := hE.cell 0 (by decide)
  by_cases h7 : n = 0 ∨ m = 0 ∨ 1048576 / m < n
  · have e7 : linN n m x y = 7 := by unfold linN; rw [if_pos h7]
    rw [e7]
    clear hr hr' hx hy hE e7
    by_cases hn : n = 0
    · subst hn
      go_enter Tryd.func17, Tryd.ntmps17
      go_wp2_with fail
      go_quiet (fail)
      go_wp2_with fail
      go_ret2
      exact ⟨none, 0, rfl, bld_none _ _ _ (Nat.le_refl _) _, below_drewN (Below.refl _ _) _⟩
    · have e1 : ((n : Int) == 0) = false := by simp; omega
      by_cases hm : m = 0
      · subst hm
        go_enter Tryd.func17, Tryd.ntmps17
        go_wp2_with fail
        go_quiet (fail)
        go_wp2_with fail
        go_ret2
        exact ⟨none, 0, rfl, bld_none _ _ _ (Nat.le_refl _) _, below_drewN (Below.refl _ _) _⟩
      · have e2 : ((m : Int) == 0) = false := by simp; omega
        have hq : 1048576 / m < n := by omega
        have e3 : (1048576 : Int) / m < n := by
          have : ((1048576 / m : Nat) : Int) < n := by omega
          exact this
        have e4 : (m : Int) ≠ 0 := by omega
        have e5 : (0 : Int) < m := by omega
        clear h7 hq
        go_enter Tryd.func17, Tryd.ntmps17
        go_wp2_with fail
        go_quiet (fail)
        go_wp2_with fail
        go_ret2
        exact ⟨none, 0, rfl, bld_none _ _ _ (Nat.le_refl _) _, below_drewN (Below.refl _ _) _⟩
  · have e7 : linN n m x y = if allFit (linS n m x y) (n + m - 1) = true then 0 else 19 := by unfold linN; rw [if_neg h7]
    rw [e7]
    have hn : n ≠ 0 := fun h => h7 (.inl h)
    have hm : m ≠ 0 := fun h => h7 (.inr (.inl h))
    have hq : n ≤ 1048576 / m := by
      rcases Nat.lt_or_ge (1048576 / m) n with h | h
      · exact absurd (.inr (.inr h)) h7
      · exact h
    have hnm : n * m ≤ 1048576 := (Nat.le_div_iff_mul_le (by omega)).1 hq
    have hn2 : n ≤ 1048576 := Nat.le_trans (Nat.le_mul_of_pos_right n (by omega)) hnm
    have hm2 : m ≤ 1048576 := Nat.le_trans (Nat.le_mul_of_pos_left m (by omega)) hnm
    have e1 : ((n : Int) == 0) = false := by simp; omega
    have e2 : ((m : Int) == 0) = false := by simp; omega
    have e3 : ¬ (1048576 : Int) / m < n := by
      have : ¬ ((1048576 / m : Nat) : Int) < n := by omega
      exact this
    have e4 : (m : Int) ≠ 0 := by omega
    have e5 : (0 : Int) < m := by omega
    obtain ⟨N, hN⟩ : ∃ N, n + m - 1 = N := ⟨_, rfl⟩
    have e6 : (n : Int) + m - 1 = (N : Int) := by omega
    have H := Lib.hid ((gatherL A n c A' m c' N x y ea w hr hr' hx hy hnm hn2 hm2 (by omega) (fun i j hi hj => by omega) hE).mono (fun _ _ h => cr_of h))
    rw [hN]
    unfold linS
    generalize allS x y (fun i j => i + j) m n = S at *
    generalize (if allFit S N = true then 0 else 19) = q at *
    have hn3 : (n : Int) ≤ 1048576 := by omega
    have hm3 : (m : Int) ≤ 1048576 := by omega
    clear e7 h7 hq hnm hr hr' hx hy hE hN
    go_enter Tryd.func17, Tryd.ntmps17
    go_wp2_with (go_at_call 34; refine H.out.mono ?_; rintro e w1 ⟨A5, c5, rfl, hB, hb⟩)
    go_ret2
    exact ⟨A5, c5, rfl, hB, hb⟩
set_option maxHeartbeats 2000000 in
theorem cyclic_any (A : Option Addr) (n c : Nat) (A' : Option Addr) (m c' : Nat) (x y : Nat → Int) (ea : Nat → Addr) (w : World) (hr : RS w A n c (iw x)) (hr' : RS w A' m c' (iw y)) (hx : ∀ i, i64B (x i)) (hy : ∀ j, i64B (y j)) (hE : Ers w (eV ea)) :
    Calls Tryd.prog 20 #[.slice A n c, .slice A' m c'] w (CR ea (cycN n m x y) n (cycS n m x y) w) := by
  have k1 := hr.nc
  have k2 := hr.cm
  have k3 := hr'.nc
  have k4 := hr'.cm
  have hc0 : ∀ v : Value, (w.alloc (.cells #[v] 3)).cell? ⟨0, 0, none⟩ = some (.iface 110 (.pointer (some (ea 0)))) := fun v => (hE.below ((Below.refl _ _).alloc (Nat.le_refl _) _)).cell 0 (by decide)
  have hbA : Hid (∀ v : Value, Below w.heap.size w (w.alloc (.cells #[v] 3))) := fun v => (Below.refl _ _).alloc (Nat.le_refl _) _
  by_cases h7 : n = 0 ∨ 1024 < n ∨ m ≠ n
  · have e7 : cycN n m x y = 7 := by unfold cycN; rw [if_pos h7]
    rw [e7]
    clear hr hr' hx hy hE e7
    by_cases hn : n = 0
    · subst hn
      go_enter Tryd.func20, Tryd.ntmps20
      go_wp2_with fail
      go_quiet (fail)
      go_wp2_with fail
      go_ret2
      exact ⟨none, 0, rfl, bld_none _ _ _ (below_drewN (hbA.out _) _).size _, below_drewN (hbA.out _) _⟩
    · have e1 : ((n : Int) == 0) = false := by simp; omega
      by_cases hm : 1024 < n
      · have e2 : (1024 : Int) < n := by omega
        go_enter Tryd.func20, Tryd.ntmps20
        go_wp2_with fail
        go_quiet (fail)
        go_wp2_with fail
        go_ret2
        exact ⟨none, 0, rfl, bld_none _ _ _ (below_drewN (hbA.out _) _).size _, below_drewN (hbA.out _) _⟩
      · have e2 : ¬ (1024 : Int) < n := by omega
        have hmn : ((m : Int) != n) = true := by rw [bne_iff_ne]; omega
        clear h7 hm
        go_enter Tryd.func20, Tryd.ntmps20
        go_wp2_with fail
        go_quiet (fail)
        go_wp2_with fail
        go_ret2
        exact ⟨none, 0, rfl, bld_none _ _ _ (below_drewN (hbA.out _) _).size _, below_drewN (hbA.out _) _⟩
  · have e7 : cycN n m x y = if allFit (cycS n m x y) n = true then 0 else 19 := by unfold cycN; rw [if_neg h7]
    rw [e7]
    have hn : n ≠ 0 := fun h => h7 (.inl h)
    have hn1024 : n ≤ 1024 := by
      rcases Nat.lt_or_ge 1024 n with h | h
      · exact absurd (.inr (.inl h)) h7
      · exact h
    obtain rfl : m = n := Decidable.byContradiction fun h => h7 (.inr (.inr h))
    have hnm : m * m ≤ 1048576 := Nat.mul_le_mul hn1024 hn1024
    have e1 : ((m : Int) == 0) = false := by simp; omega
    have e2 : ¬ (1024 : Int) < m := by omega
    obtain ⟨w1, hw1⟩ : ∃ w1, w.alloc (.cells #[.int .i64 (m : Nat)] 3) = w1 := ⟨_, rfl⟩
    have hb1 : Below w.heap.size w w1 := by rw [← hw1]; exact hbA.out _
    have hcb : w1.cell? ⟨w.heap.size, 0, none⟩ = some (.int .i64 (m : Nat)) := by rw [← hw1]; exact cell_one w _ 3
    have H := Lib.hid ((gatherC A m c A' m c' m x y ea w.heap.size w1 (hr.below hb1) (hr'.below hb1) hx hy hnm (by omega) (by omega) (by omega) (fun i j hi hj => Nat.mod_lt _ (by omega)) hcb (by omega) (hE.below hb1)).mono (fun _ _ h => cr_of h))
    have Hb1 := Lib.hid hb1
    have Hw1 := Lib.hid hw1
    unfold cycS
    generalize allS x y (fun i j => (i + j) % m) m m = S at *
    generalize (if allFit S m = true then 0 else 19) = q at *
    clear e7 h7 hnm hr hr' hx hy hE hc0 hcb hw1 hb1
    go_enter Tryd.func20, Tryd.ntmps20
    go_wp2_with (go_at_call 34; rw [Hw1.out]; refine H.out.mono ?_; rintro e w2 ⟨A5, c5, rfl, hB, hb⟩)
    go_ret2
    exact ⟨A5, c5, rfl, hB.mono Hb1.out.size, Hb1.out.trans (hb.mono Hb1.out.size)⟩
end Go.Proofs.YtppebegleedifaaDoor
