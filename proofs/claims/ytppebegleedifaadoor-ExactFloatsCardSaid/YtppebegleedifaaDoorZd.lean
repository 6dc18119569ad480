/- The reference's Linear, Cyclic. -/
import Derived.Test.YtppebegleedifaaDoorZc
import Derived.Test.YtppebegleedifaaDoorYi
namespace Go.Proofs.YtppebegleedifaaDoor
open Go.RowKit

theorem rowS_congr {x y : Nat → Int} {f g : Nat → Nat → Nat} {i : Nat} {S : Nat → Int} {m : Nat} (h : ∀ j, j < m → f i j = g i j) : rowS x y f i S m = rowS x y g i S m := by
  induction m with
  | zero => rfl
  | succ m ih =>
    funext k
    rw [rowS, rowS, ih (fun j hj => h j (by omega)), h m (by omega)]
theorem allS_congr {x y : Nat → Int} {f g : Nat → Nat → Nat} {m n : Nat} (h : ∀ i j, i < n → j < m → f i j = g i j) : allS x y f m n = allS x y g m n := by
  induction n with
  | zero => rfl
  | succ n ih => rw [allS, allS, ih (fun i j hi hj => h i j (by omega) hj), rowS_congr (fun j hj => h n j (by omega) hj)]
section
variable (A : Option Addr) (n c : Nat) (A' : Option Addr) (m c' : Nat) (x y : Nat → Int) (w : World) (hr : RS w A n c (iw x)) (hr' : RS w A' m c' (iw y)) (hx : ∀ i, i64B (x i)) (hy : ∀ j, i64B (y j)) (q L : Nat) (S : Nat → Int)
include hr hr' hx hy
set_option maxRecDepth 20000 in
set_option maxHeartbeats 2000000 in
theorem linR_er (hq : linN n m x y = q) (hL : lenOf q (n + m - 1) = L) (hS : linS n m x y = S) : Calls Tryd.prog 18 #[.slice A n c, .slice A' m c'] w fun e w' => ∃ A2 c2, e = .returned (.tuple #[.slice A2 L c2, .int .i64 (q : Nat)]) ∧ Bld w' w.heap.size 2 (.slice A2 L c2) L (iw S) ∧ Nx w w' := by
  have k1 := hr.nc
  have k2 := hr.cm
  have k3 := hr'.nc
  have k4 := hr'.cm
  by_cases h7 : n = 0 ∨ m = 0 ∨ 1048576 / m < n
  · have e7 : q = 7 := by rw [← hq]; unfold linN; rw [if_pos h7]
    subst e7
    have eL : L = 0 := by rw [← hL]; rfl
    subst eL
    clear hr hr' hx hy hq hL hS
    by_cases hn : n = 0
    · have z1 : ((n : Int) == 0) = true := by simp; omega
      have z2 : (n == 0) = true := by simp; omega
      go_enter Tryd.func18, Tryd.ntmps18
      go_wp2_with fail
      go_ret2
      exact ⟨none, 0, rfl, bld_none _ _ _ (Nat.le_refl _) _, Nx.refl _⟩
    · have z1 : ((n : Int) == 0) = false := by simp; omega
      have z2 : (n == 0) = false := by simp; omega
      by_cases hm : m = 0
      · have z3 : ((m : Int) == 0) = true := by simp; omega
        have z4 : (m == 0) = true := by simp; omega
        go_enter Tryd.func18, Tryd.ntmps18
        go_wp2_with fail
        go_ret2
        exact ⟨none, 0, rfl, bld_none _ _ _ (Nat.le_refl _) _, Nx.refl _⟩
      · have z3 : ((m : Int) == 0) = false := by simp; omega
        have z4 : (m == 0) = false := by simp; omega
        have z5 : (m : Int) ≠ 0 := by omega
        have z6 : (0 : Int) < m := by omega
        obtain ⟨d, hd⟩ : ∃ d, 1048576 / m = d := ⟨_, rfl⟩
        have z7 : (1048576 : Int) / m = (d : Int) := by rw [← hd]; rfl
        have z8 : (d : Int) < n := by omega
        clear hd h7
        go_enter Tryd.func18, Tryd.ntmps18
        go_wp2_with fail
        go_ret2
        exact ⟨none, 0, rfl, bld_none _ _ _ (Nat.le_refl _) _, Nx.refl _⟩
  · have hn1 : 1 ≤ n := by omega
    have hm1 : 1 ≤ m := by omega
    have hnm : n * m ≤ 1048576 := by
      have h1 : n ≤ 1048576 / m := by omega
      exact Nat.le_trans (Nat.mul_le_mul_right m h1) (Nat.div_mul_le_self _ _)
    have hn2 : n ≤ 1048576 := by
      have := Nat.le_mul_of_pos_right n hm1; omega
    have hm2 : m ≤ 1048576 := by
      have := Nat.le_mul_of_pos_left m hn1; omega
    obtain ⟨N, hN⟩ : ∃ N, n + m - 1 = N := ⟨_, rfl⟩
    have hNi : (n : Int) + m - 1 = (N : Int) := by omega
    have eS : allS x y (fun i j => (i + j) % N) m n = S := by
      rw [← hS]
      unfold linS
      exact allS_congr fun i j hi hj => Nat.mod_eq_of_lt (by omega)
    have hsp := spread_any A n c A' m c' N x y w hr hr' hx hy hnm hn2 hm2 (by omega) (by omega)
    rw [eS] at hsp
    have eq' : (if allFit S N = true then 0 else 19) = q := by
      rw [← hq]; unfold linN; rw [if_neg h7, hS, hN]
    unfold SpR at hsp
    rw [eq', ← hN, hL] at hsp
    rw [hN] at hsp
    have H := Lib.hid hsp
    have z1 : ((n : Int) == 0) = false := by simp; omega
    have z2 : (n == 0) = false := by simp; omega
    have z3 : ((m : Int) == 0) = false := by simp; omega
    have z4 : (m == 0) = false := by simp; omega
    have z5 : (m : Int) ≠ 0 := by omega
    have z6 : (0 : Int) < m := by omega
    obtain ⟨d, hd⟩ : ∃ d, 1048576 / m = d := ⟨_, rfl⟩
    have z7 : (1048576 : Int) / m = (d : Int) := by rw [← hd]; rfl
    have z8 : ¬ (d : Int) < n := by omega
    clear hd h7 hr hr' hx hy hq hL hS hsp hN eS eq' hnm
    go_enter Tryd.func18, Tryd.ntmps18
    go_wp2_with (go_at_call 36; refine H.out.mono ?_; rintro e w2 ⟨A2, c2, rfl, hB, hb⟩; have HB := Lib.hid hB; have Hb := Lib.hid hb; clear hB hb)
    go_ret2
    exact ⟨A2, c2, rfl, HB.out, Hb.out⟩
set_option maxRecDepth 20000 in
set_option maxHeartbeats 2000000 in
theorem cycR_er (hq : cycN n m x y = q) (hL : lenOf q n = L) (hS : cycS n m x y = S) : Calls Tryd.prog 21 #[.slice A n c, .slice A' m c'] w fun e w' => ∃ A2 c2, e = .returned (.tuple #[.slice A2 L c2, .int .i64 (q : Nat)]) ∧ Bld w' w.heap.size 2 (.slice A2 L c2) L (iw S) ∧ Nx w w' := by
  have k1 := hr.nc
  have k2 := hr.cm
  have k3 := hr'.nc
  have k4 := hr'.cm
  by_cases h7 : n = 0 ∨ 1024 < n ∨ m ≠ n
  · have e7 : q = 7 := by rw [← hq]; unfold cycN; rw [if_pos h7]
    subst e7
    have eL : L = 0 := by rw [← hL]; rfl
    subst eL
    clear hr hr' hx hy hq hL hS
    by_cases hn : n = 0
    · have z1 : ((n : Int) == 0) = true := by simp; omega
      have z2 : (n == 0) = true := by simp; omega
      go_enter Tryd.func21, Tryd.ntmps21
      go_wp2_with fail
      go_ret2
      exact ⟨none, 0, rfl, bld_none _ _ _ (Nat.le_refl _) _, Nx.refl _⟩
    · have z1 : ((n : Int) == 0) = false := by simp; omega
      have z2 : (n == 0) = false := by simp; omega
      by_cases hn2 : 1024 < n
      · have z3 : (1024 : Int) < n := by omega
        go_enter Tryd.func21, Tryd.ntmps21
        go_wp2_with fail
        go_ret2
        exact ⟨none, 0, rfl, bld_none _ _ _ (Nat.le_refl _) _, Nx.refl _⟩
      · have z3 : ¬ (1024 : Int) < n := by omega
        have z4 : ((m : Int) != n) = true := by rw [bne_iff_ne]; omega
        have z5 : (m != n) = true := by rw [bne_iff_ne]; omega
        go_enter Tryd.func21, Tryd.ntmps21
        go_wp2_with fail
        go_ret2
        exact ⟨none, 0, rfl, bld_none _ _ _ (Nat.le_refl _) _, Nx.refl _⟩
  · have hn1 : 1 ≤ n := by omega
    have hmn : m = n := by omega
    subst hmn
    have hnm : m * m ≤ 1048576 := Nat.mul_le_mul (show m ≤ 1024 by omega) (show m ≤ 1024 by omega)
    have hsp := spread_any A m c A' m c' m x y w hr hr' hx hy hnm (by omega) (by omega) (by omega) (by omega)
    have eS : allS x y (fun i j => (i + j) % m) m m = S := hS
    rw [eS] at hsp
    have eq' : (if allFit S m = true then 0 else 19) = q := by
      rw [← hq]; unfold cycN; rw [if_neg h7, hS]
    unfold SpR at hsp
    rw [eq', hL] at hsp
    have H := Lib.hid hsp
    have z1 : ((m : Int) == 0) = false := by simp; omega
    have z2 : (m == 0) = false := by simp; omega
    have z3 : ¬ (1024 : Int) < m := by omega
    clear h7 hr hr' hx hy hq hL hS hsp eS eq' hnm
    go_enter Tryd.func21, Tryd.ntmps21
    go_wp2_with (go_at_call 36; refine H.out.mono ?_; rintro e w2 ⟨A2, c2, rfl, hB, hb⟩; have HB := Lib.hid hB; have Hb := Lib.hid hb; clear hB hb)
    go_ret2
    exact ⟨A2, c2, rfl, HB.out, Hb.out⟩
end
end Go.Proofs.YtppebegleedifaaDoor
