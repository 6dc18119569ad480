/- ExactRules: the walk. -/
import Derived.Test.YtppebegleedifaaDoorYj
import Derived.Test.YtppebegleedifaaDoorYk
import Derived.StillTailTactics
namespace Go.Proofs.YtppebegleedifaaDoor
open Go.RowKit

theorem lin_small {n m : Nat} {x y : Nat → Int} (hn : 1 ≤ n ∧ n ≤ 200) (hm : 1 ≤ m ∧ m ≤ 200) : (linN n m x y = 0 ∧ allFit (linS n m x y) (n + m - 1) = true) ∨ (linN n m x y = 19 ∧ allFit (linS n m x y) (n + m - 1) = false) := by
  rcases linN_cases n m x y with ⟨_, h⟩ | ⟨_, h⟩
  · exfalso
    have h1 : 1048576 / 200 ≤ 1048576 / m := Nat.div_le_div_left hm.2 (by omega)
    omega
  · exact h
def cutF (S : Nat → Int) (L : Nat) : Nat → Int := fun j => if j < L then S j else 0
theorem cutF_lt {S : Nat → Int} {L j : Nat} (h : j < L) : cutF S L j = S j := if_pos h
theorem cutF_B {S : Nat → Int} {L : Nat} (h : ∀ j, j < L → i64B (S j)) (j : Nat) : i64B (cutF S L j) := by
  unfold cutF
  split
  · rename_i hj; exact h j hj
  · unfold i64B; omega
theorem RS.cut {w : World} {A : Option Addr} {n c : Nat} {S : Nat → Int} (h : RS w A n c (iw S)) : RS w A n c (iw (cutF S n)) := h.congr fun j hj => by unfold iw; rw [cutF_lt hj]
theorem lin_cut {n m : Nat} {x y : Nat → Int} (l : Nat) (hl : l < n + m - 1) : linS n m x (cutF y m) l = linS n m x y l := by
  unfold linS
  rw [allS_at x _ _ (n + m - 1) m n (fun i j hi hj => by omega) l hl, allS_at x y _ (n + m - 1) m n (fun i j hi hj => by omega) l hl]
  refine sz_congr fun i _ => sz_congr fun j hj => ?_
  rw [cutF_lt hj]
theorem lin_zero (n : Nat) (x y : Nat → Int) : linN n 0 x y = 7 ∧ linN 0 n y x = 7 := by
  unfold linN
  exact ⟨if_pos (by omega), if_pos (by omega)⟩
theorem allFit_congr {S T : Nat → Int} {n : Nat} (h : ∀ j, j < n → S j = T j) : allFit S n = allFit T n := by
  induction n with
  | zero => rfl
  | succ n ih => rw [allFit, allFit, ih (fun j hj => h j (by omega)), h n (by omega)]
theorem lin_ex {n m : Nat} (x y : Nat → Int) (hn : 1 ≤ n ∧ n ≤ 200) (hm : 1 ≤ m ∧ m ≤ 200) : linN m n y x = linN n m x y := by
  have e : allFit (linS m n y x) (m + n - 1) = allFit (linS n m x y) (n + m - 1) := by
    rw [show m + n - 1 = n + m - 1 by omega]
    exact allFit_congr fun j hj => (lin_swap n m x y j hj).symm
  rcases lin_small (x := x) (y := y) hn hm with ⟨e1, f1⟩ | ⟨e1, f1⟩ <;> rcases lin_small (x := y) (y := x) hm hn with ⟨e2, f2⟩ | ⟨e2, f2⟩
  · rw [e1, e2]
  · rw [e, f1] at f2; cases f2
  · rw [e, f1] at f2; cases f2
  · rw [e1, e2]
theorem Ers.same {w w' : World} {E : Nat → Value} (h : Ers w E) (e : w'.heap = w.heap) : Ers w' E := ⟨fun g hg => by rw [← h.cell g hg]; simp [World.cell?, e]⟩
theorem erV19 (a : Nat → Addr) : erV a 19 = .iface 110 (.pointer (some (a (sg 18)))) := rfl
theorem erV7 (a : Nat → Addr) : erV a 7 = .iface 110 (.pointer (some (a (sg 6)))) := rfl
set_option maxRecDepth 100000 in
set_option maxHeartbeats 32000000 in
theorem rules_guard (A : Option Addr) (n c : Nat) (A' : Option Addr) (m c' : Nat) (A'' : Option Addr) (k c'' : Nat) (x y z : Nat → Int) (a : Nat → Addr) (w : World) (hr : RS w A n c (iw x)) (hr' : RS w A' m c' (iw y)) (hr'' : RS w A'' k c'' (iw z)) (hx : ∀ i, i64B (x i)) (hy : ∀ j, i64B (y j)) (hz : ∀ j, i64B (z j)) (hE : ErA w a)
    (hg : n = 0 ∨ 200 < n ∨ 200 < m) :
    Calls Tryd.prog 8 #[.slice A n c, .slice A' m c', .slice A'' k c''] w fun e w' => e = .returned (.bool true) ∧ Nx w w' := by
  have k1 := hr.nc
  have k2 := hr.cm
  have k3 := hr'.nc
  have k4 := hr'.cm
  have k5 := hr''.nc
  have k6 := hr''.cm
  have hgc : n = 0 ∨ ((0 : Int) < n ∧ (200 : Int) < n) ∨ ((0 : Int) < n ∧ ¬ (200 : Int) < n ∧ (200 : Int) < m) := by omega
  clear hg hr hr' hr'' hx hy hz
  have HE := Lib.hid hE
  clear hE
  rcases hgc with h | ⟨h1, h2⟩ | ⟨h1, h2, h3⟩
  · have z0 : ((n : Int) == 0) = true := by simp; omega
    have z1 : (n == 0) = true := by simp; omega
    clear h
    go_enter Tryd.func8, Tryd.ntmps8
    go_wp2_with (go_at_call 10; refine (lives_any a _ HE.out.ers).mono ?_; rintro e w1 ⟨rfl, hb⟩)
    go_ret
    exact ⟨rfl, hb⟩
  · have z0 : ((n : Int) == 0) = false := by simp; omega
    have z1 : (n == 0) = false := by simp; omega
    go_enter Tryd.func8, Tryd.ntmps8
    go_wp2_with (go_at_call 10; refine (lives_any a _ HE.out.ers).mono ?_; rintro e w1 ⟨rfl, hb⟩)
    go_ret
    exact ⟨rfl, hb⟩
  · have z0 : ((n : Int) == 0) = false := by simp; omega
    have z1 : (n == 0) = false := by simp; omega
    go_enter Tryd.func8, Tryd.ntmps8
    go_wp2_with (go_at_call 10; refine (lives_any a _ HE.out.ers).mono ?_; rintro e w1 ⟨rfl, hb⟩)
    go_ret
    exact ⟨rfl, hb⟩
set_option maxRecDepth 100000 in
set_option maxHeartbeats 32000000 in
theorem rules_zero (A : Option Addr) (n c : Nat) (A' : Option Addr) (m c' : Nat) (A'' : Option Addr) (k c'' : Nat) (x y z : Nat → Int) (a : Nat → Addr) (w : World) (hr : RS w A n c (iw x)) (hr' : RS w A' m c' (iw y)) (hr'' : RS w A'' k c'' (iw z)) (hx : ∀ i, i64B (x i)) (hy : ∀ j, i64B (y j)) (hz : ∀ j, i64B (z j)) (hE : ErA w a)
    (hn : 1 ≤ n ∧ n ≤ 200) (hm : m ≤ 200) (hN0 : min m k = 0) :
    Calls Tryd.prog 8 #[.slice A n c, .slice A' m c', .slice A'' k c''] w fun e w' => e = .returned (.bool true) ∧ Nx w w' := by
  have k1 := hr.nc
  have k2 := hr.cm
  have k3 := hr'.nc
  have k4 := hr'.cm
  have k5 := hr''.nc
  have k6 := hr''.cm
  obtain ⟨N, hN⟩ : ∃ N, min m k = N := ⟨_, rfl⟩
  have l1 : N ≤ m := by omega
  have l2 : N ≤ k := by omega
  have HN : Hid ((if (k : Int) < (m : Int) then (k : Int) else m) = (N : Int)) := by show _ = _; split <;> omega
  have hs1 : ∀ w, (Instr.sliceAt 34 (.slice A' m c') none (some (.int .i64 (N : Int))) none).run Tryd.prog w = .ok (.slice A' N c') w := run_to Tryd.underlying34 cells2 A' m c' N (by omega)
  have hs2 : ∀ w, (Instr.sliceAt 34 (.slice A'' k c'') none (some (.int .i64 (N : Int))) none).run Tryd.prog w = .ok (.slice A'' N c'') w := run_to Tryd.underlying34 cells2 A'' k c'' N (by omega)
  have HE : Hid (∀ w', Nx w w' → ErA w' a) := fun w' h => hE.below h
  have HX : Hid (∀ w', Nx w w' → RS w' A n c (iw x)) := fun w' h => hr.nx h
  have HY : Hid (∀ w', Nx w w' → RS w' A' N c' (iw y)) := fun w' h => (hr'.take l1).nx h
  have HZ : Hid (∀ w', Nx w w' → RS w' A'' N c'' (iw z)) := fun w' h => (hr''.take l2).nx h
  have Hx := Lib.hid hx
  have Hy := Lib.hid hy
  have Hz := Lib.hid hz
  clear hE hr hr' hr'' hx hy hz
  have z0 : ((n : Int) == 0) = false := by simp; omega
  have z1 : (n == 0) = false := by simp; omega
  have g1 : ¬ (200 : Int) < n := by omega
  have g2 : ¬ (200 : Int) < m := by omega
  have hN0' : N = 0 := by omega
  obtain ⟨S1, hS1⟩ : ∃ S, linS n N x y = S := ⟨_, rfl⟩
  obtain ⟨S1', hS1'⟩ : ∃ S, linS N n y x = S := ⟨_, rfl⟩
  have Hq1 : Hid (linN n N x y = 7) := by show _ = _; rw [hN0']; exact (lin_zero n x y).1
  have Hq1' : Hid (linN N n y x = 7) := by show _ = _; rw [hN0']; exact (lin_zero n x y).2
  have Hl1 : Hid (lenOf 7 (n + N - 1) = 0) := rfl
  have Hl1' : Hid (lenOf 7 (N + n - 1) = 0) := rfl
  have HS1 := Lib.hid hS1
  have HS1' := Lib.hid hS1'
  have Hsw : Hid (∀ j, j < 0 → S1' j = S1 j) := fun j hj => absurd hj (by omega)
  have n0 : ((N : Int) == 0) = true := by simp; omega
  have n1 : (N == 0) = true := by simp; omega
  clear hS1 hS1' hN hN0 hN0'
  go_enter Tryd.func8, Tryd.ntmps8
  go_wp2_with (first
    | (go_at_call 10; refine (lives_any a _ (HE.out _ (Nx.refl _)).ers).mono ?_; rintro e w1 ⟨rfl, hb⟩; have K1 := Lib.hid hb; clear hb)
    | ((with_reducible show wpList _ _ _ (⟨some 44, _, _, _, _, _⟩ :: _) _ _); refine wpl_min2 rfl _ _ _ rfl m k N rfl rfl HN.out ?_))
  go_quiet (fail)
  go_wp2_with fail
  refine (lin_er A n c A' N c' x y a _ ((HX.out _ K1.out).drewN _) ((HY.out _ K1.out).drewN _) Hx.out Hy.out (HE.out _ (K1.out.drewN _)).ers 7 0 S1 Hq1.out Hl1.out HS1.out).mono ?_
  rintro e w2 ⟨A2, c2, rfl, hB2, hb2⟩
  have K2 : Hid (Nx w w2) := (K1.out.drewN _).trans hb2
  have HB2 := Lib.hid hB2
  clear hB2 hb2 K1
  go_wp2_with fail
  refine (lin_er A' N c' A n c y x a _ (HY.out _ K2.out) (HX.out _ K2.out) Hy.out Hx.out (HE.out _ K2.out).ers 7 0 S1' Hq1'.out Hl1'.out HS1'.out).mono ?_
  rintro e w3 ⟨A3, c3, rfl, hB3, hb3⟩
  have K3 : Hid (Nx w2 w3) := hb3
  have HB3 : Hid (Bld w3 w2.heap.size 2 (.slice A3 0 c3) 0 (iw S1)) := hB3.congr fun j hj => (by unfold iw; rw [Hsw.out j hj])
  clear hB3 hb3
  go_wp2_with fail
  refine (num_any a 7 (by decide) _ (HE.out _ (K2.out.trans K3.out))).mono ?_
  rintro e w4 ⟨rfl, hb4⟩
  have K4 : Hid (Nx w3 w4) := hb4
  clear hb4
  go_wp2_with fail
  refine (num_any a 7 (by decide) _ (HE.out _ (K2.out.trans (K3.out.trans K4.out)))).mono ?_
  rintro e w5 ⟨rfl, hb5⟩
  have K5 : Hid (Nx w3 w5) := K4.out.trans hb5
  clear hb5
  go_wp2_with fail
  refine (sameI_nx _ _ _ _ _ S1 _ (HB2.out.nx (K3.out.trans K5.out)).rs (HB3.out.nx K5.out).rs).mono ?_
  rintro e w6 ⟨rfl, hb6⟩
  have K6 : Hid (Nx w2 w6) := K3.out.trans (K5.out.trans hb6)
  have R2 := Lib.hid (HB2.out.nx K6.out).rs
  have K06 : Hid (Nx w w6) := K2.out.trans K6.out
  clear hb6 HB3 HB2 K3 K4 K5 K2 K6
  go_wp2_with fail
  refine (num_any a 7 (by decide) _ (HE.out _ K06.out)).mono ?_
  rintro e w7 ⟨rfl, hb7⟩
  have K7 : Hid (Nx w w7) := K06.out.trans hb7
  clear hb7
  go_wp2_with fail
  go_ret
  exact ⟨rfl, K7.out⟩
set_option maxRecDepth 100000 in
set_option maxHeartbeats 32000000 in
theorem rules_f1 (A : Option Addr) (n c : Nat) (A' : Option Addr) (m c' : Nat) (A'' : Option Addr) (k c'' : Nat) (x y z : Nat → Int) (a : Nat → Addr) (w : World) (hr : RS w A n c (iw x)) (hr' : RS w A' m c' (iw y)) (hr'' : RS w A'' k c'' (iw z)) (hx : ∀ i, i64B (x i)) (hy : ∀ j, i64B (y j)) (hz : ∀ j, i64B (z j)) (hE : ErA w a)
    (hn : 1 ≤ n ∧ n ≤ 200) (hm : m ≤ 200) (hN0 : 1 ≤ min m k) (hq1 : linN n (min m k) x y = 19) (hq2 : linN n (min m k) x z = 19) :
    Calls Tryd.prog 8 #[.slice A n c, .slice A' m c', .slice A'' k c''] w fun e w' => e = .returned (.bool true) ∧ Nx w w' := by
  have k1 := hr.nc
  have k2 := hr.cm
  have k3 := hr'.nc
  have k4 := hr'.cm
  have k5 := hr''.nc
  have k6 := hr''.cm
  obtain ⟨N, hN⟩ : ∃ N, min m k = N := ⟨_, rfl⟩
  have l1 : N ≤ m := by omega
  have l2 : N ≤ k := by omega
  have HN : Hid ((if (k : Int) < (m : Int) then (k : Int) else m) = (N : Int)) := by show _ = _; split <;> omega
  have hs1 : ∀ w, (Instr.sliceAt 34 (.slice A' m c') none (some (.int .i64 (N : Int))) none).run Tryd.prog w = .ok (.slice A' N c') w := run_to Tryd.underlying34 cells2 A' m c' N (by omega)
  have hs2 : ∀ w, (Instr.sliceAt 34 (.slice A'' k c'') none (some (.int .i64 (N : Int))) none).run Tryd.prog w = .ok (.slice A'' N c'') w := run_to Tryd.underlying34 cells2 A'' k c'' N (by omega)
  have HE : Hid (∀ w', Nx w w' → ErA w' a) := fun w' h => hE.below h
  have HX : Hid (∀ w', Nx w w' → RS w' A n c (iw x)) := fun w' h => hr.nx h
  have HY : Hid (∀ w', Nx w w' → RS w' A' N c' (iw y)) := fun w' h => (hr'.take l1).nx h
  have HZ : Hid (∀ w', Nx w w' → RS w' A'' N c'' (iw z)) := fun w' h => (hr''.take l2).nx h
  have Hx := Lib.hid hx
  have Hy := Lib.hid hy
  have Hz := Lib.hid hz
  clear hE hr hr' hr'' hx hy hz
  have z0 : ((n : Int) == 0) = false := by simp; omega
  have z1 : (n == 0) = false := by simp; omega
  have g1 : ¬ (200 : Int) < n := by omega
  have g2 : ¬ (200 : Int) < m := by omega
  have hN1 : 1 ≤ N := by omega
  have hn1 : 1 ≤ n ∧ n ≤ 200 := hn
  have hN2 : 1 ≤ N ∧ N ≤ 200 := by omega
  obtain ⟨L, hL⟩ : ∃ L, n + N - 1 = L := ⟨_, rfl⟩
  obtain ⟨S1, hS1⟩ : ∃ S, linS n N x y = S := ⟨_, rfl⟩
  obtain ⟨S1', hS1'⟩ : ∃ S, linS N n y x = S := ⟨_, rfl⟩
  obtain ⟨S2, hS2⟩ : ∃ S, linS n N x z = S := ⟨_, rfl⟩
  obtain ⟨N', hN'⟩ : ∃ N', N = N' := ⟨_, rfl⟩
  have hN1' : 1 ≤ min m k := by omega
  rw [hN] at hq1 hq2
  have Hq1 : Hid (linN n N x y = 19) := hq1
  have Hq1' : Hid (linN N n y x = 19) := by show _ = _; rw [lin_ex x y hn1 hN2]; exact hq1
  have Hl1 : Hid (lenOf 19 (n + N - 1) = 0) := rfl
  have Hl1' : Hid (lenOf 19 (N + n - 1) = 0) := rfl
  have HS1 := Lib.hid hS1
  have HS1' := Lib.hid hS1'
  have HS2 := Lib.hid hS2
  have Hsw : Hid (∀ j, j < 0 → S1' j = S1 j) := fun j hj => by rw [← hS1, ← hS1']; exact (lin_swap n N x y j (by omega)).symm
  have n0 : ((N : Int) == 0) = false := by simp; omega
  have n1 : (N == 0) = false := by simp; omega
  have Hq2 : Hid (linN n N x z = 19) := hq2
  have Hl2 : Hid (lenOf 19 (n + N - 1) = 0) := rfl
  clear hS1 hS1' hS2 hN hN1' hN' hq1 hq2
  go_enter Tryd.func8, Tryd.ntmps8
  go_wp2_with (first
    | (go_at_call 10; refine (lives_any a _ (HE.out _ (Nx.refl _)).ers).mono ?_; rintro e w1 ⟨rfl, hb⟩; have K1 := Lib.hid hb; clear hb)
    | ((with_reducible show wpList _ _ _ (⟨some 44, _, _, _, _, _⟩ :: _) _ _); refine wpl_min2 rfl _ _ _ rfl m k N rfl rfl HN.out ?_))
  go_quiet (fail)
  go_wp2_with fail
  refine (lin_er A n c A' N c' x y a _ ((HX.out _ K1.out).drewN _) ((HY.out _ K1.out).drewN _) Hx.out Hy.out (HE.out _ (K1.out.drewN _)).ers 19 0 S1 Hq1.out Hl1.out HS1.out).mono ?_
  rintro e w2 ⟨A2, c2, rfl, hB2, hb2⟩
  have K2 : Hid (Nx w w2) := (K1.out.drewN _).trans hb2
  have HB2 := Lib.hid hB2
  clear hB2 hb2 K1
  go_wp2_with fail
  refine (lin_er A' N c' A n c y x a _ (HY.out _ K2.out) (HX.out _ K2.out) Hy.out Hx.out (HE.out _ K2.out).ers 19 0 S1' Hq1'.out Hl1'.out HS1'.out).mono ?_
  rintro e w3 ⟨A3, c3, rfl, hB3, hb3⟩
  have K3 : Hid (Nx w2 w3) := hb3
  have HB3 : Hid (Bld w3 w2.heap.size 2 (.slice A3 0 c3) 0 (iw S1)) := hB3.congr fun j hj => (by unfold iw; rw [Hsw.out j hj])
  clear hB3 hb3
  go_wp2_with fail
  refine (num_any a 19 (by decide) _ (HE.out _ (K2.out.trans K3.out))).mono ?_
  rintro e w4 ⟨rfl, hb4⟩
  have K4 : Hid (Nx w3 w4) := hb4
  clear hb4
  go_wp2_with fail
  refine (num_any a 19 (by decide) _ (HE.out _ (K2.out.trans (K3.out.trans K4.out)))).mono ?_
  rintro e w5 ⟨rfl, hb5⟩
  have K5 : Hid (Nx w3 w5) := K4.out.trans hb5
  clear hb5
  go_wp2_with fail
  refine (sameI_nx _ _ _ _ _ S1 _ (HB2.out.nx (K3.out.trans K5.out)).rs (HB3.out.nx K5.out).rs).mono ?_
  rintro e w6 ⟨rfl, hb6⟩
  have K6 : Hid (Nx w2 w6) := K3.out.trans (K5.out.trans hb6)
  have R2 := Lib.hid (HB2.out.nx K6.out).rs
  have K06 : Hid (Nx w w6) := K2.out.trans K6.out
  clear hb6 HB3 HB2 K3 K4 K5 K2 K6
  try rw [erV19]
  go_wp2_with fail
  refine (lin_er A n c A'' N c'' x z a _ (HX.out _ K06.out) (HZ.out _ K06.out) Hx.out Hz.out (HE.out _ K06.out).ers 19 0 S2 Hq2.out Hl2.out HS2.out).mono ?_
  rw [erV19]
  rintro e w7 ⟨A7, c7, rfl, hB7, hb7⟩
  have K7 : Hid (Nx w6 w7) := hb7
  have HB7 := Lib.hid hB7
  clear hB7 hb7
  go_wp2_with fail
  refine (plus_any A' N c' A'' N c'' y z _ (HY.out _ (K06.out.trans K7.out)) (HZ.out _ (K06.out.trans K7.out)) Hy.out Hz.out (by omega) (Nat.le_refl _)).mono ?_
  have HP : Hid (∀ e w', PlR (fun j => y j + z j) N w7 e w' → ∃ s b, e = .returned (.tuple #[s, .bool b]) ∧ Nx w7 w') := by
    rintro e w' ⟨h | h, hb⟩
    · obtain ⟨_, A8, c8, rfl, _⟩ := h; exact ⟨_, _, rfl, hb⟩
    · obtain ⟨_, rfl⟩ := h; exact ⟨_, _, rfl, hb⟩
  intro e w8 h8
  obtain ⟨s8, b8, rfl, hb8⟩ := HP.out e w8 h8
  have K8 : Hid (Nx w w8) := K06.out.trans (K7.out.trans hb8)
  clear h8 hb8 HP HB7 K7 R2 K06
  obtain ⟨M, hM⟩ : ∃ M, min n N = M := ⟨_, rfl⟩
  have HM : Hid ((if (N : Int) < (n : Int) then (N : Int) else n) = (M : Int)) := by show _ = _; split <;> omega
  have m1 : M ≤ n := by omega
  have m2 : M ≤ N := by omega
  have m3 : 1 ≤ M := by omega
  have m4 : M ≤ 200 := by omega
  have ht1 : ∀ w, (Instr.sliceAt 34 (.slice A n c) none (some (.int .i64 (M : Int))) none).run Tryd.prog w = .ok (.slice A M c) w := run_to Tryd.underlying34 cells2 A n c M (by omega)
  have ht2 : ∀ w, (Instr.sliceAt 34 (.slice A' N c') none (some (.int .i64 (M : Int))) none).run Tryd.prog w = .ok (.slice A' M c') w := run_to Tryd.underlying34 cells2 A' N c' M (by omega)
  have HXM : Hid (∀ w', w'.heap = w8.heap → RS w' A M c (iw x)) := fun w' h => ((HX.out _ K8.out).take m1).same h
  have HYM : Hid (∀ w', w'.heap = w8.heap → RS w' A' M c' (iw y)) := fun w' h => ((HY.out _ K8.out).take m2).same h
  have HEM : Hid (∀ w', w'.heap = w8.heap → Ers w' (eV a)) := fun w' h => ((HE.out _ K8.out).ers).same h
  obtain ⟨q4, hq4⟩ : ∃ q, linN M M x y = q := ⟨_, rfl⟩
  obtain ⟨q5, hq5⟩ : ∃ q, cycN M M x y = q := ⟨_, rfl⟩
  obtain ⟨S4, hS4⟩ : ∃ S, linS M M x y = S := ⟨_, rfl⟩
  obtain ⟨S5, hS5⟩ : ∃ S, cycS M M x y = S := ⟨_, rfl⟩
  obtain ⟨L4, hL4⟩ : ∃ L, lenOf q4 (M + M - 1) = L := ⟨_, rfl⟩
  obtain ⟨L5, hL5⟩ : ∃ L, lenOf q5 M = L := ⟨_, rfl⟩
  have hc : q4 = 19 ∨ (q4 = 0 ∧ q5 = 19) ∨ (q4 = 0 ∧ q5 = 0 ∧ L4 = M + M - 1 ∧ L5 = M ∧ ∀ j, j < M → fitB (S5 j) = true) := by
    rcases lin_small (x := x) (y := y) (n := M) (m := M) ⟨m3, m4⟩ ⟨m3, m4⟩ with ⟨e, _⟩ | ⟨e, _⟩
    · rcases cycN_cases M M x y with ⟨e5, h5⟩ | ⟨_, ⟨e5, h5⟩ | ⟨e5, _⟩⟩
      · exfalso; omega
      · refine .inr (.inr ⟨by omega, by omega, ?_, ?_, ?_⟩)
        · rw [← hL4, ← hq4, e]; rfl
        · rw [← hL5, ← hq5, e5]; rfl
        · rw [hS5] at h5; exact fun j hj => allFit_fit h5 j hj
      · exact .inr (.inl ⟨by omega, by omega⟩)
    · exact .inl (by omega)
  have HF : Hid (∀ l, l < M → S5 l = S4 l + (if l + M < 2 * M - 1 then S4 (l + M) else 0)) := fun l hl => by rw [← hS5, ← hS4]; exact cyc_fold M x y l hl
  have Hq4 := Lib.hid hq4
  have Hq5 := Lib.hid hq5
  have HS4 := Lib.hid hS4
  have HS5 := Lib.hid hS5
  have HL4 := Lib.hid hL4
  have HL5 := Lib.hid hL5
  clear hM hq4 hq5 hS4 hS5 hL4 hL5
  rcases hc with rfl | ⟨rfl, rfl⟩ | ⟨rfl, rfl, hl4, hl5, hfit⟩
  · go_wp2_with ((with_reducible show wpList _ _ _ (⟨some 139, _, _, _, _, _⟩ :: _) _ _); refine wpl_min2 rfl _ _ _ rfl n N M rfl rfl HM.out ?_)
    go_region_with (go_at_call 17; refine (lin_er A M c A' M c' x y a _ (by exact HXM.out _ rfl) (by exact HYM.out _ rfl) Hx.out Hy.out (by exact HEM.out _ rfl) 19 L4 S4 Hq4.out HL4.out HS4.out).mono ?_; rw [erV19]; rintro e w9 ⟨A9, c9, rfl, hB9, hb9⟩; have K9 : Hid (Nx w w9) := (K8.out.drewN 1).trans hb9; clear hB9 hb9)
    go_wp2_with fail
    go_region_with (go_at_call 20; refine (cyc_er A M c A' M c' x y a _ (by exact ((HX.out _ K9.out).take m1).same rfl) (by exact ((HY.out _ K9.out).take m2).same rfl) Hx.out Hy.out (by exact ((HE.out _ K9.out).ers).same rfl) q5 L5 S5 Hq5.out HL5.out HS5.out).mono ?_; rintro e w10 ⟨A10, c10, rfl, hB10, hb10⟩; have K10 : Hid (Nx w w10) := (K9.out.drewN 1).trans hb10; clear hB10 hb10)
    go_wp2_with fail
    go_ret
    exact ⟨rfl, K10.out⟩
  · go_wp2_with ((with_reducible show wpList _ _ _ (⟨some 139, _, _, _, _, _⟩ :: _) _ _); refine wpl_min2 rfl _ _ _ rfl n N M rfl rfl HM.out ?_)
    go_region_with (go_at_call 17; refine (lin_er A M c A' M c' x y a _ (by exact HXM.out _ rfl) (by exact HYM.out _ rfl) Hx.out Hy.out (by exact HEM.out _ rfl) 0 L4 S4 Hq4.out HL4.out HS4.out).mono ?_; rw [erV_ok]; rintro e w9 ⟨A9, c9, rfl, hB9, hb9⟩; have K9 : Hid (Nx w w9) := (K8.out.drewN 1).trans hb9; clear hB9 hb9)
    go_wp2_with fail
    go_region_with (go_at_call 20; refine (cyc_er A M c A' M c' x y a _ (by exact ((HX.out _ K9.out).take m1).same rfl) (by exact ((HY.out _ K9.out).take m2).same rfl) Hx.out Hy.out (by exact ((HE.out _ K9.out).ers).same rfl) 19 L5 S5 Hq5.out HL5.out HS5.out).mono ?_; rw [erV19]; rintro e w10 ⟨A10, c10, rfl, hB10, hb10⟩; have K10 : Hid (Nx w w10) := (K9.out.drewN 1).trans hb10; clear hB10 hb10)
    go_wp2_with fail
    go_ret
    exact ⟨rfl, K10.out⟩
  · have e2 : (2 : Int) * M - 1 = (L4 : Int) := by omega
    subst hl5
    have Hfit := Lib.hid hfit
    have Hl4 := Lib.hid hl4
    clear hfit hl4
    go_wp2_with ((with_reducible show wpList _ _ _ (⟨some 139, _, _, _, _, _⟩ :: _) _ _); refine wpl_min2 rfl _ _ _ rfl n N L5 rfl rfl HM.out ?_)
    go_region_with (go_at_call 17; refine (lin_er A L5 c A' L5 c' x y a _ (by exact HXM.out _ rfl) (by exact HYM.out _ rfl) Hx.out Hy.out (by exact HEM.out _ rfl) 0 L4 S4 Hq4.out HL4.out HS4.out).mono ?_; rw [erV_ok]; rintro e w9 ⟨A9, c9, rfl, hB9, hb9⟩; have K9 : Hid (Nx w w9) := (K8.out.drewN 1).trans hb9; have HB9 := Lib.hid hB9; clear hB9 hb9)
    go_wp2_with fail
    go_region_with (go_at_call 20; refine (cyc_er A L5 c A' L5 c' x y a _ (by exact ((HX.out _ K9.out).take m1).same rfl) (by exact ((HY.out _ K9.out).take m2).same rfl) Hx.out Hy.out (by exact ((HE.out _ K9.out).ers).same rfl) 0 L5 S5 Hq5.out HL5.out HS5.out).mono ?_; rw [erV_ok]; rintro e w10 ⟨A10, c10, rfl, hB10, hb10⟩; have K10 : Hid (Nx w9 w10) := ((Nx.refl w9).drewN 1).trans hb10; have HB10 := Lib.hid hB10; clear hB10 hb10)
    obtain ⟨g9, e9, _, _⟩ := HB9.out.block (by have := Hl4.out; omega)
    obtain ⟨g10, e10, _, _⟩ := HB10.out.block (by omega)
    subst e9
    subst e10
    have R9 := Lib.hid (HB9.out.nx K10.out)
    have R10 := HB10
    have lim : c9 ≤ 9223372036854775807 ∧ L4 ≤ c9 ∧ c10 ≤ 9223372036854775807 ∧ L5 ≤ c10 := ⟨R9.out.rs.cm, R9.out.rs.nc, R10.out.rs.cm, R10.out.rs.nc⟩
    obtain ⟨q6, q7, q8, q9⟩ := lim
    go_wp2_with fail
    go_loopw [180] (fun o wr => ∃ j : Nat, j ≤ L5 ∧ o = .int .i64 j ∧ wr = w10) (fun o _ => L5 - (intOf o).toNat)
    case atStart => exact ⟨0, Nat.zero_le _, rfl, rfl⟩
    case round =>
      obtain ⟨j, hj, rfl, rfl⟩ := hrel
      by_cases hjm : j < L5
      · have hjm' : (j : Int) < L5 := by omega
        have hl4 := Hl4.out
        have hj4 : (j : Int) < L4 := by omega
        have hc9 := R9.out.cell j (by omega)
        have hc10 := R10.out.cell j hjm
        have hf := HF.out j hjm
        have hft := Hfit.out j hjm
        obtain ⟨u, hu⟩ : ∃ u, S4 j = u := ⟨_, rfl⟩
        have hc9' : wr.cell? ⟨g9, j, none⟩ = some (.int .i64 u) := by rw [hc9, ← hu]; rfl
        obtain ⟨t, ht⟩ : ∃ t, j + L5 = t := ⟨_, rfl⟩
        have ht' : (j : Int) + (L5 : Int) = (t : Int) := by omega
        by_cases hin : t < L4
        · have hin' : (t : Int) < L4 := by omega
          have hc9t := R9.out.cell t hin
          obtain ⟨v, hv⟩ : ∃ v, S4 t = v := ⟨_, rfl⟩
          have hc9t' : wr.cell? ⟨g9, t, none⟩ = some (.int .i64 v) := by rw [hc9t, ← hv]; rfl
          rw [if_pos (by omega), ht, hu, hv] at hf
          have hc10' : wr.cell? ⟨g10, j, none⟩ = some (.int .i64 (u + v)) := by rw [hc10, ← hf]; rfl
          have hb : -9223372036854775808 ≤ u + v ∧ u + v ≤ 9223372036854775807 := by
            rw [hf] at hft; unfold fitB at hft; rw [decide_eq_true_iff] at hft; exact hft
          obtain ⟨b1, b2⟩ := hb
          have Ht := Lib.hid ht
          clear hc9 hc10 hc9t hf hft hu hv hl4 ht
          go_wp2_with fail
          exact ⟨⟨j + 1, by omega, by go_num, by first | rfl | trivial⟩, by simp only [intOf]; omega⟩
        · have hin' : ¬ (t : Int) < L4 := by omega
          rw [if_neg (by omega), Int.add_zero, hu] at hf
          have hc10' : wr.cell? ⟨g10, j, none⟩ = some (.int .i64 u) := by rw [hc10, ← hf]; rfl
          clear hc9 hc10 hf hft hu hl4 ht
          go_wp2_with fail
          exact ⟨⟨j + 1, by omega, by go_num, by first | rfl | trivial⟩, by simp only [intOf]; omega⟩
      · obtain rfl : j = L5 := by omega
        go_wp2_with fail
        go_ret
        exact ⟨rfl, K9.out.trans K10.out⟩
set_option maxRecDepth 100000 in
set_option maxHeartbeats 32000000 in
theorem rules_f2 (A : Option Addr) (n c : Nat) (A' : Option Addr) (m c' : Nat) (A'' : Option Addr) (k c'' : Nat) (x y z : Nat → Int) (a : Nat → Addr) (w : World) (hr : RS w A n c (iw x)) (hr' : RS w A' m c' (iw y)) (hr'' : RS w A'' k c'' (iw z)) (hx : ∀ i, i64B (x i)) (hy : ∀ j, i64B (y j)) (hz : ∀ j, i64B (z j)) (hE : ErA w a)
    (hn : 1 ≤ n ∧ n ≤ 200) (hm : m ≤ 200) (hN0 : 1 ≤ min m k) (hq1 : linN n (min m k) x y = 19) (hq2 : linN n (min m k) x z = 0) :
    Calls Tryd.prog 8 #[.slice A n c, .slice A' m c', .slice A'' k c''] w fun e w' => e = .returned (.bool true) ∧ Nx w w' := by
  have k1 := hr.nc
  have k2 := hr.cm
  have k3 := hr'.nc
  have k4 := hr'.cm
  have k5 := hr''.nc
  have k6 := hr''.cm
  obtain ⟨N, hN⟩ : ∃ N, min m k = N := ⟨_, rfl⟩
  have l1 : N ≤ m := by omega
  have l2 : N ≤ k := by omega
  have HN : Hid ((if (k : Int) < (m : Int) then (k : Int) else m) = (N : Int)) := by show _ = _; split <;> omega
  have hs1 : ∀ w, (Instr.sliceAt 34 (.slice A' m c') none (some (.int .i64 (N : Int))) none).run Tryd.prog w = .ok (.slice A' N c') w := run_to Tryd.underlying34 cells2 A' m c' N (by omega)
  have hs2 : ∀ w, (Instr.sliceAt 34 (.slice A'' k c'') none (some (.int .i64 (N : Int))) none).run Tryd.prog w = .ok (.slice A'' N c'') w := run_to Tryd.underlying34 cells2 A'' k c'' N (by omega)
  have HE : Hid (∀ w', Nx w w' → ErA w' a) := fun w' h => hE.below h
  have HX : Hid (∀ w', Nx w w' → RS w' A n c (iw x)) := fun w' h => hr.nx h
  have HY : Hid (∀ w', Nx w w' → RS w' A' N c' (iw y)) := fun w' h => (hr'.take l1).nx h
  have HZ : Hid (∀ w', Nx w w' → RS w' A'' N c'' (iw z)) := fun w' h => (hr''.take l2).nx h
  have Hx := Lib.hid hx
  have Hy := Lib.hid hy
  have Hz := Lib.hid hz
  clear hE hr hr' hr'' hx hy hz
  have z0 : ((n : Int) == 0) = false := by simp; omega
  have z1 : (n == 0) = false := by simp; omega
  have g1 : ¬ (200 : Int) < n := by omega
  have g2 : ¬ (200 : Int) < m := by omega
  have hN1 : 1 ≤ N := by omega
  have hn1 : 1 ≤ n ∧ n ≤ 200 := hn
  have hN2 : 1 ≤ N ∧ N ≤ 200 := by omega
  obtain ⟨L, hL⟩ : ∃ L, n + N - 1 = L := ⟨_, rfl⟩
  obtain ⟨S1, hS1⟩ : ∃ S, linS n N x y = S := ⟨_, rfl⟩
  obtain ⟨S1', hS1'⟩ : ∃ S, linS N n y x = S := ⟨_, rfl⟩
  obtain ⟨S2, hS2⟩ : ∃ S, linS n N x z = S := ⟨_, rfl⟩
  obtain ⟨N', hN'⟩ : ∃ N', N = N' := ⟨_, rfl⟩
  have hN1' : 1 ≤ min m k := by omega
  rw [hN] at hq1 hq2
  have Hq1 : Hid (linN n N x y = 19) := hq1
  have Hq1' : Hid (linN N n y x = 19) := by show _ = _; rw [lin_ex x y hn1 hN2]; exact hq1
  have Hl1 : Hid (lenOf 19 (n + N - 1) = 0) := rfl
  have Hl1' : Hid (lenOf 19 (N + n - 1) = 0) := rfl
  have HS1 := Lib.hid hS1
  have HS1' := Lib.hid hS1'
  have HS2 := Lib.hid hS2
  have Hsw : Hid (∀ j, j < 0 → S1' j = S1 j) := fun j hj => by rw [← hS1, ← hS1']; exact (lin_swap n N x y j (by omega)).symm
  have n0 : ((N : Int) == 0) = false := by simp; omega
  have n1 : (N == 0) = false := by simp; omega
  have Hq2 : Hid (linN n N x z = 0) := hq2
  have Hl2 : Hid (lenOf 0 (n + N - 1) = L) := hL
  clear hS1 hS1' hS2 hN hN1' hN' hq1 hq2
  go_enter Tryd.func8, Tryd.ntmps8
  go_wp2_with (first
    | (go_at_call 10; refine (lives_any a _ (HE.out _ (Nx.refl _)).ers).mono ?_; rintro e w1 ⟨rfl, hb⟩; have K1 := Lib.hid hb; clear hb)
    | ((with_reducible show wpList _ _ _ (⟨some 44, _, _, _, _, _⟩ :: _) _ _); refine wpl_min2 rfl _ _ _ rfl m k N rfl rfl HN.out ?_))
  go_quiet (fail)
  go_wp2_with fail
  refine (lin_er A n c A' N c' x y a _ ((HX.out _ K1.out).drewN _) ((HY.out _ K1.out).drewN _) Hx.out Hy.out (HE.out _ (K1.out.drewN _)).ers 19 0 S1 Hq1.out Hl1.out HS1.out).mono ?_
  rintro e w2 ⟨A2, c2, rfl, hB2, hb2⟩
  have K2 : Hid (Nx w w2) := (K1.out.drewN _).trans hb2
  have HB2 := Lib.hid hB2
  clear hB2 hb2 K1
  go_wp2_with fail
  refine (lin_er A' N c' A n c y x a _ (HY.out _ K2.out) (HX.out _ K2.out) Hy.out Hx.out (HE.out _ K2.out).ers 19 0 S1' Hq1'.out Hl1'.out HS1'.out).mono ?_
  rintro e w3 ⟨A3, c3, rfl, hB3, hb3⟩
  have K3 : Hid (Nx w2 w3) := hb3
  have HB3 : Hid (Bld w3 w2.heap.size 2 (.slice A3 0 c3) 0 (iw S1)) := hB3.congr fun j hj => (by unfold iw; rw [Hsw.out j hj])
  clear hB3 hb3
  go_wp2_with fail
  refine (num_any a 19 (by decide) _ (HE.out _ (K2.out.trans K3.out))).mono ?_
  rintro e w4 ⟨rfl, hb4⟩
  have K4 : Hid (Nx w3 w4) := hb4
  clear hb4
  go_wp2_with fail
  refine (num_any a 19 (by decide) _ (HE.out _ (K2.out.trans (K3.out.trans K4.out)))).mono ?_
  rintro e w5 ⟨rfl, hb5⟩
  have K5 : Hid (Nx w3 w5) := K4.out.trans hb5
  clear hb5
  go_wp2_with fail
  refine (sameI_nx _ _ _ _ _ S1 _ (HB2.out.nx (K3.out.trans K5.out)).rs (HB3.out.nx K5.out).rs).mono ?_
  rintro e w6 ⟨rfl, hb6⟩
  have K6 : Hid (Nx w2 w6) := K3.out.trans (K5.out.trans hb6)
  have R2 := Lib.hid (HB2.out.nx K6.out).rs
  have K06 : Hid (Nx w w6) := K2.out.trans K6.out
  clear hb6 HB3 HB2 K3 K4 K5 K2 K6
  try rw [erV19]
  go_wp2_with fail
  refine (lin_er A n c A'' N c'' x z a _ (HX.out _ K06.out) (HZ.out _ K06.out) Hx.out Hz.out (HE.out _ K06.out).ers 0 L S2 Hq2.out Hl2.out HS2.out).mono ?_
  rw [erV_ok]
  rintro e w7 ⟨A7, c7, rfl, hB7, hb7⟩
  have K7 : Hid (Nx w6 w7) := hb7
  have HB7 := Lib.hid hB7
  clear hB7 hb7
  go_wp2_with fail
  refine (plus_any A' N c' A'' N c'' y z _ (HY.out _ (K06.out.trans K7.out)) (HZ.out _ (K06.out.trans K7.out)) Hy.out Hz.out (by omega) (Nat.le_refl _)).mono ?_
  have HP : Hid (∀ e w', PlR (fun j => y j + z j) N w7 e w' → ∃ s b, e = .returned (.tuple #[s, .bool b]) ∧ Nx w7 w') := by
    rintro e w' ⟨h | h, hb⟩
    · obtain ⟨_, A8, c8, rfl, _⟩ := h; exact ⟨_, _, rfl, hb⟩
    · obtain ⟨_, rfl⟩ := h; exact ⟨_, _, rfl, hb⟩
  intro e w8 h8
  obtain ⟨s8, b8, rfl, hb8⟩ := HP.out e w8 h8
  have K8 : Hid (Nx w w8) := K06.out.trans (K7.out.trans hb8)
  clear h8 hb8 HP HB7 K7 R2 K06
  obtain ⟨M, hM⟩ : ∃ M, min n N = M := ⟨_, rfl⟩
  have HM : Hid ((if (N : Int) < (n : Int) then (N : Int) else n) = (M : Int)) := by show _ = _; split <;> omega
  have m1 : M ≤ n := by omega
  have m2 : M ≤ N := by omega
  have m3 : 1 ≤ M := by omega
  have m4 : M ≤ 200 := by omega
  have ht1 : ∀ w, (Instr.sliceAt 34 (.slice A n c) none (some (.int .i64 (M : Int))) none).run Tryd.prog w = .ok (.slice A M c) w := run_to Tryd.underlying34 cells2 A n c M (by omega)
  have ht2 : ∀ w, (Instr.sliceAt 34 (.slice A' N c') none (some (.int .i64 (M : Int))) none).run Tryd.prog w = .ok (.slice A' M c') w := run_to Tryd.underlying34 cells2 A' N c' M (by omega)
  have HXM : Hid (∀ w', w'.heap = w8.heap → RS w' A M c (iw x)) := fun w' h => ((HX.out _ K8.out).take m1).same h
  have HYM : Hid (∀ w', w'.heap = w8.heap → RS w' A' M c' (iw y)) := fun w' h => ((HY.out _ K8.out).take m2).same h
  have HEM : Hid (∀ w', w'.heap = w8.heap → Ers w' (eV a)) := fun w' h => ((HE.out _ K8.out).ers).same h
  obtain ⟨q4, hq4⟩ : ∃ q, linN M M x y = q := ⟨_, rfl⟩
  obtain ⟨q5, hq5⟩ : ∃ q, cycN M M x y = q := ⟨_, rfl⟩
  obtain ⟨S4, hS4⟩ : ∃ S, linS M M x y = S := ⟨_, rfl⟩
  obtain ⟨S5, hS5⟩ : ∃ S, cycS M M x y = S := ⟨_, rfl⟩
  obtain ⟨L4, hL4⟩ : ∃ L, lenOf q4 (M + M - 1) = L := ⟨_, rfl⟩
  obtain ⟨L5, hL5⟩ : ∃ L, lenOf q5 M = L := ⟨_, rfl⟩
  have hc : q4 = 19 ∨ (q4 = 0 ∧ q5 = 19) ∨ (q4 = 0 ∧ q5 = 0 ∧ L4 = M + M - 1 ∧ L5 = M ∧ ∀ j, j < M → fitB (S5 j) = true) := by
    rcases lin_small (x := x) (y := y) (n := M) (m := M) ⟨m3, m4⟩ ⟨m3, m4⟩ with ⟨e, _⟩ | ⟨e, _⟩
    · rcases cycN_cases M M x y with ⟨e5, h5⟩ | ⟨_, ⟨e5, h5⟩ | ⟨e5, _⟩⟩
      · exfalso; omega
      · refine .inr (.inr ⟨by omega, by omega, ?_, ?_, ?_⟩)
        · rw [← hL4, ← hq4, e]; rfl
        · rw [← hL5, ← hq5, e5]; rfl
        · rw [hS5] at h5; exact fun j hj => allFit_fit h5 j hj
      · exact .inr (.inl ⟨by omega, by omega⟩)
    · exact .inl (by omega)
  have HF : Hid (∀ l, l < M → S5 l = S4 l + (if l + M < 2 * M - 1 then S4 (l + M) else 0)) := fun l hl => by rw [← hS5, ← hS4]; exact cyc_fold M x y l hl
  have Hq4 := Lib.hid hq4
  have Hq5 := Lib.hid hq5
  have HS4 := Lib.hid hS4
  have HS5 := Lib.hid hS5
  have HL4 := Lib.hid hL4
  have HL5 := Lib.hid hL5
  clear hM hq4 hq5 hS4 hS5 hL4 hL5
  rcases hc with rfl | ⟨rfl, rfl⟩ | ⟨rfl, rfl, hl4, hl5, hfit⟩
  · go_wp2_with ((with_reducible show wpList _ _ _ (⟨some 139, _, _, _, _, _⟩ :: _) _ _); refine wpl_min2 rfl _ _ _ rfl n N M rfl rfl HM.out ?_)
    go_region_with (go_at_call 17; refine (lin_er A M c A' M c' x y a _ (by exact HXM.out _ rfl) (by exact HYM.out _ rfl) Hx.out Hy.out (by exact HEM.out _ rfl) 19 L4 S4 Hq4.out HL4.out HS4.out).mono ?_; rw [erV19]; rintro e w9 ⟨A9, c9, rfl, hB9, hb9⟩; have K9 : Hid (Nx w w9) := (K8.out.drewN 1).trans hb9; clear hB9 hb9)
    go_wp2_with fail
    go_region_with (go_at_call 20; refine (cyc_er A M c A' M c' x y a _ (by exact ((HX.out _ K9.out).take m1).same rfl) (by exact ((HY.out _ K9.out).take m2).same rfl) Hx.out Hy.out (by exact ((HE.out _ K9.out).ers).same rfl) q5 L5 S5 Hq5.out HL5.out HS5.out).mono ?_; rintro e w10 ⟨A10, c10, rfl, hB10, hb10⟩; have K10 : Hid (Nx w w10) := (K9.out.drewN 1).trans hb10; clear hB10 hb10)
    go_wp2_with fail
    go_ret
    exact ⟨rfl, K10.out⟩
  · go_wp2_with ((with_reducible show wpList _ _ _ (⟨some 139, _, _, _, _, _⟩ :: _) _ _); refine wpl_min2 rfl _ _ _ rfl n N M rfl rfl HM.out ?_)
    go_region_with (go_at_call 17; refine (lin_er A M c A' M c' x y a _ (by exact HXM.out _ rfl) (by exact HYM.out _ rfl) Hx.out Hy.out (by exact HEM.out _ rfl) 0 L4 S4 Hq4.out HL4.out HS4.out).mono ?_; rw [erV_ok]; rintro e w9 ⟨A9, c9, rfl, hB9, hb9⟩; have K9 : Hid (Nx w w9) := (K8.out.drewN 1).trans hb9; clear hB9 hb9)
    go_wp2_with fail
    go_region_with (go_at_call 20; refine (cyc_er A M c A' M c' x y a _ (by exact ((HX.out _ K9.out).take m1).same rfl) (by exact ((HY.out _ K9.out).take m2).same rfl) Hx.out Hy.out (by exact ((HE.out _ K9.out).ers).same rfl) 19 L5 S5 Hq5.out HL5.out HS5.out).mono ?_; rw [erV19]; rintro e w10 ⟨A10, c10, rfl, hB10, hb10⟩; have K10 : Hid (Nx w w10) := (K9.out.drewN 1).trans hb10; clear hB10 hb10)
    go_wp2_with fail
    go_ret
    exact ⟨rfl, K10.out⟩
  · have e2 : (2 : Int) * M - 1 = (L4 : Int) := by omega
    subst hl5
    have Hfit := Lib.hid hfit
    have Hl4 := Lib.hid hl4
    clear hfit hl4
    go_wp2_with ((with_reducible show wpList _ _ _ (⟨some 139, _, _, _, _, _⟩ :: _) _ _); refine wpl_min2 rfl _ _ _ rfl n N L5 rfl rfl HM.out ?_)
    go_region_with (go_at_call 17; refine (lin_er A L5 c A' L5 c' x y a _ (by exact HXM.out _ rfl) (by exact HYM.out _ rfl) Hx.out Hy.out (by exact HEM.out _ rfl) 0 L4 S4 Hq4.out HL4.out HS4.out).mono ?_; rw [erV_ok]; rintro e w9 ⟨A9, c9, rfl, hB9, hb9⟩; have K9 : Hid (Nx w w9) := (K8.out.drewN 1).trans hb9; have HB9 := Lib.hid hB9; clear hB9 hb9)
    go_wp2_with fail
    go_region_with (go_at_call 20; refine (cyc_er A L5 c A' L5 c' x y a _ (by exact ((HX.out _ K9.out).take m1).same rfl) (by exact ((HY.out _ K9.out).take m2).same rfl) Hx.out Hy.out (by exact ((HE.out _ K9.out).ers).same rfl) 0 L5 S5 Hq5.out HL5.out HS5.out).mono ?_; rw [erV_ok]; rintro e w10 ⟨A10, c10, rfl, hB10, hb10⟩; have K10 : Hid (Nx w9 w10) := ((Nx.refl w9).drewN 1).trans hb10; have HB10 := Lib.hid hB10; clear hB10 hb10)
    obtain ⟨g9, e9, _, _⟩ := HB9.out.block (by have := Hl4.out; omega)
    obtain ⟨g10, e10, _, _⟩ := HB10.out.block (by omega)
    subst e9
    subst e10
    have R9 := Lib.hid (HB9.out.nx K10.out)
    have R10 := HB10
    have lim : c9 ≤ 9223372036854775807 ∧ L4 ≤ c9 ∧ c10 ≤ 9223372036854775807 ∧ L5 ≤ c10 := ⟨R9.out.rs.cm, R9.out.rs.nc, R10.out.rs.cm, R10.out.rs.nc⟩
    obtain ⟨q6, q7, q8, q9⟩ := lim
    go_wp2_with fail
    go_loopw [180] (fun o wr => ∃ j : Nat, j ≤ L5 ∧ o = .int .i64 j ∧ wr = w10) (fun o _ => L5 - (intOf o).toNat)
    case atStart => exact ⟨0, Nat.zero_le _, rfl, rfl⟩
    case round =>
      obtain ⟨j, hj, rfl, rfl⟩ := hrel
      by_cases hjm : j < L5
      · have hjm' : (j : Int) < L5 := by omega
        have hl4 := Hl4.out
        have hj4 : (j : Int) < L4 := by omega
        have hc9 := R9.out.cell j (by omega)
        have hc10 := R10.out.cell j hjm
        have hf := HF.out j hjm
        have hft := Hfit.out j hjm
        obtain ⟨u, hu⟩ : ∃ u, S4 j = u := ⟨_, rfl⟩
        have hc9' : wr.cell? ⟨g9, j, none⟩ = some (.int .i64 u) := by rw [hc9, ← hu]; rfl
        obtain ⟨t, ht⟩ : ∃ t, j + L5 = t := ⟨_, rfl⟩
        have ht' : (j : Int) + (L5 : Int) = (t : Int) := by omega
        by_cases hin : t < L4
        · have hin' : (t : Int) < L4 := by omega
          have hc9t := R9.out.cell t hin
          obtain ⟨v, hv⟩ : ∃ v, S4 t = v := ⟨_, rfl⟩
          have hc9t' : wr.cell? ⟨g9, t, none⟩ = some (.int .i64 v) := by rw [hc9t, ← hv]; rfl
          rw [if_pos (by omega), ht, hu, hv] at hf
          have hc10' : wr.cell? ⟨g10, j, none⟩ = some (.int .i64 (u + v)) := by rw [hc10, ← hf]; rfl
          have hb : -9223372036854775808 ≤ u + v ∧ u + v ≤ 9223372036854775807 := by
            rw [hf] at hft; unfold fitB at hft; rw [decide_eq_true_iff] at hft; exact hft
          obtain ⟨b1, b2⟩ := hb
          have Ht := Lib.hid ht
          clear hc9 hc10 hc9t hf hft hu hv hl4 ht
          go_wp2_with fail
          exact ⟨⟨j + 1, by omega, by go_num, by first | rfl | trivial⟩, by simp only [intOf]; omega⟩
        · have hin' : ¬ (t : Int) < L4 := by omega
          rw [if_neg (by omega), Int.add_zero, hu] at hf
          have hc10' : wr.cell? ⟨g10, j, none⟩ = some (.int .i64 u) := by rw [hc10, ← hf]; rfl
          clear hc9 hc10 hf hft hu hl4 ht
          go_wp2_with fail
          exact ⟨⟨j + 1, by omega, by go_num, by first | rfl | trivial⟩, by simp only [intOf]; omega⟩
      · obtain rfl : j = L5 := by omega
        go_wp2_with fail
        go_ret
        exact ⟨rfl, K9.out.trans K10.out⟩
end Go.Proofs.YtppebegleedifaaDoor
