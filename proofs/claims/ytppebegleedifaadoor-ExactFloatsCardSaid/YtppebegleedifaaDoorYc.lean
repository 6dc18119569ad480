/- lives: the fixed facts hold. -/
import Derived.Test.YtppebegleedifaaDoorXx
import Derived.Test.YtppebegleedifaaDoorYb
namespace Go.Proofs.YtppebegleedifaaDoor
open Go.RowKit
theorem small_live (a : Nat → Addr) (A : Option Addr) (w : World) (A2 : Option Addr) (hr : RS w A 4 4 (iw s4)) (hr2 : RS w A2 4 4 (iw z4)) (hE : Ers w (eV a)) : Calls Tryd.prog 22 #[.slice A 4 4, .slice A2 4 4] w fun e w' => ∃ A' c' A'' c'', e = .returned (.tuple #[.slice A' 4 c', .slice A'' 4 c'', .nilIface]) ∧ RS w' A' 4 c' (iw a4) ∧ RS w' A'' 4 c'' (iw b4) ∧ Nx w w' := by
  refine (small_any A 4 4 A2 4 s4 z4 a w hr hr2 (i64B_of fun j => by unfold s4; split <;> (try split) <;> (try split) <;> omega) (i64B_of fun j => by unfold z4; omega) hE (by decide)).mono ?_
  have e0 : smN 4 s4 z4 = 0 := by decide +kernel
  unfold SR
  rw [e0]
  rintro e w' ⟨A', c', A'', c'', rfl, hB, hB2, _, hb⟩
  refine ⟨A', c', A'', c'', rfl, hB.rs.congr fun j hj => ?_, hB2.rs.congr fun j hj => ?_, hb⟩
  · have hj' : j < 4 := hj
    unfold iw
    rcases (show j = 0 ∨ j = 1 ∨ j = 2 ∨ j = 3 by omega) with rfl | rfl | rfl | rfl <;> exact congrArg (Value.int .i64) (by decide +kernel)
  · have hj' : j < 4 := hj
    unfold iw
    rcases (show j = 0 ∨ j = 1 ∨ j = 2 ∨ j = 3 by omega) with rfl | rfl | rfl | rfl <;> exact congrArg (Value.int .i64) (by decide +kernel)
theorem rs_u2 (w : World) (a b : Nat) (f : Nat → Nat) (h0 : f 0 = a) (h1 : f 1 = b) : RS (w.alloc (.cells #[.int .u64 (a : Nat), .int .u64 (b : Nat)] 24)) (some ⟨w.heap.size, 0, none⟩) 2 2 (uw f) :=
  rs_new w 24 _ _ 2 (by decide) fun j hj => by
    rcases (show j = 0 ∨ j = 1 by omega) with rfl | rfl
    · rw [← h0]; rfl
    · rw [← h1]; rfl
theorem rs_i (w : World) (c : Array Value) (n : Nat) (f : Nat → Int) (hn : n ≤ 1000) (h : ∀ j, j < n → c[j]? = some (.int .i64 (f j))) : RS (w.alloc (.cells c 2)) (some ⟨w.heap.size, 0, none⟩) n n (iw f) := rs_new w 2 c _ n hn h
theorem size_alloc (w : World) (o : Obj) : (w.alloc o).heap.size = w.heap.size + 1 := by simp
theorem rs_i2 (w : World) (o : Obj) (c : Array Value) (n : Nat) (f : Nat → Int) (hn : n ≤ 1000) (h : ∀ j, j < n → c[j]? = some (.int .i64 (f j))) : RS ((w.alloc o).alloc (.cells c 2)) (some ⟨w.heap.size + 1, 0, none⟩) n n (iw f) := by
  have := rs_i (w.alloc o) c n f hn h
  rwa [size_alloc] at this
theorem four {P : Nat → Prop} (h0 : P 0) (h1 : P 1) (h2 : P 2) (h3 : P 3) (j : Nat) (hj : j < 4) : P j := by
  rcases (show j = 0 ∨ j = 1 ∨ j = 2 ∨ j = 3 by omega) with rfl | rfl | rfl | rfl <;> assumption
theorem three {P : Nat → Prop} (h0 : P 0) (h1 : P 1) (h2 : P 2) (j : Nat) (hj : j < 3) : P j := by
  rcases (show j = 0 ∨ j = 1 ∨ j = 2 by omega) with rfl | rfl | rfl <;> assumption
theorem two {P : Nat → Prop} (h0 : P 0) (h1 : P 1) (j : Nat) (hj : j < 2) : P j := by
  rcases (show j = 0 ∨ j = 1 by omega) with rfl | rfl <;> assumption
set_option maxRecDepth 100000 in
set_option maxHeartbeats 4000000 in
theorem lives_any (a : Nat → Addr) (w : World) (hE : Ers w (eV a)) : Calls Tryd.prog 10 #[] w fun e w' => e = .returned (.bool true) ∧ Nx w w' := by
  have HE : Hid (∀ w', Nx w w' → Ers w' (eV a)) := fun w' h => hE.below h
  clear hE
  go_enter Tryd.func10, Tryd.ntmps10
  go_wp2_with fail
  refine (primes_any _).mono ?_
  rintro e w1 ⟨A1, c1, rfl, hB1, hb1⟩
  have H1 : Hid (∀ w', Nx w1 w' → RS w' A1 3 c1 (uw primeF)) := fun w' h => hB1.rs.nx h
  have K1 : Hid (Nx w w1) := hb1
  clear hB1 hb1
  go_wp2_with fail
  refine (fwd_live a _ _ (rs_u2 w1 1 2 x12 rfl rfl) (HE.out _ (K1.out.alloc _))).mono ?_
  rintro e w2 ⟨A2, c2, rfl, hB2, hb2⟩
  have K2 : Hid (Nx w1 w2) := (nx_alloc _ _).trans hb2
  have H2 : Hid (∀ w', Nx w2 w' → RS w' A2 2 c2 (uw y12)) := fun w' h => hB2.nx h
  clear hB2 hb2
  go_wp2_with fail
  refine (inv_live a _ _ _ (H2.out _ (Nx.refl _)) (HE.out _ (K1.out.trans K2.out))).mono ?_
  rintro e w3 ⟨A3, c3', rfl, hB3, hb3⟩
  have K3 : Hid (Nx w2 w3) := hb3
  have H3 : Hid (∀ w', Nx w3 w' → RS w' A3 2 c3' (uw x12)) := fun w' h => hB3.nx h
  clear hB3 hb3
  go_wp2_with fail
  refine (lin_live a _ _ _ ((rs_i w3 _ 2 l2 (by decide) (two rfl rfl)).nx (nx_alloc _ _)) (rs_i2 w3 _ _ 3 l3 (by decide) (three rfl rfl rfl)) (HE.out _ (((K1.out.trans K2.out).trans K3.out).trans ((nx_alloc _ _).alloc _)))).mono ?_
  rintro e w4 ⟨A4, c4', rfl, hB4, hb4⟩
  have K4 : Hid (Nx w3 w4) := ((nx_alloc _ _).alloc _).trans hb4
  have H4 : Hid (∀ w', Nx w4 w' → RS w' A4 4 c4' (iw l4)) := fun w' h => hB4.nx h
  clear hB4 hb4
  go_wp2_with fail
  refine (cyc_live a _ _ _ ((rs_i w4 _ 3 c3 (by decide) (three rfl rfl rfl)).nx (nx_alloc _ _)) (rs_i2 w4 _ _ 3 d3 (by decide) (three rfl rfl rfl)) (HE.out _ ((((K1.out.trans K2.out).trans K3.out).trans K4.out).trans ((nx_alloc _ _).alloc _)))).mono ?_
  rintro e w5 ⟨A5, c5', rfl, hB5, hb5⟩
  have K5 : Hid (Nx w4 w5) := ((nx_alloc _ _).alloc _).trans hb5
  have H5 : Hid (∀ w', Nx w5 w' → RS w' A5 3 c5' (iw e3)) := fun w' h => hB5.nx h
  clear hB5 hb5
  go_wp2_with ((with_reducible show wpList _ _ _ (⟨some 38, _, _, _, _, _⟩ :: _) _ _); refine wpl_makez rfl _ _ 34 2 (.int .i64 0) 8 rfl Tryd.underlying34 info2 rfl (w5.heap.size + 1) .i64 .i64 4 4 4 4 (iw z4) rfl rfl rfl rfl (Nat.le_refl _) (Below.refl _ _) (by simp) (by decide) (by decide) (fun _ _ => rfl) ?_; intro w6 hB6 hb6)
  have K6 : Hid (Nx (w5.alloc (.cells #[.int .i64 1, .int .i64 2, .int .i64 3, .int .i64 4] 2)) w6) := hb6.mono (by simp)
  have H6 := Lib.hid hB6.rs
  have H6z : Hid ((w5.alloc (.cells #[.int .i64 1, .int .i64 2, .int .i64 3, .int .i64 4] 2)).heap.size = w5.heap.size + 1) := size_alloc _ _
  clear hB6 hb6
  go_wp2_with fail
  refine (small_live a _ _ _ ((rs_i w5 _ 4 s4 (by decide) (four rfl rfl rfl rfl)).nx K6.out) (by first | exact H6.out | (rw [← H6z.out]; exact H6.out)) (HE.out _ (((((K1.out.trans K2.out).trans K3.out).trans K4.out).trans K5.out).trans ((nx_alloc _ _).trans K6.out)))).mono ?_
  rintro e w7 ⟨A7, c7, A8, c8, rfl, hB7, hB8, hb7⟩
  have K7 : Hid (Nx w5 w7) := ((nx_alloc _ _).trans K6.out).trans hb7
  have H7 : Hid (∀ w', Nx w7 w' → RS w' A7 4 c7 (iw a4)) := fun w' h => hB7.nx h
  have H8 : Hid (∀ w', Nx w7 w' → RS w' A8 4 c8 (iw b4)) := fun w' h => hB8.nx h
  clear hB7 hB8 hb7
  have Q7 : Hid (Nx w w7) := ((((K1.out.trans K2.out).trans K3.out).trans K4.out).trans K5.out).trans K7.out
  have N1 : Hid (Nx w1 w7) := (((K2.out.trans K3.out).trans K4.out).trans K5.out).trans K7.out
  have N2 : Hid (Nx w2 w7) := ((K3.out.trans K4.out).trans K5.out).trans K7.out
  have N3 : Hid (Nx w3 w7) := (K4.out.trans K5.out).trans K7.out
  have N4 : Hid (Nx w4 w7) := K5.out.trans K7.out
  have N5 : Hid (Nx w5 w7) := K7.out
  clear K1 K2 K3 K4 K5 K6 K7 H6 H6z HE
  go_wp2_with fail
  refine (primesR_any _).mono ?_
  rintro e w8 ⟨A9, c9, rfl, hB9, hb9⟩
  have M8 : Hid (Nx w7 w8) := hb9
  have H9 := Lib.hid hB9.rs
  clear hB9 hb9
  go_wp2_with fail
  refine (sameU_nx _ _ _ _ _ primeF _ (H1.out _ (N1.out.trans M8.out)) H9.out).mono ?_
  rintro e w9 ⟨rfl, hb⟩
  have M9 : Hid (Nx w7 w9) := M8.out.trans hb
  clear hb H9 M8
  go_wp2_with fail
  refine (sameU_nx _ _ _ _ _ y12 _ (H2.out _ (N2.out.trans (M9.out.alloc _))) (rs_u2 w9 3 2013265920 y12 rfl rfl)).mono ?_
  rintro e w10 ⟨rfl, hb⟩
  have M10 : Hid (Nx w7 w10) := (M9.out.alloc _).trans hb
  clear hb M9
  go_wp2_with fail
  refine (sameU_nx _ _ _ _ _ x12 _ (H3.out _ (N3.out.trans (M10.out.alloc _))) (rs_u2 w10 1 2 x12 rfl rfl)).mono ?_
  rintro e w11 ⟨rfl, hb⟩
  have M11 : Hid (Nx w7 w11) := (M10.out.alloc _).trans hb
  clear hb M10
  go_wp2_with fail
  refine (sameI_nx _ _ _ _ _ l4 _ (H4.out _ (N4.out.trans (M11.out.alloc _))) (rs_i w11 _ 4 l4 (by decide) (four rfl rfl rfl rfl))).mono ?_
  rintro e w12 ⟨rfl, hb⟩
  have M12 : Hid (Nx w7 w12) := (M11.out.alloc _).trans hb
  clear hb M11
  go_wp2_with fail
  refine (sameI_nx _ _ _ _ _ e3 _ (H5.out _ (N5.out.trans (M12.out.alloc _))) (rs_i w12 _ 3 e3 (by decide) (three rfl rfl rfl))).mono ?_
  rintro e w13 ⟨rfl, hb⟩
  have M13 : Hid (Nx w7 w13) := (M12.out.alloc _).trans hb
  clear hb M12
  go_wp2_with fail
  refine (sameI_nx _ _ _ _ _ a4 _ (H7.out _ (M13.out.alloc _)) (rs_i w13 _ 4 a4 (by decide) (four rfl rfl rfl rfl))).mono ?_
  rintro e w14 ⟨rfl, hb⟩
  have M14 : Hid (Nx w7 w14) := (M13.out.alloc _).trans hb
  clear hb M13
  go_wp2_with fail
  refine (sameI_nx _ _ _ _ _ b4 _ (H8.out _ (M14.out.alloc _)) (rs_i w14 _ 4 b4 (by decide) (four rfl rfl rfl rfl))).mono ?_
  rintro e w15 ⟨rfl, hb⟩
  have M15 : Hid (Nx w7 w15) := (M14.out.alloc _).trans hb
  clear hb M14
  go_wp2_with fail
  go_ret
  exact ⟨rfl, Q7.out.trans M15.out⟩
end Go.Proofs.YtppebegleedifaaDoor
