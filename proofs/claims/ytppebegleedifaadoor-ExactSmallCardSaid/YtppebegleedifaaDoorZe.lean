/- ExactConvolutions: the walk. -/
import Derived.Test.YtppebegleedifaaDoorYj
import Derived.Test.YtppebegleedifaaDoorZd
namespace Go.Proofs.YtppebegleedifaaDoor
open Go.RowKit

theorem lin_len (n m : Nat) (x y : Nat → Int) : lenOf (linN n m x y) (n + m - 1) ≤ 2097152 := by
  rcases linN_cases n m x y with ⟨e, _⟩ | ⟨h, ⟨e, _⟩ | ⟨e, _⟩⟩
  · rw [e]; exact Nat.zero_le _
  · rw [e]
    show n + m - 1 ≤ 2097152
    have hm1 : 1 ≤ m := by omega
    have hn1 : 1 ≤ n := by omega
    have hnm : n * m ≤ 1048576 := by
      have h1 : n ≤ 1048576 / m := by omega
      exact Nat.le_trans (Nat.mul_le_mul_right m h1) (Nat.div_mul_le_self _ _)
    have := Nat.le_mul_of_pos_right n hm1
    have := Nat.le_mul_of_pos_left m hn1
    omega
  · rw [e]; exact Nat.zero_le _
theorem Ers.same' {w w' : World} {E : Nat → Value} (h : Ers w E) (e : w'.heap = w.heap) : Ers w' E := ⟨fun g hg => by rw [← h.cell g hg]; simp [World.cell?, e]⟩
/-- x, and one number behind it. -/
def fxi (n : Nat) (v : Int) (x : Nat → Int) : Nat → Int := fun j => if j < n then x j else v
theorem fxi_lt {n : Nat} {v : Int} {x : Nat → Int} (j : Nat) (h : j < n) : fxi n v x j = x j := if_pos h
theorem fxi_at {n : Nat} {v : Int} {x : Nat → Int} : fxi n v x n = v := if_neg (Nat.lt_irrefl n)
theorem iw_at {n : Nat} {v : Int} {x : Nat → Int} : some (Value.int .i64 v) = some (iw (fxi n v x) n) := by unfold iw; rw [fxi_at]
theorem iw_lt {n : Nat} {v : Int} {x : Nat → Int} (j : Nat) (h : j < n) : iw x j = iw (fxi n v x) j := by unfold iw; rw [fxi_lt j h]
theorem RS.mine {w : World} {A : Option Addr} {n c : Nat} {v : Int} {x : Nat → Int} (h : RS w A (n + 1) c (iw (fxi n v x))) : RS w A n c (iw x) := (h.take (by omega)).congr fun j hj => (iw_lt j hj).symm
theorem RS.last {w : World} {g n c : Nat} {v : Int} {x : Nat → Int} (h : RS w (some ⟨g, 0, none⟩) (n + 1) c (iw (fxi n v x))) : w.cell? ⟨g, n, none⟩ = some (.int .i64 v) := by
  obtain ⟨ad, e, hc⟩ := h.cell n (by omega)
  injection e with e
  rw [← e, addr_add0] at hc
  rw [hc]; exact iw_at.symm
set_option maxRecDepth 100000 in
set_option maxHeartbeats 32000000 in
theorem conv_any (A : Option Addr) (n c : Nat) (A' : Option Addr) (m c' : Nat) (x y : Nat → Int) (a : Nat → Addr) (w : World) (hr : RS w A n c (iw x)) (hr' : RS w A' m c' (iw y)) (hnil : A = none → c = 0) (hnil' : A' = none → c' = 0) (hx : ∀ i, i64B (x i)) (hy : ∀ j, i64B (y j)) (hn : n * 8 ≤ 140737488351232) (hm : m * 8 ≤ 140737488351232) (hE : ErA w a) :
    Calls Tryd.prog 4 #[.slice A n c, .slice A' m c'] w fun e w' => e = .returned (.bool true) ∧ Nx w w' := by
  have k1 := hr.nc
  have k2 := hr.cm
  have k3 := hr'.nc
  have k4 := hr'.cm
  obtain ⟨q, hq⟩ : ∃ q, linN n m x y = q := ⟨_, rfl⟩
  obtain ⟨S, hS⟩ : ∃ S, linS n m x y = S := ⟨_, rfl⟩
  obtain ⟨L, hL⟩ : ∃ L, lenOf q (n + m - 1) = L := ⟨_, rfl⟩
  obtain ⟨q', hq'⟩ : ∃ q, cycN n m x y = q := ⟨_, rfl⟩
  obtain ⟨S', hS'⟩ : ∃ S, cycS n m x y = S := ⟨_, rfl⟩
  obtain ⟨L', hL'⟩ : ∃ L, lenOf q' n = L := ⟨_, rfl⟩
  have hL2 : L ≤ 2097152 := by rw [← hL, ← hq]; exact lin_len n m x y
  have hq19 : q ≤ 19 := by rw [← hq]; exact (linN_er a n m x y).2
  have hq19' : q' ≤ 19 := by rw [← hq']; exact (cycN_er a n m x y).2
  have HE : Hid (∀ w', Nx w w' → ErA w' a) := fun w' h => hE.below h
  have HX : Hid (∀ w', Nx w w' → RS w' A n c (iw x)) := fun w' h => hr.nx h
  have HY : Hid (∀ w', Nx w w' → RS w' A' m c' (iw y)) := fun w' h => hr'.nx h
  have Hn := Lib.hid hnil
  have Hn' := Lib.hid hnil'
  have Hx := Lib.hid hx
  have Hy := Lib.hid hy
  have Hq := Lib.hid hq
  have HS := Lib.hid hS
  have HL := Lib.hid hL
  have Hq' := Lib.hid hq'
  have HS' := Lib.hid hS'
  have HL' := Lib.hid hL'
  clear hE hr hr' hnil hnil' hx hy hq hS hL hq' hS' hL'
  obtain ⟨d1, hd1⟩ : ∃ d, 65536 / m = d := ⟨_, rfl⟩
  obtain ⟨d2, hd2⟩ : ∃ d, 1048576 / m = d := ⟨_, rfl⟩
  have z1 : (65536 : Int) / m = (d1 : Int) := by rw [← hd1]; rfl
  have z2 : (1048576 : Int) / m = (d2 : Int) := by rw [← hd2]; rfl
  clear hd1 hd2
  by_cases hg : 0 < n ∧ 0 < m ∧ d1 < n ∧ n ≤ d2
  · obtain ⟨g1, g2, g3, g4⟩ := hg
    have p1 : decide (0 < n) = true := by simpa using g1
    have p2 : decide (0 < m) = true := by simpa using g2
    have p3 : (d1 : Int) < n := by omega
    have p3' : decide (d1 < n) = true := by simpa using g3
    have p4 : (n : Int) ≤ d2 := by omega
    have p5 : (m : Int) ≠ 0 := by omega
    have p6 : (0 : Int) < m := by omega
    go_enter Tryd.func4, Tryd.ntmps4
    go_wp2_with (go_at_call 10; refine (lives_any a _ (HE.out _ (Nx.refl _)).ers).mono ?_; rintro e w1 ⟨rfl, hb⟩)
    go_ret
    exact ⟨rfl, hb⟩
  · have hc : decide (0 < n) = false ∨ (decide (0 < n) = true ∧ decide (0 < m) = false) ∨ (decide (0 < n) = true ∧ decide (0 < m) = true ∧ decide (d1 < n) = false ∧ (m : Int) ≠ 0 ∧ (0 : Int) < m) ∨ (decide (0 < n) = true ∧ decide (0 < m) = true ∧ decide (d1 < n) = true ∧ decide (n ≤ d2) = false ∧ (m : Int) ≠ 0 ∧ (0 : Int) < m) := by
      simp only [decide_eq_true_iff, decide_eq_false_iff_not]
      omega
    clear hg
    rcases hc with o1 | ⟨o1, o2⟩ | ⟨o1, o2, o3, o4, o5⟩ | ⟨o1, o2, o3, o4, o5, o6⟩
    all_goals
      go_enter Tryd.func4, Tryd.ntmps4
      go_wp2_with (first
        | (go_at_call 10; refine (lives_any a _ (HE.out _ (Nx.refl _)).ers).mono ?_; rintro e w1 ⟨rfl, hb⟩; have K1 := Lib.hid hb; clear hb)
        | ((with_reducible show wpList _ _ _ (⟨some 42, _, _, _, _, _⟩ :: _) _ _); refine wpl_copyK rfl _ _ 34 2 (.int .i64 0) 8 rfl Tryd.underlying34 info2 rfl w1.heap.size (.slice (some ⟨w1.heap.size, 0, none⟩) 0 0) n c A (iw x) (iw x) rfl rfl Hn.out (bld_new w1 2 #[] _ 0 (by decide) rfl (fun j hj => absurd hj (by omega)) _ (Nat.le_refl _)) (HX.out _ (K1.out.alloc _)) (fun _ => rfl) (by omega) (by decide) ?_; intro A2 c2 w2 hB2 hk2 _ _; have HB2 := Lib.hid hB2; have K2 : Hid (Nx w1 w2) := nx_cat0 hk2; clear hB2 hk2)
        | ((with_reducible show wpList _ _ _ (⟨some 44, _, _, _, _, _⟩ :: _) _ _); refine wpl_pushK rfl _ _ 34 2 (.int .i64 0) 8 rfl Tryd.underlying34 info2 rfl w1.heap.size (.slice A2 n c2) n w2.heap.size (iw x) (iw (fxi n 5 x)) rfl rfl (HB2.out.alloc _) (by rw [cells_new]; exact iw_at) (fun j hj => iw_lt j hj) (fun _ => rfl) (by omega) (by decide) ?_; intro A3 c3 w3 hB3 hk3 _ q1 q2; obtain ⟨g3, rfl, g3a, g3b⟩ := hB3.block (by omega); have HB3 := Lib.hid hB3; have K3 : Hid (Nx w1 w3) := nx_cat HB2.out K2.out hk3; clear hB3 hk3 K2 HB2)
        | ((with_reducible show wpList _ _ _ (⟨some 47, _, _, _, _, _⟩ :: _) _ _); refine wpl_copyK rfl _ _ 34 2 (.int .i64 0) 8 rfl Tryd.underlying34 info2 rfl w3.heap.size (.slice (some ⟨w3.heap.size, 0, none⟩) 0 0) m c' A' (iw y) (iw y) rfl rfl Hn'.out (bld_new w3 2 #[] _ 0 (by decide) rfl (fun j hj => absurd hj (by omega)) _ (Nat.le_refl _)) (HY.out _ (K1.out.trans (K3.out.alloc _))) (fun _ => rfl) (by omega) (by decide) ?_; intro A4 c4 w4 hB4 hk4 _ _; have HB4 := Lib.hid hB4; have K4 : Hid (Nx w3 w4) := nx_cat0 hk4; clear hB4 hk4)
        | ((with_reducible show wpList _ _ _ (⟨some 49, _, _, _, _, _⟩ :: _) _ _); refine wpl_pushK rfl _ _ 34 2 (.int .i64 0) 8 rfl Tryd.underlying34 info2 rfl w3.heap.size (.slice A4 m c4) m w4.heap.size (iw y) (iw (fxi m 6 y)) rfl rfl (HB4.out.alloc _) (by rw [cells_new]; exact iw_at) (fun j hj => iw_lt j hj) (fun _ => rfl) (by omega) (by decide) ?_; intro A5 c5 w5 hB5 hk5 _ q3 q4; obtain ⟨g5, rfl, g5a, g5b⟩ := hB5.block (by omega); have HB5 := Lib.hid hB5; have K5 : Hid (Nx w3 w5) := nx_cat HB4.out K4.out hk5; clear hB5 hk5 K4 HB4))
      have K05 : Hid (Nx w w5) := K1.out.trans (K3.out.trans K5.out)
      have FA : Hid (∀ w', Nx w5 w' → RS w' (some ⟨g3, 0, none⟩) (n + 1) c3 (iw (fxi n 5 x))) := fun w' h => (HB3.out.nx (K5.out.trans h)).rs
      have FB : Hid (∀ w', Nx w5 w' → RS w' (some ⟨g5, 0, none⟩) (m + 1) c5 (iw (fxi m 6 y))) := fun w' h => (HB5.out.nx h).rs
      have ht1 : ∀ w, (Instr.sliceAt 34 (.slice (some ⟨g3, 0, none⟩) (n + 1) c3) none (some (.int .i64 (n : Int))) none).run Tryd.prog w = .ok (.slice (some ⟨g3, 0, none⟩) n c3) w := run_to Tryd.underlying34 cells2 _ (n + 1) c3 n (by omega)
      have ht2 : ∀ w, (Instr.sliceAt 34 (.slice (some ⟨g5, 0, none⟩) (m + 1) c5) none (some (.int .i64 (m : Int))) none).run Tryd.prog w = .ok (.slice (some ⟨g5, 0, none⟩) m c5) w := run_to Tryd.underlying34 cells2 _ (m + 1) c5 m (by omega)
      have S5 : Hid (g3 < w5.heap.size ∧ g5 < w5.heap.size) := ⟨Nat.lt_of_lt_of_le g3b K5.out.le, g5b⟩
      clear HB3 HB5 K1 K3 K5 g3a g3b g5a g5b
      go_region_with (go_at_call 17; refine (lin_er (some ⟨g3, 0, none⟩) n c3 (some ⟨g5, 0, none⟩) m c5 x y a _ (by exact (FA.out _ (Nx.refl _)).mine.same rfl) (by exact (FB.out _ (Nx.refl _)).mine.same rfl) Hx.out Hy.out (by exact ((HE.out _ K05.out).ers).same' rfl) q L S Hq.out HL.out HS.out).mono ?_; rintro e w6 ⟨A6, c6, rfl, hB6, hb6⟩; have HB6 := Lib.hid (hB6.mono (B' := w5.heap.size) (Nat.le_refl _)); have K6 : Hid (Nx w5 w6) := ((Nx.refl w5).drewN 1).trans hb6; clear hB6 hb6)
      go_wp2_with fail
      go_region_with (go_at_call 17; refine (lin_er (some ⟨g3, 0, none⟩) n c3 (some ⟨g5, 0, none⟩) m c5 x y a _ (by exact (FA.out _ K6.out).mine.same rfl) (by exact (FB.out _ K6.out).mine.same rfl) Hx.out Hy.out (by exact ((HE.out _ (K05.out.trans K6.out)).ers).same' rfl) q L S Hq.out HL.out HS.out).mono ?_; rintro e w7 ⟨A7, c7, rfl, hB7, hb7⟩; have HB7 := Lib.hid (hB7.mono (B' := w6.heap.size) (Nat.le_refl _)); have K7 : Hid (Nx w6 w7) := ((Nx.refl w6).drewN 1).trans hb7; clear hB7 hb7)
      go_wp2_with fail
      refine (linR_er A n c A' m c' x y _ (HX.out _ (K05.out.trans (K6.out.trans K7.out))) (HY.out _ (K05.out.trans (K6.out.trans K7.out))) Hx.out Hy.out q L S Hq.out HL.out HS.out).mono ?_
      rintro e w8 ⟨A8, c8, rfl, hB8, hb8⟩
      have HB8 := Lib.hid hB8
      have K8 : Hid (Nx w7 w8) := hb8
      clear hB8 hb8
      go_wp2_with fail
      refine (num_any a q hq19 _ (HE.out _ (K05.out.trans (K6.out.trans (K7.out.trans K8.out))))).mono ?_
      rintro e w9 ⟨rfl, hb9⟩
      have K9 : Hid (Nx w8 w9) := hb9
      clear hb9
      go_wp2_with fail
      refine (sameI_nx _ _ _ _ _ S _ (HB6.out.nx (K7.out.trans (K8.out.trans K9.out))).rs (HB8.out.nx K9.out).rs).mono ?_
      rintro e wA ⟨rfl, hbA⟩
      have KA : Hid (Nx w8 wA) := K9.out.trans hbA
      clear hbA K9
      go_wp2_with fail
      have B6 := Lib.hid (HB6.out.nx (K7.out.trans (K8.out.trans KA.out)))
      have B7 := Lib.hid (HB7.out.nx (K8.out.trans KA.out))
      have B8 := Lib.hid (HB8.out.nx KA.out)
      have T5 : Hid (Nx w5 wA) := K6.out.trans (K7.out.trans (K8.out.trans KA.out))
      have T0 : Hid (Nx w wA) := K05.out.trans T5.out
      have L6 : Hid (Lo A6 w6.heap.size) := HB6.out.lo
      have Z6 : Hid (w.heap.size ≤ w5.heap.size ∧ w6.heap.size ≤ w7.heap.size) := ⟨K05.out.le, K7.out.le⟩
      have H6 := Lib.hid HB6.out.hi
      clear HB6 HB7 HB8 K6 K7 K8 KA
      go_loopw [92] (fun o wr => ∃ j : Nat, ∃ f : Nat → Int, j ≤ L ∧ o = .int .i64 j ∧ Bld wr w5.heap.size 2 (.slice A6 L c6) L (iw f) ∧ Kp (Value.slice A6 L c6).ownBlock wA wr) (fun o _ => L - (intOf o).toNat)
      case atStart => exact ⟨0, S, Nat.zero_le _, rfl, B6.out, Kp.refl _ _⟩
      case round =>
        obtain ⟨j, f, hj, rfl, hBr, hkr⟩ := hrel
        by_cases hlt : j < L
        · have hlt' : (j : Int) < L := by omega
          obtain ⟨g6, rfl, g6a, g6b⟩ := hBr.block (by omega)
          have cY : wr.cell? ⟨g6, j, none⟩ = some (.int .i64 (f j)) := hBr.cell j hlt
          have fY := hBr.free j
          have HB := Lib.hid (hBr.set j (.int .i64 3))
          have HK : Hid (Kp (some g6) wA (wr.setCell ⟨g6, j, none⟩ (.int .i64 3))) := hkr.setCell j _
          clear hBr hkr
          go_wp2_with fail
          exact ⟨⟨j + 1, updI f j 3, by omega, by go_num, HB.out.congr fun k _ => upd_iw f j 3 k, HK.out⟩, by simp only [intOf]; omega⟩
        · obtain rfl : j = L := by omega
          have HBr := Lib.hid hBr
          have Hkr := Lib.hid hkr
          clear hBr hkr
          go_wp2_with ((with_reducible show wpList _ _ _ (⟨some 101, _, _, _, _, _⟩ :: _) _ _); refine wpl_pushK rfl _ _ 34 2 (.int .i64 0) 8 rfl Tryd.underlying34 info2 rfl w5.heap.size (.slice A6 j c6) j wr.heap.size (iw f) (iw (fxi j 4 f)) rfl rfl (HBr.out.alloc _) (by rw [cells_new]; exact iw_at) (fun k hk => iw_lt k hk) (fun _ => rfl) (by omega) (by decide) ?_; intro A10 c10 w10 hB10 hk10 _ q5 q6; obtain ⟨g10, rfl, g10a, g10b⟩ := hB10.block (by omega); have HB10 := Lib.hid hB10; have T10 : Hid (Kp (Value.slice A6 j c6).ownBlock wA w10) := Hkr.out.trans (((nx_alloc wr _).kp _).trans hk10); clear hB10 hk10 g10a g10b)
          have N10 : Hid (Nx w w10) := nx_kp T0.out T10.out fun k hk => Nat.le_trans Z6.out.1 (hi_own H6.out hk)
          refine (sameI_nx _ _ _ _ _ S _ (B7.out.rs.kp T10.out (sep_hi B7.out.hi L6.out)) (B8.out.rs.kp T10.out (sep_hi (B8.out.hi.mono Z6.out.2) L6.out))).mono ?_
          rintro e w11 ⟨rfl, hb11⟩
          have K11 : Hid (Nx w10 w11) := hb11
          clear hb11
          have hc4 : w11.cell? ⟨g10, j, none⟩ = some (.int .i64 4) := (HB10.out.nx K11.out).rs.last
          go_wp2_with fail
          have GA := Lib.hid ((FA.out _ T5.out).kp T10.out (sep_lo (fun ad e => (by injection e with e; rw [← e]; exact S5.out.1)) H6.out))
          have GB := Lib.hid ((FB.out _ T5.out).kp T10.out (sep_lo (fun ad e => (by injection e with e; rw [← e]; exact S5.out.2)) H6.out))
          clear hc4 B6 B7 B8 T10 HB10 HBr Hkr L6 T0 T5 S5 H6 FA FB Hq HS HL
          go_region_with (go_at_call 20; refine (cyc_er (some ⟨g3, 0, none⟩) n c3 (some ⟨g5, 0, none⟩) m c5 x y a _ (by exact (GA.out.nx K11.out).mine.same rfl) (by exact (GB.out.nx K11.out).mine.same rfl) Hx.out Hy.out (by exact ((HE.out _ (N10.out.trans K11.out)).ers).same' rfl) q' L' S' Hq'.out HL'.out HS'.out).mono ?_; rintro e w12 ⟨A12, c12, rfl, hB12, hb12⟩; have HB12 := Lib.hid hB12; have K12 : Hid (Nx w10 w12) := (K11.out.drewN 1).trans hb12; clear hB12 hb12)
          go_wp2_with fail
          refine (cycR_er A n c A' m c' x y _ (HX.out _ (N10.out.trans K12.out)) (HY.out _ (N10.out.trans K12.out)) Hx.out Hy.out q' L' S' Hq'.out HL'.out HS'.out).mono ?_
          rintro e w13 ⟨A13, c13, rfl, hB13, hb13⟩
          have HB13 := Lib.hid hB13
          have K13 : Hid (Nx w12 w13) := hb13
          clear hB13 hb13
          go_wp2_with fail
          refine (num_any a q' hq19' _ (HE.out _ (N10.out.trans (K12.out.trans K13.out)))).mono ?_
          rintro e w14 ⟨rfl, hb14⟩
          have K14 : Hid (Nx w13 w14) := hb14
          clear hb14
          go_wp2_with fail
          refine (sameI_nx _ _ _ _ _ S' _ (HB12.out.nx (K13.out.trans K14.out)).rs (HB13.out.nx K14.out).rs).mono ?_
          rintro e w15 ⟨rfl, hb15⟩
          have K15 : Hid (Nx w10 w15) := K12.out.trans (K13.out.trans (K14.out.trans hb15))
          clear hb15 K12 K13 K14 HB12 HB13 K11
          go_wp2_with fail
          refine (sameI_nx _ _ _ _ _ x _ (GA.out.nx K15.out).mine (HX.out _ (N10.out.trans K15.out))).mono ?_
          rintro e w16 ⟨rfl, hb16⟩
          have K16 : Hid (Nx w10 w16) := K15.out.trans hb16
          clear hb16 K15
          go_wp2_with fail
          refine (sameI_nx _ _ _ _ _ y _ (GB.out.nx K16.out).mine (HY.out _ (N10.out.trans K16.out))).mono ?_
          rintro e w17 ⟨rfl, hb17⟩
          have K17 : Hid (Nx w10 w17) := K16.out.trans hb17
          clear hb17 K16
          have hA5 : w17.cell? ⟨g3, n, none⟩ = some (.int .i64 5) := (GA.out.nx K17.out).last
          have hB6 : w17.cell? ⟨g5, m, none⟩ = some (.int .i64 6) := (GB.out.nx K17.out).last
          go_wp2_with fail
          go_ret
          exact ⟨rfl, N10.out.trans K17.out⟩
end Go.Proofs.YtppebegleedifaaDoor
