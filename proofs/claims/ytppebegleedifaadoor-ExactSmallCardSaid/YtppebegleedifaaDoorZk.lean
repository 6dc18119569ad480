/- ExactSmall: the walk. -/
import Derived.Test.YtppebegleedifaaDoorZj
namespace Go.Proofs.YtppebegleedifaaDoor
open Go.RowKit

set_option maxRecDepth 100000 in
set_option maxHeartbeats 32000000 in
theorem smallLaw_any (A : Option Addr) (n c : Nat) (A' : Option Addr) (m c' : Nat) (x y : Nat → Int) (a : Nat → Addr) (w : World) (hr : RS w A n c (iw x)) (hr' : RS w A' m c' (iw y)) (hnil : A = none → c = 0) (hnil' : A' = none → c' = 0) (hx : ∀ i, i64B (x i)) (hy : ∀ j, i64B (y j)) (hn : n * 8 ≤ 140737488351232) (hm : m * 8 ≤ 140737488351232) (hE : ErA w a) :
    Calls Tryd.prog 5 #[.slice A n c, .slice A' m c'] w fun e w' => e = .returned (.bool true) ∧ Nx w w' := by
  have k1 := hr.nc
  have k2 := hr.cm
  have k3 := hr'.nc
  have k4 := hr'.cm
  obtain ⟨q, hq⟩ : ∃ q, smQ n m x y = q := ⟨_, rfl⟩
  obtain ⟨S1, hS1⟩ : ∃ S, (fun i => reS n x y i n) = S := ⟨_, rfl⟩
  obtain ⟨S2, hS2⟩ : ∃ S, (fun i => imS n x y i n) = S := ⟨_, rfl⟩
  obtain ⟨L, hL⟩ : ∃ L, lenOf q n = L := ⟨_, rfl⟩
  have hL2 : L ≤ 4 := by rw [← hL, ← hq]; exact smQ_len n m x y
  have hq19 : q ≤ 19 := by rw [← hq]; exact smQ_le n m x y
  have HE : Hid (∀ w', Nx w w' → ErA w' a) := fun w' h => hE.below h
  have HX : Hid (∀ w', Nx w w' → RS w' A n c (iw x)) := fun w' h => hr.nx h
  have HY : Hid (∀ w', Nx w w' → RS w' A' m c' (iw y)) := fun w' h => hr'.nx h
  have Hn := Lib.hid hnil
  have Hn' := Lib.hid hnil'
  have Hx := Lib.hid hx
  have Hy := Lib.hid hy
  have Hq := Lib.hid hq
  have HS1 := Lib.hid hS1
  have HS2 := Lib.hid hS2
  have HL := Lib.hid hL
  clear hE hr hr' hnil hnil' hx hy hq hS1 hS2 hL
  go_enter Tryd.func5, Tryd.ntmps5
  go_wp2_with (first
    | (go_at_call 10; refine (lives_any a _ (HE.out _ (Nx.refl _)).ers).mono ?_; rintro e w1 ⟨rfl, hb⟩; have K1 := Lib.hid hb; clear hb)
    | ((with_reducible show wpList _ _ _ (⟨some 21, _, _, _, _, _⟩ :: _) _ _); refine wpl_copyK rfl _ _ 34 2 (.int .i64 0) 8 rfl Tryd.underlying34 info2 rfl w1.heap.size (.slice (some ⟨w1.heap.size, 0, none⟩) 0 0) n c A (iw x) (iw x) rfl rfl Hn.out (bld_new w1 2 #[] _ 0 (by decide) rfl (fun j hj => absurd hj (by omega)) _ (Nat.le_refl _)) (HX.out _ (K1.out.alloc _)) (fun _ => rfl) (by omega) (by decide) ?_; intro A2 c2 w2 hB2 hk2 _ _; have HB2 := Lib.hid hB2; have K2 : Hid (Nx w1 w2) := nx_cat0 hk2; clear hB2 hk2)
    | ((with_reducible show wpList _ _ _ (⟨some 23, _, _, _, _, _⟩ :: _) _ _); refine wpl_pushK rfl _ _ 34 2 (.int .i64 0) 8 rfl Tryd.underlying34 info2 rfl w1.heap.size (.slice A2 n c2) n w2.heap.size (iw x) (iw (fxi n 5 x)) rfl rfl (HB2.out.alloc _) (by rw [cells_new]; exact iw_at) (fun j hj => iw_lt j hj) (fun _ => rfl) (by omega) (by decide) ?_; intro A3 c3 w3 hB3 hk3 _ q1 q2; obtain ⟨g3, rfl, g3a, g3b⟩ := hB3.block (by omega); have HB3 := Lib.hid hB3; have K3 : Hid (Nx w1 w3) := nx_cat HB2.out K2.out hk3; clear hB3 hk3 K2 HB2)
    | ((with_reducible show wpList _ _ _ (⟨some 26, _, _, _, _, _⟩ :: _) _ _); refine wpl_copyK rfl _ _ 34 2 (.int .i64 0) 8 rfl Tryd.underlying34 info2 rfl w3.heap.size (.slice (some ⟨w3.heap.size, 0, none⟩) 0 0) m c' A' (iw y) (iw y) rfl rfl Hn'.out (bld_new w3 2 #[] _ 0 (by decide) rfl (fun j hj => absurd hj (by omega)) _ (Nat.le_refl _)) (HY.out _ (K1.out.trans (K3.out.alloc _))) (fun _ => rfl) (by omega) (by decide) ?_; intro A4 c4 w4 hB4 hk4 _ _; have HB4 := Lib.hid hB4; have K4 : Hid (Nx w3 w4) := nx_cat0 hk4; clear hB4 hk4)
    | ((with_reducible show wpList _ _ _ (⟨some 28, _, _, _, _, _⟩ :: _) _ _); refine wpl_pushK rfl _ _ 34 2 (.int .i64 0) 8 rfl Tryd.underlying34 info2 rfl w3.heap.size (.slice A4 m c4) m w4.heap.size (iw y) (iw (fxi m 6 y)) rfl rfl (HB4.out.alloc _) (by rw [cells_new]; exact iw_at) (fun j hj => iw_lt j hj) (fun _ => rfl) (by omega) (by decide) ?_; intro A5 c5 w5 hB5 hk5 _ q3 q4; obtain ⟨g5, rfl, g5a, g5b⟩ := hB5.block (by omega); have HB5 := Lib.hid hB5; have K5 : Hid (Nx w3 w5) := nx_cat HB4.out K4.out hk5; clear hB5 hk5 K4 HB4))
  have K05 : Hid (Nx w w5) := K1.out.trans (K3.out.trans K5.out)
  have FA : Hid (∀ w', Nx w5 w' → RS w' (some ⟨g3, 0, none⟩) (n + 1) c3 (iw (fxi n 5 x))) := fun w' h => (HB3.out.nx (K5.out.trans h)).rs
  have FB : Hid (∀ w', Nx w5 w' → RS w' (some ⟨g5, 0, none⟩) (m + 1) c5 (iw (fxi m 6 y))) := fun w' h => (HB5.out.nx h).rs
  have ht1 : ∀ w, (Instr.sliceAt 34 (.slice (some ⟨g3, 0, none⟩) (n + 1) c3) none (some (.int .i64 (n : Int))) none).run Tryd.prog w = .ok (.slice (some ⟨g3, 0, none⟩) n c3) w := run_to Tryd.underlying34 cells2 _ (n + 1) c3 n (by omega)
  have ht2 : ∀ w, (Instr.sliceAt 34 (.slice (some ⟨g5, 0, none⟩) (m + 1) c5) none (some (.int .i64 (m : Int))) none).run Tryd.prog w = .ok (.slice (some ⟨g5, 0, none⟩) m c5) w := run_to Tryd.underlying34 cells2 _ (m + 1) c5 m (by omega)
  have S5 : Hid (g3 < w5.heap.size ∧ g5 < w5.heap.size) := ⟨Nat.lt_of_lt_of_le g3b K5.out.le, g5b⟩
  clear HB3 HB5 K1 K3 K5 g3a g3b g5a g5b
  go_region_with (go_at_call 22; refine (small_er (some ⟨g3, 0, none⟩) n c3 (some ⟨g5, 0, none⟩) m c5 x y a _ (by exact (FA.out _ (Nx.refl _)).mine.same rfl) (by exact (FB.out _ (Nx.refl _)).mine.same rfl) Hx.out Hy.out (by exact ((HE.out _ K05.out).ers).same' rfl) q L Hq.out HL.out S1 S2 HS1.out HS2.out).mono ?_; rintro e w6 ⟨A6, c6, A6', c6', rfl, hB6, hC6, hd6, hb6⟩; have HB6 := Lib.hid (hB6.mono (B' := w5.heap.size) (Nat.le_refl _)); have HC6 := Lib.hid (hC6.mono (B' := w5.heap.size) (Nat.le_refl _)); have HD6 := Lib.hid hd6; have K6 : Hid (Nx w5 w6) := ((Nx.refl w5).drewN 1).trans hb6; clear hB6 hC6 hd6 hb6)
  go_wp2_with fail
  go_region_with (go_at_call 22; refine (small_er (some ⟨g3, 0, none⟩) n c3 (some ⟨g5, 0, none⟩) m c5 x y a _ (by exact (FA.out _ K6.out).mine.same rfl) (by exact (FB.out _ K6.out).mine.same rfl) Hx.out Hy.out (by exact ((HE.out _ (K05.out.trans K6.out)).ers).same' rfl) q L Hq.out HL.out S1 S2 HS1.out HS2.out).mono ?_; rintro e w7 ⟨A7, c7, A7', c7', rfl, hB7, hC7, hd7, hb7⟩; have HB7 := Lib.hid (hB7.mono (B' := w6.heap.size) (Nat.le_refl _)); have HC7 := Lib.hid (hC7.mono (B' := w6.heap.size) (Nat.le_refl _)); have HD7 := Lib.hid hd7; have K7 : Hid (Nx w6 w7) := ((Nx.refl w6).drewN 1).trans hb7; clear hB7 hC7 hd7 hb7)
  go_wp2_with fail
  refine (smallR_er A n c A' m c' x y _ (HX.out _ (K05.out.trans (K6.out.trans K7.out))) (HY.out _ (K05.out.trans (K6.out.trans K7.out))) Hx.out Hy.out q L Hq.out HL.out S1 S2 HS1.out HS2.out).mono ?_
  rintro e w8 ⟨A8, c8, A8', c8', rfl, hB8, hC8, hb8⟩
  have HB8 := Lib.hid hB8
  have HC8 := Lib.hid hC8
  have K8 : Hid (Nx w7 w8) := hb8
  clear hB8 hC8 hb8
  go_wp2_with fail
  refine (num_any a q hq19 _ (HE.out _ (K05.out.trans (K6.out.trans (K7.out.trans K8.out))))).mono ?_
  rintro e w9 ⟨rfl, hb9⟩
  have K9 : Hid (Nx w8 w9) := hb9
  clear hb9
  go_wp2_with fail
  refine (sameI_nx _ _ _ _ _ S1 _ (HB6.out.nx (K7.out.trans (K8.out.trans K9.out))).rs (HB8.out.nx K9.out).rs).mono ?_
  rintro e wA0 ⟨rfl, hbA0⟩
  have KA0 : Hid (Nx w8 wA0) := K9.out.trans hbA0
  clear hbA0 K9
  go_wp2_with fail
  refine (sameI_nx _ _ _ _ _ S2 _ (HC6.out.nx (K7.out.trans (K8.out.trans KA0.out))).rs (HC8.out.nx KA0.out).rs).mono ?_
  rintro e wA ⟨rfl, hbA⟩
  have KA : Hid (Nx w8 wA) := KA0.out.trans hbA
  clear hbA KA0
  go_wp2_with fail
  have B6 := Lib.hid (HB6.out.nx (K7.out.trans (K8.out.trans KA.out)))
  have C6 := Lib.hid (HC6.out.nx (K7.out.trans (K8.out.trans KA.out)))
  have B7 := Lib.hid (HB7.out.nx (K8.out.trans KA.out))
  have C7 := Lib.hid (HC7.out.nx (K8.out.trans KA.out))
  have B8 := Lib.hid (HB8.out.nx KA.out)
  have C8 := Lib.hid (HC8.out.nx KA.out)
  have T5 : Hid (Nx w5 wA) := K6.out.trans (K7.out.trans (K8.out.trans KA.out))
  have T0 : Hid (Nx w wA) := K05.out.trans T5.out
  have L6 : Hid (Lo A6 w6.heap.size) := HB6.out.lo
  have Z6 : Hid (w.heap.size ≤ w5.heap.size ∧ w6.heap.size ≤ w7.heap.size) := ⟨K05.out.le, K7.out.le⟩
  have H6 := Lib.hid HB6.out.hi
  clear HB6 HB7 HB8 HC6 HC7 HC8 K6 K7 K8 KA HD7
  go_loopw [80] (fun o wr => ∃ j : Nat, ∃ f : Nat → Int, j ≤ L ∧ o = .int .i64 j ∧ Bld wr w5.heap.size 2 (.slice A6 L c6) L (iw f) ∧ Kp (Value.slice A6 L c6).ownBlock wA wr) (fun o _ => L - (intOf o).toNat)
  case atStart => exact ⟨0, S1, Nat.zero_le _, rfl, B6.out, Kp.refl _ _⟩
  case round =>
    obtain ⟨j, f, hj, rfl, hBr, hkr⟩ := hrel
    by_cases hlt : j < L
    · have hlt' : (j : Int) < L := by omega
      obtain ⟨g6, rfl, g6a, g6b⟩ := hBr.block (by omega)
      have cY : wr.cell? ⟨g6, j, none⟩ = some (.int .i64 (f j)) := hBr.cell j hlt
      have fY := hBr.free j
      have HB := Lib.hid (hBr.set j (.int .i64 3))
      have HK : Hid (Kp (some g6) wA (wr.setCell ⟨g6, j, none⟩ (.int .i64 3))) := hkr.setCell j _
      clear hBr hkr
      go_wp2_with fail
      exact ⟨⟨j + 1, updI f j 3, by omega, by go_num, HB.out.congr fun k _ => upd_iw f j 3 k, HK.out⟩, by simp only [intOf]; omega⟩
    · obtain rfl : j = L := by omega
      have HBr := Lib.hid hBr
      have Hkr := Lib.hid hkr
      clear hBr hkr
      go_wp2_with fail
      refine (sameI_nx _ _ _ _ _ S2 _ (C6.out.kp Hkr.out (ap_or HD6.out)).rs (C8.out.rs.kp Hkr.out (sep_hi (C8.out.hi.mono Z6.out.2) L6.out))).mono ?_
      rintro e wB ⟨rfl, hbB⟩
      have KB : Hid (Nx wr wB) := hbB
      clear hbB
      go_wp2_with ((with_reducible show wpList _ _ _ (⟨some 93, _, _, _, _, _⟩ :: _) _ _); refine wpl_pushK rfl _ _ 34 2 (.int .i64 0) 8 rfl Tryd.underlying34 info2 rfl w5.heap.size (.slice A6 j c6) j wB.heap.size (iw f) (iw (fxi j 4 f)) rfl rfl ((HBr.out.nx KB.out).alloc _) (by rw [cells_new]; exact iw_at) (fun k hk => iw_lt k hk) (fun _ => rfl) (by omega) (by decide) ?_; intro A10 c10 w10 hB10 hk10 _ q5 q6; obtain ⟨g10, rfl, g10a, g10b⟩ := hB10.block (by omega); have HB10 := Lib.hid hB10; have T10 : Hid (Kp (Value.slice A6 j c6).ownBlock wA w10) := Hkr.out.trans (((KB.out.alloc _).kp _).trans hk10); clear hB10 hk10 g10a g10b)
      have N10 : Hid (Nx w w10) := nx_kp T0.out T10.out fun k hk => Nat.le_trans Z6.out.1 (hi_own H6.out hk)
      refine (sameI_nx _ _ _ _ _ S1 _ (B7.out.rs.kp T10.out (sep_hi B7.out.hi L6.out)) (B8.out.rs.kp T10.out (sep_hi (B8.out.hi.mono Z6.out.2) L6.out))).mono ?_
      rintro e w11 ⟨rfl, hb11⟩
      have K11 : Hid (Nx w10 w11) := hb11
      clear hb11
      go_wp2_with fail
      refine (sameI_nx _ _ _ _ _ S2 _ ((C7.out.rs.kp T10.out (sep_hi C7.out.hi L6.out)).nx K11.out) ((C8.out.rs.kp T10.out (sep_hi (C8.out.hi.mono Z6.out.2) L6.out)).nx K11.out)).mono ?_
      rintro e w12 ⟨rfl, hb12⟩
      have K12 : Hid (Nx w10 w12) := K11.out.trans hb12
      clear hb12 K11
      go_wp2_with fail
      have GA := Lib.hid ((FA.out _ T5.out).kp T10.out (sep_lo (fun ad e => (by injection e with e; rw [← e]; exact S5.out.1)) H6.out))
      have GB := Lib.hid ((FB.out _ T5.out).kp T10.out (sep_lo (fun ad e => (by injection e with e; rw [← e]; exact S5.out.2)) H6.out))
      refine (sameI_nx _ _ _ _ _ x _ (GA.out.nx K12.out).mine (HX.out _ (N10.out.trans K12.out))).mono ?_
      rintro e w16 ⟨rfl, hb16⟩
      have K16 : Hid (Nx w10 w16) := K12.out.trans hb16
      clear hb16 K12
      go_wp2_with fail
      refine (sameI_nx _ _ _ _ _ y _ (GB.out.nx K16.out).mine (HY.out _ (N10.out.trans K16.out))).mono ?_
      rintro e w17 ⟨rfl, hb17⟩
      have K17 : Hid (Nx w10 w17) := K16.out.trans hb17
      clear hb17 K16
      have hA5 : w17.cell? ⟨g3, n, none⟩ = some (.int .i64 5) := (GA.out.nx K17.out).last
      have hB6 : w17.cell? ⟨g5, m, none⟩ = some (.int .i64 6) := (GB.out.nx K17.out).last
      have hc4 : w17.cell? ⟨g10, j, none⟩ = some (.int .i64 4) := (HB10.out.nx K17.out).rs.last
      go_wp2_with fail
      go_ret
      exact ⟨rfl, N10.out.trans K17.out⟩
end Go.Proofs.YtppebegleedifaaDoor
