/- ExactBack: the walk. -/
import Derived.Test.YtppebegleedifaaDoorYd
namespace Go.Proofs.YtppebegleedifaaDoor
open Go.RowKit

theorem primesR_rs (w : World) : Calls Tryd.prog 24 #[] w fun e w' => ∃ g c, e = .returned (.slice (some ⟨g, 0, none⟩) 3 c) ∧ RS w' (some ⟨g, 0, none⟩) 3 c (uw primeF) ∧ Nx w w' ∧ 3 ≤ c ∧ c ≤ 9223372036854775807 :=
  (primes_any w).mono fun _ _ ⟨A, c, he, hB, hb⟩ => by
    obtain ⟨g, rfl, _, _⟩ := hB.block (by decide)
    exact ⟨g, c, he, hB.rs, hb, hB.rs.nc, hB.rs.cm⟩
theorem erV_no (a : Nat → Addr) (q : Nat) (h : q ≠ 0) : erV a q = .iface 110 (.pointer (some (a (sg (q - 1))))) := by unfold erV; rw [if_neg h]; rfl
theorem erV_ok (a : Nat → Addr) : erV a 0 = .nilIface := rfl
set_option maxRecDepth 100000 in
set_option maxHeartbeats 16000000 in
theorem back_any (A : Option Addr) (n c : Nat) (x : Nat → Nat) (a : Nat → Addr) (w : World) (hx : ∀ j, j < n → x j < 18446744073709551616) (hr : RS w A n c (uw x)) (hnil : A = none → c = 0) (hn : n * 8 ≤ 140737488351232) (hE : Ers w (eV a)) :
    Calls Tryd.prog 6 #[.slice A n c] w fun e w' => e = .returned (.bool true) ∧ Nx w w' := by
  have k1 := hr.nc
  have k2 := hr.cm
  have HE : Hid (∀ w', Nx w w' → Ers w' (eV a)) := fun w' h => hE.below h
  have HX : Hid (∀ w', Nx w w' → RS w' A n c (uw x)) := fun w' h => hr.nx h
  have Hn := Lib.hid hnil
  have Hx := Lib.hid hx
  clear hE hr hnil hx
  by_cases hg : 160 < n
  · have hg' : (160 : Int) < n := by omega
    go_enter Tryd.func6, Tryd.ntmps6
    go_wp2_with (go_at_call 10; refine (lives_any a _ (HE.out _ (Nx.refl _))).mono ?_; rintro e w1 ⟨rfl, hb⟩)
    go_ret
    exact ⟨rfl, hb⟩
  · have hg' : ¬ (160 : Int) < n := by omega
    go_enter Tryd.func6, Tryd.ntmps6
    go_wp2_with (go_at_call 10; refine (lives_any a _ (HE.out _ (Nx.refl _))).mono ?_; rintro e w1 ⟨rfl, hb⟩; have K1 := Lib.hid hb; clear hb)
    refine (primesR_rs _).mono ?_
    rintro e w2 ⟨gp, cp, rfl, hP, hb2, qp1, qp2⟩
    have HP : Hid (∀ w', Nx w2 w' → RS w' (some ⟨gp, 0, none⟩) 3 cp (uw primeF)) := fun w' h => hP.nx h
    have K2 : Hid (Nx w w2) := K1.out.trans hb2
    clear hP hb2 K1
    go_wp2_with fail
    go_loopw [20] (fun o wr => ∃ i : Nat, i ≤ 3 ∧ o = .int .i64 i ∧ Nx w2 wr) (fun o _ => 3 - (intOf o).toNat)
    case atStart => exact ⟨0, by decide, rfl, Nx.refl _⟩
    case round =>
      obtain ⟨i, hi, rfl, hb⟩ := hrel
      have Kr := Lib.hid hb
      clear hb
      by_cases hlt : i < 3
      · have hlt' : (i : Int) < 3 := by omega
        have hpr := prF i hlt
        have hP3 := hpr.p3
        have hPl := hpr.np.2.1
        obtain ⟨P, hP⟩ : ∃ P, primeF i = P := ⟨_, rfl⟩
        rw [hP] at hP3 hPl
        have cP : wr.cell? ⟨gp, i, none⟩ = some (.int .u64 (P : Nat)) := by
          obtain ⟨ad, had, hc⟩ := (HP.out _ Kr.out).cell i hlt
          injection had with had
          rw [← had, addr_add0] at hc
          rw [hc, ← hP]; rfl
        have hP0 : ((P : Int) == 0) = false := by simp; omega
        obtain ⟨M, hM⟩ : ∃ M, P - 1 = M := ⟨_, rfl⟩
        have hpM : (P : Int) - 1 = (M : Int) := by omega
        obtain ⟨m, hm⟩ : ∃ m, mN (i : Int) n = m := ⟨_, rfl⟩
        obtain ⟨q, hq⟩ : ∃ q, eN (i : Int) n = q := ⟨_, rfl⟩
        have hmn : m ≤ n := by rw [← hm]; exact mN_le _ n
        have HP' := Lib.hid hP
        have HM' := Lib.hid hM
        have Hm := Lib.hid hm
        have Hq := Lib.hid hq
        clear hpr hP hM hm hq
        rcases Nat.eq_zero_or_pos q with hq0 | hq0
        · subst hq0
          have hfacts : 1 ≤ n ∧ M % n = 0 ∧ m = n := by
            obtain ⟨j, e0, hj, n1, n2, hd⟩ := eN_ok Hq.out
            have : j = i := by omega
            subst this
            have h2 := HP'.out
            have h3 := HM'.out
            rw [h2, h3] at hd
            have h4 := Hm.out
            unfold mN at h4
            rw [if_pos Hq.out] at h4
            exact ⟨n1, hd, h4.symm⟩
          obtain ⟨n1, hd, rfl⟩ := hfacts
          have z1 : (m : Int) ≠ 0 := by omega
          have z2 : ((M : Int) % m == 0) = true := by simp; omega
          have zd : decide (0 < m) = true := by simp; omega
          obtain ⟨Y, hY⟩ : ∃ Y, tF false (i : Int) m x = Y := ⟨_, rfl⟩
          obtain ⟨Z, hZ⟩ : ∃ Z, tF true (i : Int) m x = Z := ⟨_, rfl⟩
          have HYl : Hid (∀ k, Y k < P) := fun k => by rw [← hY, ← HP'.out]; exact tF_lt false i m hlt x k
          have HZl : Hid (∀ k, Z k < P) := fun k => by rw [← hZ, ← HP'.out]; exact tF_lt true i m hlt x k
          have HYb : Hid (∀ l, l < m → tF true (i : Int) m Y l = x l % P) := fun l hl => by rw [← hY, ← HP'.out]; exact back_fore i m hlt n1 (by omega) (by rw [HP'.out, HM'.out]; exact hd) x l hl
          have HZb : Hid (∀ l, l < m → tF false (i : Int) m Z l = x l % P) := fun l hl => by rw [← hZ, ← HP'.out]; exact fore_back i m hlt n1 (by omega) (by rw [HP'.out, HM'.out]; exact hd) x l hl
          have HY := Lib.hid hY
          have HZ := Lib.hid hZ
          clear hY hZ hd
          go_wp2_with (first
            | ((with_reducible show wpList _ _ _ (⟨some 30, _, _, _, _, _⟩ :: _) _ _); refine wpl_copyK rfl _ _ 22 24 (.int .u64 0) 8 rfl Tryd.underlying22 info24 rfl wr.heap.size (.slice (some ⟨wr.heap.size, 0, none⟩) 0 0) m c A (uw x) (uw x) rfl rfl Hn.out (bld_new wr 24 #[] _ 0 (by decide) rfl (fun j hj => absurd hj (by omega)) _ (Nat.le_refl _)) (HX.out _ (K2.out.trans (Kr.out.alloc _))) (uw_one x) (by omega) (by decide) ?_; intro A3 c3 w3 hB3 hk3 _ _; have HB3 := Lib.hid hB3; have K3 : Hid (Nx wr w3) := nx_cat0 hk3; clear hB3 hk3)
            | (go_at_call 11; refine (fwd_er A3 m c3 i x a _ Hx.out HB3.out.rs (HE.out _ (K2.out.trans (Kr.out.trans K3.out))) m 0 Hm.out Hq.out Y HY.out).mono ?_; rw [erV_ok]; rintro e w4 ⟨A4, c4, rfl, hB4, hb4⟩; have K4 : Hid (Nx wr w4) := K3.out.trans hb4; have HB4 := Lib.hid hB4; clear hB4 hb4)
            | ((with_reducible show wpList _ _ _ (⟨some 38, _, _, _, _, _⟩ :: _) _ _); refine wpl_copyK rfl _ _ 22 24 (.int .u64 0) 8 rfl Tryd.underlying22 info24 rfl w4.heap.size (.slice (some ⟨w4.heap.size, 0, none⟩) 0 0) m c A (uw x) (uw x) rfl rfl Hn.out (bld_new w4 24 #[] _ 0 (by decide) rfl (fun j hj => absurd hj (by omega)) _ (Nat.le_refl _)) (HX.out _ (K2.out.trans (Kr.out.trans (K4.out.alloc _)))) (uw_one x) (by omega) (by decide) ?_; intro A5 c5 w5 hB5 hk5 _ _; have HB5 := Lib.hid hB5; have K5 : Hid (Nx w4 w5) := nx_cat0 hk5; clear hB5 hk5)
            | (go_at_call 15; refine (inv_er A5 m c5 i x a _ Hx.out HB5.out.rs (HE.out _ (K2.out.trans (Kr.out.trans (K4.out.trans K5.out)))) m 0 Hm.out Hq.out Z HZ.out).mono ?_; rw [erV_ok]; rintro e w6 ⟨A6, c6, rfl, hB6, hb6⟩; have K6 : Hid (Nx w4 w6) := K5.out.trans hb6; have HB6 := Lib.hid hB6; clear hB6 hb6))
          obtain ⟨g4, e4, _, _⟩ := HB4.out.block (by omega)
          obtain ⟨g6, e6, _, _⟩ := HB6.out.block (by omega)
          subst e4
          subst e6
          go_quiet (fail)
          go_wp2_with fail
          refine (inv_er (some ⟨g4, 0, none⟩) m c4 i Y a _ (fun j _ => Nat.lt_of_lt_of_le (HYl.out j) (by omega)) ((HB4.out.nx K6.out).rs.drewN _) (HE.out _ ((K2.out.trans (Kr.out.trans (K4.out.trans K6.out))).drewN _)) m 0 Hm.out Hq.out _ rfl).mono ?_
          rw [erV_ok]
          rintro e w7 ⟨A7, c7, rfl, hB7, hb7⟩
          obtain ⟨g7, rfl, _, _⟩ := hB7.block (by omega)
          have HB7 := Lib.hid hB7
          have K7 : Hid (Nx w6 w7) := ((Nx.refl _).drewN _).trans hb7
          clear hB7 hb7
          go_wp2_with fail
          refine (fwd_er (some ⟨g6, 0, none⟩) m c6 i Z a _ (fun j _ => Nat.lt_of_lt_of_le (HZl.out j) (by omega)) (HB6.out.nx K7.out).rs (HE.out _ (K2.out.trans (Kr.out.trans (K4.out.trans (K6.out.trans K7.out))))) m 0 Hm.out Hq.out _ rfl).mono ?_
          rw [erV_ok]
          rintro e w8 ⟨A8, c8, rfl, hB8, hb8⟩
          obtain ⟨g8, rfl, _, _⟩ := hB8.block (by omega)
          have K8 : Hid (Nx w7 w8) := hb8
          have R8 := Lib.hid hB8.rs
          have R7 := Lib.hid (HB7.out.nx K8.out).rs
          have R6 := Lib.hid (HB6.out.nx (K7.out.trans K8.out)).rs
          have R4 := Lib.hid (HB4.out.nx (K6.out.trans (K7.out.trans K8.out))).rs
          have KK : Hid (Nx wr w8) := K4.out.trans (K6.out.trans (K7.out.trans K8.out))
          have RX := Lib.hid (HX.out _ (K2.out.trans (Kr.out.trans KK.out)))
          have lim : c4 ≤ 9223372036854775807 ∧ m ≤ c4 ∧ c6 ≤ 9223372036854775807 ∧ m ≤ c6 ∧ c7 ≤ 9223372036854775807 ∧ m ≤ c7 ∧ c8 ≤ 9223372036854775807 ∧ m ≤ c8 := ⟨R4.out.cm, R4.out.nc, R6.out.cm, R6.out.nc, R7.out.cm, R7.out.nc, R8.out.cm, R8.out.nc⟩
          obtain ⟨l1, l2, l3, l4, l5, l6, l7, l8⟩ := lim
          clear hB8 hb8 HB4 HB6 HB7 HB3 HB5 K3 K4 K5 K6 K7 K8 z1 z2 zd
          go_wp2_with fail
          obtain ⟨wo, hwo⟩ : ∃ wo, wr = wo := ⟨_, rfl⟩
          rw [hwo] at KK Kr
          clear cP
          subst hwo
          go_loopw [101] (fun o wq => ∃ j k : Nat, j ≤ m ∧ o = .int .i64 j ∧ wq = w8.drewN k) (fun o _ => m - (intOf o).toNat)
          case atStart => exact ⟨0, 0, Nat.zero_le _, rfl, rfl⟩
          case round =>
            obtain ⟨j, k, hj, rfl, rfl⟩ := hrel
            by_cases hjm : j < m
            · have hjm' : (j : Int) < m := by omega
              obtain ⟨ad, rfl, hcx⟩ := (RX.out.drewN k).cell j hjm
              obtain ⟨ad4, e4, hc4⟩ := (R4.out.drewN k).cell j hjm
              obtain ⟨ad6, e6, hc6⟩ := (R6.out.drewN k).cell j hjm
              obtain ⟨ad7, e7, hc7⟩ := (R7.out.drewN k).cell j hjm
              obtain ⟨ad8, e8, hc8⟩ := (R8.out.drewN k).cell j hjm
              injection e4 with e4; injection e6 with e6; injection e7 with e7; injection e8 with e8
              rw [← e4, addr_add0] at hc4
              rw [← e6, addr_add0] at hc6
              rw [← e7, addr_add0] at hc7
              rw [← e8, addr_add0] at hc8
              have h7 := HYb.out j hjm
              have h8 := HZb.out j hjm
              have h4l := HYl.out j
              have h6l := HZl.out j
              clear e4 e6 e7 e8
              unfold uw at hcx hc4 hc6 hc7 hc8
              rw [h7] at hc7
              rw [h8] at hc8
              clear h7 h8
              obtain ⟨v, hv⟩ : ∃ v, x j = v := ⟨_, rfl⟩
              obtain ⟨v4, hv4⟩ : ∃ v, Y j = v := ⟨_, rfl⟩
              obtain ⟨v6, hv6⟩ : ∃ v, Z j = v := ⟨_, rfl⟩
              rw [hv] at hcx hc7 hc8
              rw [hv4] at hc4 h4l
              rw [hv6] at hc6 h6l
              obtain ⟨r, hr⟩ : ∃ r, v % P = r := ⟨_, rfl⟩
              rw [hr] at hc7 hc8
              have hr' : (v : Int) % P = (r : Int) := by rw [← hr]; rfl
              have h4l' : decide (P ≤ v4) = false := by simp; omega
              have h6l' : decide (P ≤ v6) = false := by simp; omega
              have p1 : (P : Int) ≠ 0 := by omega
              have p2 : (0 : Int) < P := by omega
              clear hr hv hv4 hv6
              obtain ⟨wq, hwq⟩ : ∃ wq, w8.drewN k = wq := ⟨_, rfl⟩
              rw [hwq] at hcx hc4 hc6 hc7 hc8 ⊢
              have Hwq := Lib.hid hwq
              clear hwq
              go_wp2_with fail
              go_quiet (fail)
              go_wp2_with fail
              exact ⟨⟨j + 1, _, by omega, by go_num, by rw [← Hwq.out]; exact drew_N _ _ _⟩, by simp only [intOf]; omega⟩
            · obtain rfl : j = m := by omega
              go_wp2_with fail
              exact ⟨⟨i + 1, by omega, by go_num, (Kr.out.trans KK.out).drewN _⟩, by simp only [intOf]; omega⟩
        · have hv := erV_no a q (by omega)
          obtain ⟨ae, hae⟩ : ∃ ae, a (sg (q - 1)) = ae := ⟨_, rfl⟩
          rw [hae] at hv
          have HV := Lib.hid hv
          have hcs : n = 0 ∨ (0 < n ∧ M % n ≠ 0) := by
            have h0 := Hq.out
            have h2 := HP'.out
            have h3 := HM'.out
            rcases eN_cases i n with ⟨e1, h1⟩ | ⟨j, e0, hj, ⟨e1, h1⟩ | ⟨n1, n2, ⟨e1, h1⟩ | ⟨e1, h1⟩⟩⟩
            · omega
            · omega
            · right
              have : j = i := by omega
              subst this
              rw [h2, h3] at h1
              exact ⟨n1, h1⟩
            · omega
          clear hae hv
          have hcs2 : (n = 0 ∧ ¬ (0 : Int) < n) ∨ ((0 : Int) < n ∧ (n : Int) ≠ 0 ∧ ((M : Int) % n == 0) = false) := by
            rcases hcs with h | ⟨h1, h2⟩
            · exact .inl ⟨h, by omega⟩
            · exact .inr ⟨by omega, by omega, by simp; omega⟩
          clear hcs
          have hcs3 : decide (0 < n) = false ∨ ((n : Int) ≠ 0 ∧ ((M : Int) % n == 0) = false ∧ decide (0 < n) = true) := by
            rcases hcs2 with ⟨h, _⟩ | ⟨h1, h2, h3⟩
            · exact .inl (by simp; omega)
            · exact .inr ⟨h2, h3, by simpa using h1⟩
          clear hcs2
          rcases hcs3 with zd | ⟨z1, z2, zd⟩
          all_goals
            go_wp2_with (first
              | ((with_reducible show wpList _ _ _ (⟨some 30, _, _, _, _, _⟩ :: _) _ _); refine wpl_copyK rfl _ _ 22 24 (.int .u64 0) 8 rfl Tryd.underlying22 info24 rfl wr.heap.size (.slice (some ⟨wr.heap.size, 0, none⟩) 0 0) n c A (uw x) (uw x) rfl rfl Hn.out (bld_new wr 24 #[] _ 0 (by decide) rfl (fun j hj => absurd hj (by omega)) _ (Nat.le_refl _)) (HX.out _ (K2.out.trans (Kr.out.alloc _))) (uw_one x) (by omega) (by decide) ?_; intro A3 c3 w3 hB3 hk3 _ _; have HB3 := Lib.hid hB3; have K3 : Hid (Nx wr w3) := nx_cat0 hk3; clear hB3 hk3)
              | (go_at_call 11; refine (fwd_er A3 n c3 i x a _ Hx.out HB3.out.rs (HE.out _ (K2.out.trans (Kr.out.trans K3.out))) m q Hm.out Hq.out _ rfl).mono ?_; rw [HV.out]; rintro e w4 ⟨A4, c4, rfl, hB4, hb4⟩; have K4 : Hid (Nx wr w4) := K3.out.trans hb4; clear hB4 hb4)
              | ((with_reducible show wpList _ _ _ (⟨some 38, _, _, _, _, _⟩ :: _) _ _); refine wpl_copyK rfl _ _ 22 24 (.int .u64 0) 8 rfl Tryd.underlying22 info24 rfl w4.heap.size (.slice (some ⟨w4.heap.size, 0, none⟩) 0 0) n c A (uw x) (uw x) rfl rfl Hn.out (bld_new w4 24 #[] _ 0 (by decide) rfl (fun j hj => absurd hj (by omega)) _ (Nat.le_refl _)) (HX.out _ (K2.out.trans (Kr.out.trans (K4.out.alloc _)))) (uw_one x) (by omega) (by decide) ?_; intro A5 c5 w5 hB5 hk5 _ _; have HB5 := Lib.hid hB5; have K5 : Hid (Nx w4 w5) := nx_cat0 hk5; clear hB5 hk5)
              | (go_at_call 15; refine (inv_er A5 n c5 i x a _ Hx.out HB5.out.rs (HE.out _ (K2.out.trans (Kr.out.trans (K4.out.trans K5.out)))) m q Hm.out Hq.out _ rfl).mono ?_; rw [HV.out]; rintro e w6 ⟨A6, c6, rfl, hB6, hb6⟩; have K6 : Hid (Nx wr w6) := K4.out.trans (K5.out.trans hb6); clear hB6 hb6))
            go_quiet (fail)
            go_wp2_with fail
            go_roundw
            case rel => exact ⟨i + 1, by omega, by go_num, (Kr.out.trans K6.out).drewN _⟩
            case measure => simp only [intOf]; omega
      · obtain rfl : i = 3 := by omega
        go_wp2_with fail
        go_ret
        exact ⟨rfl, K2.out.trans Kr.out⟩
end Go.Proofs.YtppebegleedifaaDoor
