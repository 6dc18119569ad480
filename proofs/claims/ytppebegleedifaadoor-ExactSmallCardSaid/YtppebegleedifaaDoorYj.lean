/- ExactProduct: the walk. -/
import Derived.Test.YtppebegleedifaaDoorYg
import Derived.Test.YtppebegleedifaaDoorYi
namespace Go.Proofs.YtppebegleedifaaDoor
open Go.RowKit

theorem fit_of {S : Nat → Int} {n : Nat} (h : allFit S n = true) (j : Nat) (hj : j < n) : i64B (S j) := by
  induction n with
  | zero => omega
  | succ n ih =>
    rw [allFit, Bool.and_eq_true] at h
    by_cases e : j = n
    · subst e
      have := h.2
      unfold fitB at this
      rw [decide_eq_true_iff] at this
      exact this
    · exact ih h.1 (by omega)
/-- 'x[:h]', as a run. -/
theorem run_to {t e : TypeId} (ht : Tryd.prog.underlying t = some (.slice e)) (hs : Tryd.prog.cellsOf e = 1) (A : Option Addr) (n c h : Nat) (hc : h ≤ c) (w : World) :
    (Instr.sliceAt t (.slice A n c) none (some (.int .i64 (h : Int))) none).run Tryd.prog w = .ok (.slice A h c) w := by
  have ht' : Tryd.prog.underlying t = some (.slice (Tryd.prog.elem t)) := by rw [elem_of ht]; exact ht
  have hrun := run_slice_h (P := Tryd.prog) w t A n c ht' .i64 (h : Int) (by omega) (by omega)
  have hsz := run_size1 (P := Tryd.prog) (w := w) hs
  rw [elem_of ht, hsz] at hrun
  have e : (if c = 0 then A else A.map fun x => x.add 0) = A := by
    split
    · rfl
    · cases A <;> simp [Addr.add]
  rw [run_sliceAt_slice w t _ _ _ _ ht', hrun]
  simp [Result.andThen, sliced, e]
section
variable {P : Program} {w : World} {ops : Array Oper} {rest : List Oper} {o : Oper} {a : Act} {Q : Exit → Act → World → Prop}
theorem wpl_min3 (hg : o.guard = none) (x y z : Operand) (ts : Array TypeId) (ho : o.op = .call { callee := .builtin .min, args := #[x, y, z], argTypes := ts }) (i j k N : Int) (hx : a.eval x = .int .i64 i) (hy : a.eval y = .int .i64 j) (hz : a.eval z = .int .i64 k)
    (hN : (if k < (if j < i then j else i) then k else (if j < i then j else i)) = N) (hK : wpList P ops Q rest (a.put o.dst (.int .i64 N)) w) : wpList P ops Q (o :: rest) a w := by
  refine wpList_plain hg fun K hK' => ?_
  have hrun := run_min_int3 (P := P) w ts o.type .i64 .i64 .i64 i j k
  rw [hN] at hrun
  unfold Oper.wp execOp
  simp only [ho, resolve, invoke, builtin, Sem.run_bind, Sem.run_pure, Result.andThen_ok, List.map_toArray, List.map_cons, List.map_nil, hx, hy, hz, hrun]
  exact hK' _ _ hK
theorem wpl_min2 (hg : o.guard = none) (x y : Operand) (ts : Array TypeId) (ho : o.op = .call { callee := .builtin .min, args := #[x, y], argTypes := ts }) (i j N : Int) (hx : a.eval x = .int .i64 i) (hy : a.eval y = .int .i64 j)
    (hN : (if j < i then j else i) = N) (hK : wpList P ops Q rest (a.put o.dst (.int .i64 N)) w) : wpList P ops Q (o :: rest) a w := by
  refine wpList_plain hg fun K hK' => ?_
  have hrun := run_min_int2 (P := P) w ts o.type .i64 .i64 i j
  rw [hN] at hrun
  unfold Oper.wp execOp
  simp only [ho, resolve, invoke, builtin, Sem.run_bind, Sem.run_pure, Result.andThen_ok, List.map_toArray, List.map_cons, List.map_nil, hx, hy, hrun]
  exact hK' _ _ hK
end
set_option maxRecDepth 100000 in
set_option maxHeartbeats 16000000 in
theorem product_any (A : Option Addr) (n c : Nat) (A' : Option Addr) (n' c' : Nat) (x y : Nat → Int) (a : Nat → Addr) (w : World) (hr : RS w A n c (iw x)) (hr' : RS w A' n' c' (iw y)) (hx : ∀ i, i64B (x i)) (hy : ∀ j, i64B (y j)) (hE : ErA w a) :
    Calls Tryd.prog 7 #[.slice A n c, .slice A' n' c'] w fun e w' => e = .returned (.bool true) ∧ Nx w w' := by
  have k1 := hr.nc
  have k2 := hr.cm
  have k3 := hr'.nc
  have k4 := hr'.cm
  obtain ⟨N, hN⟩ : ∃ N, min (min n n') 128 = N := ⟨_, rfl⟩
  have HN : Hid ((if (128 : Int) < (if (n' : Int) < n then (n' : Int) else n) then 128 else (if (n' : Int) < n then (n' : Int) else n)) = (N : Int)) := by show _ = _; split <;> split at * <;> omega
  have l1 : N ≤ n := by omega
  have l2 : N ≤ n' := by omega
  have l3 : N ≤ 128 := by omega
  have hs1 : ∀ w, (Instr.sliceAt 34 (.slice A n c) none (some (.int .i64 (N : Int))) none).run Tryd.prog w = .ok (.slice A N c) w := run_to Tryd.underlying34 cells2 A n c N (by omega)
  have hs2 : ∀ w, (Instr.sliceAt 34 (.slice A' n' c') none (some (.int .i64 (N : Int))) none).run Tryd.prog w = .ok (.slice A' N c') w := run_to Tryd.underlying34 cells2 A' n' c' N (by omega)
  have HE : Hid (∀ w', Nx w w' → ErA w' a) := fun w' h => hE.below h
  have HX : Hid (∀ w', Nx w w' → RS w' A N c (iw x)) := fun w' h => (hr.take l1).nx h
  have HY : Hid (∀ w', Nx w w' → RS w' A' N c' (iw y)) := fun w' h => (hr'.take l2).nx h
  have Hx := Lib.hid hx
  have Hy := Lib.hid hy
  have HN' := Lib.hid hN
  clear hE hr hr' hx hy hN
  obtain ⟨q, hq⟩ : ∃ q, cycN N N x y = q := ⟨_, rfl⟩
  obtain ⟨S, hS⟩ : ∃ S, cycS N N x y = S := ⟨_, rfl⟩
  have hqc : (q = 7 ∧ N = 0) ∨ (1 ≤ N ∧ (q = 0 ∨ q = 19)) := by
    rw [← hq]
    rcases cycN_cases N N x y with ⟨e, h⟩ | ⟨h, ⟨e, _⟩ | ⟨e, _⟩⟩
    · exact .inl ⟨e, by omega⟩
    · exact .inr ⟨by omega, .inl e⟩
    · exact .inr ⟨by omega, .inr e⟩
  have Hq := Lib.hid hq
  have HS := Lib.hid hS
  clear hq hS
  rcases hqc with ⟨rfl, hN0⟩ | ⟨hN1, rfl | rfl⟩
  · have z0 : ((N : Int) == 0) = true := by simp; omega
    have z0' : (N == 0) = true := by simp; omega
    have HV : Hid (erV a 7 = .iface 110 (.pointer (some (a (sg 6))))) := rfl
    clear hN0
    go_enter Tryd.func7, Tryd.ntmps7
    go_wp2_with (first
      | (go_at_call 10; refine (lives_any a _ (HE.out _ (Nx.refl _)).ers).mono ?_; rintro e w1 ⟨rfl, hb⟩; have K1 := Lib.hid hb; clear hb)
      | ((with_reducible show wpList _ _ _ (⟨some 23, _, _, _, _, _⟩ :: _) _ _); refine wpl_min3 rfl _ _ _ _ rfl n n' 128 N rfl rfl rfl HN.out ?_))
    go_quiet (fail)
    go_wp2_with fail
    refine (cyc_er A N c A' N c' x y a _ ((HX.out _ K1.out).drewN _) ((HY.out _ K1.out).drewN _) Hx.out Hy.out (HE.out _ (K1.out.drewN _)).ers 7 _ S Hq.out rfl HS.out).mono ?_
    rw [HV.out]
    rintro e w2 ⟨A2, c2, rfl, hB2, hb2⟩
    have K2 : Hid (Nx w w2) := (K1.out.drewN _).trans hb2
    clear hB2 hb2
    go_wp2_with fail
    refine (num_any a 7 (by decide) _ (HE.out _ K2.out)).mono ?_
    rintro e w3 ⟨rfl, hb3⟩
    have K3 : Hid (Nx w w3) := K2.out.trans hb3
    clear hb3
    go_wp2_with fail
    go_ret
    exact ⟨rfl, K3.out⟩
  · have hN2 : N ≤ 1024 := by omega
    go_enter Tryd.func7, Tryd.ntmps7
    go_wp2_with (first
      | (go_at_call 10; refine (lives_any a _ (HE.out _ (Nx.refl _)).ers).mono ?_; rintro e w1 ⟨rfl, hb⟩; have K1 := Lib.hid hb; clear hb)
      | ((with_reducible show wpList _ _ _ (⟨some 23, _, _, _, _, _⟩ :: _) _ _); refine wpl_min3 rfl _ _ _ _ rfl n n' 128 N rfl rfl rfl HN.out ?_))
    go_quiet (fail)
    go_wp2_with fail
    refine (cyc_er A N c A' N c' x y a _ ((HX.out _ K1.out).drewN _) ((HY.out _ K1.out).drewN _) Hx.out Hy.out (HE.out _ (K1.out.drewN _)).ers 0 N S Hq.out rfl HS.out).mono ?_
    rw [erV_ok]
    rintro e w2 ⟨A2, c2, rfl, hB2, hb2⟩
    obtain ⟨g2, rfl, _, _⟩ := hB2.block (by omega)
    have K2 : Hid (Nx w w2) := (K1.out.drewN _).trans hb2
    have hSB : ∀ j, j < N → i64B (S j) := by
      intro j hj
      have hfit : allFit S N = true := by
        rcases cycN_cases N N x y with ⟨e, _⟩ | ⟨_, ⟨_, e⟩ | ⟨e, _⟩⟩
        · have := Hq.out; omega
        · rw [HS.out] at e; exact e
        · have := Hq.out; omega
      exact fit_of hfit j hj
    have HS2 := Lib.hid (hB2.rs.congr (g := iw (fun j => if j < N then S j else 0)) (fun j hj => by unfold iw; dsimp only; rw [if_pos hj]))
    have HSi : Hid (∀ j, i64B (if j < N then S j else 0)) := fun j => by
      split
      · rename_i h; exact hSB j h
      · unfold i64B; omega
    clear hB2 hb2 hSB
    go_wp2_with fail
    refine (primesR_rs _).mono ?_
    rintro e w3 ⟨gp, cp, rfl, hP, hb3, qp1, qp2⟩
    have HP : Hid (∀ w', Nx w3 w' → RS w' (some ⟨gp, 0, none⟩) 3 cp (uw primeF)) := fun w' h => hP.nx h
    have HS3 : Hid (∀ w', Nx w3 w' → RS w' (some ⟨g2, 0, none⟩) N c2 (iw (fun j => if j < N then S j else 0))) := fun w' h => (HS2.out.nx hb3).nx h
    have K3 : Hid (Nx w w3) := K2.out.trans hb3
    clear hP hb3 K1 K2 HS2
    go_wp2_with fail
    go_loopw [52] (fun o wr => ∃ i : Nat, i ≤ 3 ∧ o = .int .i64 i ∧ Nx w3 wr) (fun o _ => 3 - (intOf o).toNat)
    case atStart => exact ⟨0, by decide, rfl, Nx.refl _⟩
    case round =>
      obtain ⟨i, hi, rfl, hb⟩ := hrel
      have Kr := Lib.hid hb
      clear hb
      by_cases hlt : i < 3
      · have hlt' : (i : Int) < 3 := by omega
        have hpr := prF i hlt
        have hP3 := hpr.p3
        have hPl := hpr.np.2.1
        obtain ⟨P, hP⟩ : ∃ P, primeF i = P := ⟨_, rfl⟩
        rw [hP] at hP3 hPl
        have cP : wr.cell? ⟨gp, i, none⟩ = some (.int .u64 (P : Nat)) := by
          obtain ⟨ad, had, hc⟩ := (HP.out _ Kr.out).cell i hlt
          injection had with had
          rw [← had, addr_add0] at hc
          rw [hc, ← hP]; rfl
        have hP0 : ((P : Int) == 0) = false := by simp; omega
        obtain ⟨M, hM⟩ : ∃ M, P - 1 = M := ⟨_, rfl⟩
        have hpM : (P : Int) - 1 = (M : Int) := by omega
        have z1 : (N : Int) ≠ 0 := by omega
        have hP2 : 2 ≤ P := by omega
        have HP' := Lib.hid hP
        have HM' := Lib.hid hM
        clear hpr hP hM
        by_cases hd : M % N = 0
        · have e1 : ((M : Int) % N != 0) = false := by simp; omega
          have hq0 : eN (i : Int) N = 0 := by
            unfold eN
            rw [if_neg (by omega), if_neg (by omega), Int.toNat_natCast, HP'.out, HM'.out, if_neg (by omega)]
          have hm0 : mN (i : Int) N = N := by unfold mN; rw [if_pos hq0]
          obtain ⟨X, hX⟩ : ∃ X, tF false (i : Int) N (modF x P) = X := ⟨_, rfl⟩
          obtain ⟨Y, hY⟩ : ∃ Y, tF false (i : Int) N (modF y P) = Y := ⟨_, rfl⟩
          obtain ⟨Z, hZ⟩ : ∃ Z, tF false (i : Int) N (modF (fun j => if j < N then S j else 0) P) = Z := ⟨_, rfl⟩
          have HXl : Hid (∀ k, X k < P) := fun k => by rw [← hX, ← HP'.out]; exact tF_lt false i N hlt _ k
          have HYl : Hid (∀ k, Y k < P) := fun k => by rw [← hY, ← HP'.out]; exact tF_lt false i N hlt _ k
          have HZp : Hid (∀ k, X k * Y k % P = Z k) := fun k => by
            rw [← hX, ← hY, ← hZ, ← HP'.out, ← product i N hlt (by omega) (by rw [HP'.out, HM'.out]; exact hd) x y k]
            refine tF_congr (fun j hj => ?_) k
            unfold modF
            dsimp only
            rw [if_pos hj, HS.out]
          have Hq0 := Lib.hid hq0
          have Hm0 := Lib.hid hm0
          have HX' := Lib.hid hX
          have HY' := Lib.hid hY
          have HZ' := Lib.hid hZ
          have Hml : Hid (∀ (f : Nat → Int) (j : Nat), j < N → modF f P j < 18446744073709551616) := fun f j _ => Nat.lt_of_lt_of_le (modF_lt f (by omega) j) (by omega)
          clear hd hq0 hm0 hX hY hZ
          go_wp2_with fail
          refine (modulo_any A N c P x _ (HX.out _ (K3.out.trans Kr.out)) Hx.out hP2 hPl (by omega)).mono ?_
          rintro e w4 ⟨A4, c4, rfl, hB4, hb4⟩
          have HB4 := Lib.hid hB4.rs
          have K4 : Hid (Nx wr w4) := hb4
          clear hB4 hb4
          go_wp2_with fail
          refine (fwd_er A4 N c4 i (modF x P) a _ (Hml.out x) HB4.out (HE.out _ (K3.out.trans (Kr.out.trans K4.out))).ers N 0 Hm0.out Hq0.out X HX'.out).mono ?_
          rw [erV_ok]
          rintro e w5 ⟨A5, c5, rfl, hB5, hb5⟩
          obtain ⟨g5, rfl, _, _⟩ := hB5.block (by omega)
          have HB5 := Lib.hid hB5.rs
          have K5 : Hid (Nx wr w5) := K4.out.trans hb5
          clear hB5 hb5 HB4 K4
          go_wp2_with fail
          refine (modulo_any A' N c' P y _ (HY.out _ (K3.out.trans (Kr.out.trans K5.out))) Hy.out hP2 hPl (by omega)).mono ?_
          rintro e w6 ⟨A6, c6, rfl, hB6, hb6⟩
          have HB6 := Lib.hid hB6.rs
          have K6 : Hid (Nx w5 w6) := hb6
          clear hB6 hb6
          go_wp2_with fail
          refine (fwd_er A6 N c6 i (modF y P) a _ (Hml.out y) HB6.out (HE.out _ (K3.out.trans (Kr.out.trans (K5.out.trans K6.out)))).ers N 0 Hm0.out Hq0.out Y HY'.out).mono ?_
          rw [erV_ok]
          rintro e w7 ⟨A7, c7, rfl, hB7, hb7⟩
          obtain ⟨g7, rfl, _, _⟩ := hB7.block (by omega)
          have HB7 := Lib.hid hB7.rs
          have K7 : Hid (Nx w5 w7) := K6.out.trans hb7
          clear hB7 hb7 HB6 K6
          go_wp2_with fail
          refine (modulo_any (some ⟨g2, 0, none⟩) N c2 P _ _ (HS3.out _ (Kr.out.trans (K5.out.trans K7.out))) HSi.out hP2 hPl (by omega)).mono ?_
          rintro e w8 ⟨A8, c8, rfl, hB8, hb8⟩
          have HB8 := Lib.hid hB8.rs
          have K8 : Hid (Nx w7 w8) := hb8
          clear hB8 hb8
          go_wp2_with fail
          refine (fwd_er A8 N c8 i _ a _ (Hml.out _) HB8.out (HE.out _ (K3.out.trans (Kr.out.trans (K5.out.trans (K7.out.trans K8.out))))).ers N 0 Hm0.out Hq0.out Z HZ'.out).mono ?_
          rw [erV_ok]
          rintro e w9 ⟨A9, c9, rfl, hB9, hb9⟩
          obtain ⟨g9, rfl, _, _⟩ := hB9.block (by omega)
          have K9 : Hid (Nx w7 w9) := K8.out.trans hb9
          have R9 := Lib.hid hB9.rs
          have R7 := Lib.hid (HB7.out.nx K9.out)
          have R5 := Lib.hid (HB5.out.nx (K7.out.trans K9.out))
          have KK : Hid (Nx wr w9) := K5.out.trans (K7.out.trans K9.out)
          have lim : c5 ≤ 9223372036854775807 ∧ N ≤ c5 ∧ c7 ≤ 9223372036854775807 ∧ N ≤ c7 ∧ c9 ≤ 9223372036854775807 ∧ N ≤ c9 := ⟨R5.out.cm, R5.out.nc, R7.out.cm, R7.out.nc, R9.out.cm, R9.out.nc⟩
          obtain ⟨l4, l5, l6, l7, l8, l9⟩ := lim
          clear hB9 hb9 HB5 HB7 HB8 K5 K7 K8 K9 z1
          go_wp2_with fail
          obtain ⟨wo, hwo⟩ : ∃ wo, wr = wo := ⟨_, rfl⟩
          rw [hwo] at KK Kr
          clear cP
          subst hwo
          go_loopw [121] (fun o wq => ∃ j k : Nat, j ≤ N ∧ o = .int .i64 j ∧ wq = w9.drewN k) (fun o _ => N - (intOf o).toNat)
          case atStart => exact ⟨0, 0, Nat.zero_le _, rfl, rfl⟩
          case round =>
            obtain ⟨j, k, hj, rfl, rfl⟩ := hrel
            by_cases hjm : j < N
            · have hjm' : (j : Int) < N := by omega
              obtain ⟨ad5, e5, hc5⟩ := (R5.out.drewN k).cell j hjm
              obtain ⟨ad7, e7, hc7⟩ := (R7.out.drewN k).cell j hjm
              obtain ⟨ad9, e9, hc9⟩ := (R9.out.drewN k).cell j hjm
              injection e5 with e5; injection e7 with e7; injection e9 with e9
              rw [← e5, addr_add0] at hc5
              rw [← e7, addr_add0] at hc7
              rw [← e9, addr_add0] at hc9
              have h5 := HXl.out j
              have h7 := HYl.out j
              have h9 := HZp.out j
              clear e5 e7 e9
              unfold uw at hc5 hc7 hc9
              rw [← h9] at hc9
              clear h9
              obtain ⟨v5, hv5⟩ : ∃ v, X j = v := ⟨_, rfl⟩
              obtain ⟨v7, hv7⟩ : ∃ v, Y j = v := ⟨_, rfl⟩
              rw [hv5] at hc5 h5 hc9
              rw [hv7] at hc7 h7 hc9
              obtain ⟨u, hu⟩ : ∃ u, v5 * v7 = u := ⟨_, rfl⟩
              have hul := prod_lt h5 h7 hPl
              rw [hu] at hul hc9
              obtain ⟨r, hr⟩ : ∃ r, u % P = r := ⟨_, rfl⟩
              rw [hr] at hc9
              have f1 : (v5 : Int) % P = (v5 : Int) := Int.emod_eq_of_lt (by omega) (by omega)
              have f2 : (v7 : Int) % P = (v7 : Int) := Int.emod_eq_of_lt (by omega) (by omega)
              have f3 : (v5 : Int) * v7 = (u : Int) := by rw [← hu]; exact (Int.natCast_mul _ _).symm
              have f4 : (u : Int) % P = (r : Int) := by rw [← hr]; rfl
              have p1 : (P : Int) ≠ 0 := by omega
              clear hr hu hv5 hv7
              obtain ⟨wq, hwq⟩ : ∃ wq, w9.drewN k = wq := ⟨_, rfl⟩
              rw [hwq] at hc5 hc7 hc9 ⊢
              have Hwq := Lib.hid hwq
              clear hwq
              go_wp2_with fail
              go_quiet (fail)
              go_wp2_with fail
              exact ⟨⟨j + 1, _, by omega, by go_num, by rw [← Hwq.out]; exact drew_N _ _ _⟩, by simp only [intOf]; omega⟩
            · obtain rfl : j = N := by omega
              go_wp2_with fail
              exact ⟨⟨i + 1, by omega, by go_num, (Kr.out.trans KK.out).drewN _⟩, by simp only [intOf]; omega⟩
        · have e1 : ((M : Int) % N != 0) = true := by rw [bne_iff_ne]; omega
          clear hd
          go_wp2_with fail
          go_roundw
          case rel => exact ⟨i + 1, by omega, by go_num, Kr.out⟩
          case measure => simp only [intOf]; omega
      · obtain rfl : i = 3 := by omega
        go_wp2_with fail
        go_ret
        exact ⟨rfl, K3.out.trans Kr.out⟩
  · have z0 : ((N : Int) == 0) = false := by simp; omega
    have z0' : (N == 0) = false := by simp; omega
    have HV : Hid (erV a 19 = .iface 110 (.pointer (some (a (sg 18))))) := rfl
    go_enter Tryd.func7, Tryd.ntmps7
    go_wp2_with (first
      | (go_at_call 10; refine (lives_any a _ (HE.out _ (Nx.refl _)).ers).mono ?_; rintro e w1 ⟨rfl, hb⟩; have K1 := Lib.hid hb; clear hb)
      | ((with_reducible show wpList _ _ _ (⟨some 23, _, _, _, _, _⟩ :: _) _ _); refine wpl_min3 rfl _ _ _ _ rfl n n' 128 N rfl rfl rfl HN.out ?_))
    go_quiet (fail)
    go_wp2_with fail
    refine (cyc_er A N c A' N c' x y a _ ((HX.out _ K1.out).drewN _) ((HY.out _ K1.out).drewN _) Hx.out Hy.out (HE.out _ (K1.out.drewN _)).ers 19 _ S Hq.out rfl HS.out).mono ?_
    rw [HV.out]
    rintro e w2 ⟨A2, c2, rfl, hB2, hb2⟩
    have K2 : Hid (Nx w w2) := (K1.out.drewN _).trans hb2
    clear hB2 hb2
    go_wp2_with fail
    refine (num_any a 19 (by decide) _ (HE.out _ K2.out)).mono ?_
    rintro e w3 ⟨rfl, hb3⟩
    have K3 : Hid (Nx w w3) := K2.out.trans hb3
    clear hb3
    go_wp2_with fail
    go_ret
    exact ⟨rfl, K3.out⟩
end Go.Proofs.YtppebegleedifaaDoor
