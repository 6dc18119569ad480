/- ExactTransforms: the walk. -/
import Derived.Test.YtppebegleedifaaDoorYc
namespace Go.Proofs.YtppebegleedifaaDoor
open Go.RowKit

theorem eVal_er (a : Nat → Addr) (i : Int) (n : Nat) : eVal a (eN i n) = erV a (eN i n) := by
  rcases eN_cases i n with ⟨e1, _⟩ | ⟨j, rfl, _, ⟨e1, _⟩ | ⟨_, _, ⟨e1, _⟩ | ⟨e1, _⟩⟩⟩ <;> rw [e1] <;> rfl
theorem eN_le (i : Int) (n : Nat) : eN i n ≤ 19 := by
  rcases eN_cases i n with ⟨e1, _⟩ | ⟨j, rfl, _, ⟨e1, _⟩ | ⟨_, _, ⟨e1, _⟩ | ⟨e1, _⟩⟩⟩ <;> omega
theorem mN_le (i : Int) (n : Nat) : mN i n ≤ n := by unfold mN; split <;> omega
section
variable (A : Option Addr) (n c : Nat) (i : Int) (x : Nat → Nat) (a : Nat → Addr) (w : World) (hx : ∀ j, j < n → x j < 18446744073709551616) (hr : RS w A n c (uw x)) (hE : Ers w (eV a)) (m q : Nat) (hm : mN i n = m) (hq : eN i n = q)
include hx hr hE hm hq
theorem fwd_er (Z : Nat → Nat) (hZ : tF false i n x = Z) : Calls Tryd.prog 11 #[.slice A n c, .int .i64 i] w fun e w' => ∃ A' c', e = .returned (.tuple #[.slice A' m c', erV a q]) ∧ Bld w' w.heap.size 24 (.slice A' m c') m (uw Z) ∧ Nx w w' := by
  refine (forward_any A n c i x a w hx hr hE).mono ?_
  rintro e w' ⟨A', c', rfl, hB, hb⟩
  rw [eVal_er, hm, hq]; rw [hm, hZ] at hB
  exact ⟨A', c', rfl, hB, hb⟩
theorem inv_er (Z : Nat → Nat) (hZ : tF true i n x = Z) : Calls Tryd.prog 15 #[.slice A n c, .int .i64 i] w fun e w' => ∃ A' c', e = .returned (.tuple #[.slice A' m c', erV a q]) ∧ Bld w' w.heap.size 24 (.slice A' m c') m (uw Z) ∧ Nx w w' := by
  refine (inverseT_any A n c i x a w hx hr hE).mono ?_
  rintro e w' ⟨A', c', rfl, hB, hb⟩
  rw [eVal_er, hm, hq]; rw [hm, hZ] at hB
  exact ⟨A', c', rfl, hB, hb⟩
theorem fwdR_er (Z : Nat → Nat) (hZ : tF false i n x = Z) : Calls Tryd.prog 12 #[.slice A n c, .int .i64 i] w fun e w' => ∃ A' c', e = .returned (.tuple #[.slice A' m c', .int .i64 (q : Nat)]) ∧ Bld w' w.heap.size 24 (.slice A' m c') m (uw Z) ∧ Nx w w' := by
  refine (forwardR_any A n c i x a w hx hr hE).mono ?_
  rintro e w' ⟨A', c', rfl, hB, hb⟩
  rw [hm, hq]; rw [hm, hZ] at hB
  exact ⟨A', c', rfl, hB, hb⟩
theorem invR_er (Z : Nat → Nat) (hZ : tF true i n x = Z) : Calls Tryd.prog 16 #[.slice A n c, .int .i64 i] w fun e w' => ∃ A' c', e = .returned (.tuple #[.slice A' m c', .int .i64 (q : Nat)]) ∧ Bld w' w.heap.size 24 (.slice A' m c') m (uw Z) ∧ Nx w w' := by
  refine (inverseR_any A n c i x a w hx hr hE).mono ?_
  rintro e w' ⟨A', c', rfl, hB, hb⟩
  rw [hm, hq]; rw [hm, hZ] at hB
  exact ⟨A', c', rfl, hB, hb⟩
end
section
variable {P : Program} {w : World} {ops : Array Oper} {rest : List Oper} {o : Oper} {a : Act} {Q : Exit → Act → World → Prop}
/-- 'append([]T{}, x...)'. -/
theorem wpl_copyK (hg : o.guard = none) (s x : Operand) (t e : TypeId) (z : Value) (bytes : Nat)
    (ho : o.op = .call { callee := .builtin .append, args := #[s, x], argTypes := #[t, t] })
    (ht : P.underlying t = some (.slice e)) (hinfo : (P.info? e).map (fun i => (i.zero, i.size, i.bytes)) = some (some z, 1, bytes)) (hz : z.cells.size = 1)
    (B : Nat) (v : Value) (m cx : Nat) (Ax : Option Addr) (F G : Nat → Value) (hs : a.eval s = v) (hx : a.eval x = .slice Ax m cx) (hnil : Ax = none → cx = 0)
    (hbld : Bld w B e v 0 F) (hr : RS w Ax m cx G) (hH1 : ∀ j, (G j).oneCell' = true)
    (hk : m * bytes ≤ 140737488355328) (hb1 : 1 ≤ bytes)
    (hK : ∀ A c w', Bld w' B e (.slice A m c) m G → Kp v.ownBlock w w' → m ≤ c → c ≤ 9223372036854775807 → wpList P ops Q rest (a.put o.dst (.slice A m c)) w') :
    wpList P ops Q (o :: rest) a w := by
  refine wpl_catK hg s x t e z bytes ho ht hinfo hz B v 0 m cx Ax F G G hs hx hnil hbld hr ⟨fun j hj => absurd hj (by omega), fun j _ => by rw [Nat.zero_add]⟩ hH1 (by rw [Nat.zero_add]; exact hk) hb1 ?_
  intro A c w' h1 h2 _ h4 h5
  rw [Nat.zero_add] at h1 h4 ⊢
  exact hK A c w' h1 h2 h4 h5
end
theorem nx_cat0 {w1 w2 : World} {o : Obj} {n c : Nat} (h : Kp (Value.slice (some ⟨w1.heap.size, 0, none⟩) n c).ownBlock (w1.alloc o) w2) : Nx w1 w2 :=
  (((nx_alloc w1 o).kp _).trans h).below (Nat.le_refl _) fun k hk => (by cases hk; exact Nat.le_refl _)
theorem nx_cat {w1 w2 w3 : World} {o : Obj} {v : Value} {e : TypeId} {k : Nat} {F : Nat → Value} (hB : Bld w2 w1.heap.size e v k F) (h2 : Nx w1 w2) (h : Kp v.ownBlock (w2.alloc o) w3) : Nx w1 w3 :=
  (((h2.alloc o).kp _).trans h).below (Nat.le_refl _) hB.base
theorem hi_own {A : Option Addr} {B n c k : Nat} (h : Hi A B) (hk : (Value.slice A n c).ownBlock = some k) : B ≤ k := by
  cases A with
  | none => cases hk
  | some ad => injection hk with hk; rw [← hk]; exact h ad rfl
theorem nx_kp {a b c : World} {g : Option Nat} (h : Nx a b) (hk : Kp g b c) (hg : ∀ k, g = some k → a.heap.size ≤ k) : Nx a c := Below.trans h (hk.below h.le hg)
theorem uw_one (f : Nat → Nat) (j : Nat) : (uw f j).oneCell' = true := rfl
theorem cells_new (w : World) (t : TypeId) (v : Value) : (w.alloc (.cells #[v] t)).cell? ⟨w.heap.size, 0, none⟩ = some v := by
  rw [cell_of_row _ _ 0 _ _ _ (heap_alloc_new w _)]; rfl
/-- x, and one number behind it. -/
def fx (n v : Nat) (x : Nat → Nat) : Nat → Nat := fun j => if j < n then x j else v
theorem fx_lt {n v : Nat} {x : Nat → Nat} (j : Nat) (h : j < n) : fx n v x j = x j := if_pos h
theorem fx_at {n v : Nat} {x : Nat → Nat} : fx n v x n = v := if_neg (Nat.lt_irrefl n)
set_option maxRecDepth 100000 in
set_option maxHeartbeats 16000000 in
theorem transforms_any (A : Option Addr) (n c : Nat) (i : Int) (x : Nat → Nat) (a : Nat → Addr) (w : World) (hx : ∀ j, j < n → x j < 18446744073709551616) (hr : RS w A n c (uw x)) (hnil : A = none → c = 0) (hn : n * 8 ≤ 140737488351232) (hE : ErA w a) :
    Calls Tryd.prog 3 #[.slice A n c, .int .i64 i] w fun e w' => e = .returned (.bool true) ∧ Nx w w' := by
  have k1 := hr.nc
  have k2 := hr.cm
  obtain ⟨m, hm⟩ : ∃ m, mN i n = m := ⟨_, rfl⟩
  obtain ⟨q, hq⟩ : ∃ q, eN i n = q := ⟨_, rfl⟩
  obtain ⟨Z, hZ⟩ : ∃ Z, tF false i n x = Z := ⟨_, rfl⟩
  obtain ⟨Y, hY⟩ : ∃ Y, tF true i n x = Y := ⟨_, rfl⟩
  have hmn : m ≤ n := by rw [← hm]; exact mN_le i n
  have hq19 : q ≤ 19 := by rw [← hq]; exact eN_le i n
  have HE : Hid (∀ w', Nx w w' → ErA w' a) := fun w' h => hE.below h
  have HX : Hid (∀ w', Nx w w' → RS w' A n c (uw x)) := fun w' h => hr.nx h
  have Hn := Lib.hid hnil
  have Hx := Lib.hid hx
  have Hm := Lib.hid hm
  have Hq := Lib.hid hq
  have HZ := Lib.hid hZ
  have HY := Lib.hid hY
  clear hE hr hnil hx hm hq hZ hY
  by_cases hg : 160 < n ∧ n ≤ 1024
  · obtain ⟨g1, g2⟩ := hg
    have g1' : (160 : Int) < n := by omega
    have g2' : (n : Int) ≤ 1024 := by omega
    go_enter Tryd.func3, Tryd.ntmps3
    go_wp2_with (go_at_call 10; refine (lives_any a _ (HE.out _ (Nx.refl _)).ers).mono ?_; rintro e w1 ⟨rfl, hb⟩)
    go_ret
    exact ⟨rfl, hb⟩
  · have hg2 : ¬ (160 : Int) < n ∨ ((160 : Int) < n ∧ ¬ (n : Int) ≤ 1024) := by omega
    clear hg
    rcases hg2 with g1 | ⟨g1, g2⟩
    all_goals
      go_enter Tryd.func3, Tryd.ntmps3
      go_wp2_with (first
        | (go_at_call 10; refine (lives_any a _ (HE.out _ (Nx.refl _)).ers).mono ?_; rintro e w1 ⟨rfl, hb⟩; have K1 := Lib.hid hb; clear hb)
        | ((with_reducible show wpList _ _ _ (⟨some 26, _, _, _, _, _⟩ :: _) _ _); refine wpl_copyK rfl _ _ 22 24 (.int .u64 0) 8 rfl Tryd.underlying22 info24 rfl w1.heap.size (.slice (some ⟨w1.heap.size, 0, none⟩) 0 0) n c A (uw x) (uw x) rfl rfl Hn.out (bld_new w1 24 #[] _ 0 (by decide) rfl (fun j hj => absurd hj (by omega)) _ (Nat.le_refl _)) (HX.out _ (K1.out.alloc _)) (uw_one x) (by omega) (by decide) ?_; intro A2 c2 w2 hB2 hk2 _ _; have HB2 := Lib.hid hB2; have K2 : Hid (Nx w1 w2) := nx_cat0 hk2; clear hB2 hk2)
        | ((with_reducible show wpList _ _ _ (⟨some 28, _, _, _, _, _⟩ :: _) _ _); refine wpl_pushK rfl _ _ 22 24 (.int .u64 0) 8 rfl Tryd.underlying22 info24 rfl w1.heap.size (.slice A2 n c2) n w2.heap.size (uw x) (uw (fx n 5 x)) rfl rfl (HB2.out.alloc _) (by rw [cells_new]; exact congrArg (fun v : Nat => some (Value.int .u64 (v : Int))) fx_at.symm) (fun j hj => congrArg (fun v : Nat => Value.int .u64 (v : Int)) (fx_lt j hj).symm) (uw_one _) (by omega) (by decide) ?_; intro A3 c3 w3 hB3 hk3 _ q1 q2; obtain ⟨g3, rfl, g3a, g3b⟩ := hB3.block (by omega); have HB3 := Lib.hid hB3; have K3 : Hid (Nx w1 w3) := nx_cat HB2.out K2.out hk3; clear hB3 hk3 K2 HB2)
        | ((with_reducible show wpList _ _ _ (⟨some 32, _, _, _, _, _⟩ :: _) _ _); refine wpl_to rfl 22 24 _ _ rfl Tryd.underlying22 cells24 (some ⟨g3, 0, none⟩) (n + 1) c3 n .i64 (n : Int) (uw (fx n 5 x)) rfl rfl rfl (by omega) HB3.out.rs ?_; intro _))
      have HM : Hid (∀ w', RS w' (some ⟨g3, 0, none⟩) (n + 1) c3 (uw (fx n 5 x)) → RS w' (some ⟨g3, 0, none⟩) n c3 (uw x)) := fun w' h => (h.take (by omega)).congr fun j hj => congrArg (fun v : Nat => Value.int .u64 (v : Int)) (fx_lt j hj)
      have K0 : Hid (Nx w w3) := K1.out.trans K3.out
      refine (fwd_er (some ⟨g3, 0, none⟩) n c3 i x a _ Hx.out (HM.out _ HB3.out.rs) (HE.out _ K0.out).ers m q Hm.out Hq.out Z HZ.out).mono ?_
      rintro e w4 ⟨A4, c4, rfl, hB4, hb4⟩
      have HB4 := Lib.hid hB4
      have K4 : Hid (Nx w3 w4) := hb4
      clear hB4 hb4
      go_wp2_with fail
      refine (fwd_er (some ⟨g3, 0, none⟩) n c3 i x a _ Hx.out (HM.out _ (HB3.out.nx K4.out).rs) (HE.out _ (K0.out.trans K4.out)).ers m q Hm.out Hq.out Z HZ.out).mono ?_
      rintro e w5 ⟨A5, c5, rfl, hB5, hb5⟩
      have HB5 := Lib.hid hB5
      have K5 : Hid (Nx w4 w5) := hb5
      clear hB5 hb5
      go_wp2_with fail
      refine (fwdR_er A n c i x a _ Hx.out (HX.out _ (K0.out.trans (K4.out.trans K5.out))) (HE.out _ (K0.out.trans (K4.out.trans K5.out))).ers m q Hm.out Hq.out Z HZ.out).mono ?_
      rintro e w6 ⟨A6, c6, rfl, hB6, hb6⟩
      have HB6 := Lib.hid hB6
      have K6 : Hid (Nx w5 w6) := hb6
      clear hB6 hb6
      go_wp2_with fail
      refine (num_any a q hq19 _ (HE.out _ (K0.out.trans (K4.out.trans (K5.out.trans K6.out))))).mono ?_
      rintro e w7 ⟨rfl, hb7⟩
      have K7 : Hid (Nx w6 w7) := hb7
      clear hb7
      go_wp2_with fail
      refine (sameU_nx _ _ _ _ _ Z _ (HB4.out.nx (K5.out.trans (K6.out.trans K7.out))).rs (HB6.out.nx K7.out).rs).mono ?_
      rintro e w8 ⟨rfl, hb8⟩
      have K8 : Hid (Nx w7 w8) := hb8
      clear hb8
      go_wp2_with fail
      refine (sameU_nx _ _ _ _ _ x _ (HM.out _ (HB3.out.nx (K4.out.trans (K5.out.trans (K6.out.trans (K7.out.trans K8.out))))).rs) (HX.out _ (K0.out.trans (K4.out.trans (K5.out.trans (K6.out.trans (K7.out.trans K8.out))))))).mono ?_
      rintro e w9 ⟨rfl, hb9⟩
      have K9 : Hid (Nx w8 w9) := hb9
      clear hb9
      have T9 : Hid (Nx w3 w9) := K4.out.trans (K5.out.trans (K6.out.trans (K7.out.trans (K8.out.trans K9.out))))
      have hc5 : w9.cell? ⟨g3, n, none⟩ = some (.int .u64 5) := ((HB3.out.nx T9.out).cell n (by omega)).trans (congrArg (fun v : Nat => some (Value.int .u64 (v : Int))) fx_at)
      go_wp2_with fail
      clear hc5
      have HB4' := Lib.hid (HB4.out.nx (K5.out.trans (K6.out.trans (K7.out.trans (K8.out.trans K9.out)))))
      have HB5' := Lib.hid (HB5.out.nx (K6.out.trans (K7.out.trans (K8.out.trans K9.out))))
      have HB6' := Lib.hid (HB6.out.nx (K7.out.trans (K8.out.trans K9.out)))
      have HB3' := Lib.hid (HB3.out.nx T9.out)
      have L4 : Hid (Lo A4 w4.heap.size) := HB4.out.lo
      have K09 : Hid (Nx w w9) := K0.out.trans T9.out
      have S3 : Hid (w.heap.size ≤ w3.heap.size ∧ w4.heap.size ≤ w5.heap.size ∧ g3 < w3.heap.size) := ⟨K0.out.le, K5.out.le, g3b⟩
      have H3 := Lib.hid HB4.out.hi
      clear HB3 HB4 HB5 HB6 K0 K1 K3 K4 K5 K6 K7 K8 K9 g3a g3b T9
      go_loopw [77] (fun o wr => ∃ j : Nat, ∃ f : Nat → Nat, j ≤ m ∧ o = .int .i64 j ∧ Bld wr w3.heap.size 24 (.slice A4 m c4) m (uw f) ∧ Kp (Value.slice A4 m c4).ownBlock w9 wr) (fun o _ => m - (intOf o).toNat)
      case atStart => exact ⟨0, Z, Nat.zero_le _, rfl, HB4'.out, Kp.refl _ _⟩
      case round =>
        obtain ⟨j, f, hj, rfl, hBr, hkr⟩ := hrel
        by_cases hlt : j < m
        · have hlt' : (j : Int) < m := by omega
          obtain ⟨g4, rfl, g4a, g4b⟩ := hBr.block (by omega)
          have cY := hBr.cell j hlt
          have cY' : wr.cell? ⟨g4, j, none⟩ = some (.int .u64 (f j : Nat)) := cY
          have fY := hBr.free j
          have HB := Lib.hid (hBr.set j (.int .u64 3))
          have HK : Hid (Kp (some g4) w9 (wr.setCell ⟨g4, j, none⟩ (.int .u64 3))) := hkr.setCell j _
          clear cY hBr hkr
          go_wp2_with fail
          exact ⟨⟨j + 1, updN f j 3, by omega, by go_num, HB.out.congr fun k _ => upd_uw f j 3 k, HK.out⟩, by simp only [intOf]; omega⟩
        · obtain rfl : j = m := by omega
          have HBr := Lib.hid hBr
          have Hkr := Lib.hid hkr
          clear hBr hkr
          go_wp2_with ((with_reducible show wpList _ _ _ (⟨some 86, _, _, _, _, _⟩ :: _) _ _); refine wpl_pushK rfl _ _ 22 24 (.int .u64 0) 8 rfl Tryd.underlying22 info24 rfl w3.heap.size (.slice A4 j c4) j wr.heap.size (uw f) (uw (fx j 4 f)) rfl rfl (HBr.out.alloc _) (by rw [cells_new]; exact congrArg (fun v : Nat => some (Value.int .u64 (v : Int))) fx_at.symm) (fun k hk => congrArg (fun v : Nat => Value.int .u64 (v : Int)) (fx_lt k hk).symm) (uw_one _) (by omega) (by decide) ?_; intro A10 c10 w10 hB10 hk10 _ q3 q4; obtain ⟨g10, rfl, g10a, g10b⟩ := hB10.block (by omega); have HB10 := Lib.hid hB10; have T10 : Hid (Kp (Value.slice A4 j c4).ownBlock w9 w10) := Hkr.out.trans (((nx_alloc wr _).kp _).trans hk10); clear hB10 hk10 g10a g10b)
          have N10 : Hid (Nx w w10) := nx_kp K09.out T10.out fun k hk => Nat.le_trans S3.out.1 (hi_own H3.out hk)
          refine (sameU_nx _ _ _ _ _ Z _ (HB5'.out.rs.kp T10.out (sep_hi HB5'.out.hi L4.out)) (HB6'.out.rs.kp T10.out (sep_hi (HB6'.out.hi.mono S3.out.2.1) L4.out))).mono ?_
          rintro e w11 ⟨rfl, hb11⟩
          have K11 : Hid (Nx w10 w11) := hb11
          clear hb11
          have hc4 : w11.cell? ⟨g10, j, none⟩ = some (.int .u64 4) := ((HB10.out.nx K11.out).cell j (by omega)).trans (congrArg (fun v : Nat => some (Value.int .u64 (v : Int))) fx_at)
          go_wp2_with fail
          have R3 := Lib.hid (HB3'.out.rs.kp T10.out (sep_lo (fun ad e => (by injection e with e; rw [← e]; exact S3.out.2.2)) H3.out))
          clear hc4 HB4' HB5' HB6' HB3' T10 HB10 HBr Hkr L4 K09 S3 H3 HZ
          refine (inv_er (some ⟨g3, 0, none⟩) n c3 i x a _ Hx.out (HM.out _ (R3.out.nx K11.out)) (HE.out _ (N10.out.trans K11.out)).ers j q Hm.out Hq.out Y HY.out).mono ?_
          rintro e w12 ⟨A12, c12, rfl, hB12, hb12⟩
          have HB12 := Lib.hid hB12
          have K12 : Hid (Nx w10 w12) := K11.out.trans hb12
          clear hB12 hb12 K11
          go_wp2_with fail
          refine (invR_er A n c i x a _ Hx.out (HX.out _ (N10.out.trans K12.out)) (HE.out _ (N10.out.trans K12.out)).ers j q Hm.out Hq.out Y HY.out).mono ?_
          rintro e w13 ⟨A13, c13, rfl, hB13, hb13⟩
          have HB13 := Lib.hid hB13
          have K13 : Hid (Nx w12 w13) := hb13
          clear hB13 hb13
          go_wp2_with fail
          refine (num_any a q hq19 _ (HE.out _ (N10.out.trans (K12.out.trans K13.out)))).mono ?_
          rintro e w14 ⟨rfl, hb14⟩
          have K14 : Hid (Nx w13 w14) := hb14
          clear hb14
          go_wp2_with fail
          refine (sameU_nx _ _ _ _ _ Y _ (HB12.out.nx (K13.out.trans K14.out)).rs (HB13.out.nx K14.out).rs).mono ?_
          rintro e w15 ⟨rfl, hb15⟩
          have K15 : Hid (Nx w10 w15) := K12.out.trans (K13.out.trans (K14.out.trans hb15))
          clear hb15 K12 K13 K14 HB12 HB13
          go_wp2_with fail
          refine (sameU_nx _ _ _ _ _ x _ (HM.out _ (R3.out.nx K15.out)) (HX.out _ (N10.out.trans K15.out))).mono ?_
          rintro e w16 ⟨rfl, hb16⟩
          have K16 : Hid (Nx w10 w16) := K15.out.trans hb16
          clear hb16 K15
          obtain ⟨ad, had, hc⟩ := (R3.out.nx K16.out).cell n (by omega)
          injection had with had
          have hc5 : w16.cell? ⟨g3, n, none⟩ = some (.int .u64 5) := by
            rw [← addr_add0, had, hc]
            exact congrArg (fun v : Nat => some (Value.int .u64 (v : Int))) fx_at
          clear had hc
          go_wp2_with fail
          go_ret
          exact ⟨rfl, N10.out.trans K16.out⟩
end Go.Proofs.YtppebegleedifaaDoor
