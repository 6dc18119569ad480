/- The reference's Small. -/
import Derived.Test.YtppebegleedifaaDoorZi
namespace Go.Proofs.YtppebegleedifaaDoor
open Go.RowKit

set_option maxRecDepth 100000 in
set_option maxHeartbeats 16000000 in
theorem smallR_any (A : Option Addr) (n c : Nat) (A' : Option Addr) (c' : Nat) (x y : Nat → Int) (w : World) (hr : RS w A n c (iw x)) (hr' : RS w A' n c' (iw y)) (hx : ∀ i, i64B (x i)) (hy : ∀ j, i64B (y j)) (hn : n = 1 ∨ n = 2 ∨ n = 4) :
    Calls Tryd.prog 23 #[.slice A n c, .slice A' n c'] w (SmR n x y w) := by
  have k1 := hr.nc
  have k2 := hr.cm
  have k3 := hr'.nc
  have k4 := hr'.cm
  have hn1 : 1 ≤ n := by omega
  have hn4 : n ≤ 4 := by omega
  have HX : Hid (∀ w', Nx w w' → RS w' A n c (iw x)) := fun w' h => hr.nx h
  have HY : Hid (∀ w', Nx w w' → RS w' A' n c' (iw y)) := fun w' h => hr'.nx h
  have Hx := Lib.hid hx
  have Hy := Lib.hid hy
  have hng : ((n : Int) != 1) = false ∨ (((n : Int) != 1) = true ∧ ((n : Int) != 2) = false) ∨ (((n : Int) != 1) = true ∧ ((n : Int) != 2) = true ∧ ((n : Int) != 4) = false) := by
    rcases hn with rfl | rfl | rfl
    · exact .inl rfl
    · exact .inr (.inl ⟨rfl, rfl⟩)
    · exact .inr (.inr ⟨rfl, rfl, rfl⟩)
  obtain ⟨d, hd⟩ : ∃ d, 4 / n = d := ⟨_, rfl⟩
  have hdi : (4 : Int) / n = (d : Int) := by rw [← hd]; rfl
  have hd4 : d ≤ 4 := by rw [← hd]; exact Nat.div_le_self _ _
  have z1 : (n : Int) ≠ 0 := by omega
  have z2 : (0 : Int) < n := by omega
  have Hd := Lib.hid hd
  have Hn := Lib.hid hn
  clear hr hr' hx hy hd hn
  rcases hng with g1 | ⟨g1, g2⟩ | ⟨g1, g2, g3⟩
  all_goals
    obtain ⟨ad, rfl, _⟩ := (HX.out _ (Nx.refl _)).cell 0 (by omega)
    obtain ⟨bd, rfl, _⟩ := (HY.out _ (Nx.refl _)).cell 0 (by omega)
    go_enter Tryd.func23, Tryd.ntmps23
    go_wp2_with fail
    have HA0 := Lib.hid (bld_new w 2 #[] (iw fun i => reS n x y i n) 0 (by decide) rfl (fun j hj => absurd hj (by omega)) w.heap.size (Nat.le_refl _))
    go_loopw [10, 8, 9] (fun o s t wr => ∃ k ca cb : Nat, ∃ Aa Ab, k ≤ n ∧ o = .int .i64 k ∧ s = .slice Aa k ca ∧ t = .slice Ab k cb ∧ Hid (allFit (fun i => reS n x y i n) k = true ∧ allFit (fun i => imS n x y i n) k = true) ∧ Bld wr w.heap.size 2 (.slice Aa k ca) k (iw fun i => reS n x y i n) ∧ Bld wr w.heap.size 2 (.slice Ab k cb) k (iw fun i => imS n x y i n) ∧ Hid (∀ g g', (Value.slice Aa k ca).ownBlock = some g → (Value.slice Ab k cb).ownBlock = some g' → g ≠ g') ∧ Nx w wr) (fun o _ _ _ => n - (intOf o).toNat)
    case atStart => exact ⟨0, 0, 0, _, _, Nat.zero_le _, rfl, rfl, rfl, ⟨rfl, rfl⟩, HA0.out.alloc _, by have := bld_new (w.alloc (.cells #[] 2)) 2 #[] (iw fun i => imS n x y i n) 0 (by decide) rfl (fun j hj => absurd hj (by omega)) w.heap.size (by simp); simpa using this, fun g g' h1 h2 => (by cases h1; cases h2; simp), (nx_alloc _ _).alloc _⟩
    case round =>
      obtain ⟨wo, hwo⟩ : ∃ wo, wo = wr := ⟨_, rfl⟩
      subst hwo
      obtain ⟨k, ca, cb, Aa, Ab, hk, rfl, rfl, rfl, HF, hBa, hBb, Hne, hnw⟩ := hrel
      have HBa := Lib.hid hBa
      have HBb := Lib.hid hBb
      have Hnw := Lib.hid hnw
      clear HA0 hBa hBb hnw
      by_cases hlt : k < n
      · have hlt' : (k : Int) < n := by omega
        obtain ⟨bx, hbx⟩ : ∃ b, wo.heap.size = b := ⟨_, rfl⟩
        obtain ⟨wz, hwz⟩ : ∃ z, (wo.alloc (.cells #[.int .u64 0, .int .u64 0, .int .u64 0] 74)).alloc (.cells #[.int .u64 0, .int .u64 0, .int .u64 0] 74) = z := ⟨_, rfl⟩
        have HW0 : Hid (W1 wz bx 0 ∧ W1 wz (bx + 1) 0 ∧ Nx wo wz ∧ bx + 1 < wz.heap.size) := by
          rw [← hwz, ← hbx]
          refine ⟨(w1_zero wo).below (by simp) (nx_alloc _ _), ?_, (nx_alloc _ _).alloc _, by simp⟩
          simpa using w1_zero (wo.alloc (.cells #[.int .u64 0, .int .u64 0, .int .u64 0] 74))
        have Hwz := Lib.hid hwz
        clear hwz
        have Hbx := Lib.hid hbx
        clear hbx
        go_wp2_with fail
        rw [Hwz.out, Hbx.out]
        go_loopw [13] (fun o wj => ∃ j : Nat, j ≤ n ∧ o = .int .i64 j ∧ W1 wj bx (reS n x y k j) ∧ W1 wj (bx + 1) (imS n x y k j) ∧ Nx wo wj ∧ bx + 1 < wj.heap.size) (fun o _ => n - (intOf o).toNat)
        case atStart => exact ⟨0, Nat.zero_le _, rfl, HW0.out.1, HW0.out.2.1, HW0.out.2.2.1, HW0.out.2.2.2⟩
        case round =>
          obtain ⟨j, hj, rfl, hWx, hWy, hnj, hbj⟩ := hrel
          clear HW0 Hwz
          by_cases hjl : j < n
          · have hjl' : (j : Int) < n := by omega
            obtain ⟨_, eU, sU⟩ := (HX.out _ (Hnw.out.trans hnj)).cell j hjl
            cases eU
            obtain ⟨_, eV, sV⟩ := (HY.out _ (Hnw.out.trans hnj)).cell j hjl
            cases eV
            obtain ⟨_, e1, cU⟩ := (HX.out _ Hnw.out).cell j hjl
            cases e1
            obtain ⟨_, e1, cV⟩ := (HY.out _ Hnw.out).cell j hjl
            cases e1
            have sU : wr.cell? (ad.add j) = some (.int .i64 (x j)) := sU
            have sV : wr.cell? (bd.add j) = some (.int .i64 (y j)) := sV
            obtain ⟨x0, x1, x2, hRx, hrx, htx, hx0⟩ := hWx.open
            obtain ⟨y0, y1, y2, hRy, hry, hty, hy0⟩ := hWy.open
            have cx0 : wr.cell? ⟨bx, 0, none⟩ = some (.int .u64 (x2 : Nat)) := hrx 0 _ rfl
            have cx1 : wr.cell? ⟨bx, 1, none⟩ = some (.int .u64 (x1 : Nat)) := hrx 1 _ rfl
            have cx2 : wr.cell? ⟨bx, 2, none⟩ = some (.int .u64 (x0 : Nat)) := hrx 2 _ rfl
            have cy0 : wr.cell? ⟨bx + 1, 0, none⟩ = some (.int .u64 (y2 : Nat)) := hry 0 _ rfl
            have cy1 : wr.cell? ⟨bx + 1, 1, none⟩ = some (.int .u64 (y1 : Nat)) := hry 1 _ rfl
            have cy2 : wr.cell? ⟨bx + 1, 2, none⟩ = some (.int .u64 (y0 : Nat)) := hry 2 _ rfl
            have fx0 : wr.frozen? ⟨bx, 0, none⟩ = false := (htx 0 (by decide)).2
            have fx1 : wr.frozen? ⟨bx, 1, none⟩ = false := (htx 1 (by decide)).2
            have fx2 : wr.frozen? ⟨bx, 2, none⟩ = false := (htx 2 (by decide)).2
            have fy0 : wr.frozen? ⟨bx + 1, 0, none⟩ = false := (hty 0 (by decide)).2
            have fy1 : wr.frozen? ⟨bx + 1, 1, none⟩ = false := (hty 1 (by decide)).2
            have fy2 : wr.frozen? ⟨bx + 1, 2, none⟩ = false := (hty 2 (by decide)).2
            have hu' := Lib.hid (Hx.out j)
            have hv' := Lib.hid (Hy.out j)
            obtain ⟨u, hu⟩ : ∃ u, x j = u := ⟨_, rfl⟩
            obtain ⟨v, hv⟩ : ∃ u, y j = u := ⟨_, rfl⟩
            obtain ⟨pU, hpU⟩ : ∃ p, ad.add j = p := ⟨_, rfl⟩
            obtain ⟨pV, hpV⟩ : ∃ p, bd.add j = p := ⟨_, rfl⟩
            rw [hu, hpU] at sU
            rw [hpU] at cU
            rw [hpV] at cV
            rw [hv, hpV] at sV
            rw [hu] at hu'
            rw [hv] at hv'
            obtain ⟨Sx, hSx⟩ : ∃ S, reS n x y k j = S := ⟨_, rfl⟩
            obtain ⟨Sy, hSy⟩ : ∃ S, imS n x y k j = S := ⟨_, rfl⟩
            rw [hSx] at hRx hWx
            rw [hSy] at hRy hWy
            have HSx := Lib.hid (show reS n x y k (j + 1) = Sx + rA (rot n k j) u v * rsN (rot n k j) by rw [reS, hSx, hu, hv])
            have HSy := Lib.hid (show imS n x y k (j + 1) = Sy + rA (rot n k j) v u * rtN (rot n k j) by rw [imS, hSy, hu, hv])
            obtain ⟨t1, ht1⟩ : ∃ t, d * j = t := ⟨_, rfl⟩
            obtain ⟨t2, ht2⟩ : ∃ t, t1 * k = t := ⟨_, rfl⟩
            have hrot : t2 % 4 = rot n k j := by rw [← ht2, ← ht1, ← Hd.out]; exact rot_eq Hn.out
            have i1 : (d : Int) * j = (t1 : Int) := by rw [← ht1]; rfl
            have i2 : (t1 : Int) * k = (t2 : Int) := by rw [← ht2]; rfl
            have b1 : t1 ≤ 16 := by rw [← ht1]; exact Nat.mul_le_mul hd4 (by omega : j ≤ 4)
            have b2 : t2 ≤ 64 := by rw [← ht2]; exact Nat.mul_le_mul b1 (by omega : k ≤ 4)
            have HW : Hid (∀ (w5 : World), Nx wr w5 → W1 w5 bx Sx ∧ W1 w5 (bx + 1) Sy) := fun w5 h => ⟨Wrs.below hWx hx0 h, Wrs.below hWy hy0 h⟩
            have HRx := Lib.hid hRx
            have HRy := Lib.hid hRy
            have Hnj := Lib.hid hnj
            have Hbj := Lib.hid hbj
            clear hWx hWy hrx hry htx hty hRx hRy hnj hbj hu hv hSx hSy ht1 ht2
            have hr4 : rot n k j = 0 ∨ rot n k j = 1 ∨ rot n k j = 2 ∨ rot n k j = 3 := by
              have : rot n k j < 4 := Nat.mod_lt _ (by decide)
              omega
            have qU : pU.block < bx := Hbx.out ▸ World.block_lt_of_cell? _ _ cU
            have qV : pV.block < bx := Hbx.out ▸ World.block_lt_of_cell? _ _ cV
            clear cU cV
            rcases hr4 with hr4 | hr4 | hr4 | hr4
            · have it : (t2 : Int) % 4 = 0 := by omega
              go_wp2_with fail
              refine wp_region_noPanic ?_
              refine wp_region_T 12 [0, 1, 2, 3, 4, 6, 7, 8, 9, 10] [5, 11] (fun w' => w'.cell? pU = some (.int .i64 u) ∧ w'.cell? pV = some (.int .i64 v) ∧ w'.cell? ⟨bx, 0, none⟩ = some (.int .u64 (x2 : Nat)) ∧ w'.cell? ⟨bx, 1, none⟩ = some (.int .u64 (x1 : Nat)) ∧ w'.cell? ⟨bx, 2, none⟩ = some (.int .u64 (x0 : Nat)) ∧ w'.cell? ⟨bx + 1, 0, none⟩ = some (.int .u64 (y2 : Nat)) ∧ w'.cell? ⟨bx + 1, 1, none⟩ = some (.int .u64 (y1 : Nat)) ∧ w'.cell? ⟨bx + 1, 2, none⟩ = some (.int .u64 (y0 : Nat))) (by kernel_rfl) (by kernel_rfl) (fun _ _ _ _ _ h => h) ⟨sU, sV, cx0, cx1, cx2, cy0, cy1, cy2⟩ ?_
              refine ⟨_, ?_, rfl, Or.inl ⟨rfl, ?_⟩, ?_⟩
              rotate_left
              · intro w' hS
                try dsimp only at hS
                obtain ⟨S1, S2, S3, S4, S5, S6, S7, S8⟩ := hS
                go_simp
                try with_reducible rfl
              simp only [Act.put, List.setIfInBounds_toArray]
              refine ⟨_, ?_, rfl, Or.inl ⟨rfl, ?_⟩, ?_⟩
              rotate_left
              · intro w' hS
                try dsimp only at hS
                obtain ⟨S1, S2, S3, S4, S5, S6, S7, S8⟩ := hS
                go_simp
                try with_reducible rfl
              simp only [Act.put]
              refine ⟨_, ?_, rfl, Or.inl ⟨rfl, ?_⟩, ?_⟩
              rotate_left
              · intro w' hS
                try dsimp only at hS
                obtain ⟨S1, S2, S3, S4, S5, S6, S7, S8⟩ := hS
                go_simp
                try with_reducible rfl
              simp only [Act.put]
              refine ⟨_, ?_, rfl, Or.inl ⟨rfl, ?_⟩, ?_⟩
              rotate_left
              · intro w' hS
                try dsimp only at hS
                obtain ⟨S1, S2, S3, S4, S5, S6, S7, S8⟩ := hS
                go_simp
                try with_reducible rfl
              simp only [Act.put]
              refine ⟨_, ?_, rfl, Or.inl ⟨rfl, ?_⟩, ?_⟩
              rotate_left
              · intro w' hS
                try dsimp only at hS
                obtain ⟨S1, S2, S3, S4, S5, S6, S7, S8⟩ := hS
                go_simp
                try with_reducible rfl
              simp only [Act.put]
              refine ⟨_, ?_, rfl, Or.inl ⟨rfl, ?_⟩, ?_⟩
              rotate_left
              · intro w' hS
                try dsimp only at hS
                obtain ⟨S1, S2, S3, S4, S5, S6, S7, S8⟩ := hS
                go_simp
                try with_reducible rfl
              simp only [Act.put]
              refine ⟨_, ?_, rfl, Or.inl ⟨rfl, ?_⟩, ?_⟩
              rotate_left
              · intro w' hS
                try dsimp only at hS
                obtain ⟨S1, S2, S3, S4, S5, S6, S7, S8⟩ := hS
                go_simp
                try with_reducible rfl
              simp only [Act.put]
              refine ⟨_, ?_, rfl, Or.inl ⟨rfl, ?_⟩, ?_⟩
              rotate_left
              · intro w' hS
                try dsimp only at hS
                obtain ⟨S1, S2, S3, S4, S5, S6, S7, S8⟩ := hS
                go_simp
                try with_reducible rfl
              simp only [Act.put]
              refine ⟨_, ?_, rfl, Or.inl ⟨rfl, ?_⟩, ?_⟩
              rotate_left
              · intro w' hS
                try dsimp only at hS
                obtain ⟨S1, S2, S3, S4, S5, S6, S7, S8⟩ := hS
                go_simp
                try with_reducible rfl
              simp only [Act.put]
              refine ⟨_, ?_, rfl, Or.inl ⟨rfl, ?_⟩, ?_⟩
              rotate_left
              · intro w' hS
                try dsimp only at hS
                obtain ⟨S1, S2, S3, S4, S5, S6, S7, S8⟩ := hS
                go_simp
                try with_reducible rfl
              simp only [Act.put]
              refine readsT_nil ?_
              refine callsT_cons (i := 5) rfl (fun K' hK => ?_)
              go_wp2_with (go_at_call 40; refine (plusR_ag x0 x1 x2 Sx u 1 _ HRx.out hu'.out (by decide)).mono ?_; rintro e w5 ⟨s0, s1, s2, rfl, hR5, hn5⟩; have HR5 := Lib.hid hR5; have Hn5 := Lib.hid hn5; have fx0 := nx_frz hn5 cx0 fx0; have fx1 := nx_frz hn5 cx1 fx1; have fx2 := nx_frz hn5 cx2 fx2; have fy0 := nx_frz hn5 cy0 fy0; have fy1 := nx_frz hn5 cy1 fy1; have fy2 := nx_frz hn5 cy2 fy2; have sU := nx_cell hn5 sU; have sV := nx_cell hn5 sV; have cx0 := nx_cell hn5 cx0; have cx1 := nx_cell hn5 cx1; have cx2 := nx_cell hn5 cx2; have cy0 := nx_cell hn5 cy0; have cy1 := nx_cell hn5 cy1; have cy2 := nx_cell hn5 cy2; clear hR5 hn5)
              refine hK.out _ _ ⟨sU, sV, cx0, cx1, cx2, cy0, cy1, cy2⟩ ?_
              clear hK K'
              refine callsT_cons (i := 11) rfl (fun K' hK => ?_)
              go_wp2_with (go_at_call 40; refine (plusR_ag y0 y1 y2 Sy v 1 _ HRy.out hv'.out (by decide)).mono ?_; rintro e w6 ⟨t0, t1', t2', rfl, hR6, hn6⟩; have HR6 := Lib.hid hR6; have Hn6 := Lib.hid hn6; have fx0 := nx_frz hn6 cx0 fx0; have fx1 := nx_frz hn6 cx1 fx1; have fx2 := nx_frz hn6 cx2 fx2; have fy0 := nx_frz hn6 cy0 fy0; have fy1 := nx_frz hn6 cy1 fy1; have fy2 := nx_frz hn6 cy2 fy2; have sU := nx_cell hn6 sU; have sV := nx_cell hn6 sV; have cx0 := nx_cell hn6 cx0; have cx1 := nx_cell hn6 cx1; have cx2 := nx_cell hn6 cx2; have cy0 := nx_cell hn6 cy0; have cy1 := nx_cell hn6 cy1; have cy2 := nx_cell hn6 cy2; clear hR6 hn6)
              refine hK.out _ _ ⟨sU, sV, cx0, cx1, cx2, cy0, cy1, cy2⟩ ?_
              clear hK K'
              refine callsT_nil ?_
              show wpList _ _ _ [_, _] _ _
              go_wp2_with fail
              refine NoPanic.normal ?_
              go_wp2_with fail
              have eX : reS n x y k (j + 1) = Sx + u * 1 := by rw [HSx.out, hr4]; rfl
              have eY : imS n x y k (j + 1) = Sy + v * 1 := by rw [HSy.out, hr4]; rfl
              obtain ⟨p1, p2, p3, p4⟩ := two_put Hbx.out Hnj.out HW.out Hbj.out Hn5.out Hn6.out HR5.out HR6.out
              exact ⟨⟨j + 1, by omega, by go_num, by rw [eX]; exact p1, by rw [eY]; exact p2, p3, p4⟩, by simp only [intOf]; omega⟩
            · have it : (t2 : Int) % 4 = 1 := by omega
              go_wp2_with fail
              refine wp_region_noPanic ?_
              refine wp_region_T 12 [0, 1, 2, 3, 4, 6, 7, 8, 9, 10] [5, 11] (fun w' => w'.cell? pU = some (.int .i64 u) ∧ w'.cell? pV = some (.int .i64 v) ∧ w'.cell? ⟨bx, 0, none⟩ = some (.int .u64 (x2 : Nat)) ∧ w'.cell? ⟨bx, 1, none⟩ = some (.int .u64 (x1 : Nat)) ∧ w'.cell? ⟨bx, 2, none⟩ = some (.int .u64 (x0 : Nat)) ∧ w'.cell? ⟨bx + 1, 0, none⟩ = some (.int .u64 (y2 : Nat)) ∧ w'.cell? ⟨bx + 1, 1, none⟩ = some (.int .u64 (y1 : Nat)) ∧ w'.cell? ⟨bx + 1, 2, none⟩ = some (.int .u64 (y0 : Nat))) (by kernel_rfl) (by kernel_rfl) (fun _ _ _ _ _ h => h) ⟨sU, sV, cx0, cx1, cx2, cy0, cy1, cy2⟩ ?_
              refine ⟨_, ?_, rfl, Or.inl ⟨rfl, ?_⟩, ?_⟩
              rotate_left
              · intro w' hS
                try dsimp only at hS
                obtain ⟨S1, S2, S3, S4, S5, S6, S7, S8⟩ := hS
                go_simp
                try with_reducible rfl
              simp only [Act.put, List.setIfInBounds_toArray]
              refine ⟨_, ?_, rfl, Or.inl ⟨rfl, ?_⟩, ?_⟩
              rotate_left
              · intro w' hS
                try dsimp only at hS
                obtain ⟨S1, S2, S3, S4, S5, S6, S7, S8⟩ := hS
                go_simp
                try with_reducible rfl
              simp only [Act.put]
              refine ⟨_, ?_, rfl, Or.inl ⟨rfl, ?_⟩, ?_⟩
              rotate_left
              · intro w' hS
                try dsimp only at hS
                obtain ⟨S1, S2, S3, S4, S5, S6, S7, S8⟩ := hS
                go_simp
                try with_reducible rfl
              simp only [Act.put]
              refine ⟨_, ?_, rfl, Or.inl ⟨rfl, ?_⟩, ?_⟩
              rotate_left
              · intro w' hS
                try dsimp only at hS
                obtain ⟨S1, S2, S3, S4, S5, S6, S7, S8⟩ := hS
                go_simp
                try with_reducible rfl
              simp only [Act.put]
              refine ⟨_, ?_, rfl, Or.inl ⟨rfl, ?_⟩, ?_⟩
              rotate_left
              · intro w' hS
                try dsimp only at hS
                obtain ⟨S1, S2, S3, S4, S5, S6, S7, S8⟩ := hS
                go_simp
                try with_reducible rfl
              simp only [Act.put]
              refine ⟨_, ?_, rfl, Or.inl ⟨rfl, ?_⟩, ?_⟩
              rotate_left
              · intro w' hS
                try dsimp only at hS
                obtain ⟨S1, S2, S3, S4, S5, S6, S7, S8⟩ := hS
                go_simp
                try with_reducible rfl
              simp only [Act.put]
              refine ⟨_, ?_, rfl, Or.inl ⟨rfl, ?_⟩, ?_⟩
              rotate_left
              · intro w' hS
                try dsimp only at hS
                obtain ⟨S1, S2, S3, S4, S5, S6, S7, S8⟩ := hS
                go_simp
                try with_reducible rfl
              simp only [Act.put]
              refine ⟨_, ?_, rfl, Or.inl ⟨rfl, ?_⟩, ?_⟩
              rotate_left
              · intro w' hS
                try dsimp only at hS
                obtain ⟨S1, S2, S3, S4, S5, S6, S7, S8⟩ := hS
                go_simp
                try with_reducible rfl
              simp only [Act.put]
              refine ⟨_, ?_, rfl, Or.inl ⟨rfl, ?_⟩, ?_⟩
              rotate_left
              · intro w' hS
                try dsimp only at hS
                obtain ⟨S1, S2, S3, S4, S5, S6, S7, S8⟩ := hS
                go_simp
                try with_reducible rfl
              simp only [Act.put]
              refine ⟨_, ?_, rfl, Or.inl ⟨rfl, ?_⟩, ?_⟩
              rotate_left
              · intro w' hS
                try dsimp only at hS
                obtain ⟨S1, S2, S3, S4, S5, S6, S7, S8⟩ := hS
                go_simp
                try with_reducible rfl
              simp only [Act.put]
              refine readsT_nil ?_
              refine callsT_cons (i := 5) rfl (fun K' hK => ?_)
              go_wp2_with (go_at_call 40; refine (plusR_ag x0 x1 x2 Sx v 1 _ HRx.out hv'.out (by decide)).mono ?_; rintro e w5 ⟨s0, s1, s2, rfl, hR5, hn5⟩; have HR5 := Lib.hid hR5; have Hn5 := Lib.hid hn5; have fx0 := nx_frz hn5 cx0 fx0; have fx1 := nx_frz hn5 cx1 fx1; have fx2 := nx_frz hn5 cx2 fx2; have fy0 := nx_frz hn5 cy0 fy0; have fy1 := nx_frz hn5 cy1 fy1; have fy2 := nx_frz hn5 cy2 fy2; have sU := nx_cell hn5 sU; have sV := nx_cell hn5 sV; have cx0 := nx_cell hn5 cx0; have cx1 := nx_cell hn5 cx1; have cx2 := nx_cell hn5 cx2; have cy0 := nx_cell hn5 cy0; have cy1 := nx_cell hn5 cy1; have cy2 := nx_cell hn5 cy2; clear hR5 hn5)
              refine hK.out _ _ ⟨sU, sV, cx0, cx1, cx2, cy0, cy1, cy2⟩ ?_
              clear hK K'
              refine callsT_cons (i := 11) rfl (fun K' hK => ?_)
              go_wp2_with (go_at_call 40; refine (plusR_ag y0 y1 y2 Sy u (-1) _ HRy.out hu'.out (by decide)).mono ?_; rintro e w6 ⟨t0, t1', t2', rfl, hR6, hn6⟩; have HR6 := Lib.hid hR6; have Hn6 := Lib.hid hn6; have fx0 := nx_frz hn6 cx0 fx0; have fx1 := nx_frz hn6 cx1 fx1; have fx2 := nx_frz hn6 cx2 fx2; have fy0 := nx_frz hn6 cy0 fy0; have fy1 := nx_frz hn6 cy1 fy1; have fy2 := nx_frz hn6 cy2 fy2; have sU := nx_cell hn6 sU; have sV := nx_cell hn6 sV; have cx0 := nx_cell hn6 cx0; have cx1 := nx_cell hn6 cx1; have cx2 := nx_cell hn6 cx2; have cy0 := nx_cell hn6 cy0; have cy1 := nx_cell hn6 cy1; have cy2 := nx_cell hn6 cy2; clear hR6 hn6)
              refine hK.out _ _ ⟨sU, sV, cx0, cx1, cx2, cy0, cy1, cy2⟩ ?_
              clear hK K'
              refine callsT_nil ?_
              show wpList _ _ _ [_, _] _ _
              go_wp2_with fail
              refine NoPanic.normal ?_
              go_wp2_with fail
              have eX : reS n x y k (j + 1) = Sx + v * 1 := by rw [HSx.out, hr4]; rfl
              have eY : imS n x y k (j + 1) = Sy + u * (-1) := by rw [HSy.out, hr4]; rfl
              obtain ⟨p1, p2, p3, p4⟩ := two_put Hbx.out Hnj.out HW.out Hbj.out Hn5.out Hn6.out HR5.out HR6.out
              exact ⟨⟨j + 1, by omega, by go_num, by rw [eX]; exact p1, by rw [eY]; exact p2, p3, p4⟩, by simp only [intOf]; omega⟩
            · have it : (t2 : Int) % 4 = 2 := by omega
              go_wp2_with fail
              refine wp_region_noPanic ?_
              refine wp_region_T 12 [0, 1, 2, 3, 4, 6, 7, 8, 9, 10] [5, 11] (fun w' => w'.cell? pU = some (.int .i64 u) ∧ w'.cell? pV = some (.int .i64 v) ∧ w'.cell? ⟨bx, 0, none⟩ = some (.int .u64 (x2 : Nat)) ∧ w'.cell? ⟨bx, 1, none⟩ = some (.int .u64 (x1 : Nat)) ∧ w'.cell? ⟨bx, 2, none⟩ = some (.int .u64 (x0 : Nat)) ∧ w'.cell? ⟨bx + 1, 0, none⟩ = some (.int .u64 (y2 : Nat)) ∧ w'.cell? ⟨bx + 1, 1, none⟩ = some (.int .u64 (y1 : Nat)) ∧ w'.cell? ⟨bx + 1, 2, none⟩ = some (.int .u64 (y0 : Nat))) (by kernel_rfl) (by kernel_rfl) (fun _ _ _ _ _ h => h) ⟨sU, sV, cx0, cx1, cx2, cy0, cy1, cy2⟩ ?_
              refine ⟨_, ?_, rfl, Or.inl ⟨rfl, ?_⟩, ?_⟩
              rotate_left
              · intro w' hS
                try dsimp only at hS
                obtain ⟨S1, S2, S3, S4, S5, S6, S7, S8⟩ := hS
                go_simp
                try with_reducible rfl
              simp only [Act.put, List.setIfInBounds_toArray]
              refine ⟨_, ?_, rfl, Or.inl ⟨rfl, ?_⟩, ?_⟩
              rotate_left
              · intro w' hS
                try dsimp only at hS
                obtain ⟨S1, S2, S3, S4, S5, S6, S7, S8⟩ := hS
                go_simp
                try with_reducible rfl
              simp only [Act.put]
              refine ⟨_, ?_, rfl, Or.inl ⟨rfl, ?_⟩, ?_⟩
              rotate_left
              · intro w' hS
                try dsimp only at hS
                obtain ⟨S1, S2, S3, S4, S5, S6, S7, S8⟩ := hS
                go_simp
                try with_reducible rfl
              simp only [Act.put]
              refine ⟨_, ?_, rfl, Or.inl ⟨rfl, ?_⟩, ?_⟩
              rotate_left
              · intro w' hS
                try dsimp only at hS
                obtain ⟨S1, S2, S3, S4, S5, S6, S7, S8⟩ := hS
                go_simp
                try with_reducible rfl
              simp only [Act.put]
              refine ⟨_, ?_, rfl, Or.inl ⟨rfl, ?_⟩, ?_⟩
              rotate_left
              · intro w' hS
                try dsimp only at hS
                obtain ⟨S1, S2, S3, S4, S5, S6, S7, S8⟩ := hS
                go_simp
                try with_reducible rfl
              simp only [Act.put]
              refine ⟨_, ?_, rfl, Or.inl ⟨rfl, ?_⟩, ?_⟩
              rotate_left
              · intro w' hS
                try dsimp only at hS
                obtain ⟨S1, S2, S3, S4, S5, S6, S7, S8⟩ := hS
                go_simp
                try with_reducible rfl
              simp only [Act.put]
              refine ⟨_, ?_, rfl, Or.inl ⟨rfl, ?_⟩, ?_⟩
              rotate_left
              · intro w' hS
                try dsimp only at hS
                obtain ⟨S1, S2, S3, S4, S5, S6, S7, S8⟩ := hS
                go_simp
                try with_reducible rfl
              simp only [Act.put]
              refine ⟨_, ?_, rfl, Or.inl ⟨rfl, ?_⟩, ?_⟩
              rotate_left
              · intro w' hS
                try dsimp only at hS
                obtain ⟨S1, S2, S3, S4, S5, S6, S7, S8⟩ := hS
                go_simp
                try with_reducible rfl
              simp only [Act.put]
              refine ⟨_, ?_, rfl, Or.inl ⟨rfl, ?_⟩, ?_⟩
              rotate_left
              · intro w' hS
                try dsimp only at hS
                obtain ⟨S1, S2, S3, S4, S5, S6, S7, S8⟩ := hS
                go_simp
                try with_reducible rfl
              simp only [Act.put]
              refine ⟨_, ?_, rfl, Or.inl ⟨rfl, ?_⟩, ?_⟩
              rotate_left
              · intro w' hS
                try dsimp only at hS
                obtain ⟨S1, S2, S3, S4, S5, S6, S7, S8⟩ := hS
                go_simp
                try with_reducible rfl
              simp only [Act.put]
              refine readsT_nil ?_
              refine callsT_cons (i := 5) rfl (fun K' hK => ?_)
              go_wp2_with (go_at_call 40; refine (plusR_ag x0 x1 x2 Sx u (-1) _ HRx.out hu'.out (by decide)).mono ?_; rintro e w5 ⟨s0, s1, s2, rfl, hR5, hn5⟩; have HR5 := Lib.hid hR5; have Hn5 := Lib.hid hn5; have fx0 := nx_frz hn5 cx0 fx0; have fx1 := nx_frz hn5 cx1 fx1; have fx2 := nx_frz hn5 cx2 fx2; have fy0 := nx_frz hn5 cy0 fy0; have fy1 := nx_frz hn5 cy1 fy1; have fy2 := nx_frz hn5 cy2 fy2; have sU := nx_cell hn5 sU; have sV := nx_cell hn5 sV; have cx0 := nx_cell hn5 cx0; have cx1 := nx_cell hn5 cx1; have cx2 := nx_cell hn5 cx2; have cy0 := nx_cell hn5 cy0; have cy1 := nx_cell hn5 cy1; have cy2 := nx_cell hn5 cy2; clear hR5 hn5)
              refine hK.out _ _ ⟨sU, sV, cx0, cx1, cx2, cy0, cy1, cy2⟩ ?_
              clear hK K'
              refine callsT_cons (i := 11) rfl (fun K' hK => ?_)
              go_wp2_with (go_at_call 40; refine (plusR_ag y0 y1 y2 Sy v (-1) _ HRy.out hv'.out (by decide)).mono ?_; rintro e w6 ⟨t0, t1', t2', rfl, hR6, hn6⟩; have HR6 := Lib.hid hR6; have Hn6 := Lib.hid hn6; have fx0 := nx_frz hn6 cx0 fx0; have fx1 := nx_frz hn6 cx1 fx1; have fx2 := nx_frz hn6 cx2 fx2; have fy0 := nx_frz hn6 cy0 fy0; have fy1 := nx_frz hn6 cy1 fy1; have fy2 := nx_frz hn6 cy2 fy2; have sU := nx_cell hn6 sU; have sV := nx_cell hn6 sV; have cx0 := nx_cell hn6 cx0; have cx1 := nx_cell hn6 cx1; have cx2 := nx_cell hn6 cx2; have cy0 := nx_cell hn6 cy0; have cy1 := nx_cell hn6 cy1; have cy2 := nx_cell hn6 cy2; clear hR6 hn6)
              refine hK.out _ _ ⟨sU, sV, cx0, cx1, cx2, cy0, cy1, cy2⟩ ?_
              clear hK K'
              refine callsT_nil ?_
              show wpList _ _ _ [_, _] _ _
              go_wp2_with fail
              refine NoPanic.normal ?_
              go_wp2_with fail
              have eX : reS n x y k (j + 1) = Sx + u * (-1) := by rw [HSx.out, hr4]; rfl
              have eY : imS n x y k (j + 1) = Sy + v * (-1) := by rw [HSy.out, hr4]; rfl
              obtain ⟨p1, p2, p3, p4⟩ := two_put Hbx.out Hnj.out HW.out Hbj.out Hn5.out Hn6.out HR5.out HR6.out
              exact ⟨⟨j + 1, by omega, by go_num, by rw [eX]; exact p1, by rw [eY]; exact p2, p3, p4⟩, by simp only [intOf]; omega⟩
            · have it : (t2 : Int) % 4 = 3 := by omega
              go_wp2_with fail
              refine wp_region_noPanic ?_
              refine wp_region_T 12 [0, 1, 2, 3, 4, 6, 7, 8, 9, 10] [5, 11] (fun w' => w'.cell? pU = some (.int .i64 u) ∧ w'.cell? pV = some (.int .i64 v) ∧ w'.cell? ⟨bx, 0, none⟩ = some (.int .u64 (x2 : Nat)) ∧ w'.cell? ⟨bx, 1, none⟩ = some (.int .u64 (x1 : Nat)) ∧ w'.cell? ⟨bx, 2, none⟩ = some (.int .u64 (x0 : Nat)) ∧ w'.cell? ⟨bx + 1, 0, none⟩ = some (.int .u64 (y2 : Nat)) ∧ w'.cell? ⟨bx + 1, 1, none⟩ = some (.int .u64 (y1 : Nat)) ∧ w'.cell? ⟨bx + 1, 2, none⟩ = some (.int .u64 (y0 : Nat))) (by kernel_rfl) (by kernel_rfl) (fun _ _ _ _ _ h => h) ⟨sU, sV, cx0, cx1, cx2, cy0, cy1, cy2⟩ ?_
              refine ⟨_, ?_, rfl, Or.inl ⟨rfl, ?_⟩, ?_⟩
              rotate_left
              · intro w' hS
                try dsimp only at hS
                obtain ⟨S1, S2, S3, S4, S5, S6, S7, S8⟩ := hS
                go_simp
                try with_reducible rfl
              simp only [Act.put, List.setIfInBounds_toArray]
              refine ⟨_, ?_, rfl, Or.inl ⟨rfl, ?_⟩, ?_⟩
              rotate_left
              · intro w' hS
                try dsimp only at hS
                obtain ⟨S1, S2, S3, S4, S5, S6, S7, S8⟩ := hS
                go_simp
                try with_reducible rfl
              simp only [Act.put]
              refine ⟨_, ?_, rfl, Or.inl ⟨rfl, ?_⟩, ?_⟩
              rotate_left
              · intro w' hS
                try dsimp only at hS
                obtain ⟨S1, S2, S3, S4, S5, S6, S7, S8⟩ := hS
                go_simp
                try with_reducible rfl
              simp only [Act.put]
              refine ⟨_, ?_, rfl, Or.inl ⟨rfl, ?_⟩, ?_⟩
              rotate_left
              · intro w' hS
                try dsimp only at hS
                obtain ⟨S1, S2, S3, S4, S5, S6, S7, S8⟩ := hS
                go_simp
                try with_reducible rfl
              simp only [Act.put]
              refine ⟨_, ?_, rfl, Or.inl ⟨rfl, ?_⟩, ?_⟩
              rotate_left
              · intro w' hS
                try dsimp only at hS
                obtain ⟨S1, S2, S3, S4, S5, S6, S7, S8⟩ := hS
                go_simp
                try with_reducible rfl
              simp only [Act.put]
              refine ⟨_, ?_, rfl, Or.inl ⟨rfl, ?_⟩, ?_⟩
              rotate_left
              · intro w' hS
                try dsimp only at hS
                obtain ⟨S1, S2, S3, S4, S5, S6, S7, S8⟩ := hS
                go_simp
                try with_reducible rfl
              simp only [Act.put]
              refine ⟨_, ?_, rfl, Or.inl ⟨rfl, ?_⟩, ?_⟩
              rotate_left
              · intro w' hS
                try dsimp only at hS
                obtain ⟨S1, S2, S3, S4, S5, S6, S7, S8⟩ := hS
                go_simp
                try with_reducible rfl
              simp only [Act.put]
              refine ⟨_, ?_, rfl, Or.inl ⟨rfl, ?_⟩, ?_⟩
              rotate_left
              · intro w' hS
                try dsimp only at hS
                obtain ⟨S1, S2, S3, S4, S5, S6, S7, S8⟩ := hS
                go_simp
                try with_reducible rfl
              simp only [Act.put]
              refine ⟨_, ?_, rfl, Or.inl ⟨rfl, ?_⟩, ?_⟩
              rotate_left
              · intro w' hS
                try dsimp only at hS
                obtain ⟨S1, S2, S3, S4, S5, S6, S7, S8⟩ := hS
                go_simp
                try with_reducible rfl
              simp only [Act.put]
              refine ⟨_, ?_, rfl, Or.inl ⟨rfl, ?_⟩, ?_⟩
              rotate_left
              · intro w' hS
                try dsimp only at hS
                obtain ⟨S1, S2, S3, S4, S5, S6, S7, S8⟩ := hS
                go_simp
                try with_reducible rfl
              simp only [Act.put]
              refine readsT_nil ?_
              refine callsT_cons (i := 5) rfl (fun K' hK => ?_)
              go_wp2_with (go_at_call 40; refine (plusR_ag x0 x1 x2 Sx v (-1) _ HRx.out hv'.out (by decide)).mono ?_; rintro e w5 ⟨s0, s1, s2, rfl, hR5, hn5⟩; have HR5 := Lib.hid hR5; have Hn5 := Lib.hid hn5; have fx0 := nx_frz hn5 cx0 fx0; have fx1 := nx_frz hn5 cx1 fx1; have fx2 := nx_frz hn5 cx2 fx2; have fy0 := nx_frz hn5 cy0 fy0; have fy1 := nx_frz hn5 cy1 fy1; have fy2 := nx_frz hn5 cy2 fy2; have sU := nx_cell hn5 sU; have sV := nx_cell hn5 sV; have cx0 := nx_cell hn5 cx0; have cx1 := nx_cell hn5 cx1; have cx2 := nx_cell hn5 cx2; have cy0 := nx_cell hn5 cy0; have cy1 := nx_cell hn5 cy1; have cy2 := nx_cell hn5 cy2; clear hR5 hn5)
              refine hK.out _ _ ⟨sU, sV, cx0, cx1, cx2, cy0, cy1, cy2⟩ ?_
              clear hK K'
              refine callsT_cons (i := 11) rfl (fun K' hK => ?_)
              go_wp2_with (go_at_call 40; refine (plusR_ag y0 y1 y2 Sy u 1 _ HRy.out hu'.out (by decide)).mono ?_; rintro e w6 ⟨t0, t1', t2', rfl, hR6, hn6⟩; have HR6 := Lib.hid hR6; have Hn6 := Lib.hid hn6; have fx0 := nx_frz hn6 cx0 fx0; have fx1 := nx_frz hn6 cx1 fx1; have fx2 := nx_frz hn6 cx2 fx2; have fy0 := nx_frz hn6 cy0 fy0; have fy1 := nx_frz hn6 cy1 fy1; have fy2 := nx_frz hn6 cy2 fy2; have sU := nx_cell hn6 sU; have sV := nx_cell hn6 sV; have cx0 := nx_cell hn6 cx0; have cx1 := nx_cell hn6 cx1; have cx2 := nx_cell hn6 cx2; have cy0 := nx_cell hn6 cy0; have cy1 := nx_cell hn6 cy1; have cy2 := nx_cell hn6 cy2; clear hR6 hn6)
              refine hK.out _ _ ⟨sU, sV, cx0, cx1, cx2, cy0, cy1, cy2⟩ ?_
              clear hK K'
              refine callsT_nil ?_
              show wpList _ _ _ [_, _] _ _
              go_wp2_with fail
              refine NoPanic.normal ?_
              go_wp2_with fail
              have eX : reS n x y k (j + 1) = Sx + v * (-1) := by rw [HSx.out, hr4]; rfl
              have eY : imS n x y k (j + 1) = Sy + u * 1 := by rw [HSy.out, hr4]; rfl
              obtain ⟨p1, p2, p3, p4⟩ := two_put Hbx.out Hnj.out HW.out Hbj.out Hn5.out Hn6.out HR5.out HR6.out
              exact ⟨⟨j + 1, by omega, by go_num, by rw [eX]; exact p1, by rw [eY]; exact p2, p3, p4⟩, by simp only [intOf]; omega⟩
          · obtain rfl : n = j := by omega
            obtain ⟨x0, x1, x2, hRx, hrx, htx, hx0⟩ := hWx.open
            obtain ⟨y0, y1, y2, hRy, hry, hty, hy0⟩ := hWy.open
            have cx0 : wr.cell? ⟨bx, 0, none⟩ = some (.int .u64 (x2 : Nat)) := hrx 0 _ rfl
            have cx1 : wr.cell? ⟨bx, 1, none⟩ = some (.int .u64 (x1 : Nat)) := hrx 1 _ rfl
            have cx2 : wr.cell? ⟨bx, 2, none⟩ = some (.int .u64 (x0 : Nat)) := hrx 2 _ rfl
            have cy0 : wr.cell? ⟨bx + 1, 0, none⟩ = some (.int .u64 (y2 : Nat)) := hry 0 _ rfl
            have cy1 : wr.cell? ⟨bx + 1, 1, none⟩ = some (.int .u64 (y1 : Nat)) := hry 1 _ rfl
            have cy2 : wr.cell? ⟨bx + 1, 2, none⟩ = some (.int .u64 (y0 : Nat)) := hry 2 _ rfl
            have HR1 := Lib.hid hRx
            have HR2 := Lib.hid hRy
            have Hbd1 := Lib.hid (bd_of hn4 (reS_le (n := n) Hx.out Hy.out k n))
            have Hbd2 := Lib.hid (bd_of hn4 (imS_le (n := n) Hx.out Hy.out k n))
            have Hnj := Lib.hid hnj
            clear hWx hWy hrx hry htx hty hRx hRy hnj hbj
            obtain ⟨f1, hf1⟩ : ∃ b, fitB (reS n x y k n) = b := ⟨_, rfl⟩
            obtain ⟨f2, hf2⟩ : ∃ b, fitB (imS n x y k n) = b := ⟨_, rfl⟩
            have Hf1 := Lib.hid hf1
            have Hf2 := Lib.hid hf2
            clear hf1 hf2
            go_wp2_with fail
            refine (fitsR_any x0 x1 x2 (reS n x y k n) _ HR1.out Hbd1.out).mono ?_
            rw [Hf1.out]
            rintro e w5 ⟨r1, rfl, hr1, hn5⟩
            have Hr1 := Lib.hid hr1
            have Hn5 := Lib.hid hn5
            have cy0 := nx_cell hn5 cy0
            have cy1 := nx_cell hn5 cy1
            have cy2 := nx_cell hn5 cy2
            clear hr1 hn5
            go_wp2_with fail
            refine (fitsR_any y0 y1 y2 (imS n x y k n) _ HR2.out Hbd2.out).mono ?_
            rw [Hf2.out]
            rintro e w6 ⟨r2, rfl, hr2, hn6⟩
            have Hr2 := Lib.hid hr2
            have N6 : Hid (Nx wo w6) := Hnj.out.trans (Hn5.out.trans hn6)
            clear hr2 hn6
            by_cases hf : f1 = true ∧ f2 = true
            · obtain ⟨rfl, rfl⟩ := hf
              have B1 := Lib.hid (HBa.out.nx N6.out)
              have B2 := Lib.hid (HBb.out.nx N6.out)
              have V1 : Hid (some (Value.int .i64 r1) = some (iw (fun i => reS n x y i n) k)) := by show _ = _; rw [Hr1.out rfl]; rfl
              have V2 : Hid (some (Value.int .i64 r2) = some (iw (fun i => imS n x y i n) k)) := by show _ = _; rw [Hr2.out rfl]; rfl
              go_wp2_with (first
                | ((with_reducible show wpList _ _ _ (⟨some 132, _, _, _, _, _⟩ :: _) _ _); refine wpl_pushK rfl _ _ 34 2 (.int .i64 0) 8 rfl Tryd.underlying34 info2 rfl w.heap.size (.slice Aa k ca) k w6.heap.size (iw fun i => reS n x y i n) (iw fun i => reS n x y i n) rfl rfl (B1.out.alloc _) (by rw [cells_new]; exact V1.out) (fun _ _ => rfl) (fun _ => rfl) (by omega) (by decide) ?_; intro A7 c7 w7 hB7 hk7 ho7 _ _; have B7 := Lib.hid hB7; have K7 := Lib.hid hk7; have O7 := Lib.hid ho7; clear hB7 hk7 ho7)
                | ((with_reducible show wpList _ _ _ (⟨some 136, _, _, _, _, _⟩ :: _) _ _); refine wpl_pushK rfl _ _ 34 2 (.int .i64 0) 8 rfl Tryd.underlying34 info2 rfl w.heap.size (.slice Ab k cb) k w7.heap.size (iw fun i => imS n x y i n) (iw fun i => imS n x y i n) rfl rfl (((B2.out.alloc _).kp K7.out (ap_or Hne.out)).alloc _) (by rw [cells_new]; exact V2.out) (fun _ _ => rfl) (fun _ => rfl) (by omega) (by decide) ?_; intro A8 c8 w8 hB8 hk8 ho8 _ _; have B8 := Lib.hid hB8; have K8 := Lib.hid hk8; have O8 := Lib.hid ho8; clear hB8 hk8 ho8))
              obtain ⟨p1, p2, p3⟩ := two_push Hne.out (Hnw.out.trans N6.out) rfl B1.out B2.out K7.out O7.out B7.out K8.out O8.out
              exact ⟨⟨k + 1, c7, c8, A7, A8, by omega, by go_num, rfl, rfl, by
                show _ ∧ _
                rw [allFit, allFit, HF.out.1, HF.out.2, Hf1.out, Hf2.out]
                exact ⟨rfl, rfl⟩, p1, B8.out, p2, p3⟩, by simp only [intOf]; omega⟩
            · have hno : allFit (fun i => reS n x y i n) n = false ∨ allFit (fun i => imS n x y i n) n = false := by
                cases f1
                · exact .inl (allFit_false hlt Hf1.out)
                · cases f2
                  · exact .inr (allFit_false hlt Hf2.out)
                  · exact absurd ⟨rfl, rfl⟩ hf
              have Hno := Lib.hid hno
              clear hno
              have hff : f1 = false ∨ (f1 = true ∧ f2 = false) := by
                cases f1
                · exact .inl rfl
                · cases f2
                  · exact .inr ⟨rfl, rfl⟩
                  · exact absurd ⟨rfl, rfl⟩ hf
              clear hf
              rcases hff with rfl | ⟨rfl, rfl⟩
              · go_wp2_with fail
                go_ret3
                exact smR_no Hno.out (Hnw.out.trans N6.out)
              · go_wp2_with fail
                go_ret3
                exact smR_no Hno.out (Hnw.out.trans N6.out)
      · obtain rfl : n = k := by omega
        go_wp2_with fail
        go_ret3
        exact smR_ok HF.out.1 HF.out.2 HBa.out HBb.out Hnw.out
end Go.Proofs.YtppebegleedifaaDoor
