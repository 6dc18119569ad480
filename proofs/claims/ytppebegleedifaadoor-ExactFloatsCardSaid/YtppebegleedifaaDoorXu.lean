/- Small: the walk at one kind of length. -/
import Derived.Test.YtppebegleedifaaDoorXt
namespace Go.Proofs.YtppebegleedifaaDoor
open Go.RowKit
set_option maxHeartbeats 8000000 in
theorem small_Xu (A : Option Addr) (n c : Nat) (A' : Option Addr) (c' : Nat) (x y : Nat → Int) (ea : Nat → Addr) (w : World) (hr : RS w A n c (iw x)) (hr' : RS w A' n c' (iw y)) (hx : ∀ i, i64B (x i)) (hy : ∀ j, i64B (y j)) (hE : Ers w (eV ea)) (hn1 : 1 ≤ n) (hn4 : n ≤ 4)
    (h1 : ((n : Int) != 1) = false) :
    Calls Tryd.prog 22 #[.slice A n c, .slice A' n c'] w (SR ea n x y w) := by
  have k1 := hr.nc
  have k2 := hr.cm
  have k3 := hr'.nc
  have k4 := hr'.cm
  have hmk := run_make70 n (by omega)
  have hn4' : (n : Int) ≤ 4 := by omega
  have hn1' : (1 : Int) ≤ n := by omega
  obtain ⟨B0, hB0⟩ : ∃ B0, w.heap.size = B0 := ⟨_, rfl⟩
  have HRx : Hid (∀ wr, Below B0 w wr → RS wr A n c (iw x)) := fun wr hb => by rw [← hB0] at hb; exact hr.below hb
  have HRy : Hid (∀ wr, Below B0 w wr → RS wr A' n c' (iw y)) := fun wr hb => by rw [← hB0] at hb; exact hr'.below hb
  have HEr : Hid (∀ wr, Below B0 w wr → Ers wr (eV ea)) := fun wr hb => by rw [← hB0] at hb; exact hE.below hb
  have Hx := Lib.hid hx
  have Hy := Lib.hid hy
  have hz1 := wds_zero w n
  have hbz1 : Below w.heap.size w (w.alloc (.cells (madeCells #[.int .u64 0, .int .u64 0, .int .u64 0] (n * 3)) 70)) := (Below.refl _ _).alloc (Nat.le_refl _) _
  have hz2 := wds_zero (w.alloc (.cells (madeCells #[.int .u64 0, .int .u64 0, .int .u64 0] (n * 3)) 70)) n
  have hbz2 : Below (w.alloc (.cells (madeCells #[.int .u64 0, .int .u64 0, .int .u64 0] (n * 3)) 70)).heap.size (w.alloc (.cells (madeCells #[.int .u64 0, .int .u64 0, .int .u64 0] (n * 3)) 70)) ((w.alloc (.cells (madeCells #[.int .u64 0, .int .u64 0, .int .u64 0] (n * 3)) 70)).alloc (.cells (madeCells #[.int .u64 0, .int .u64 0, .int .u64 0] (n * 3)) 70)) := (Below.refl _ _).alloc (Nat.le_refl _) _
  have hz1' := hz1.below (by simp) hbz2
  have hbz := hbz1.trans (hbz2.mono hbz1.size)
  have hsz : w.heap.size + 1 < ((w.alloc (.cells (madeCells #[.int .u64 0, .int .u64 0, .int .u64 0] (n * 3)) 70)).alloc (.cells (madeCells #[.int .u64 0, .int .u64 0, .int .u64 0] (n * 3)) 70)).heap.size := by simp
  rw [show (w.alloc (.cells (madeCells #[.int .u64 0, .int .u64 0, .int .u64 0] (n * 3)) 70)).heap.size = w.heap.size + 1 by simp] at hz2
  rw [hB0] at hz1' hz2 hbz hsz
  obtain ⟨W0, hW0⟩ : ∃ W0, (w.alloc (.cells (madeCells #[.int .u64 0, .int .u64 0, .int .u64 0] (n * 3)) 70)).alloc (.cells (madeCells #[.int .u64 0, .int .u64 0, .int .u64 0] (n * 3)) 70) = W0 := ⟨_, rfl⟩
  rw [hW0] at hz1' hz2 hbz hsz
  have HZ1 := Lib.hid hz1'
  have HZ2 := Lib.hid hz2
  have HbZ := Lib.hid hbz
  have HszZ := Lib.hid hsz
  have HW0 := Lib.hid hW0
  clear hz1 hz1' hz2 hbz1 hbz2 hbz hsz hW0 hr hr' hx hy hE
  go_enter Tryd.func22, Tryd.ntmps22
  go_wp2_with fail
  go_big_region
  all_goals try rw [hB0]
  all_goals rw [HW0.out]
  all_goals clear hmk HW0
  · have hne : B0 ≠ B0 + 1 := by omega
    go_wp2_with fail
    go_loopw [44] (fun o wr => ∃ k : Nat, k ≤ n ∧ o = .int .i64 k ∧ Wds wr (B0) n (fun i => if i < k then reS n x y i n else 0) ∧ Wds wr (B0 + 1) n (fun i => if i < k then imS n x y i n else 0) ∧ Below B0 w wr ∧ B0 + 1 < wr.heap.size) (fun o _ => n - (intOf o).toNat)
    case atStart => exact ⟨0, Nat.zero_le _, rfl, (HZ1.out.drewN _).congr (fun i _ => by simp), (HZ2.out.drewN _).congr (fun i _ => by simp), below_drewN HbZ.out _, HszZ.out⟩
    case round =>
      obtain ⟨k, hk, rfl, hU, hV, hb, hsz⟩ := hrel
      have HU := Lib.hid hU
      have HV := Lib.hid hV
      have Hb := Lib.hid hb
      clear hU hV hb
      by_cases hlt : k < n
      · have hlt' : (k : Int) < n := by omega
        go_wp2_with fail
        go_loopw [48] (fun o wr => ∃ j : Nat, j ≤ n ∧ o = .int .i64 j ∧ Wds wr (B0) n (fun i => if i < k then reS n x y i n else if i = k then reS n x y k j else 0) ∧ Wds wr (B0 + 1) n (fun i => if i < k then imS n x y i n else if i = k then imS n x y k j else 0) ∧ Below B0 w wr ∧ B0 + 1 < wr.heap.size) (fun o _ => n - (intOf o).toNat)
        case atStart => exact ⟨0, Nat.zero_le _, rfl, HU.out.congr (fun i _ => by by_cases h : i < k <;> simp [h, reS]), HV.out.congr (fun i _ => by by_cases h : i < k <;> simp [h, imS]), Hb.out, hsz⟩
        case round =>
          obtain ⟨j, hj, rfl, hU, hV, hb, hsz2⟩ := hrel
          by_cases hjl : j < n
          · have hjl' : (j : Int) < n := by omega
            obtain ⟨ad, rfl, hc1⟩ := (HRx.out _ hb).cell j hjl
            obtain ⟨ad', rfl, hc2⟩ := (HRy.out _ hb).cell j hjl
            have hcx : wr.cell? (ad.add j) = some (.int .i64 (x j)) := hc1
            have hcy : wr.cell? (ad'.add j) = some (.int .i64 (y j)) := hc2
            obtain ⟨V, hVe⟩ : ∃ V, 4 * j * k = V := ⟨_, rfl⟩
            have hVl : V ≤ 64 := by rw [← hVe]; exact Nat.le_trans (Nat.mul_le_mul (Nat.mul_le_mul_left 4 (show j ≤ 4 by omega)) (show k ≤ 4 by omega)) (by decide)
            obtain ⟨Qt, hQe⟩ : ∃ Q, V / n = Q := ⟨_, rfl⟩
            obtain ⟨R, hRe⟩ : ∃ R, Qt % 4 = R := ⟨_, rfl⟩
            have hrot : rot n k j = R := by unfold rot; rw [hVe, hQe, hRe]
            have g1 : 4 * (j : Int) * k = (V : Int) := by rw [← hVe]; rfl
            have g2 : (V : Int) / n = (Qt : Int) := by rw [← hQe]; rfl
            have g3 : (Qt : Int) % 4 = (R : Int) := by rw [← hRe]; rfl
            have g4 : (n : Int) ≠ 0 := by omega
            have g5 : R < 4 := by omega
            have g6 : Qt ≤ 64 := by rw [← hQe]; exact Nat.le_trans (Nat.div_le_self _ _) hVl
            have Hrot := Lib.hid hrot
            have HU2 := Lib.hid hU
            have HV2 := Lib.hid hV
            have Hb2 := Lib.hid hb
            clear hc1 hc2 hVe hQe hRe hrot hU hV hb
            go_wp2_with fail
            go_quiet (fail)
            go_wp2_with fail
            go_loopw [12, 13, 14, 15, 66] (fun a b s t o wz => ∃ q : Nat, ∃ va vb vs vt : Int, q ≤ R ∧ a = .int .i64 va ∧ b = .int .i64 vb ∧ s = .int .i64 vs ∧ t = .int .i64 vt ∧ o = .int .i64 q ∧ Hid (va = rA q (x j) (y j) ∧ vb = rA q (y j) (x j) ∧ vs = rsN q ∧ vt = rtN q) ∧ (-1 ≤ vs ∧ vs ≤ 1) ∧ (-1 ≤ vt ∧ vt ≤ 1) ∧ wz = wr.drewN nq) (fun _ _ _ _ o _ => R - (intOf o).toNat)
            case atStart => exact ⟨0, x j, y j, 1, 1, Nat.zero_le _, rfl, rfl, rfl, rfl, rfl, ⟨rfl, rfl, rfl, rfl⟩, by decide, by decide, rfl⟩
            case round =>
              obtain ⟨q, va, vb, vs, vt, hq, rfl, rfl, rfl, rfl, rfl, HQ, ⟨b1, b2⟩, ⟨b3, b4⟩, rfl⟩ := hrel
              by_cases hqR : q < R
              · have hqR' : (q : Int) < R := by omega
                have HQ2 : Hid (vb = rA (q + 1) (x j) (y j) ∧ va = rA (q + 1) (y j) (x j) ∧ vt = rsN (q + 1) ∧ -vs = rtN (q + 1)) := by
                  obtain ⟨e1, e2, e3, e4⟩ := HQ.out
                  exact ⟨by rw [rA_succ, e2], by rw [rA_succ, e1], by rw [rs_succ, e4], by rw [rt_succ, e3]⟩
                go_wp2_with fail
                go_roundw
                case rel => exact ⟨q + 1, vb, va, vt, -vs, by omega, rfl, rfl, rfl, rfl, by go_num, HQ2.out, ⟨b3, b4⟩, ⟨by omega, by omega⟩, by trivial⟩
                case measure => simp only [intOf]; omega
              · obtain rfl : q = R := by omega
                obtain ⟨e1, e2, e3, e4⟩ := HQ.out
                have i1 : i64B va := by rw [e1]; exact rA_i64 (Hx.out j) (Hy.out j)
                have i2 : i64B vb := by rw [e2]; exact rA_i64 (Hy.out j) (Hx.out j)
                have i3 : i64B vs := ⟨by omega, by omega⟩
                have i4 : i64B vt := ⟨by omega, by omega⟩
                have HI := Lib.hid (And.intro i1 (And.intro i2 (And.intro i3 i4)))
                have HE1 := Lib.hid (And.intro e1 (And.intro e2 (And.intro e3 e4)))
                clear i1 i2 i3 i4 e1 e2 e3 e4
                go_wp2_with (first
                  | (go_at_call_of 38 (Value.int .i64 va); refine (wadd3 HU2.out k hlt va vs HI.out.1 HI.out.2.2.1 _ ?_).mono ?_; rfl; rintro e w5 ⟨k5, r5, s0, s1, s2, rfl, hR5, rfl⟩; have HR5 := Lib.hid hR5; clear hR5)
                  | (go_at_call_of 38 (Value.int .i64 vb); refine (wadd3 (HV2.out.oth3 hne.symm (k * 3) s0 s1 s2) k hlt vb vt HI.out.2.1 HI.out.2.2.2 _ ?_).mono ?_; rfl; rintro e w6 ⟨k6, r6, t0, t1, t2, rfl, hR6, rfl⟩; have HR6 := Lib.hid hR6; clear hR6))
                all_goals
                  go_roundw
                  case rel => exact ⟨j + 1, by omega, by go_num,
                    (((((HU2.out.drewN nq).put3 k _ s0 s1 s2 hlt HR5.out).drewN k5).oth3 hne (k * 3) t0 t1 t2).drewN k6).congr (fun i _ => tab_step k (fun i => reS n x y i n) (reS n x y k j) (reS n x y k (j + 1)) _ (by obtain ⟨e1, e2, e3, e4⟩ := HE1.out; rw [reS, Hrot.out, e1, e3]; simp) i),
                    (((((HV2.out.drewN nq).oth3 hne.symm (k * 3) s0 s1 s2).drewN k5).put3 k _ t0 t1 t2 hlt HR6.out).drewN k6).congr (fun i _ => tab_step k (fun i => imS n x y i n) (imS n x y k j) (imS n x y k (j + 1)) _ (by obtain ⟨e1, e2, e3, e4⟩ := HE1.out; rw [imS, Hrot.out, e2, e4]; simp) i),
                    below_drewN (below3 (below_drewN (below3 (below_drewN Hb2.out nq) (by omega) (k * 3) s0 s1 s2) k5) (by omega) (k * 3) t0 t1 t2) k6, by show _ < (upd3 _ _ _ _ _ _).heap.size; rw [size3]; show _ < (upd3 _ _ _ _ _ _).heap.size; rw [size3]; exact hsz2⟩
                  case measure => simp only [intOf]; omega
          · obtain rfl : j = n := by omega
            have HU2 := Lib.hid hU
            have HV2 := Lib.hid hV
            have Hb2 := Lib.hid hb
            clear hU hV hb
            go_wp2_with fail
            go_roundw
            case rel => exact ⟨k + 1, by omega, by go_num, HU2.out.congr (fun i _ => tab_end k (fun i => reS j x y i j) (reS j x y k j) rfl i), HV2.out.congr (fun i _ => tab_end k (fun i => imS j x y i j) (imS j x y k j) rfl i), Hb2.out, hsz2⟩
            case measure => simp only [intOf]; omega
      · obtain rfl : k = n := by omega
        have hU' := HU.out.congr (T := fun i => reS k x y i k) (fun i hi => by rw [if_pos hi])
        have hV' := HV.out.congr (T := fun i => imS k x y i k) (fun i hi => by rw [if_pos hi])
        have HbB : Hid (Below w.heap.size w wr) := by show Below _ _ _; rw [hB0]; exact Hb.out
        have HWu := Lib.hid (whole_any ea (B0) k k _ wr hU' (by omega) (by omega) (Nat.le_refl _) (by omega) (HEr.out _ Hb.out) (fun i _ => by have := reS_le (n := k) Hx.out Hy.out i k; omega))
        have HWv := Lib.hid (fun (w5 : World) (h5 : Below wr.heap.size wr w5) => whole_any ea (B0 + 1) k k _ w5 (hV'.below (by omega) h5) (by have := h5.size; omega) (by omega) (Nat.le_refl _) (by omega) ((HEr.out _ Hb.out).below h5) (fun i _ => by have := imS_le (n := k) Hx.out Hy.out i k; omega))
        have hc1 : Hid (∀ w6, Below wr.heap.size wr w6 → w6.cell? ⟨1, 0, none⟩ = some (.iface 110 (.pointer (some (ea 1))))) := fun w6 h6 => ((HEr.out _ Hb.out).below h6).cell 1 (by decide)
        have e3 : eV ea 1 = .iface 110 (.pointer (some (ea 1))) := rfl
        clear hU' hV'
        go_wp2_with (first
          | (go_at_call_of 39 (Value.slice (some ⟨B0, 0, none⟩) k k); refine HWu.out.mono ?_; rintro e w5 ⟨hcase, hb5⟩; have Hb5 := Lib.hid hb5; clear hb5; rcases hcase with ⟨F1, A5, c5, rfl, hB5⟩ | ⟨F1, rfl⟩)
          | (go_at_call 39; refine (HWv.out _ Hb5.out).mono ?_; rintro e w6 ⟨hcase, hb6⟩; have Hb6 := Lib.hid (Hb5.out.trans (hb6.mono Hb5.out.size)); have hcE := hc1.out _ Hb6.out; have hb6' := Lib.hid hb6; clear hb6; rcases hcase with ⟨F2, A6, c6, rfl, hB6⟩ | ⟨F2, rfl⟩))
        all_goals first
          | (go_ret3; exact sr_ok HbB.out Hb5.out hb6'.out hB5 hB6 F1 F2)
          | (go_quiet (fail); go_wp2_with fail; go_ret3; exact sr_err (by first | exact .inl F1 | exact .inr F2) (below_drewN (HbB.out.trans (Hb6.out.mono HbB.out.size)) _))
  · have hne : B0 + 1 ≠ B0 := by omega
    go_wp2_with fail
    go_loopw [44] (fun o wr => ∃ k : Nat, k ≤ n ∧ o = .int .i64 k ∧ Wds wr (B0 + 1) n (fun i => if i < k then reS n x y i n else 0) ∧ Wds wr (B0) n (fun i => if i < k then imS n x y i n else 0) ∧ Below B0 w wr ∧ B0 + 1 < wr.heap.size) (fun o _ => n - (intOf o).toNat)
    case atStart => exact ⟨0, Nat.zero_le _, rfl, (HZ2.out.drewN _).congr (fun i _ => by simp), (HZ1.out.drewN _).congr (fun i _ => by simp), below_drewN HbZ.out _, HszZ.out⟩
    case round =>
      obtain ⟨k, hk, rfl, hU, hV, hb, hsz⟩ := hrel
      have HU := Lib.hid hU
      have HV := Lib.hid hV
      have Hb := Lib.hid hb
      clear hU hV hb
      by_cases hlt : k < n
      · have hlt' : (k : Int) < n := by omega
        go_wp2_with fail
        go_loopw [48] (fun o wr => ∃ j : Nat, j ≤ n ∧ o = .int .i64 j ∧ Wds wr (B0 + 1) n (fun i => if i < k then reS n x y i n else if i = k then reS n x y k j else 0) ∧ Wds wr (B0) n (fun i => if i < k then imS n x y i n else if i = k then imS n x y k j else 0) ∧ Below B0 w wr ∧ B0 + 1 < wr.heap.size) (fun o _ => n - (intOf o).toNat)
        case atStart => exact ⟨0, Nat.zero_le _, rfl, HU.out.congr (fun i _ => by by_cases h : i < k <;> simp [h, reS]), HV.out.congr (fun i _ => by by_cases h : i < k <;> simp [h, imS]), Hb.out, hsz⟩
        case round =>
          obtain ⟨j, hj, rfl, hU, hV, hb, hsz2⟩ := hrel
          by_cases hjl : j < n
          · have hjl' : (j : Int) < n := by omega
            obtain ⟨ad, rfl, hc1⟩ := (HRx.out _ hb).cell j hjl
            obtain ⟨ad', rfl, hc2⟩ := (HRy.out _ hb).cell j hjl
            have hcx : wr.cell? (ad.add j) = some (.int .i64 (x j)) := hc1
            have hcy : wr.cell? (ad'.add j) = some (.int .i64 (y j)) := hc2
            obtain ⟨V, hVe⟩ : ∃ V, 4 * j * k = V := ⟨_, rfl⟩
            have hVl : V ≤ 64 := by rw [← hVe]; exact Nat.le_trans (Nat.mul_le_mul (Nat.mul_le_mul_left 4 (show j ≤ 4 by omega)) (show k ≤ 4 by omega)) (by decide)
            obtain ⟨Qt, hQe⟩ : ∃ Q, V / n = Q := ⟨_, rfl⟩
            obtain ⟨R, hRe⟩ : ∃ R, Qt % 4 = R := ⟨_, rfl⟩
            have hrot : rot n k j = R := by unfold rot; rw [hVe, hQe, hRe]
            have g1 : 4 * (j : Int) * k = (V : Int) := by rw [← hVe]; rfl
            have g2 : (V : Int) / n = (Qt : Int) := by rw [← hQe]; rfl
            have g3 : (Qt : Int) % 4 = (R : Int) := by rw [← hRe]; rfl
            have g4 : (n : Int) ≠ 0 := by omega
            have g5 : R < 4 := by omega
            have g6 : Qt ≤ 64 := by rw [← hQe]; exact Nat.le_trans (Nat.div_le_self _ _) hVl
            have Hrot := Lib.hid hrot
            have HU2 := Lib.hid hU
            have HV2 := Lib.hid hV
            have Hb2 := Lib.hid hb
            clear hc1 hc2 hVe hQe hRe hrot hU hV hb
            go_wp2_with fail
            go_quiet (fail)
            go_wp2_with fail
            go_loopw [12, 13, 14, 15, 66] (fun a b s t o wz => ∃ q : Nat, ∃ va vb vs vt : Int, q ≤ R ∧ a = .int .i64 va ∧ b = .int .i64 vb ∧ s = .int .i64 vs ∧ t = .int .i64 vt ∧ o = .int .i64 q ∧ Hid (va = rA q (x j) (y j) ∧ vb = rA q (y j) (x j) ∧ vs = rsN q ∧ vt = rtN q) ∧ (-1 ≤ vs ∧ vs ≤ 1) ∧ (-1 ≤ vt ∧ vt ≤ 1) ∧ wz = wr.drewN nq) (fun _ _ _ _ o _ => R - (intOf o).toNat)
            case atStart => exact ⟨0, x j, y j, 1, 1, Nat.zero_le _, rfl, rfl, rfl, rfl, rfl, ⟨rfl, rfl, rfl, rfl⟩, by decide, by decide, rfl⟩
            case round =>
              obtain ⟨q, va, vb, vs, vt, hq, rfl, rfl, rfl, rfl, rfl, HQ, ⟨b1, b2⟩, ⟨b3, b4⟩, rfl⟩ := hrel
              by_cases hqR : q < R
              · have hqR' : (q : Int) < R := by omega
                have HQ2 : Hid (vb = rA (q + 1) (x j) (y j) ∧ va = rA (q + 1) (y j) (x j) ∧ vt = rsN (q + 1) ∧ -vs = rtN (q + 1)) := by
                  obtain ⟨e1, e2, e3, e4⟩ := HQ.out
                  exact ⟨by rw [rA_succ, e2], by rw [rA_succ, e1], by rw [rs_succ, e4], by rw [rt_succ, e3]⟩
                go_wp2_with fail
                go_roundw
                case rel => exact ⟨q + 1, vb, va, vt, -vs, by omega, rfl, rfl, rfl, rfl, by go_num, HQ2.out, ⟨b3, b4⟩, ⟨by omega, by omega⟩, by trivial⟩
                case measure => simp only [intOf]; omega
              · obtain rfl : q = R := by omega
                obtain ⟨e1, e2, e3, e4⟩ := HQ.out
                have i1 : i64B va := by rw [e1]; exact rA_i64 (Hx.out j) (Hy.out j)
                have i2 : i64B vb := by rw [e2]; exact rA_i64 (Hy.out j) (Hx.out j)
                have i3 : i64B vs := ⟨by omega, by omega⟩
                have i4 : i64B vt := ⟨by omega, by omega⟩
                have HI := Lib.hid (And.intro i1 (And.intro i2 (And.intro i3 i4)))
                have HE1 := Lib.hid (And.intro e1 (And.intro e2 (And.intro e3 e4)))
                clear i1 i2 i3 i4 e1 e2 e3 e4
                go_wp2_with (first
                  | (go_at_call_of 38 (Value.int .i64 vb); refine (wadd3 (HV2.out.oth3 hne.symm (k * 3) s0 s1 s2) k hlt vb vt HI.out.2.1 HI.out.2.2.2 _ ?_).mono ?_; rfl; rintro e w6 ⟨k6, r6, t0, t1, t2, rfl, hR6, rfl⟩; have HR6 := Lib.hid hR6; clear hR6)
                  | (go_at_call_of 38 (Value.int .i64 va); refine (wadd3 HU2.out k hlt va vs HI.out.1 HI.out.2.2.1 _ ?_).mono ?_; rfl; rintro e w5 ⟨k5, r5, s0, s1, s2, rfl, hR5, rfl⟩; have HR5 := Lib.hid hR5; clear hR5))
                all_goals
                  go_roundw
                  case rel => exact ⟨j + 1, by omega, by go_num,
                    (((((HU2.out.drewN nq).put3 k _ s0 s1 s2 hlt HR5.out).drewN k5).oth3 hne (k * 3) t0 t1 t2).drewN k6).congr (fun i _ => tab_step k (fun i => reS n x y i n) (reS n x y k j) (reS n x y k (j + 1)) _ (by obtain ⟨e1, e2, e3, e4⟩ := HE1.out; rw [reS, Hrot.out, e1, e3]; simp) i),
                    (((((HV2.out.drewN nq).oth3 hne.symm (k * 3) s0 s1 s2).drewN k5).put3 k _ t0 t1 t2 hlt HR6.out).drewN k6).congr (fun i _ => tab_step k (fun i => imS n x y i n) (imS n x y k j) (imS n x y k (j + 1)) _ (by obtain ⟨e1, e2, e3, e4⟩ := HE1.out; rw [imS, Hrot.out, e2, e4]; simp) i),
                    below_drewN (below3 (below_drewN (below3 (below_drewN Hb2.out nq) (by omega) (k * 3) s0 s1 s2) k5) (by omega) (k * 3) t0 t1 t2) k6, by show _ < (upd3 _ _ _ _ _ _).heap.size; rw [size3]; show _ < (upd3 _ _ _ _ _ _).heap.size; rw [size3]; exact hsz2⟩
                  case measure => simp only [intOf]; omega
          · obtain rfl : j = n := by omega
            have HU2 := Lib.hid hU
            have HV2 := Lib.hid hV
            have Hb2 := Lib.hid hb
            clear hU hV hb
            go_wp2_with fail
            go_roundw
            case rel => exact ⟨k + 1, by omega, by go_num, HU2.out.congr (fun i _ => tab_end k (fun i => reS j x y i j) (reS j x y k j) rfl i), HV2.out.congr (fun i _ => tab_end k (fun i => imS j x y i j) (imS j x y k j) rfl i), Hb2.out, hsz2⟩
            case measure => simp only [intOf]; omega
      · obtain rfl : k = n := by omega
        have hU' := HU.out.congr (T := fun i => reS k x y i k) (fun i hi => by rw [if_pos hi])
        have hV' := HV.out.congr (T := fun i => imS k x y i k) (fun i hi => by rw [if_pos hi])
        have HbB : Hid (Below w.heap.size w wr) := by show Below _ _ _; rw [hB0]; exact Hb.out
        have HWu := Lib.hid (whole_any ea (B0 + 1) k k _ wr hU' (by omega) (by omega) (Nat.le_refl _) (by omega) (HEr.out _ Hb.out) (fun i _ => by have := reS_le (n := k) Hx.out Hy.out i k; omega))
        have HWv := Lib.hid (fun (w5 : World) (h5 : Below wr.heap.size wr w5) => whole_any ea (B0) k k _ w5 (hV'.below (by omega) h5) (by have := h5.size; omega) (by omega) (Nat.le_refl _) (by omega) ((HEr.out _ Hb.out).below h5) (fun i _ => by have := imS_le (n := k) Hx.out Hy.out i k; omega))
        have hc1 : Hid (∀ w6, Below wr.heap.size wr w6 → w6.cell? ⟨1, 0, none⟩ = some (.iface 110 (.pointer (some (ea 1))))) := fun w6 h6 => ((HEr.out _ Hb.out).below h6).cell 1 (by decide)
        have e3 : eV ea 1 = .iface 110 (.pointer (some (ea 1))) := rfl
        clear hU' hV'
        go_wp2_with (first
          | (go_at_call_of 39 (Value.slice (some ⟨B0, 0, none⟩) k k); refine (HWv.out _ Hb5.out).mono ?_; rintro e w6 ⟨hcase, hb6⟩; have Hb6 := Lib.hid (Hb5.out.trans (hb6.mono Hb5.out.size)); have hcE := hc1.out _ Hb6.out; have hb6' := Lib.hid hb6; clear hb6; rcases hcase with ⟨F2, A6, c6, rfl, hB6⟩ | ⟨F2, rfl⟩)
          | (go_at_call 39; refine HWu.out.mono ?_; rintro e w5 ⟨hcase, hb5⟩; have Hb5 := Lib.hid hb5; clear hb5; rcases hcase with ⟨F1, A5, c5, rfl, hB5⟩ | ⟨F1, rfl⟩))
        all_goals first
          | (go_ret3; exact sr_ok HbB.out Hb5.out hb6'.out hB5 hB6 F1 F2)
          | (go_quiet (fail); go_wp2_with fail; go_ret3; exact sr_err (by first | exact .inl F1 | exact .inr F2) (below_drewN (HbB.out.trans (Hb6.out.mono HbB.out.size)) _))
end Go.Proofs.YtppebegleedifaaDoor
