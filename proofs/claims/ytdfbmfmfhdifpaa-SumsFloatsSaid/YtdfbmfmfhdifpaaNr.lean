/- The reference's Exact: the walk. -/
import Derived.Test.YtdfbmfmfhdifpaaNq
namespace Go.Proofs.Ytdfbmfmfhdifpaa
open Go.RowKit
theorem run_eql_ff (N : Int) (k : Int) (h : N ≠ k) (w : World) : (binOp .eql 39 (.int .u64 N) (.int .u64 k)).run Try.prog w = .ok (.bool false) w := by
  simp [binOp, Op.intCmp, h]
theorem run_and (N k v : Int) (h : bits .and .u64 N k = v) (w : World) : (binOp .and 39 (.int .u64 N) (.int .u64 k)).run Try.prog w = .ok (.int .u64 v) w := by
  subst h
  simp [binOp, Op.intBits]
  rfl
theorem run_or (N k v : Int) (h : bits .or .u64 N k = v) (w : World) : (binOp .or 39 (.int .u64 N) (.int .u64 k)).run Try.prog w = .ok (.int .u64 v) w := by
  subst h
  simp [binOp, Op.intBits]
  rfl
theorem run_lss_t (N : Int) (k : Int) (h : N < k) (w : World) : (binOp .lss 39 (.int .u64 N) (.int .u64 k)).run Try.prog w = .ok (.bool true) w := by
  simp [binOp, Op.intCmp, h]
theorem seenF_true {g : Nat → Nat} {k n c : Nat} (hk : k < n) (h : cN (g k) = c) : seenF g n c = true := by
  induction n with
  | zero => omega
  | succ n ih =>
    rw [seenF]
    by_cases e : c = cN (g n)
    · rw [if_pos e]
    · rw [if_neg e]
      refine ih ?_
      rcases Nat.lt_or_ge k n with h' | h'
      · exact h'
      · exfalso
        have : k = n := by omega
        subst this
        exact e h.symm
theorem nt_nil (w : World) (B e : Nat) : Nt w (some ⟨B, 0, none⟩) 0 0 0 := ⟨RS.nil _ _ _ _ (by omega), by have := Mx_pos 0; exact this, fun h => absurd rfl h⟩
theorem rxr_start (g : Nat → Nat) (n : Nat) (w : World) :
    RxR g n w ((w.alloc (Obj.cells #[] 42)).alloc (Obj.cells #[] 42)) 0 false false (decide (0 < n)) (some ⟨w.heap.size, 0, none⟩) 0 0 0 (some ⟨w.heap.size + 1, 0, none⟩) 0 0 0 :=
  ⟨rfl, rfl, rfl, fun _ _ => by rw [all4, Bool.and_true], nt_nil _ _ 0, nt_nil _ _ 0, rfl, Nat.zero_le _, Nat.zero_le _, ((Below.refl _ _).alloc (Nat.le_refl _) _).alloc (by simp) _⟩
theorem shift_unit (k : Nat) (hk : k = 1074) (A : Option Addr) (n c : Nat) (w : World) (h : Nt w A n c 1) (hn : n ≤ 100000) :
    Calls Try.prog 34 #[.slice A n c, .int .i64 1074] w (NRet (2 ^ k) w) := by
  have := shift_any A n c 1 k w h hn (by omega)
  rw [Nat.one_mul, show ((k : Nat) : Int) = 1074 by omega] at this
  exact this
theorem drew_nt {w : World} {A : Option Addr} {n c N : Nat} (h : Nt w A n c N) (m : Nat) : Nt (w.drewN m) A n c N := ⟨h.rs.drewN _, h.lt, h.top⟩
theorem below_of_drew {w w' : World} {m : Nat} (h : Below (w.drewN m).heap.size (w.drewN m) w') : Below w.heap.size w w' := ⟨h.os, h.tape, h.output, h.size, h.block⟩
theorem mi_true {n : Nat} {x : Bool} (h : true = (decide (0 < n) && x)) : n ≠ 0 ∧ x = true := by
  by_cases h0 : 0 < n
  · rw [decide_eq_true h0] at h; exact ⟨by omega, h.symm⟩
  · rw [decide_eq_false h0] at h; cases h
theorem mi_false {n : Nat} {x : Bool} (h : false = (decide (0 < n) && x)) : ¬ (n ≠ 0 ∧ x = true) := by
  rintro ⟨h1, h2⟩
  rw [decide_eq_true (show 0 < n by omega), h2] at h
  cases h
theorem of_len {w : World} {A : Option Addr} {n c N : Nat} (h : Nt w A n c N) (hN : N < 9007199254740992) : n ≤ 67 := by
  have : n ≤ 2 := h.len_le (by unfold Mx; omega)
  omega
set_option maxRecDepth 8000 in
set_option maxHeartbeats 4000000 in
theorem exactR_any (A : Option Addr) (n c : Nat) (g : Nat → Nat) (w : World) (hg : ∀ j, j < n → g j < 18446744073709551616) (hgc : ∀ j, j < n → cn (g j) = g j) (hr : RS w A n c (fl g))
    (hn : n ≤ 8192) : Calls Try.prog 18 #[.slice A n c] w (Fretb (exactG g n) w) := by
  have hm := hr.cm
  have hnc := hr.nc
  have Hg := Lib.hid hg
  have Hgc := Lib.hid hgc
  have HSW : Hid (∀ w', Below w.heap.size w w' → Hid (RS w' A n c (fl g))) := fun w' hb => hr.below hb
  have H0 := Lib.hid (rxr_start g n w)
  clear hg hgc hr
  go_enter Try.func18, Try.ntmps18
  go_wp2_with fail
  generalize (w.alloc (Obj.cells #[] 42)).alloc (Obj.cells #[] 42) = w0 at *
  go_loopw [3, 4, 5, 6, 7, 27] (fun s3 s4 s5 s6 s7 i wr => ∃ (k : Nat) (ab be mn : Bool) (Pa : Option Addr) (pn pc P : Nat) (Qa : Option Addr) (qn qc Q : Nat), k ≤ n ∧ s3 = .bool ab ∧ s4 = .bool be ∧ s5 = .bool mn ∧ s6 = .slice Pa pn pc ∧ s7 = .slice Qa qn qc ∧ i = .int .i64 k ∧ Hid (RxR g n w wr k ab be mn Pa pn pc P Qa qn qc Q)) (fun _ _ _ _ _ i _ => n - (intOf i).toNat)
  case atStart => exact ⟨0, _, _, _, _, _, _, _, _, _, _, _, Nat.zero_le _, rfl, rfl, rfl, rfl, rfl, rfl, H0.out⟩
  case round =>
    obtain ⟨k, ab, be, mn, Pa, pn, pc, P, Qa, qn, qc, Q, hk, rfl, rfl, rfl, rfl, rfl, rfl, HE⟩ := hrel
    clear H0
    have hPc := HE.out.hp.rs.cm
    have hPn := HE.out.hp.rs.nc
    have hQc := HE.out.hq.rs.cm
    have hQn := HE.out.hq.rs.nc
    by_cases hlt : k < n
    · have hrr := (HSW.out wr HE.out.bel).out
      have hgk := Hg.out k hlt
      have Hck := Lib.hid (Hgc.out k hlt)
      have Hgk := Lib.hid hgk
      have hgi : (g k : Int) < 18446744073709551616 := by omega
      rcases cls_of (g k) hgk Hck.out with ⟨h1, h2⟩ | ⟨h1, h2⟩ | ⟨h1, h2⟩ | ⟨h1, h2, h3, h4, h5, h6, h7, h8⟩
      · have E1 := Lib.hid (show (g k : Int) = 9221120237041090560 by omega)
        have HN := Lib.hid (exactG_nan (n := n) (by rw [seenF_true hlt h2]; rfl))
        clear h1 h2
        go_wp2_with (first
          | ((with_reducible show wpList _ _ _ (⟨some 29, _, _, _, _, _⟩ :: _) _ _); refine wpl_ix rfl 24 26 _ _ rfl Try.underlying24 cells26 A n c k _ _ (fl g) rfl rfl rfl hlt hrr ?_; intro p hp)
          | (go_at_call 31; refine (bits_ref _ _).mono ?_; rintro e w1 ⟨rfl, rfl⟩; rw [Hck.out])
          | ((with_reducible show wpList _ _ _ (⟨some 35, _, _, _, _, _⟩ :: _) _ _); refine wpl_bin rfl .eql _ _ _ _ rfl _ _ _ rfl rfl rfl (run_eql_t _ _ E1.out _) ?_; simp only [Act.put, List.setIfInBounds_toArray, List.set_cons_succ, List.set_cons_zero])
          | (go_at_call 22; refine (float_any nanW _).mono ?_; rintro e w2 ⟨rfl, rfl⟩))
        go_ret
        exact ⟨_, rfl, cn_lt64 _ (by decide), by rw [cn_cn, HN.out], HE.out.bel⟩
      · have E1 := Lib.hid (show (g k : Int) ≠ 9221120237041090560 by omega)
        have E2 := Lib.hid (show (g k : Int) = 9218868437227405312 by omega)
        have HS := Lib.hid (HE.out.inf h2)
        clear h1 h2
        go_wp2_with (first
          | ((with_reducible show wpList _ _ _ (⟨some 29, _, _, _, _, _⟩ :: _) _ _); refine wpl_ix rfl 24 26 _ _ rfl Try.underlying24 cells26 A n c k _ _ (fl g) rfl rfl rfl hlt hrr ?_; intro p hp)
          | (go_at_call 31; refine (bits_ref _ _).mono ?_; rintro e w1 ⟨rfl, rfl⟩; rw [Hck.out])
          | ((with_reducible show wpList _ _ _ (⟨some 35, _, _, _, _, _⟩ :: _) _ _); refine wpl_bin rfl .eql _ _ _ _ rfl _ _ _ rfl rfl rfl (run_eql_ff _ _ E1.out _) ?_; simp only [Act.put, List.setIfInBounds_toArray, List.set_cons_succ, List.set_cons_zero])
          | ((with_reducible show wpList _ _ _ (⟨some 38, _, _, _, _, _⟩ :: _) _ _); refine wpl_bin rfl .eql _ _ _ _ rfl _ _ _ rfl rfl rfl (run_eql_t _ _ E2.out _) ?_; simp only [Act.put, List.setIfInBounds_toArray, List.set_cons_succ, List.set_cons_zero]))
        go_roundw
        case rel => exact ⟨k + 1, true, be, mn, Pa, pn, pc, P, Qa, qn, qc, Q, by omega, rfl, rfl, rfl, rfl, rfl, by go_num, HS.out⟩
        case measure => simp [intOf]; omega
      · have E1 := Lib.hid (show (g k : Int) ≠ 9221120237041090560 by omega)
        have E2 := Lib.hid (show (g k : Int) ≠ 9218868437227405312 by omega)
        have E3 := Lib.hid (show (g k : Int) = 18442240474082181120 by omega)
        have HS := Lib.hid (HE.out.ninf h2)
        clear h1 h2
        go_wp2_with (first
          | ((with_reducible show wpList _ _ _ (⟨some 29, _, _, _, _, _⟩ :: _) _ _); refine wpl_ix rfl 24 26 _ _ rfl Try.underlying24 cells26 A n c k _ _ (fl g) rfl rfl rfl hlt hrr ?_; intro p hp)
          | (go_at_call 31; refine (bits_ref _ _).mono ?_; rintro e w1 ⟨rfl, rfl⟩; rw [Hck.out])
          | ((with_reducible show wpList _ _ _ (⟨some 35, _, _, _, _, _⟩ :: _) _ _); refine wpl_bin rfl .eql _ _ _ _ rfl _ _ _ rfl rfl rfl (run_eql_ff _ _ E1.out _) ?_; simp only [Act.put, List.setIfInBounds_toArray, List.set_cons_succ, List.set_cons_zero])
          | ((with_reducible show wpList _ _ _ (⟨some 38, _, _, _, _, _⟩ :: _) _ _); refine wpl_bin rfl .eql _ _ _ _ rfl _ _ _ rfl rfl rfl (run_eql_ff _ _ E2.out _) ?_; simp only [Act.put, List.setIfInBounds_toArray, List.set_cons_succ, List.set_cons_zero])
          | ((with_reducible show wpList _ _ _ (⟨some 40, _, _, _, _, _⟩ :: _) _ _); refine wpl_bin rfl .eql _ _ _ _ rfl _ _ _ rfl rfl rfl (run_eql_t _ _ E3.out _) ?_; simp only [Act.put, List.setIfInBounds_toArray, List.set_cons_succ, List.set_cons_zero]))
        go_roundw
        case rel => exact ⟨k + 1, ab, true, mn, Pa, pn, pc, P, Qa, qn, qc, Q, by omega, rfl, rfl, rfl, rfl, rfl, by go_num, HS.out⟩
        case measure => simp [intOf]; omega
      · have E1 := Lib.hid (show (g k : Int) ≠ 9221120237041090560 by omega)
        have E2 := Lib.hid (show (g k : Int) ≠ 9218868437227405312 by omega)
        have E3 := Lib.hid (show (g k : Int) ≠ 18442240474082181120 by omega)
        have HA := Lib.hid (and63 (g k) hgk)
        have HL := Lib.hid (HE.out.lens (by omega))
        have hq0 := fQ_lt (g k)
        have hf0 := fM_lt (g k)
        have hfM : Hid (fM (g k % 9223372036854775808) = fM (g k)) := fM_mod _
        have hfQ : Hid (fQ (g k % 9223372036854775808) = fQ (g k)) := fQ_mod _
        have HH := Lib.hid (And.intro h4 (And.intro h5 (And.intro h6 (And.intro h7 h8))))
        have hqi : (fQ (g k) : Int) < 2047 := by omega
        rcases Nat.lt_or_ge (g k) 9223372036854775808 with hs | hs
        · have EL := Lib.hid (show (g k : Int) < 9223372036854775808 by omega)
          have EE : ((g k : Int) == 9223372036854775808) = false := by simp; omega
          have Hs := Lib.hid hs
          have H4 : Hid (cN (g k) ≠ 4) := Lib.hid (fun e => by have := h8.1 e; omega)
          clear h1 h2 h3 h4 h5 h6 h7 h8 hs
          cases mn
          all_goals
            go_wp2_with (first
              | ((with_reducible show wpList _ _ _ (⟨some 29, _, _, _, _, _⟩ :: _) _ _); refine wpl_ix rfl 24 26 _ _ rfl Try.underlying24 cells26 A n c k _ _ (fl g) rfl rfl rfl hlt hrr ?_; intro p hp)
              | (go_at_call 31; refine (bits_ref _ _).mono ?_; rintro e w1 ⟨rfl, rfl⟩; rw [Hck.out])
              | ((with_reducible show wpList _ _ _ (⟨some 35, _, _, _, _, _⟩ :: _) _ _); refine wpl_bin rfl .eql _ _ _ _ rfl _ _ _ rfl rfl rfl (run_eql_ff _ _ E1.out _) ?_; simp only [Act.put, List.setIfInBounds_toArray, List.set_cons_succ, List.set_cons_zero])
              | ((with_reducible show wpList _ _ _ (⟨some 38, _, _, _, _, _⟩ :: _) _ _); refine wpl_bin rfl .eql _ _ _ _ rfl _ _ _ rfl rfl rfl (run_eql_ff _ _ E2.out _) ?_; simp only [Act.put, List.setIfInBounds_toArray, List.set_cons_succ, List.set_cons_zero])
              | ((with_reducible show wpList _ _ _ (⟨some 40, _, _, _, _, _⟩ :: _) _ _); refine wpl_bin rfl .eql _ _ _ _ rfl _ _ _ rfl rfl rfl (run_eql_ff _ _ E3.out _) ?_; simp only [Act.put, List.setIfInBounds_toArray, List.set_cons_succ, List.set_cons_zero])
              | ((with_reducible show wpList _ _ _ (⟨some 48, _, _, _, _, _⟩ :: _) _ _); refine wpl_bin rfl .and _ _ _ _ rfl _ _ _ rfl rfl rfl (run_and _ _ _ HA.out _) ?_; simp only [Act.put, List.setIfInBounds_toArray, List.set_cons_succ, List.set_cons_zero])
              | (go_at_call 33; refine (parts_any (g k % 9223372036854775808) (by omega) _).mono ?_; rintro e w2 ⟨rfl, rfl⟩; rw [hfM.out, hfQ.out])
              | (go_at_call 35; refine (of_any (fM (g k)) (by omega) _).mono ?_; rintro e w3 ⟨A3, n3, c3, rfl, h3, hb3⟩; have k5 := h3.rs.cm; have k6 := h3.rs.nc; have hn3 : n3 ≤ 67 := of_len h3 (by omega); have H3 := Lib.hid h3; have HB3 := Lib.hid hb3; clear h3 hb3)
              | (go_at_call 34; refine (shift_any A3 n3 c3 (fM (g k)) (fQ (g k)) _ H3.out (by omega) (by omega)).mono ?_; rintro e w4 ⟨A4, n4, c4, rfl, h4, hb4⟩; have k7 := h4.rs.cm; have k8 := h4.rs.nc; have hn4 : n4 ≤ 1000 := by { have := shl_lenG (m := 67) (d := 64) h4 H3.out hn3 (by omega); omega }; have H4' := Lib.hid h4; have HB4 := Lib.hid (HB3.out.trans (hb4.mono HB3.out.size)); clear h4 hb4)
              | ((with_reducible show wpList _ _ _ (⟨some 58, _, _, _, _, _⟩ :: _) _ _); refine wpl_bin rfl .lss _ _ _ _ rfl _ _ _ rfl rfl rfl (run_lss_t _ _ EL.out _) ?_; simp only [Act.put, List.setIfInBounds_toArray, List.set_cons_succ, List.set_cons_zero])
              | (go_at_call 36; refine (add2_any Pa pn pc P A4 n4 c4 _ _ (HE.out.hp.below HB4.out) H4'.out (by have := HL.out.1; omega) (by omega)).mono ?_; rintro e w5 ⟨A5, n5, c5, rfl, h5, hb5⟩; have H5 := Lib.hid h5; have HB5 := Lib.hid (HB4.out.trans (hb5.mono HB4.out.size)); clear h5 hb5))
            go_roundw
            case rel => exact ⟨k + 1, ab, be, _, A5, n5, c5, _, Qa, qn, qc, Q, by omega, rfl, rfl, rfl, rfl, rfl, by go_num, HE.out.plus HH.out.2.2.2.1 HH.out.1 HH.out.2.1 HH.out.2.2.1 H4.out Hs.out rfl H5.out HB5.out⟩
            case measure => simp [intOf]; omega
        · have EL := Lib.hid (show (9223372036854775808 : Int) ≤ g k by omega)
          have Hs := Lib.hid hs
          by_cases hz : g k = 9223372036854775808
          · have EE : ((g k : Int) == 9223372036854775808) = true := by rw [hz]; rfl
            have Hz := Lib.hid hz
            clear h1 h2 h3 h4 h5 h6 h7 h8 hs hz
            cases mn
            all_goals
              go_wp2_with (first
                | ((with_reducible show wpList _ _ _ (⟨some 29, _, _, _, _, _⟩ :: _) _ _); refine wpl_ix rfl 24 26 _ _ rfl Try.underlying24 cells26 A n c k _ _ (fl g) rfl rfl rfl hlt hrr ?_; intro p hp)
                | (go_at_call 31; refine (bits_ref _ _).mono ?_; rintro e w1 ⟨rfl, rfl⟩; rw [Hck.out])
                | ((with_reducible show wpList _ _ _ (⟨some 35, _, _, _, _, _⟩ :: _) _ _); refine wpl_bin rfl .eql _ _ _ _ rfl _ _ _ rfl rfl rfl (run_eql_ff _ _ E1.out _) ?_; simp only [Act.put, List.setIfInBounds_toArray, List.set_cons_succ, List.set_cons_zero])
                | ((with_reducible show wpList _ _ _ (⟨some 38, _, _, _, _, _⟩ :: _) _ _); refine wpl_bin rfl .eql _ _ _ _ rfl _ _ _ rfl rfl rfl (run_eql_ff _ _ E2.out _) ?_; simp only [Act.put, List.setIfInBounds_toArray, List.set_cons_succ, List.set_cons_zero])
                | ((with_reducible show wpList _ _ _ (⟨some 40, _, _, _, _, _⟩ :: _) _ _); refine wpl_bin rfl .eql _ _ _ _ rfl _ _ _ rfl rfl rfl (run_eql_ff _ _ E3.out _) ?_; simp only [Act.put, List.setIfInBounds_toArray, List.set_cons_succ, List.set_cons_zero])
                | ((with_reducible show wpList _ _ _ (⟨some 48, _, _, _, _, _⟩ :: _) _ _); refine wpl_bin rfl .and _ _ _ _ rfl _ _ _ rfl rfl rfl (run_and _ _ _ HA.out _) ?_; simp only [Act.put, List.setIfInBounds_toArray, List.set_cons_succ, List.set_cons_zero])
                | (go_at_call 33; refine (parts_any (g k % 9223372036854775808) (by omega) _).mono ?_; rintro e w2 ⟨rfl, rfl⟩; rw [hfM.out, hfQ.out])
                | (go_at_call 35; refine (of_any (fM (g k)) (by omega) _).mono ?_; rintro e w3 ⟨A3, n3, c3, rfl, h3, hb3⟩; have k5 := h3.rs.cm; have k6 := h3.rs.nc; have hn3 : n3 ≤ 67 := of_len h3 (by omega); have H3 := Lib.hid h3; have HB3 := Lib.hid hb3; clear h3 hb3)
                | (go_at_call 34; refine (shift_any A3 n3 c3 (fM (g k)) (fQ (g k)) _ H3.out (by omega) (by omega)).mono ?_; rintro e w4 ⟨A4, n4, c4, rfl, h4, hb4⟩; have k7 := h4.rs.cm; have k8 := h4.rs.nc; have hn4 : n4 ≤ 1000 := by { have := shl_lenG (m := 67) (d := 64) h4 H3.out hn3 (by omega); omega }; have H4' := Lib.hid h4; have HB4 := Lib.hid (HB3.out.trans (hb4.mono HB3.out.size)); clear h4 hb4)
                | ((with_reducible show wpList _ _ _ (⟨some 58, _, _, _, _, _⟩ :: _) _ _); refine wpl_bin rfl .lss _ _ _ _ rfl _ _ _ rfl rfl rfl (run_lss_f _ _ EL.out _) ?_; simp only [Act.put, List.setIfInBounds_toArray, List.set_cons_succ, List.set_cons_zero])
                | (go_at_call 36; refine (add2_any Qa qn qc Q A4 n4 c4 _ _ (HE.out.hq.below HB4.out) H4'.out (by have := HL.out.2; omega) (by omega)).mono ?_; rintro e w5 ⟨A5, n5, c5, rfl, h5, hb5⟩; have H5 := Lib.hid h5; have HB5 := Lib.hid (HB4.out.trans (hb5.mono HB4.out.size)); clear h5 hb5))
              go_roundw
              case rel => exact ⟨k + 1, ab, be, _, Pa, pn, pc, P, A5, n5, c5, _, by omega, rfl, rfl, rfl, rfl, rfl, by go_num, HE.out.less HH.out.2.2.2.1 HH.out.1 HH.out.2.1 HH.out.2.2.1 HH.out.2.2.2.2 Hs.out (by first | (rw [decide_eq_true Hz.out]; rfl) | (rw [decide_eq_false Hz.out]; rfl) | rfl) H5.out HB5.out⟩
              case measure => simp [intOf]; omega
          · have EE : ((g k : Int) == 9223372036854775808) = false := by simp; omega
            have Hz := Lib.hid hz
            clear h1 h2 h3 h4 h5 h6 h7 h8 hs hz
            cases mn
            all_goals
              go_wp2_with (first
                | ((with_reducible show wpList _ _ _ (⟨some 29, _, _, _, _, _⟩ :: _) _ _); refine wpl_ix rfl 24 26 _ _ rfl Try.underlying24 cells26 A n c k _ _ (fl g) rfl rfl rfl hlt hrr ?_; intro p hp)
                | (go_at_call 31; refine (bits_ref _ _).mono ?_; rintro e w1 ⟨rfl, rfl⟩; rw [Hck.out])
                | ((with_reducible show wpList _ _ _ (⟨some 35, _, _, _, _, _⟩ :: _) _ _); refine wpl_bin rfl .eql _ _ _ _ rfl _ _ _ rfl rfl rfl (run_eql_ff _ _ E1.out _) ?_; simp only [Act.put, List.setIfInBounds_toArray, List.set_cons_succ, List.set_cons_zero])
                | ((with_reducible show wpList _ _ _ (⟨some 38, _, _, _, _, _⟩ :: _) _ _); refine wpl_bin rfl .eql _ _ _ _ rfl _ _ _ rfl rfl rfl (run_eql_ff _ _ E2.out _) ?_; simp only [Act.put, List.setIfInBounds_toArray, List.set_cons_succ, List.set_cons_zero])
                | ((with_reducible show wpList _ _ _ (⟨some 40, _, _, _, _, _⟩ :: _) _ _); refine wpl_bin rfl .eql _ _ _ _ rfl _ _ _ rfl rfl rfl (run_eql_ff _ _ E3.out _) ?_; simp only [Act.put, List.setIfInBounds_toArray, List.set_cons_succ, List.set_cons_zero])
                | ((with_reducible show wpList _ _ _ (⟨some 48, _, _, _, _, _⟩ :: _) _ _); refine wpl_bin rfl .and _ _ _ _ rfl _ _ _ rfl rfl rfl (run_and _ _ _ HA.out _) ?_; simp only [Act.put, List.setIfInBounds_toArray, List.set_cons_succ, List.set_cons_zero])
                | (go_at_call 33; refine (parts_any (g k % 9223372036854775808) (by omega) _).mono ?_; rintro e w2 ⟨rfl, rfl⟩; rw [hfM.out, hfQ.out])
                | (go_at_call 35; refine (of_any (fM (g k)) (by omega) _).mono ?_; rintro e w3 ⟨A3, n3, c3, rfl, h3, hb3⟩; have k5 := h3.rs.cm; have k6 := h3.rs.nc; have hn3 : n3 ≤ 67 := of_len h3 (by omega); have H3 := Lib.hid h3; have HB3 := Lib.hid hb3; clear h3 hb3)
                | (go_at_call 34; refine (shift_any A3 n3 c3 (fM (g k)) (fQ (g k)) _ H3.out (by omega) (by omega)).mono ?_; rintro e w4 ⟨A4, n4, c4, rfl, h4, hb4⟩; have k7 := h4.rs.cm; have k8 := h4.rs.nc; have hn4 : n4 ≤ 1000 := by { have := shl_lenG (m := 67) (d := 64) h4 H3.out hn3 (by omega); omega }; have H4' := Lib.hid h4; have HB4 := Lib.hid (HB3.out.trans (hb4.mono HB3.out.size)); clear h4 hb4)
                | ((with_reducible show wpList _ _ _ (⟨some 58, _, _, _, _, _⟩ :: _) _ _); refine wpl_bin rfl .lss _ _ _ _ rfl _ _ _ rfl rfl rfl (run_lss_f _ _ EL.out _) ?_; simp only [Act.put, List.setIfInBounds_toArray, List.set_cons_succ, List.set_cons_zero])
                | (go_at_call 36; refine (add2_any Qa qn qc Q A4 n4 c4 _ _ (HE.out.hq.below HB4.out) H4'.out (by have := HL.out.2; omega) (by omega)).mono ?_; rintro e w5 ⟨A5, n5, c5, rfl, h5, hb5⟩; have H5 := Lib.hid h5; have HB5 := Lib.hid (HB4.out.trans (hb5.mono HB4.out.size)); clear h5 hb5))
              go_roundw
              case rel => exact ⟨k + 1, ab, be, _, Pa, pn, pc, P, A5, n5, c5, _, by omega, rfl, rfl, rfl, rfl, rfl, by go_num, HE.out.less HH.out.2.2.2.1 HH.out.1 HH.out.2.1 HH.out.2.2.1 HH.out.2.2.2.2 Hs.out (by first | (rw [decide_eq_true Hz.out]; rfl) | (rw [decide_eq_false Hz.out]; rfl) | rfl) H5.out HB5.out⟩
              case measure => simp [intOf]; omega
    · obtain rfl : n = k := by omega
      have HL := Lib.hid (HE.out.lens (by omega))
      have Hbel := Lib.hid HE.out.bel
      cases ab
      · cases be
        · rcases Nat.lt_trichotomy P Q with hPQ | hPQ | hPQ
          · have HC := Lib.hid (show cmpI P Q = -1 by unfold cmpI; rw [if_pos hPQ])
            have hs0 : sumF g n ≠ 0 := by rw [HE.out.sm]; omega
            have HG := Lib.hid (exactG_sum HE.out.s9 HE.out.s8 HE.out.s1 hs0)
            have HW : Hid (Fl.D.word (sumF g n < 0) (Fl.rung (sumF g n).natAbs 0) = 9223372036854775808 + Fl.rung (Q - P) 0) := by
              show _ = _
              have e1 : sumF g n < 0 := by rw [HE.out.sm]; omega
              have e2 : (sumF g n).natAbs = Q - P := by rw [HE.out.sm]; omega
              rw [decide_eq_true e1, word_true, e2]
            obtain ⟨V, hV⟩ : ∃ V, Fl.rung (Q - P) 0 = V := ⟨_, rfl⟩
            have hVl : V ≤ 9218868437227405312 := by rw [← hV]; exact rung_le _ _
            have HO := Lib.hid (or63 V (by omega))
            have HV := Lib.hid hV
            have HD := Lib.hid (show Q - P ≠ 0 by omega)
            have HDl := Lib.hid (show Q - P < Mx 67 from Nat.lt_of_le_of_lt (Nat.sub_le _ _) (Mx67 hn HE.out.ql))
            have Hle := Lib.hid (show P ≤ Q by omega)
            clear hPQ hs0 hV
            obtain ⟨u, hu⟩ : ∃ u, u = 1074 := ⟨1074, rfl⟩
            go_wp2_with (first
              | (go_at_call 38; refine (compare_any Pa pn pc P Qa qn qc Q _ HE.out.hp HE.out.hq (by have := HL.out.1; omega)).mono ?_; rintro e w2 ⟨m, rfl, rfl⟩; rw [HC.out])
              | (go_at_call 35; refine (of_any 1 (by decide) _).mono ?_; rintro e w3 ⟨A3, n3, c3, rfl, h3, hb3⟩; have k5 := h3.rs.cm; have k6 := h3.rs.nc; have hn3 : n3 ≤ 67 := of_len h3 (by decide); have H3 := Lib.hid h3; have HB3 := Lib.hid hb3; clear h3 hb3)
              | (go_at_call 34; refine (shift_unit u hu A3 n3 c3 _ H3.out (by omega)).mono ?_; rintro e w4 ⟨A4, n4, c4, rfl, h4, hb4⟩; have k7 := h4.rs.cm; have k8 := h4.rs.nc; have H4' := Lib.hid h4; have HB4 := Lib.hid (below_of_drew (HB3.out.trans (hb4.mono HB3.out.size))); clear h4 hb4)
              | (go_at_call 40; refine (sub2_any Qa qn qc Q Pa pn pc P _ (HE.out.hq.below HB4.out) (HE.out.hp.below HB4.out) Hle.out (by have := HL.out.2; omega)).mono ?_; rintro e w5 ⟨A5, n5, c5, rfl, h5, hb5⟩; have k9 := h5.rs.cm; have k10 := h5.rs.nc; have hn5 : n5 ≤ 67 := h5.len_le HDl.out; have H5 := Lib.hid h5; have HX5 := Lib.hid (H4'.out.below hb5); have HB5 := Lib.hid (HB4.out.trans (hb5.mono HB4.out.size)); clear h5 hb5)
              | (go_at_call 39; refine (nearest_any A5 n5 c5 (Q - P) A4 n4 c4 u hu _ H5.out HX5.out (by omega) HD.out).mono ?_; rw [HV.out]; rintro e w6 ⟨v6, rfl, hb6⟩; have HB6 := Lib.hid (HB5.out.trans (hb6.mono HB5.out.size)); clear hb6)
              | ((with_reducible show wpList _ _ _ (⟨some 108, _, _, _, _, _⟩ :: _) _ _); refine wpl_bin rfl .or _ _ _ _ rfl _ _ _ rfl rfl rfl (run_or _ _ _ HO.out _) ?_; simp only [Act.put, List.setIfInBounds_toArray, List.set_cons_succ, List.set_cons_zero])
              | (go_at_call 22; refine (float_any (9223372036854775808 + V) _).mono ?_; rintro e w7 ⟨rfl, rfl⟩))
            go_ret
            exact ⟨_, rfl, cn_lt64 _ (by omega), by rw [cn_cn, HG.out, HW.out, HV.out], Hbel.out.trans (HB6.out.mono Hbel.out.size)⟩
          · have HC := Lib.hid (show cmpI P Q = 0 by unfold cmpI; rw [if_neg (by omega), if_neg (by omega)])
            have hs0 : sumF g n = 0 := by rw [HE.out.sm]; omega
            have HG := Lib.hid (exactG_zero HE.out.s9 HE.out.s8 HE.out.s1 hs0)
            have HM := Lib.hid (HE.out.mi rfl rfl)
            clear hPQ hs0
            cases mn
            · go_wp2_with (first
                | (go_at_call 38; refine (compare_any Pa pn pc P Qa qn qc Q _ HE.out.hp HE.out.hq (by have := HL.out.1; omega)).mono ?_; rintro e w2 ⟨m, rfl, rfl⟩; rw [HC.out]))
              go_ret
              exact ⟨_, rfl, by decide, by rw [HG.out, if_neg (mi_false HM.out)], below_drewN Hbel.out _⟩
            · go_wp2_with (first
                | (go_at_call 38; refine (compare_any Pa pn pc P Qa qn qc Q _ HE.out.hp HE.out.hq (by have := HL.out.1; omega)).mono ?_; rintro e w2 ⟨m, rfl, rfl⟩; rw [HC.out])
                | (go_at_call 22; refine (float_any 9223372036854775808 _).mono ?_; rintro e w7 ⟨rfl, rfl⟩))
              go_ret
              exact ⟨_, rfl, cn_lt64 _ (by decide), by rw [cn_cn, HG.out, if_pos (mi_true HM.out)], below_drewN Hbel.out _⟩
          · have HC := Lib.hid (show cmpI P Q = 1 by unfold cmpI; rw [if_neg (by omega), if_pos hPQ])
            have hs0 : sumF g n ≠ 0 := by rw [HE.out.sm]; omega
            have HG := Lib.hid (exactG_sum HE.out.s9 HE.out.s8 HE.out.s1 hs0)
            have HW : Hid (Fl.D.word (sumF g n < 0) (Fl.rung (sumF g n).natAbs 0) = Fl.rung (P - Q) 0) := by
              show _ = _
              have e1 : ¬ sumF g n < 0 := by rw [HE.out.sm]; omega
              have e2 : (sumF g n).natAbs = P - Q := by rw [HE.out.sm]; omega
              rw [decide_eq_false e1, word_false, e2]
            obtain ⟨V, hV⟩ : ∃ V, Fl.rung (P - Q) 0 = V := ⟨_, rfl⟩
            have hVl : V ≤ 9218868437227405312 := by rw [← hV]; exact rung_le _ _
            have HV := Lib.hid hV
            have HD := Lib.hid (show P - Q ≠ 0 by omega)
            have HDl := Lib.hid (show P - Q < Mx 67 from Nat.lt_of_le_of_lt (Nat.sub_le _ _) (Mx67 hn HE.out.pl))
            have Hle := Lib.hid (show Q ≤ P by omega)
            clear hPQ hs0 hV
            obtain ⟨u, hu⟩ : ∃ u, u = 1074 := ⟨1074, rfl⟩
            go_wp2_with (first
              | (go_at_call 38; refine (compare_any Pa pn pc P Qa qn qc Q _ HE.out.hp HE.out.hq (by have := HL.out.1; omega)).mono ?_; rintro e w2 ⟨m, rfl, rfl⟩; rw [HC.out])
              | (go_at_call 35; refine (of_any 1 (by decide) _).mono ?_; rintro e w3 ⟨A3, n3, c3, rfl, h3, hb3⟩; have k5 := h3.rs.cm; have k6 := h3.rs.nc; have hn3 : n3 ≤ 67 := of_len h3 (by decide); have H3 := Lib.hid h3; have HB3 := Lib.hid hb3; clear h3 hb3)
              | (go_at_call 34; refine (shift_unit u hu A3 n3 c3 _ H3.out (by omega)).mono ?_; rintro e w4 ⟨A4, n4, c4, rfl, h4, hb4⟩; have k7 := h4.rs.cm; have k8 := h4.rs.nc; have H4' := Lib.hid h4; have HB4 := Lib.hid (below_of_drew (HB3.out.trans (hb4.mono HB3.out.size))); clear h4 hb4)
              | (go_at_call 40; refine (sub2_any Pa pn pc P Qa qn qc Q _ (HE.out.hp.below HB4.out) (HE.out.hq.below HB4.out) Hle.out (by have := HL.out.1; omega)).mono ?_; rintro e w5 ⟨A5, n5, c5, rfl, h5, hb5⟩; have k9 := h5.rs.cm; have k10 := h5.rs.nc; have hn5 : n5 ≤ 67 := h5.len_le HDl.out; have H5 := Lib.hid h5; have HX5 := Lib.hid (H4'.out.below hb5); have HB5 := Lib.hid (HB4.out.trans (hb5.mono HB4.out.size)); clear h5 hb5)
              | (go_at_call 39; refine (nearest_any A5 n5 c5 (P - Q) A4 n4 c4 u hu _ H5.out HX5.out (by omega) HD.out).mono ?_; rw [HV.out]; rintro e w6 ⟨v6, rfl, hb6⟩; have HB6 := Lib.hid (HB5.out.trans (hb6.mono HB5.out.size)); clear hb6)
              | (go_at_call 22; refine (float_any V _).mono ?_; rintro e w7 ⟨rfl, rfl⟩))
            go_ret
            exact ⟨_, rfl, cn_lt64 _ (by omega), by rw [cn_cn, HG.out, HW.out, HV.out], Hbel.out.trans (HB6.out.mono Hbel.out.size)⟩
        · go_wp2_with (go_at_call 22; refine (float_any 18442240474082181120 _).mono ?_; rintro e w1 ⟨rfl, rfl⟩)
          go_ret
          exact ⟨_, rfl, cn_lt64 _ (by decide), by rw [cn_cn, exactG_ninf HE.out.s9 HE.out.s8 HE.out.s1], Hbel.out⟩
      · cases be
        · go_wp2_with (go_at_call 22; refine (float_any 9218868437227405312 _).mono ?_; rintro e w1 ⟨rfl, rfl⟩)
          go_ret
          exact ⟨_, rfl, cn_lt64 _ (by decide), by rw [cn_cn, exactG_inf HE.out.s9 HE.out.s8 HE.out.s1], Hbel.out⟩
        · go_wp2_with (go_at_call 37; refine (nanNumber_any _).mono ?_; rintro e w1 ⟨rfl, rfl⟩)
          go_ret
          exact ⟨_, rfl, by decide, by rw [exactG_nan (by rw [HE.out.s9, HE.out.s8, HE.out.s1]; rfl)], Hbel.out⟩
end Go.Proofs.Ytdfbmfmfhdifpaa
