/- Exact: the walk. -/
import Derived.Test.YtdfbmfmfhdifpaaEx
namespace Go.Proofs.Ytdfbmfmfhdifpaa
open Go.RowKit

theorem size44 : (Try.prog.info? 44).map (·.size) = some 70 := by kernel_rfl
theorem all4_succ_false {g : Nat → Nat} {k : Nat} (h : cN (g k) ≠ 4) : all4 g (k + 1) = false := by
  rw [all4]
  have : (cN (g k) == 4) = false := beq_eq_false_iff_ne.2 h
  rw [this, Bool.and_false]
theorem all4_false {g : Nat → Nat} {k n : Nat} (hk : k < n) (h : cN (g k) ≠ 4) : all4 g n = false := by
  obtain ⟨j, rfl⟩ : ∃ j, n = k + 1 + j := ⟨n - k - 1, by omega⟩
  induction j with
  | zero => exact all4_succ_false h
  | succ j ih => rw [show k + 1 + (j + 1) = (k + 1 + j) + 1 from by omega, all4, ih (by omega), Bool.false_and]
theorem all4_true {g : Nat → Nat} {k : Nat} (h0 : all4 g k = true) (h : cN (g k) = 4) : all4 g (k + 1) = true := by
  rw [all4, h0, h]; rfl
theorem exactG_nan {g : Nat → Nat} {n : Nat} (h : (seenF g n 9 || (seenF g n 8 && seenF g n 1)) = true) : exactG g n = nanW := by unfold exactG; rw [if_pos h]
theorem exactG_inf {g : Nat → Nat} {n : Nat} (h9 : seenF g n 9 = false) (h8 : seenF g n 8 = true) (h1 : seenF g n 1 = false) : exactG g n = 9218868437227405312 := by
  unfold exactG; rw [h9, h8, h1]; simp
theorem exactG_ninf {g : Nat → Nat} {n : Nat} (h9 : seenF g n 9 = false) (h8 : seenF g n 8 = false) (h1 : seenF g n 1 = true) : exactG g n = 18442240474082181120 := by
  unfold exactG; rw [h9, h8, h1]; simp
theorem exactG_sum {g : Nat → Nat} {n : Nat} (h9 : seenF g n 9 = false) (h8 : seenF g n 8 = false) (h1 : seenF g n 1 = false) (h : sumF g n ≠ 0) :
    exactG g n = Fl.D.word (sumF g n < 0) (Fl.rung (sumF g n).natAbs 0) := by
  unfold exactG; rw [h9, h8, h1, if_pos h]; simp
theorem exactG_zero {g : Nat → Nat} {n : Nat} (h9 : seenF g n 9 = false) (h8 : seenF g n 8 = false) (h1 : seenF g n 1 = false) (h : sumF g n = 0) :
    exactG g n = if n ≠ 0 ∧ all4 g n = true then 9223372036854775808 else 0 := by
  unfold exactG; rw [h9, h8, h1, if_neg (not_not_intro h)]; simp
theorem rung_le (a t : Nat) : Fl.rung a t ≤ 9218868437227405312 := by unfold Fl.rung; exact Nat.min_le_right _ _
theorem word_lt64 (s : Bool) (a t : Nat) : Fl.D.word s (Fl.rung a t) < 2 ^ 64 := by
  have := rung_le a t
  cases s
  · rw [word_false]; omega
  · rw [word_true]; omega
theorem repr_ne {S : Int} {k : Nat} (hk : k = 2239) (h0 : S ≠ 0) (h1 : S.natAbs < 2 ^ k) : repr S ≠ 0 := by
  have hM := M70_half k hk
  intro h
  have hc := repr_cast S
  rw [h] at hc
  by_cases hs : S < 0
  · have := (repr_neg hk hs h1).1
    rw [h] at this
    unfold turnN at this
    simp at this
    omega
  · have := (repr_pos hk (by omega) h1).1
    omega
theorem blen_pos {A : Nat} (h : A ≠ 0) : 0 < blen A := by unfold blen; rw [if_neg h]; omega
theorem blen_zero : blen (repr 0) = 0 := by rw [repr_zero]; rfl

set_option maxHeartbeats 4000000 in
theorem exact_any (A : Option Addr) (n c : Nat) (g : Nat → Nat) (w : World) (hg : ∀ j, j < n → g j < 18446744073709551616) (hr : RS w A n c (fl g))
    (hS : Hid (∀ k, k = 2239 → (sumF g n).natAbs < 2 ^ k)) :
    Calls Try.prog 12 #[.slice A n c] w (Fretb (exactG g n) w) := by
  have hz1 := run_zero41
  have hz2 := run_zero44
  have hm := hr.cm
  have hnc := hr.nc
  have Hg := Lib.hid hg
  clear hg
  go_enter Try.func12, Try.ntmps12
  go_wp2_with fail
  have h0 := exr_start g w
  have HR := Lib.hid hr
  clear hr hz1 hz2
  have HSW : Hid (∀ w', Below w.heap.size w w' → Hid (RS w' A n c (fl g))) := fun w' hb => HR.out.below hb
  obtain ⟨SB, hSB⟩ : ∃ SB, w.heap.size = SB := ⟨_, rfl⟩
  rw [hSB] at h0 HSW ⊢
  have H0 := Lib.hid h0
  clear h0 HR
  generalize (w.alloc (.cells Z10 41)).alloc (.cells Z70 44) = w0 at *
  go_loopw [6, 7, 12] (fun x cl i wr => ∃ k : Nat, k ≤ n ∧ i = .int .i64 k ∧ Hid (ExR g SB w wr k)) (fun x cl i _ => n - (intOf i).toNat)
  case atStart => exact ⟨0, Nat.zero_le _, rfl, H0.out⟩
  case round =>
    obtain ⟨k, hk, rfl, HE⟩ := hrel
    clear H0
    by_cases hlt : k < n
    · have hrr := (HSW.out wr HE.out.bel).out
      have hgk := Hg.out k hlt
      obtain ⟨q, hq⟩ : ∃ q, cN (g k) = q := ⟨_, rfl⟩
      have hq10 : q < 10 := by rw [← hq]; exact cN_lt _
      have hcl := HE.out.sn.cell q hq10
      have hfr := HE.out.sn.free q hq10
      have Hs := Lib.hid (exr_seen HE.out)
      have hq' : (q : Int) < 10 := by omega
      have Hq := Lib.hid hq
      by_cases hf : finB (g k) = true
      · have hf2 : 1 < q ∧ q < 8 := by rw [← hq]; exact of_decide_eq_true hf
        have hq1 : (1 : Int) < (q : Int) := by omega
        have hq8 : (q : Int) < 8 := by omega
        have Hfin := Lib.hid (cN_fin hgk (by rw [hq]; exact hf2))
        have Hf := Lib.hid hf
        rw [hq] at Hs
        clear hf hf2 hq
        go_wp2_with (first
        | ((with_reducible show wpList _ _ _ (⟨some 14, _, _, _, _, _⟩ :: _) _ _); refine wpl_ix rfl 24 26 _ _ rfl Try.underlying24 cells26 A n c k _ _ (fl g) rfl rfl rfl hlt hrr ?_; intro p hp)
        | (go_at_call 24; refine (class_any _ _ hgk).mono ?_; rintro e w1 ⟨rfl, rfl⟩; rw [cN_cast, Hq.out])
        | (go_at_call 25; refine (add_any (SB + 1) (repr (sumF g k)) (g k) _ Hs.out.2.1 hgk Hfin.out).mono ?_; rintro e w2 ⟨rfl, hw2, hc2⟩; have Hw2 := Lib.hid hw2; have Hc2 := Lib.hid hc2; clear hw2 hc2))
        go_roundw
        case rel => exact ⟨k + 1, by omega, by go_num, exr_add HE.out Hf.out Hw2.out (by rw [Hq.out]; exact Hc2.out)⟩
        case measure => simp [intOf]; omega
      · have hf' : finB (g k) = false := by simpa using hf
        have hf2 : ¬ (1 < q ∧ q < 8) := by rw [← hq]; exact of_decide_eq_false hf'
        have Hf := Lib.hid hf'
        have hE := exr_skip HE.out hf'
        rw [hq] at Hs hE
        have HE2 := Lib.hid hE
        clear hf hf' hE hq
        rcases (show q ≤ 1 ∨ 8 ≤ q from by omega) with hq1 | hq1
        all_goals
          clear hf2
          have hq2 : ¬ (1 : Int) < (q : Int) ∨ ¬ (q : Int) < 8 := by omega
        · have hq3 : ¬ (1 : Int) < (q : Int) := by omega
          clear hq2
          go_wp2_with (first
        | ((with_reducible show wpList _ _ _ (⟨some 14, _, _, _, _, _⟩ :: _) _ _); refine wpl_ix rfl 24 26 _ _ rfl Try.underlying24 cells26 A n c k _ _ (fl g) rfl rfl rfl hlt hrr ?_; intro p hp)
        | (go_at_call 24; refine (class_any _ _ hgk).mono ?_; rintro e w1 ⟨rfl, rfl⟩; rw [cN_cast, Hq.out]))
          go_roundw
          case rel => exact ⟨k + 1, by omega, by go_num, HE2.out⟩
          case measure => simp [intOf]; omega
        · have hq3 : ¬ (q : Int) < 8 := by omega
          have hq4 : (1 : Int) < (q : Int) := by omega
          clear hq2
          go_wp2_with (first
        | ((with_reducible show wpList _ _ _ (⟨some 14, _, _, _, _, _⟩ :: _) _ _); refine wpl_ix rfl 24 26 _ _ rfl Try.underlying24 cells26 A n c k _ _ (fl g) rfl rfl rfl hlt hrr ?_; intro p hp)
        | (go_at_call 24; refine (class_any _ _ hgk).mono ?_; rintro e w1 ⟨rfl, rfl⟩; rw [cN_cast, Hq.out]))
          go_roundw
          case rel => exact ⟨k + 1, by omega, by go_num, HE2.out⟩
          case measure => simp [intOf]; omega
    · obtain rfl : n = k := by omega
      have c9 := HE.out.sn.cell 9 (by decide)
      have c8 := HE.out.sn.cell 8 (by decide)
      have c1 := HE.out.sn.cell 1 (by decide)
      have hbel := HE.out.bel
      rw [← hSB] at hbel
      have Hbel := Lib.hid hbel
      clear hbel hSB
      have hlt' : ¬ (n : Int) < (n : Int) := by omega
      obtain ⟨b9, h9⟩ : ∃ b, seenF g n 9 = b := ⟨_, rfl⟩
      obtain ⟨b8, h8⟩ : ∃ b, seenF g n 8 = b := ⟨_, rfl⟩
      obtain ⟨b1, h1⟩ : ∃ b, seenF g n 1 = b := ⟨_, rfl⟩
      rw [h9] at c9
      rw [h8] at c8
      rw [h1] at c1
      have H9 := Lib.hid h9
      have H8 := Lib.hid h8
      have H1 := Lib.hid h1
      clear h9 h8 h1
      cases b9
      · cases b8
        · cases b1
          · by_cases hS0 : sumF g n = 0
            · have HG := Lib.hid (exactG_zero H9.out H8.out H1.out hS0)
              have hwh := HE.out.wh
              rw [hS0] at hwh
              have Hwh := Lib.hid hwh
              clear hwh hS0
              have hrr := (HSW.out wr HE.out.bel).out
              have hz : blen (repr 0) = 0 := blen_zero
              go_wp2_with (first
                | (go_at_call 28; refine (length_any (SB + 1) (repr 0) _ Hwh.out (repr_lt 0)).mono ?_; rintro e w1 ⟨rfl, rfl⟩; rw [hz]))
              go_loop [9, 55] (fun x i => ∃ k : Nat, k ≤ n ∧ i = .int .i64 k ∧ Hid (all4 g k = true)) (fun x i => n - (intOf i).toNat)
              case atStart => exact ⟨0, Nat.zero_le _, rfl, rfl⟩
              case round =>
                obtain ⟨k, hk, rfl, h4⟩ := hrel
                by_cases hlt : k < n
                · have hgk := Hg.out k hlt
                  obtain ⟨q, hq⟩ : ∃ q, cN (g k) = q := ⟨_, rfl⟩
                  have Hq := Lib.hid hq
                  clear hq
                  by_cases hq4 : q = 4
                  · subst hq4
                    go_wp2_with (first
                      | ((with_reducible show wpList _ _ _ (⟨some 57, _, _, _, _, _⟩ :: _) _ _); refine wpl_ix rfl 24 26 _ _ rfl Try.underlying24 cells26 A n c k _ _ (fl g) rfl rfl rfl hlt hrr ?_; intro p hp)
                      | (go_at_call 24; refine (class_any _ _ hgk).mono ?_; rintro e w1 ⟨rfl, rfl⟩; rw [cN_cast, Hq.out]))
                    go_round
                    case rel => exact ⟨k + 1, by omega, by go_num, all4_true h4.out Hq.out⟩
                    case measure => simp [intOf]; omega
                  · have hq5 : ((q : Int) != 4) = true := by rw [bne_iff_ne]; omega
                    have H4 := Lib.hid hq4
                    clear hq4
                    go_wp2_with (first
                      | ((with_reducible show wpList _ _ _ (⟨some 57, _, _, _, _, _⟩ :: _) _ _); refine wpl_ix rfl 24 26 _ _ rfl Try.underlying24 cells26 A n c k _ _ (fl g) rfl rfl rfl hlt hrr ?_; intro p hp)
                      | (go_at_call 24; refine (class_any _ _ hgk).mono ?_; rintro e w1 ⟨rfl, rfl⟩; rw [cN_cast, Hq.out]))
                    go_ret
                    exact ⟨0, rfl, by decide, by rw [HG.out, all4_false hlt (by rw [Hq.out]; exact H4.out), if_neg (by simp)], Hbel.out⟩
                · obtain rfl : n = k := by omega
                  rcases Nat.eq_zero_or_pos n with hn | hn
                  · subst hn
                    go_wp2_with fail
                    go_ret
                    exact ⟨0, rfl, by decide, by rw [HG.out, if_neg (by simp)], Hbel.out⟩
                  · have hn0 : ((n : Int) == 0) = false := by rw [beq_eq_false_iff_ne]; omega
                    go_wp2_with (first
                      | (go_at_call 30; refine (copysign_zero _).mono ?_; rintro e w1 ⟨rfl, rfl⟩))
                    go_ret
                    exact ⟨_, rfl, by decide, by rw [HG.out, if_pos ⟨by omega, h4.out⟩], Hbel.out⟩
            · have HG := Lib.hid (exactG_sum H9.out H8.out H1.out hS0)
              have hpos := blen_pos (repr_ne rfl hS0 (hS.out 2239 rfl))
              have HS0 := Lib.hid hS0
              clear hS0
              have Hwh := Lib.hid HE.out.wh
              obtain ⟨cs, t, hb1, hb2, hb3⟩ := HE.out.wh.blk
              have Hcs : Hid (cs.size = 70 ∧ ∀ j, j < 70 → cs[j]? = some (.int .u32 (dig (repr (sumF g n)) j))) := ⟨hb2, hb3⟩
              have Hb1 := Lib.hid hb1
              clear hb1 hb2 hb3
              generalize hbl : blen (repr (sumF g n)) = bl at *
              have Hbl := Lib.hid hbl
              clear hbl
              go_wp2_with (first
                | (go_at_call 28; refine (length_any (SB + 1) (repr (sumF g n)) _ Hwh.out (repr_lt _)).mono ?_; rintro e w1 ⟨rfl, rfl⟩; rw [Hbl.out])
                | ((with_reducible show wpList _ _ _ (⟨some 51, _, _, _, _, _⟩ :: _) _ _); refine wpList_load_row rfl 44 _ rfl (SB + 1) rfl t cs (0, 0) _ Hb1.out Try.underlying44 rfl (by rw [Hcs.out.1]; exact size44) ?_)
                | (go_at_call 29; refine (rounded_any (sumF g n) 2239 rfl HS0.out (hS.out 2239 rfl) cs _ Hcs.out).mono ?_; rintro e w1 ⟨rfl, hb5⟩))
              go_ret
              exact ⟨_, rfl, word_lt64 _ _ _, by rw [HG.out], Hbel.out.trans (hb5.mono Hbel.out.size)⟩
          · go_wp2_with (go_at_call 27; refine (inf_neg _).mono ?_; rintro e w1 ⟨rfl, rfl⟩)
            go_ret
            exact ⟨_, rfl, by decide, by rw [exactG_ninf H9.out H8.out H1.out], Hbel.out⟩
        · cases b1
          · go_wp2_with (go_at_call 27; refine (inf_pos _).mono ?_; rintro e w1 ⟨rfl, rfl⟩)
            go_ret
            exact ⟨_, rfl, by decide, by rw [exactG_inf H9.out H8.out H1.out], Hbel.out⟩
          · go_wp2_with (go_at_call 26; refine (nan_any _).mono ?_; rintro e w1 ⟨rfl, rfl⟩)
            go_ret
            exact ⟨_, rfl, by decide, by rw [exactG_nan (by rw [H9.out, H8.out, H1.out]; rfl)]; decide, Hbel.out⟩
      · go_wp2_with (go_at_call 26; refine (nan_any _).mono ?_; rintro e w1 ⟨rfl, rfl⟩)
        go_ret
        exact ⟨_, rfl, by decide, by rw [exactG_nan (by rw [H9.out]; rfl)]; decide, Hbel.out⟩
end Go.Proofs.Ytdfbmfmfhdifpaa
