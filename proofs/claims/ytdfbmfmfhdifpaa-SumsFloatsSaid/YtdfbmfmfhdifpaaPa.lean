/- Pair, of the program and of the reference; SameFloats. -/
import Derived.Test.YtdfbmfmfhdifpaaSm
import Derived.Deep.RegionWith
import Derived.Deep.QuietTactic
import Derived.BigQuiet
namespace Go.Proofs.Ytdfbmfmfhdifpaa
open Go.RowKit

def pairK : Nat → (Nat → Nat) → Nat → Nat
  | 0, _, _ => 0
  | k + 1, g, n => if n = 0 then 0 else if n = 1 then g 0 else fop .add (pairK k g ((n + 1) / 2)) (pairK k (fun j => g ((n + 1) / 2 + j)) (n - (n + 1) / 2))

theorem pair_step {g : Nat → Nat} {k n h r1 r2 r3 : Nat} (h0 : ¬ n = 0) (h1 : ¬ n = 1) (hh : (n + 1) / 2 = h) (v1 : cn r1 = cn (pairK k g h))
    (v2 : cn r2 = cn (pairK k (fun j => g (h + j)) (n - h))) (v3 : cn r3 = fop .add r1 r2) : cn r3 = cn (pairK (k + 1) g n) := by
  rw [v3, pairK, if_neg h0, if_neg h1, hh, cn_fop]
  exact fop_congr .add v1 v2

set_option maxHeartbeats 800000 in
theorem pair_any (k : Nat) : ∀ (A : Option Addr) (n c : Nat) (g : Nat → Nat) (w : World), n ≤ k → n ≤ 1152921504606846976 → (∀ j, j < n → g j < 2 ^ 64) → RS w A n c (fl g) →
    Calls Try.prog 10 #[.slice A n c] w (Fret (pairK k g n) w) := by
  induction k with
  | zero =>
    intro A n c g w hk hN hg hr
    obtain rfl : n = 0 := by omega
    go_enter Try.func10, Try.ntmps10
    go_wp2_with fail
    go_ret
    exact ⟨0, 0, rfl, by decide, rfl, rfl⟩
  | succ k ih =>
    intro A n c g w hk hN hg hr
    by_cases h0 : n = 0
    · subst h0
      go_enter Try.func10, Try.ntmps10
      go_wp2_with fail
      go_ret
      exact ⟨0, 0, rfl, by decide, by simp [pairK], rfl⟩
    · by_cases h1 : n = 1
      · subst h1
        have hg0 := Lib.hid (hg 0 (by omega)); clear hg ih
        go_enter Try.func10, Try.ntmps10
        go_wp2_with (first
          | ((with_reducible show wpList _ _ _ (⟨some 25, _, _, _, _, _⟩ :: _) _ _); refine wpl_ix rfl 24 26 _ _ rfl Try.underlying24 cells26 A 1 c 0 _ _ (fl g) rfl rfl rfl (by omega) hr ?_; intro p hp))
        go_ret
        exact ⟨g 0, 0, rfl, hg0.out, by simp [pairK], rfl⟩
      · have hm := hr.cm
        have hnc := hr.nc
        have d1 : ((n : Int) == 0) = false := by simp; omega
        have d2 : ((n : Int) == 1) = false := by simp; omega
        have Hg := Lib.hid hg; clear hg
        have Ih := Lib.hid ih; clear ih
        clear h0 h1
        have hN' : (n : Int) ≤ 1152921504606846976 := by omega
        have hN0 : (0 : Int) ≤ n := by omega
        go_enter Try.func10, Try.ntmps10
        go_wp2_with fail
        have e : ((n : Int) + 1) / 2 = (((n + 1) / 2 : Nat) : Int) := by omega
        rw [e]
        generalize hh : (n + 1) / 2 = h
        have n2 : 2 ≤ n := by simp at d1 d2; omega
        have hh1 : h < n := by omega
        have hh0 : 1 ≤ h := by omega
        have hc0 : ¬ c = 0 := by omega
        have hc1 : ¬ c = h := by omega
        have hh2 : (h : Int) ≤ n := by omega
        have hh3 : (0 : Int) ≤ h := by omega
        have Hh := Lib.hid hh
        clear e hh
        obtain ⟨fR, fN, hfop, hF⟩ := exFop .add rfl
        have hr1 : RS w A h c (fl g) := hr.take (by omega)
        have hr2 : RS w (Option.map (fun x => x.add h) A) (n - h) (c - h) (fl fun j => g (h + j)) := by
          have := hr.drop (l := h) (by omega); rw [if_neg hc1] at this; exact this
        go_region_with (first
          | (go_at_call_of 10 (Value.slice A h c); refine (Ih.out A h c g _ ?_ ?_ ?_ ?_).mono ?_; omega; omega; exact fun j hj => Hg.out j (by omega); exact hr1.same rfl; rintro e w1 ⟨r1, m1, rfl, hb1, hv1, rfl⟩)
          | (go_at_call 10; refine (Ih.out _ (n - h) (c - h) (fun j => g (h + j)) _ ?_ ?_ ?_ ?_).mono ?_; omega; omega; exact fun j hj => Hg.out (h + j) (by omega); exact hr2.same rfl; rintro e w2 ⟨r2, m2, rfl, hb2, hv2, rfl⟩))
        go_wp2_with fail
        go_ret
        have hf := hF.out r1 r2 (w.drewN (1 + m1 + m2))
        exact ⟨_, _, rfl, hf.1, pair_step (by omega) (by omega) Hh.out hv1 hv2 hf.2, rfl⟩

theorem leftG_small {k n : Nat} {g : Nat → Nat} (h : n < 2) : leftG g n = pairK (k + 1) g n := by
  rcases (show n = 0 ∨ n = 1 from by omega) with rfl | rfl <;> rfl

set_option maxHeartbeats 800000 in
theorem pairR_any (k : Nat) : ∀ (A : Option Addr) (n c : Nat) (g : Nat → Nat) (w : World), n ≤ k + 1 → n ≤ 1152921504606846976 → (∀ j, j < n → g j < 2 ^ 64) → RS w A n c (fl g) →
    Calls Try.prog 16 #[.slice A n c] w (Fret (pairK (k + 1) g n) w) := by
  induction k with
  | zero =>
    intro A n c g w hk hN hg hr
    have d : (n : Int) < 2 := by omega
    have hL := leftR_any A n c g w hg hr
    have hc := hr.cm
    have hn := hr.nc
    rw [leftG_small (k := 0) (by omega)] at hL
    have HL := Lib.hid hL; clear hL
    clear hk hg hN
    go_enter Try.func16, Try.ntmps16
    go_wp2_with (go_at_call 15; refine HL.out.mono ?_; rintro e w1 ⟨r, m, rfl, hb, hv, rfl⟩)
    go_ret
    exact ⟨r, m, rfl, hb, hv, rfl⟩
  | succ k ih =>
    intro A n c g w hk hN hg hr
    by_cases h0 : n < 2
    · have d : (n : Int) < 2 := by omega
      have hL := leftR_any A n c g w hg hr
      have hc := hr.cm
      have hn := hr.nc
      rw [leftG_small (k := k + 1) (by omega)] at hL
      have HL := Lib.hid hL; clear hL
      clear hk hg hN ih h0
      go_enter Try.func16, Try.ntmps16
      go_wp2_with (go_at_call 15; refine HL.out.mono ?_; rintro e w1 ⟨r, m, rfl, hb, hv, rfl⟩)
      go_ret
      exact ⟨r, m, rfl, hb, hv, rfl⟩
    · have hm := hr.cm
      have hnc := hr.nc
      have n2 : 2 ≤ n := by omega
      have n2' : (2 : Int) ≤ n := by omega
      have Hg := Lib.hid hg; clear hg
      have Ih := Lib.hid ih; clear ih
      clear h0
      have hN' : (n : Int) ≤ 1152921504606846976 := by omega
      have hN0 : (0 : Int) ≤ n := by omega
      go_enter Try.func16, Try.ntmps16
      go_wp2_with fail
      have e : (n : Int) - (n : Int) / 2 = (((n + 1) / 2 : Nat) : Int) := by omega
      rw [e]
      generalize hh : (n + 1) / 2 = h
      have hh1 : h < n := by omega
      have hh0 : 1 ≤ h := by omega
      have hc0 : ¬ c = 0 := by omega
      have hc1 : ¬ c = h := by omega
      have hh2 : (h : Int) ≤ n := by omega
      have hh3 : (0 : Int) ≤ h := by omega
      have Hh := Lib.hid hh
      clear e hh
      obtain ⟨fR, fN, hfop, hF⟩ := exFop .add rfl
      have hr1 : RS w A h c (fl g) := hr.take (by omega)
      have hr2 : RS w (Option.map (fun x => x.add h) A) (n - h) (c - h) (fl fun j => g (h + j)) := by
        have := hr.drop (l := h) (by omega); rw [if_neg hc1] at this; exact this
      go_region_with (first
        | (go_at_call_of 16 (Value.slice A h c); refine (Ih.out A h c g _ ?_ ?_ ?_ ?_).mono ?_; omega; omega; exact fun j hj => Hg.out j (by omega); exact hr1.same rfl; rintro e w1 ⟨r1, m1, rfl, hb1, hv1, rfl⟩)
        | (go_at_call 16; refine (Ih.out _ (n - h) (c - h) (fun j => g (h + j)) _ ?_ ?_ ?_ ?_).mono ?_; omega; omega; exact fun j hj => Hg.out (h + j) (by omega); exact hr2.same rfl; rintro e w2 ⟨r2, m2, rfl, hb2, hv2, rfl⟩))
      go_wp2_with fail
      go_ret
      have hf := hF.out r1 r2 (w.drewN (1 + m1 + m2))
      exact ⟨_, _, rfl, hf.1, pair_step (by omega) (by omega) Hh.out hv1 hv2 hf.2, rfl⟩
end Go.Proofs.Ytdfbmfmfhdifpaa
