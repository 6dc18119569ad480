/- plus. -/
import Derived.Test.YtppebegleedifaaDoorYi
namespace Go.Proofs.YtppebegleedifaaDoor
open Go.RowKit

theorem iw_one (f : Nat → Int) (j : Nat) : (iw f j).oneCell' = true := rfl
theorem allFit_of {S : Nat → Int} {n : Nat} (h : ∀ j, j < n → fitB (S j) = true) : allFit S n = true := by
  induction n with
  | zero => rfl
  | succ n ih => rw [allFit, ih (fun j hj => h j (by omega)), h n (by omega)]; rfl
theorem allFit_fit {S : Nat → Int} {n : Nat} (h : allFit S n = true) (j : Nat) (hj : j < n) : fitB (S j) = true := by
  cases hb : fitB (S j)
  · rw [allFit_false hj hb] at h; cases h
  · rfl
def PlR (S : Nat → Int) (n : Nat) (w : World) (e : Ending) (w' : World) : Prop :=
  ((allFit S n = true ∧ ∃ A c, e = .returned (.tuple #[.slice A n c, .bool true]) ∧ Bld w' w.heap.size 2 (.slice A n c) n (iw S)) ∨ (allFit S n = false ∧ e = .returned (.tuple #[.slice none 0 0, .bool false]))) ∧ Nx w w'
set_option maxRecDepth 100000 in
set_option maxHeartbeats 4000000 in
theorem plus_any (A : Option Addr) (n c : Nat) (A' : Option Addr) (n' c' : Nat) (x y : Nat → Int) (w : World) (hr : RS w A n c (iw x)) (hr' : RS w A' n' c' (iw y)) (hx : ∀ i, i64B (x i)) (hy : ∀ j, i64B (y j)) (hn : n * 8 ≤ 140737488351232) (hnn : n ≤ n') :
    Calls Tryd.prog 26 #[.slice A n c, .slice A' n' c'] w (PlR (fun j => x j + y j) n w) := by
  have k1 := hr.nc
  have k2 := hr.cm
  have k3 := hr'.nc
  have k4 := hr'.cm
  have HX : Hid (∀ w', Nx w w' → RS w' A n c (iw x)) := fun w' h => hr.nx h
  have HY : Hid (∀ w', Nx w w' → RS w' A' n' c' (iw y)) := fun w' h => hr'.nx h
  have Hx := Lib.hid hx
  have Hy := Lib.hid hy
  obtain ⟨S, hS⟩ : ∃ S, (fun j => x j + y j) = S := ⟨_, rfl⟩
  rw [hS]
  have HSj : Hid (∀ j, S j = x j + y j) := fun j => by rw [← hS]
  have HB0 := Lib.hid (bld_new w 2 #[] (iw S) 0 (by decide) rfl (fun j hj => absurd hj (by omega)) w.heap.size (Nat.le_refl _))
  obtain ⟨R, hR⟩ : ∃ R, PlR S n w = R := ⟨_, rfl⟩
  have HR := Lib.hid hR
  rw [hR]
  clear hr hr' hx hy hS hR
  go_enter Tryd.func26, Tryd.ntmps26
  go_wp2_with fail
  obtain ⟨B, hB⟩ : ∃ B, w.heap.size = B := ⟨_, rfl⟩
  rw [hB] at HB0
  try rw [hB]
  have hB' := Lib.hid hB
  clear hB
  go_loopw [13, 6] (fun o s wr => ∃ k c' : Nat, ∃ A', k ≤ n ∧ o = .int .i64 k ∧ s = .slice A' k c' ∧ Hid (allFit S k = true) ∧ Bld wr B 2 (.slice A' k c') k (iw S) ∧ Below B w wr) (fun o _ _ => n - (intOf o).toNat)
  case atStart => exact ⟨0, 0, _, Nat.zero_le _, rfl, rfl, rfl, HB0.out, by rw [← hB'.out]; exact nx_alloc _ _⟩
  case round =>
    obtain ⟨k, cB, AB, hk, rfl, rfl, HF, hBr, hbr⟩ := hrel
    by_cases hlt : k < n
    · have hlt' : (k : Int) < n := by omega
      have hlt2 : (k : Int) < n' := by omega
      obtain ⟨ad, rfl, hc⟩ := (HX.out wr (by rw [← hB'.out] at hbr; exact hbr)).cell k hlt
      obtain ⟨ad', rfl, hcy⟩ := (HY.out wr (by rw [← hB'.out] at hbr; exact hbr)).cell k (by omega)
      have hv := Hx.out k
      have hv' := Hy.out k
      have hSk := HSj.out k
      obtain ⟨u, hu⟩ : ∃ u, x k = u := ⟨_, rfl⟩
      obtain ⟨v, hvv⟩ : ∃ v, y k = v := ⟨_, rfl⟩
      have hc' : wr.cell? (ad.add k) = some (.int .i64 u) := by rw [hc, ← hu]; rfl
      have hcy' : wr.cell? (ad'.add k) = some (.int .i64 v) := by rw [hcy, ← hvv]; rfl
      rw [hu] at hv hSk
      rw [hvv] at hv' hSk
      obtain ⟨b1, b2⟩ := hv
      obtain ⟨b3, b4⟩ := hv'
      have HBr := Lib.hid hBr
      have Hbr := Lib.hid hbr
      have HSk := Lib.hid hSk
      clear hc hcy hu hvv hBr hbr hSk
      by_cases hf : -9223372036854775808 ≤ u + v ∧ u + v ≤ 9223372036854775807
      · obtain ⟨f1, f2⟩ := hf
        have hfb : fitB (S k) = true := by unfold fitB; rw [HSk.out]; exact decide_eq_true ⟨f1, f2⟩
        have HF2 : Hid (allFit S (k + 1) = true) := by show _ = _; rw [allFit, HF.out, hfb]; rfl
        have HV : Hid (some (Value.int .i64 (u + v)) = some (iw S k)) := by show _ = _; unfold iw; rw [HSk.out]
        clear hfb
        by_cases s1 : 0 ≤ u <;> by_cases s2 : 0 ≤ v
        · have d1 : decide (0 ≤ u) = true := by simpa using s1
          have d2 : decide (0 ≤ v) = true := by simpa using s2
          have s3 : ¬ u + v < 0 := by omega
          go_wp2_with ((with_reducible show wpList _ _ _ (⟨some 55, _, _, _, _, _⟩ :: _) _ _); refine wpl_pushK rfl _ _ 34 2 (.int .i64 0) 8 rfl Tryd.underlying34 info2 rfl B (.slice AB k cB) k wr.heap.size (iw S) (iw S) rfl rfl (HBr.out.alloc _) (by rw [cells_new]; exact HV.out) (fun _ _ => rfl) (iw_one _) (by omega) (by decide) ?_; intro A2 c2 w2 hB2 hk2 _ _ _; have HB2 := Lib.hid hB2; have Hb2 : Hid (Below B w w2) := (Hbr.out.alloc HBr.out.hB _).trans (hk2.below (Nat.le_trans HBr.out.hB (by simp)) HBr.out.base); clear hB2 hk2)
          exact ⟨⟨k + 1, _, _, by omega, by go_num, rfl, HF2.out, HB2.out, Hb2.out⟩, by simp only [intOf]; omega⟩
        · have d1 : decide (0 ≤ u) = true := by simpa using s1
          have d2 : decide (0 ≤ v) = false := by simpa using s2
          have s2' : v < 0 := by omega
          go_wp2_with ((with_reducible show wpList _ _ _ (⟨some 55, _, _, _, _, _⟩ :: _) _ _); refine wpl_pushK rfl _ _ 34 2 (.int .i64 0) 8 rfl Tryd.underlying34 info2 rfl B (.slice AB k cB) k wr.heap.size (iw S) (iw S) rfl rfl (HBr.out.alloc _) (by rw [cells_new]; exact HV.out) (fun _ _ => rfl) (iw_one _) (by omega) (by decide) ?_; intro A2 c2 w2 hB2 hk2 _ _ _; have HB2 := Lib.hid hB2; have Hb2 : Hid (Below B w w2) := (Hbr.out.alloc HBr.out.hB _).trans (hk2.below (Nat.le_trans HBr.out.hB (by simp)) HBr.out.base); clear hB2 hk2)
          exact ⟨⟨k + 1, _, _, by omega, by go_num, rfl, HF2.out, HB2.out, Hb2.out⟩, by simp only [intOf]; omega⟩
        · have d1 : decide (0 ≤ u) = false := by simpa using s1
          have d2 : decide (0 ≤ v) = true := by simpa using s2
          have s1' : u < 0 := by omega
          go_wp2_with ((with_reducible show wpList _ _ _ (⟨some 55, _, _, _, _, _⟩ :: _) _ _); refine wpl_pushK rfl _ _ 34 2 (.int .i64 0) 8 rfl Tryd.underlying34 info2 rfl B (.slice AB k cB) k wr.heap.size (iw S) (iw S) rfl rfl (HBr.out.alloc _) (by rw [cells_new]; exact HV.out) (fun _ _ => rfl) (iw_one _) (by omega) (by decide) ?_; intro A2 c2 w2 hB2 hk2 _ _ _; have HB2 := Lib.hid hB2; have Hb2 : Hid (Below B w w2) := (Hbr.out.alloc HBr.out.hB _).trans (hk2.below (Nat.le_trans HBr.out.hB (by simp)) HBr.out.base); clear hB2 hk2)
          exact ⟨⟨k + 1, _, _, by omega, by go_num, rfl, HF2.out, HB2.out, Hb2.out⟩, by simp only [intOf]; omega⟩
        · have d1 : decide (0 ≤ u) = false := by simpa using s1
          have d2 : decide (0 ≤ v) = false := by simpa using s2
          have s1' : u < 0 := by omega
          have s2' : v < 0 := by omega
          have s3 : ¬ 0 ≤ u + v := by omega
          go_wp2_with ((with_reducible show wpList _ _ _ (⟨some 55, _, _, _, _, _⟩ :: _) _ _); refine wpl_pushK rfl _ _ 34 2 (.int .i64 0) 8 rfl Tryd.underlying34 info2 rfl B (.slice AB k cB) k wr.heap.size (iw S) (iw S) rfl rfl (HBr.out.alloc _) (by rw [cells_new]; exact HV.out) (fun _ _ => rfl) (iw_one _) (by omega) (by decide) ?_; intro A2 c2 w2 hB2 hk2 _ _ _; have HB2 := Lib.hid hB2; have Hb2 : Hid (Below B w w2) := (Hbr.out.alloc HBr.out.hB _).trans (hk2.below (Nat.le_trans HBr.out.hB (by simp)) HBr.out.base); clear hB2 hk2)
          exact ⟨⟨k + 1, _, _, by omega, by go_num, rfl, HF2.out, HB2.out, Hb2.out⟩, by simp only [intOf]; omega⟩
      · have hfb : fitB (S k) = false := by
          unfold fitB; rw [HSk.out]; exact decide_eq_false hf
        have HN := Lib.hid (allFit_false (n := n) hlt hfb)
        clear hfb
        obtain ⟨t, ht⟩ : ∃ t, IntKind.i64.wrap (u + v) = t := ⟨_, rfl⟩
        by_cases s1 : 0 ≤ u
        · have s2 : 0 ≤ v := by omega
          have ht2 : t < 0 := by rw [← ht, IntKind.wrap_i64]; omega
          have d1 : decide (0 ≤ u) = true := by simpa using s1
          have d2 : decide (0 ≤ v) = true := by simpa using s2
          go_wp2_with fail
          try go_ret2
          rw [← HR.out]
          exact ⟨.inr ⟨HN.out, rfl⟩, by show Below _ _ _; rw [hB'.out]; exact Hbr.out⟩
        · have s1' : u < 0 := by omega
          have s2' : v < 0 := by omega
          have ht2 : ¬ t < 0 := by rw [← ht, IntKind.wrap_i64]; omega
          have ht3 : 0 ≤ t := by omega
          have d1 : decide (0 ≤ u) = false := by simpa using s1
          have d2 : decide (0 ≤ v) = false := by simp; omega
          go_wp2_with fail
          try go_ret2
          rw [← HR.out]
          exact ⟨.inr ⟨HN.out, rfl⟩, by show Below _ _ _; rw [hB'.out]; exact Hbr.out⟩
    · obtain rfl : k = n := by omega
      go_wp2_with fail
      try go_ret2
      rw [← HR.out]
      exact ⟨.inl ⟨HF.out, _, _, rfl, by rw [hB'.out]; exact hBr⟩, by show Below _ _ _; rw [hB'.out]; exact hbr⟩
end Go.Proofs.YtppebegleedifaaDoor
