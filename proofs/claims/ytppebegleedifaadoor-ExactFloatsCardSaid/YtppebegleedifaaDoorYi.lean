/- Contracts in the errors' numbers; modulo, plus. -/
import Derived.Test.YtppebegleedifaaDoorYd
import Derived.Test.YtppebegleedifaaDoorYh
namespace Go.Proofs.YtppebegleedifaaDoor
open Go.RowKit

theorem linN_cases (n m : Nat) (x y : Nat → Int) : (linN n m x y = 7 ∧ (n = 0 ∨ m = 0 ∨ 1048576 / m < n)) ∨ (¬ (n = 0 ∨ m = 0 ∨ 1048576 / m < n) ∧ ((linN n m x y = 0 ∧ allFit (linS n m x y) (n + m - 1) = true) ∨ (linN n m x y = 19 ∧ allFit (linS n m x y) (n + m - 1) = false))) := by
  unfold linN
  by_cases h : n = 0 ∨ m = 0 ∨ 1048576 / m < n
  · left; exact ⟨if_pos h, h⟩
  · right
    refine ⟨h, ?_⟩
    rw [if_neg h]
    cases hf : allFit (linS n m x y) (n + m - 1)
    · right; exact ⟨rfl, rfl⟩
    · left; exact ⟨rfl, rfl⟩
theorem cycN_cases (n m : Nat) (x y : Nat → Int) : (cycN n m x y = 7 ∧ (n = 0 ∨ 1024 < n ∨ m ≠ n)) ∨ (¬ (n = 0 ∨ 1024 < n ∨ m ≠ n) ∧ ((cycN n m x y = 0 ∧ allFit (cycS n m x y) n = true) ∨ (cycN n m x y = 19 ∧ allFit (cycS n m x y) n = false))) := by
  unfold cycN
  by_cases h : n = 0 ∨ 1024 < n ∨ m ≠ n
  · left; exact ⟨if_pos h, h⟩
  · right
    refine ⟨h, ?_⟩
    rw [if_neg h]
    cases hf : allFit (cycS n m x y) n
    · right; exact ⟨rfl, rfl⟩
    · left; exact ⟨rfl, rfl⟩
theorem linN_er (a : Nat → Addr) (n m : Nat) (x y : Nat → Int) : eV2 a (linN n m x y) = erV a (linN n m x y) ∧ linN n m x y ≤ 19 := by
  rcases linN_cases n m x y with ⟨e, _⟩ | ⟨_, ⟨e, _⟩ | ⟨e, _⟩⟩ <;> rw [e] <;> exact ⟨rfl, by decide⟩
theorem cycN_er (a : Nat → Addr) (n m : Nat) (x y : Nat → Int) : eV2 a (cycN n m x y) = erV a (cycN n m x y) ∧ cycN n m x y ≤ 19 := by
  rcases cycN_cases n m x y with ⟨e, _⟩ | ⟨_, ⟨e, _⟩ | ⟨e, _⟩⟩ <;> rw [e] <;> exact ⟨rfl, by decide⟩
theorem lenOf_le (q N : Nat) : lenOf q N ≤ N := by unfold lenOf; split <;> omega
section
variable (A : Option Addr) (n c : Nat) (A' : Option Addr) (m c' : Nat) (x y : Nat → Int) (a : Nat → Addr) (w : World) (hr : RS w A n c (iw x)) (hr' : RS w A' m c' (iw y)) (hx : ∀ i, i64B (x i)) (hy : ∀ j, i64B (y j)) (hE : Ers w (eV a)) (q L : Nat) (S : Nat → Int)
include hr hr' hx hy hE
theorem lin_er (hq : linN n m x y = q) (hL : lenOf q (n + m - 1) = L) (hS : linS n m x y = S) : Calls Tryd.prog 17 #[.slice A n c, .slice A' m c'] w fun e w' => ∃ A2 c2, e = .returned (.tuple #[.slice A2 L c2, erV a q]) ∧ Bld w' w.heap.size 2 (.slice A2 L c2) L (iw S) ∧ Nx w w' := by
  refine (linear_any A n c A' m c' x y a w hr hr' hx hy hE).mono ?_
  rintro e w' ⟨A2, c2, rfl, hB, hb⟩
  rw [(linN_er a n m x y).1, hq, hL]; rw [hq, hL, hS] at hB
  exact ⟨A2, c2, rfl, hB, hb⟩
theorem cyc_er (hq : cycN n m x y = q) (hL : lenOf q n = L) (hS : cycS n m x y = S) : Calls Tryd.prog 20 #[.slice A n c, .slice A' m c'] w fun e w' => ∃ A2 c2, e = .returned (.tuple #[.slice A2 L c2, erV a q]) ∧ Bld w' w.heap.size 2 (.slice A2 L c2) L (iw S) ∧ Nx w w' := by
  refine (cyclic_any A n c A' m c' x y a w hr hr' hx hy hE).mono ?_
  rintro e w' ⟨A2, c2, rfl, hB, hb⟩
  rw [(cycN_er a n m x y).1, hq, hL]; rw [hq, hL, hS] at hB
  exact ⟨A2, c2, rfl, hB, hb⟩
end
/-- 'v % p', then 'p' more if it is below 0. -/
theorem tmod_neg {v p t : Int} (hp : 0 < p) (h : v.tmod p = t) : (t < 0 → t + p = v % p ∧ -p < t) ∧ (0 ≤ t → t = v % p ∧ t < p) := by
  rcases Int.le_total 0 v with hv | hv
  · rw [Int.tmod_eq_emod_of_nonneg hv] at h
    have h1 := Int.emod_nonneg v (show p ≠ 0 by omega)
    have h2 := Int.emod_lt_of_pos v hp
    constructor <;> intro _ <;> omega
  · have e : v.tmod p = -((-v) % p) := by
      rw [← Int.tmod_eq_emod_of_nonneg (by omega), Int.neg_tmod, Int.neg_neg]
    rw [e] at h
    have h1 := Int.emod_nonneg (-v) (show p ≠ 0 by omega)
    have h2 := Int.emod_lt_of_pos (-v) hp
    have h3 := Int.emod_add_mul_ediv v p
    have h4 := Int.emod_add_mul_ediv (-v) p
    have h5 := Int.emod_nonneg v (show p ≠ 0 by omega)
    have h6 := Int.emod_lt_of_pos v hp
    -- v % p and -((-v) % p) differ by a multiple of p
    have h7 : v % p + (-v) % p = p * (-(v / p) - (-v) / p) := by
      rw [Int.mul_sub, Int.mul_neg]; omega
    generalize -(v / p) - (-v) / p = k at h7
    have hk : k = 0 ∨ k = 1 := by
      rcases Int.lt_or_le k 0 with hk | hk
      · have := Int.mul_le_mul_of_nonneg_left (show k ≤ -1 by omega) (show 0 ≤ p by omega)
        omega
      · rcases Int.lt_or_le 1 k with hk2 | hk2
        · have := Int.mul_le_mul_of_nonneg_left (show 2 ≤ k by omega) (show 0 ≤ p by omega)
          omega
        · omega
    rcases hk with rfl | rfl
    · rw [Int.mul_zero] at h7
      constructor <;> intro _ <;> omega
    · rw [Int.mul_one] at h7
      constructor <;> intro _ <;> omega
set_option maxHeartbeats 1000000 in
theorem modulo_any (A : Option Addr) (n c P : Nat) (x : Nat → Int) (w : World) (hr : RS w A n c (iw x)) (hx : ∀ i, i64B (x i)) (hP : 2 ≤ P) (hP2 : P < 4294967296) (hn : n * 8 ≤ 140737488351232) :
    Calls Tryd.prog 25 #[.slice A n c, .int .u64 (P : Nat)] w fun e w' => ∃ A' c', e = .returned (.slice A' n c') ∧ Bld w' w.heap.size 24 (.slice A' n c') n (uw (modF x P)) ∧ Nx w w' := by
  have k1 := hr.nc
  have k2 := hr.cm
  have HX : Hid (∀ w', Nx w w' → RS w' A n c (iw x)) := fun w' h => hr.nx h
  have Hx := Lib.hid hx
  have HB0 := Lib.hid (bld_new w 24 #[] (uw (modF x P)) 0 (by decide) rfl (fun j hj => absurd hj (by omega)) w.heap.size (Nat.le_refl _))
  clear hr hx
  go_enter Tryd.func25, Tryd.ntmps25
  go_wp2_with fail
  obtain ⟨B, hB⟩ : ∃ B, w.heap.size = B := ⟨_, rfl⟩
  rw [hB] at HB0
  try rw [hB]
  have hB' := Lib.hid hB
  clear hB
  go_loopw [12, 5] (fun o s wr => ∃ k c' : Nat, ∃ A', k ≤ n ∧ o = .int .i64 k ∧ s = .slice A' k c' ∧ Bld wr B 24 (.slice A' k c') k (uw (modF x P)) ∧ Below B w wr) (fun o _ _ => n - (intOf o).toNat)
  case atStart => exact ⟨0, 0, _, Nat.zero_le _, rfl, rfl, HB0.out, by rw [← hB'.out]; exact nx_alloc _ _⟩
  case round =>
    obtain ⟨k, c', A', hk, rfl, rfl, hBr, hbr⟩ := hrel
    by_cases hlt : k < n
    · have hlt' : (k : Int) < n := by omega
      obtain ⟨ad, rfl, hc⟩ := (HX.out wr (by rw [← hB'.out] at hbr; exact hbr)).cell k hlt
      have hv := Hx.out k
      obtain ⟨v, hvk⟩ : ∃ v, x k = v := ⟨_, rfl⟩
      have hc' : wr.cell? (ad.add k) = some (.int .i64 v) := by rw [hc, ← hvk]; rfl
      rw [hvk] at hv
      obtain ⟨hv1, hv2⟩ := hv
      obtain ⟨t, ht⟩ : ∃ t, v.tmod (P : Int) = t := ⟨_, rfl⟩
      have hm := tmod_neg (show (0 : Int) < P by omega) ht
      have p1 : (P : Int) ≠ 0 := by omega
      have HBr := Lib.hid hBr
      have Hbr := Lib.hid hbr
      have Hvk := Lib.hid hvk
      have hmk : ((modF x P k : Nat) : Int) = v % (P : Int) := by rw [modF_cast x (by omega) k, hvk]
      clear hc hvk hBr hbr
      rcases Int.lt_or_le t 0 with ht0 | ht0
      · obtain ⟨e1, e2⟩ := hm.1 ht0
        have b1 : 0 ≤ t + (P : Int) := by omega
        have b2 : t + (P : Int) < 4294967296 := by omega
        have HV : Hid (some (Value.int .u64 (t + (P : Int))) = some (uw (modF x P) k)) := by show _ = _; unfold uw; rw [hmk, e1]
        clear hm e1 hmk
        go_wp2_with ((with_reducible show wpList _ _ _ (⟨some 30, _, _, _, _, _⟩ :: _) _ _); refine wpl_pushK rfl _ _ 22 24 (.int .u64 0) 8 rfl Tryd.underlying22 info24 rfl B (.slice A' k c') k wr.heap.size (uw (modF x P)) (uw (modF x P)) rfl rfl (HBr.out.alloc _) (by rw [cells_new]; exact HV.out) (fun _ _ => rfl) (uw_one _) (by omega) (by decide) ?_; intro A2 c2 w2 hB2 hk2 _ _ _; have HB2 := Lib.hid hB2; have Hb2 : Hid (Below B w w2) := (Hbr.out.alloc HBr.out.hB _).trans (hk2.below (Nat.le_trans HBr.out.hB (by simp)) HBr.out.base); clear hB2 hk2)
        go_roundw
        case rel => exact ⟨k + 1, _, _, by omega, by go_num, rfl, HB2.out, Hb2.out⟩
        case measure => simp only [intOf]; omega
      · obtain ⟨e1, e2⟩ := hm.2 ht0
        have b2 : t < 4294967296 := by omega
        have ht0' : ¬ t < 0 := by omega
        have HV : Hid (some (Value.int .u64 t) = some (uw (modF x P) k)) := by show _ = _; unfold uw; rw [hmk, e1]
        clear hm e1 hmk
        go_wp2_with ((with_reducible show wpList _ _ _ (⟨some 30, _, _, _, _, _⟩ :: _) _ _); refine wpl_pushK rfl _ _ 22 24 (.int .u64 0) 8 rfl Tryd.underlying22 info24 rfl B (.slice A' k c') k wr.heap.size (uw (modF x P)) (uw (modF x P)) rfl rfl (HBr.out.alloc _) (by rw [cells_new]; exact HV.out) (fun _ _ => rfl) (uw_one _) (by omega) (by decide) ?_; intro A2 c2 w2 hB2 hk2 _ _ _; have HB2 := Lib.hid hB2; have Hb2 : Hid (Below B w w2) := (Hbr.out.alloc HBr.out.hB _).trans (hk2.below (Nat.le_trans HBr.out.hB (by simp)) HBr.out.base); clear hB2 hk2)
        go_roundw
        case rel => exact ⟨k + 1, _, _, by omega, by go_num, rfl, HB2.out, Hb2.out⟩
        case measure => simp only [intOf]; omega
    · obtain rfl : k = n := by omega
      go_wp2_with fail
      go_ret
      exact ⟨_, _, rfl, by first | exact hBr | (rw [hB'.out]; exact hBr), by first | exact hbr | (rw [← hB'.out] at hbr; exact hbr)⟩
end Go.Proofs.YtppebegleedifaaDoor
