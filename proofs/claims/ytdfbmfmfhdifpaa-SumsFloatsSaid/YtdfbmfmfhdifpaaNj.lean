/- Parts, nanNumber, SameFloats. -/
import Derived.Test.YtdfbmfmfhdifpaaNi
namespace Go.Proofs.Ytdfbmfmfhdifpaa
open Go.RowKit

set_option maxHeartbeats 400000 in
theorem nanNumber_any (w : World) : Calls Try.prog 37 #[] w fun e w' => e = .returned (.float .f64 nanW) ∧ w = w' := by
  go_enter Try.func37, Try.ntmps37
  go_wp2_with (go_at_call 22; refine (float_any 9221120237041090560 _).mono ?_; rintro e w1 ⟨rfl, rfl⟩; rw [show cn 9221120237041090560 = nanW from cn_nanW])
  go_ret
  exact ⟨rfl, rfl⟩

set_option maxHeartbeats 1000000 in
theorem parts_any (b : Nat) (hb : b < 18446744073709551616) (w : World) : Calls Try.prog 33 #[.int .u64 b] w fun e w' => e = .returned (.tuple #[.int .u64 (fM b), .int .i64 ((fQ b : Int) - 1074)]) ∧ w = w' := by
  have a1 := and_frac b hb
  have a2 := and_expo b hb
  obtain ⟨E, hE⟩ : ∃ E, b / 4503599627370496 % 2048 = E := ⟨_, rfl⟩
  obtain ⟨F, hF⟩ : ∃ F, b % 4503599627370496 = F := ⟨_, rfl⟩
  have hF2 : F < 4503599627370496 := by omega
  have hE2 : E < 2048 := by omega
  have hq : fQ b = E - 1 := by unfold fQ; rw [hE]
  rw [hE] at a2
  rw [hF] at a1
  by_cases h0 : E = 0
  · have hM : fM b = F := by unfold fM; rw [hE, if_pos h0, hF]
    rw [hM, hq, h0]
    subst h0
    have f1 : (F : Int) < 4503599627370496 := by omega
    clear hE hF hq hM hb
    go_enter Try.func33, Try.ntmps33
    go_wp2_with fail
    go_ret2
    exact ⟨rfl, rfl⟩
  · have hM : fM b = F + 4503599627370496 := by unfold fM; rw [hE, if_neg h0, hF]
    rw [hM, hq]
    have f1 : (F : Int) < 4503599627370496 := by omega
    have f2 : (E : Int) < 2048 := by omega
    have f3 : ((E : Int) == 0) = false := by simp; omega
    have f4 : ((E - 1 : Nat) : Int) - 1074 = (E : Int) - 1075 := by omega
    rw [f4]
    clear hE hF hq hM hb f4
    go_enter Try.func33, Try.ntmps33
    go_wp2_with fail
    go_ret2
    exact ⟨rfl, rfl⟩

set_option maxHeartbeats 1000000 in
/-- Two lists of floats that hold the same words. -/
theorem samefloats_any (A A' : Option Addr) (n c c' : Nat) (g : Nat → Nat) (w : World) (hr : RS w A n c (fl g)) (hr' : RS w A' n c' (fl g)) :
    Calls Try.prog 13 #[.slice A n c, .slice A' n c'] w fun e w' => ∃ m, e = .returned (.bool true) ∧ w' = w.drewN m := by
  have k1 := hr.cm
  have k2 := hr.nc
  have k3 := hr'.cm
  have k4 := hr'.nc
  go_enter Try.func13, Try.ntmps13
  go_wp2_with fail
  go_loopw [5, 13] (fun y i wr => ∃ k m : Nat, k ≤ n ∧ i = .int .i64 k ∧ wr = w.drewN m) (fun _ i _ => n - (intOf i).toNat)
  case atStart => exact ⟨0, 0, by omega, rfl, rfl⟩
  case round =>
    obtain ⟨k, m, hk, rfl, rfl⟩ := hrel
    by_cases hlt : k < n
    · have hkn : (k : Int) < n := by omega
      obtain ⟨ad, rfl, hc⟩ := (hr.drewN m).cell k hlt
      obtain ⟨ad', rfl, hc'⟩ := (hr'.drewN m).cell k hlt
      obtain ⟨x, hx⟩ : ∃ x, g k = x := ⟨_, rfl⟩
      have hc1 : (w.drewN m).cell? (ad.add k) = some (.float .f64 x) := by rw [hc, ← hx]
      have hc2 : (w.drewN m).cell? (ad'.add k) = some (.float .f64 x) := by rw [hc', ← hx]
      obtain ⟨wq, hwq⟩ : ∃ wq, w.drewN m = wq := ⟨_, rfl⟩
      rw [hwq] at hc1 hc2 ⊢
      have Hwq := Lib.hid hwq
      clear hwq hx hc hc'
      have hs : ∀ w : World, Calls Try.prog 14 #[.float .f64 x, .float .f64 x] w fun e w' => e = .returned (.bool true) ∧ w = w' := fun w => by
        have := same_any x x w
        rw [show (cn x == cn x) = true from by simp] at this
        exact this
      have HS := Lib.hid hs
      clear hs
      go_wp2_with fail
      go_region_with (go_at_call 14; refine (HS.out _).mono ?_; rintro e w1 ⟨rfl, rfl⟩)
      all_goals go_wp2_with fail
      all_goals exact ⟨⟨k + 1, m + 1, by omega, by go_num, by rw [← Hwq.out]; rfl⟩, by simp [intOf]; omega⟩
    · go_wp2_with fail
      go_ret
      first | exact ⟨m, rfl, rfl⟩ | exact ⟨rfl, m, rfl⟩
end Go.Proofs.Ytdfbmfmfhdifpaa
