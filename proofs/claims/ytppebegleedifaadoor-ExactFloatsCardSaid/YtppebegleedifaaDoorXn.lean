/- sameU, sameI; the errors' numbers. -/
import Derived.Test.YtppebegleedifaaDoorXm
import Derived.LaidEql
namespace Go.Proofs.YtppebegleedifaaDoor
open Go.RowKit

def iw (f : Nat → Int) : Nat → Value := fun j => .int .i64 (f j)
theorem cells2 : Tryd.prog.cellsOf 2 = 1 := by kernel_rfl
theorem info2 : (Tryd.prog.info? 2).map (fun i => (i.zero, i.size, i.bytes)) = some (some (.int .i64 0), 1, 8) := by kernel_rfl
theorem RS.at0 {w : World} {A : Option Addr} {n c : Nat} {F : Nat → Value} (h : RS w A n c F) (j : Nat) (hj : j < n) : ∃ ad, A = some ad ∧ w.cell? (ad.add j) = some (F j) := h.cell j hj
set_option maxHeartbeats 1000000 in
theorem sameU_any (A A' : Option Addr) (n c c' : Nat) (f : Nat → Nat) (w : World) (hr : RS w A n c (uw f)) (hr' : RS w A' n c' (uw f)) :
    Calls Tryd.prog 14 #[.slice A n c, .slice A' n c'] w fun e w' => ∃ k, e = .returned (.bool true) ∧ w' = w.drewN k := by
  have k1 := hr.nc
  have k2 := hr.cm
  have k3 := hr'.nc
  have k4 := hr'.cm
  go_enter Tryd.func14, Tryd.ntmps14
  go_wp2_with fail
  go_loopw [13] (fun i wr => ∃ j k : Nat, j ≤ n ∧ i = .int .i64 j ∧ wr = w.drewN k) (fun i _ => n - (intOf i).toNat)
  case atStart => exact ⟨0, 0, Nat.zero_le _, rfl, rfl⟩
  case round =>
    obtain ⟨j, k, hj, rfl, rfl⟩ := hrel
    by_cases hlt : j < n
    · have hlt' : (j : Int) < n := by omega
      obtain ⟨ad, rfl, hc⟩ := hr.cell j hlt
      obtain ⟨ad', rfl, hc'⟩ := hr'.cell j hlt
      obtain ⟨v, hv⟩ : ∃ v, f j = v := ⟨_, rfl⟩
      have hc1 : (w.drewN k).cell? (ad.add j) = some (.int .u64 (v : Nat)) := by rw [← hv]; exact hc
      have hc2 : (w.drewN k).cell? (ad'.add j) = some (.int .u64 (v : Nat)) := by rw [← hv]; exact hc'
      obtain ⟨wq, hwq⟩ : ∃ wq, w.drewN k = wq := ⟨_, rfl⟩
      rw [hwq] at hc1 hc2 ⊢
      have Hwq := Lib.hid hwq
      clear hr hr' hc hc' hwq hv
      go_wp2_with fail
      go_quiet (fail)
      go_wp2_with fail
      exact ⟨⟨j + 1, _, by omega, by go_num, by rw [← Hwq.out]; exact drew_N _ _ _⟩, by simp [intOf]; omega⟩
    · obtain rfl : j = n := by omega
      go_wp2_with fail
      go_ret
      exact ⟨k, rfl, rfl⟩
set_option maxHeartbeats 1000000 in
theorem sameI_any (A A' : Option Addr) (n c c' : Nat) (f : Nat → Int) (w : World) (hr : RS w A n c (iw f)) (hr' : RS w A' n c' (iw f)) :
    Calls Tryd.prog 19 #[.slice A n c, .slice A' n c'] w fun e w' => ∃ k, e = .returned (.bool true) ∧ w' = w.drewN k := by
  have k1 := hr.nc
  have k2 := hr.cm
  have k3 := hr'.nc
  have k4 := hr'.cm
  go_enter Tryd.func19, Tryd.ntmps19
  go_wp2_with fail
  go_loopw [13] (fun i wr => ∃ j k : Nat, j ≤ n ∧ i = .int .i64 j ∧ wr = w.drewN k) (fun i _ => n - (intOf i).toNat)
  case atStart => exact ⟨0, 0, Nat.zero_le _, rfl, rfl⟩
  case round =>
    obtain ⟨j, k, hj, rfl, rfl⟩ := hrel
    by_cases hlt : j < n
    · have hlt' : (j : Int) < n := by omega
      obtain ⟨ad, rfl, hc⟩ := hr.cell j hlt
      obtain ⟨ad', rfl, hc'⟩ := hr'.cell j hlt
      obtain ⟨v, hv⟩ : ∃ v, f j = v := ⟨_, rfl⟩
      have hc1 : (w.drewN k).cell? (ad.add j) = some (.int .i64 v) := by rw [← hv]; exact hc
      have hc2 : (w.drewN k).cell? (ad'.add j) = some (.int .i64 v) := by rw [← hv]; exact hc'
      obtain ⟨wq, hwq⟩ : ∃ wq, w.drewN k = wq := ⟨_, rfl⟩
      rw [hwq] at hc1 hc2 ⊢
      have Hwq := Lib.hid hwq
      clear hr hr' hc hc' hwq hv
      go_wp2_with fail
      go_quiet (fail)
      go_wp2_with fail
      exact ⟨⟨j + 1, _, by omega, by go_num, by rw [← Hwq.out]; exact drew_N _ _ _⟩, by simp [intOf]; omega⟩
    · obtain rfl : j = n := by omega
      go_wp2_with fail
      go_ret
      exact ⟨k, rfl, rfl⟩
end Go.Proofs.YtppebegleedifaaDoor
