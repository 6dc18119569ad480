/- The reference's sums, ask. -/
import Derived.Test.YtppebegleedifaaDoorXg
namespace Go.Proofs.YtppebegleedifaaDoor
open Go.RowKit

/-- The sum of x[j] times s^j, modulo p, step by step. -/
def dsum (x : Nat → Nat) (s p : Nat) : Nat → Nat
  | 0 => 0
  | j + 1 => (dsum x s p j + x j % p * (s ^ j % p)) % p
def dftN (x : Nat → Nat) (r p n : Nat) : Nat → Nat := fun k => dsum x (powF r p k) p n
theorem dsum_lt (x : Nat → Nat) (s p j : Nat) (hp : 0 < p) : dsum x s p j < p := by
  cases j with
  | zero => exact hp
  | succ j => exact Nat.mod_lt _ hp
theorem prod_lt {a b p : Nat} (ha : a < p) (hb : b < p) (hp : p < 4294967296) : a * b ≤ 18446744065119617025 := Nat.mul_le_mul (show a ≤ 4294967295 by omega) (show b ≤ 4294967295 by omega)
set_option maxHeartbeats 2000000 in
theorem sums_any (A : Option Addr) (n c r p : Nat) (x : Nat → Nat) (w : World) (hx : ∀ j, j < n → x j < 18446744073709551616) (hr : RS w A n c (uw x)) (hrp : r < p) (h2 : 2 ≤ p) (np2 : p < 4294967296) (hn : n ≤ 1024) :
    Calls Tryd.prog 31 #[.slice A n c, .int .u64 r, .int .u64 p] w fun e w' => ∃ A' c', e = .returned (.slice A' n c') ∧ Bld w' w.heap.size 24 (.slice A' n c') n (uw (dftN x r p n)) ∧ Below w.heap.size w w' := by
  have k1 := hr.nc
  have k2 := hr.cm
  have hp0 : 0 < p := by omega
  have Hx := Lib.hid hx
  have Hr := Lib.hid hr
  obtain ⟨B, hBs⟩ : ∃ B, w.heap.size = B := ⟨_, rfl⟩
  have HRS : Hid (∀ w', Below B w w' → RS w' A n c (uw x)) := fun w' hb => by rw [← hBs] at hb; exact hr.below hb
  have hB0 : Bld (w.alloc (.cells #[] 24)) B 24 (.slice (some ⟨B, 0, none⟩) 0 0) 0 (uw (dftN x r p n)) := by
    rw [← hBs]
    exact ⟨⟨by simp, .inr ⟨w.heap.size, 0, #[], rfl, Nat.le_refl _, heap_alloc_new w _, by omega, by decide, rfl, rfl⟩⟩, by simp⟩
  have hbel0 : Below B w (w.alloc (.cells #[] 24)) := by rw [← hBs]; exact (Below.refl _ _).alloc (Nat.le_refl _) _
  have HB0 := Lib.hid hB0
  have Hbel0 := Lib.hid hbel0
  have e11 : (1 : Int) = ((1 : Nat) : Int) := rfl
  clear hr hx hB0 hbel0 e11
  go_enter Tryd.func31, Tryd.ntmps31
  go_wp2_with fail
  try rw [hBs]
  generalize w.alloc (.cells #[] 24) = w0 at *
  go_loopw [7, 8, 9] (fun o s i wr => ∃ k st c' : Nat, ∃ A', k ≤ n ∧ i = .int .i64 k ∧ s = .int .u64 st ∧ o = .slice A' k c' ∧ st < p ∧ Hid (st = powF r p k) ∧ Bld wr B 24 (.slice A' k c') k (uw (dftN x r p n)) ∧ Below B w wr) (fun _ _ i _ => n - (intOf i).toNat)
  case atStart => exact ⟨0, 1, 0, _, Nat.zero_le _, rfl, rfl, rfl, h2, by show _ = _; unfold powF; rw [Nat.pow_zero, Nat.mod_eq_of_lt h2], HB0.out, Hbel0.out⟩
  case round =>
    obtain ⟨k, st, c', A', hk, rfl, rfl, rfl, hst, HS, hB, hbel⟩ := hrel
    clear HB0 Hbel0
    have HB := Lib.hid hB
    have Hbel := Lib.hid hbel
    have k3 := hB.rs.nc
    have k4 := hB.rs.cm
    clear hB hbel
    by_cases hlt : k < n
    · have hlt' : (k : Int) < n := by omega
      go_wp2_with fail
      go_loopw [10, 11, 12] (fun y f i wr2 => ∃ j yv fv : Nat, j ≤ n ∧ i = .int .i64 j ∧ y = .int .u64 yv ∧ f = .int .u64 fv ∧ yv < p ∧ fv < p ∧ Hid (yv = dsum x st p j) ∧ Hid (fv = st ^ j % p) ∧ wr2 = wr) (fun _ _ i _ => n - (intOf i).toNat)
      case atStart => exact ⟨0, 0, 1, Nat.zero_le _, rfl, rfl, rfl, hp0, h2, rfl, by show _ = _; rw [Nat.pow_zero, Nat.mod_eq_of_lt h2], rfl⟩
      case round =>
        obtain ⟨j, yv, fv, hj, rfl, rfl, rfl, hy, hf, HY, HF, rfl⟩ := hrel
        by_cases hjl : j < n
        · have hjl' : (j : Int) < n := by omega
          have hrr : RS wr A n c (uw x) := HRS.out _ Hbel.out
          have hxl := Hx.out j hjl
          have hp' : (0 : Int) < p := by omega
          have hp'' : (p : Int) ≠ 0 := by omega
          obtain ⟨xv, hxv⟩ : ∃ xv, x j % p = xv := ⟨_, rfl⟩
          have hxp : xv < p := by rw [← hxv]; exact Nat.mod_lt _ hp0
          have e1 : (x j : Int) % p = (xv : Int) := by rw [← hxv]; rfl
          have b1 := prod_lt hxp hf np2
          have b2 := prod_lt hf hst np2
          obtain ⟨u, hu⟩ : ∃ u, xv * fv = u := ⟨_, rfl⟩
          obtain ⟨t, ht⟩ : ∃ t, fv * st = t := ⟨_, rfl⟩
          have e2 : (xv : Int) * fv = (u : Int) := by rw [← hu]; exact (Int.natCast_mul _ _).symm
          have e3 : (fv : Int) * st = (t : Int) := by rw [← ht]; exact (Int.natCast_mul _ _).symm
          rw [hu] at b1
          rw [ht] at b2
          have HY2 : Hid ((yv + u) % p = dsum x st p (j + 1)) := by show _ = _; rw [dsum, ← HY.out, ← HF.out, hxv, hu]
          have HF2 : Hid (t % p = st ^ (j + 1) % p) := by show _ = _; rw [← ht, HF.out, Nat.pow_succ, Nat.mul_mod, Nat.mod_mod, ← Nat.mul_mod]
          clear hu ht hxv
          go_wp2_with (first
            | ((with_reducible show wpList _ _ _ (⟨some 29, _, _, _, _, _⟩ :: _) _ _); refine wpl_ix rfl 22 24 _ _ rfl Tryd.underlying22 cells24 A n c j _ _ (uw x) rfl rfl rfl hjl hrr ?_; intro pp hpp; have hpp2 : wr.cell? pp = some (.int .u64 (x j : Nat)) := hpp; clear hpp))
          go_roundw
          case rel => exact ⟨j + 1, (yv + u) % p, t % p, by omega, by go_num, by go_num, by go_num, Nat.mod_lt _ hp0, Nat.mod_lt _ hp0, HY2.out, HF2.out, by trivial⟩
          case measure => simp only [intOf]; omega
        · obtain rfl : j = n := by omega
          have b3 : st * r ≤ 18446744065119617025 := prod_lt hst hrp np2
          obtain ⟨t, ht⟩ : ∃ t, st * r = t := ⟨_, rfl⟩
          have e3 : (st : Int) * r = (t : Int) := by rw [← ht]; exact (Int.natCast_mul _ _).symm
          rw [ht] at b3
          have HS2 : Hid (t % p = powF r p (k + 1)) := by show _ = _; rw [← ht, HS.out]; exact powF_succ r p k
          have HV : Hid ((Value.int .u64 (yv : Nat)) = uw (dftN x r p j) k) := by show _ = _; unfold uw dftN; rw [HY.out, HS.out]
          have hp' : (0 : Int) < p := by omega
          have hp'' : (p : Int) ≠ 0 := by omega
          clear ht
          go_wp2_with (first
            | ((with_reducible show wpList _ _ _ (⟨some 46, _, _, _, _, _⟩ :: _) _ _); refine wpl_push (w0 := w) rfl _ _ 22 24 (.int .u64 0) 8 rfl Tryd.underlying22 info24 rfl B _ k _ (uw (dftN x r p j)) (.int .u64 (yv : Nat)) rfl rfl (HB.out.alloc _) (Hbel.out.alloc HB.out.hB _) (cell_one _ _ _) HV.out rfl (by omega) (by omega) ?_; intro A2 c2 w2 hB2 hbel2 hk2 hc2))
          go_roundw
          case rel => exact ⟨k + 1, t % p, c2, A2, by omega, by go_num, by go_num, rfl, Nat.mod_lt _ hp0, HS2.out, hB2, hbel2⟩
          case measure => simp only [intOf]; omega
    · obtain rfl : k = n := by omega
      go_wp2_with fail
      go_ret
      exact ⟨A', c', rfl, by first | exact HB.out | (rw [hBs]; exact HB.out), by first | exact Hbel.out | (rw [hBs]; exact Hbel.out)⟩
end Go.Proofs.YtppebegleedifaaDoor
