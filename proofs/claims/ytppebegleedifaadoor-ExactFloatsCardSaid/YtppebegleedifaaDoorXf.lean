/- less, Inverse. -/
import Derived.Test.YtppebegleedifaaDoorXe
namespace Go.Proofs.YtppebegleedifaaDoor
open Go.RowKit

def lessN (a b m : Nat) : Nat := if b ≤ a then a - b else m - (b - a)
theorem less_any (a b m : Nat) (ha : a < m) (hb : b < m) (hm : m < 4294967296) (w : World) :
    Calls Tryd.prog 59 #[.int .u64 a, .int .u64 b, .int .u64 m] w fun e w' => e = .returned (.int .u64 (lessN a b m : Nat)) ∧ w = w' := by
  have hm' : (m : Int) < 4294967296 := by omega
  have ha' : (a : Int) < m := by omega
  have hb' : (b : Int) < m := by omega
  by_cases h : b ≤ a
  · have e : lessN a b m = a - b := by unfold lessN; rw [if_pos h]
    have h1 : (b : Int) ≤ a := by omega
    rw [e]
    go_enter Tryd.func59, Tryd.ntmps59
    go_wp2_with fail
    go_ret
    exact ⟨by go_num, rfl⟩
  · have e : lessN a b m = m - (b - a) := by unfold lessN; rw [if_neg h]
    have h1 : ¬ (b : Int) ≤ a := by omega
    rw [e]
    go_enter Tryd.func59, Tryd.ntmps59
    go_wp2_with fail
    go_ret
    exact ⟨by go_num, rfl⟩
theorem lessN_lt {a b m : Nat} (ha : a < m) (_hb : b < m) : lessN a b m < m := by unfold lessN; split <;> omega
theorem lessN_mod {a b m : Nat} (_ha : a < m) (hb : b < m) : ∃ t : Nat, lessN a b m + b = a + t * m := by
  unfold lessN
  split
  · exact ⟨0, by omega⟩
  · exact ⟨1, by omega⟩
/-- One step of Euclid's way. -/
theorem inv_step {a m r s x y q : Nat} (hm : 0 < m) (_hs : 0 < s) (hx : x < m) (hq : q = r / s) (h1 : x * a % m = r % m) (h2 : y * a % m = s % m) :
    lessN x (q * y % m) m * a % m = (r % s) % m := by
  obtain ⟨t, ht⟩ := lessN_mod (b := q * y % m) hx (Nat.mod_lt _ hm)
  generalize lessN x (q * y % m) m = z at *
  have e0 : r = q * s + r % s := by rw [hq, Nat.mul_comm]; exact (Nat.div_add_mod r s).symm
  have k1 : ((z * a + q * s : Nat) : Int) % m = ((r % s + q * s : Nat) : Int) % m := by
    have f1 : (z * a + q * s) % m = r % m := by
      rw [← h1]
      have : x * a + t * m * a = z * a + (q * y % m) * a := by rw [← Nat.add_mul, ← Nat.add_mul, ht]
      have f2 : (x * a) % m = (z * a + (q * y % m) * a) % m := by
        rw [← this, Nat.mul_right_comm, Nat.add_mul_mod_self_right]
      have f4 : (q * y % m) * a % m = q * s % m := by
        rw [Nat.mul_mod, Nat.mod_mod, ← Nat.mul_mod, Nat.mul_assoc, Nat.mul_mod, h2, ← Nat.mul_mod]
      rw [f2, Nat.add_mod (z * a) (q * y % m * a), f4, ← Nat.add_mod]
    have f3 : (r % s + q * s) % m = r % m := by rw [Nat.add_comm, ← e0]
    omega
  rw [Int.natCast_add, Int.natCast_add] at k1
  have k2 := (Int.emod_add_cancel_right _).1 k1
  omega
set_option maxHeartbeats 2000000 in
theorem inverse_any (a m : Nat) (hm : 2 ≤ m) (hm2 : m < 4294967296) (ha : a < 18446744073709551616) (hg : Nat.gcd m (a % m) = 1) (w : World) :
    Calls Tryd.prog 48 #[.int .u64 a, .int .u64 m] w fun e w' => ∃ x k : Nat, e = .returned (.tuple #[.int .u64 x, .nilIface]) ∧ x < m ∧ x * a % m = 1 ∧ w' = w.drewN k := by
  have h1 : ((m : Int) == 0) = false := by simp; omega
  have h3 : (2 : Int) ≤ m := by omega
  have h4 : (m : Int) ≠ 0 := by omega
  have h5 : (m : Int) < 4294967296 := by omega
  have hm0 : 0 < m := by omega
  have hs1 : a % m < m := Nat.mod_lt _ hm0
  obtain ⟨s0, hs0⟩ : ∃ s, a % m = s := ⟨_, rfl⟩
  have hi : (a : Int) % m = s0 := by omega
  have hi1 : (1 : Int) % m = 1 := Int.emod_eq_of_lt (by omega) (by omega)
  have HI0 : Hid (0 * a % m = m % m ∧ 1 * a % m = s0 % m ∧ Nat.gcd m s0 = 1) := by
    refine ⟨by simp, by rw [Nat.one_mul, ← hs0, Nat.mod_mod], by rw [← hs0]; exact hg⟩
  rw [hs0] at hs1
  clear hg hs0
  go_enter Tryd.func48, Tryd.ntmps48
  go_wp2_with fail
  go_quiet (fail)
  go_wp2_with fail
  go_quiet (fail)
  go_wp2_with fail
  have HI1 := Lib.hid hi1
  clear hi1
  go_loopw [6, 7, 8, 9] (fun v1 v2 v3 v4 wr => ∃ r s x y k : Nat, v1 = .int .u64 r ∧ v2 = .int .u64 s ∧ v3 = .int .u64 x ∧ v4 = .int .u64 y ∧ s < r ∧ r ≤ m ∧ x < m ∧ y < m ∧ wr = w.drewN k ∧
    Hid (x * a % m = r % m ∧ y * a % m = s % m ∧ Nat.gcd r s = 1)) (fun _ v2 _ _ _ => (intOf v2).toNat)
  case atStart => exact ⟨m, s0, 0, 1, _, rfl, by rw [hi], rfl, by rw [HI1.out]; rfl, hs1, Nat.le_refl _, hm0, hm, drew_N _ _ _, HI0⟩
  case round =>
    obtain ⟨r, s, x, y, k, rfl, rfl, rfl, rfl, a1, a2, a3, a4, rfl, HI⟩ := hrel
    clear HI0 hi
    by_cases hs : s = 0
    · subst hs
      have hr : r = 1 := by have := HI.out.2.2; rw [Nat.gcd_zero_right] at this; exact this
      subst hr
      have hx : Hid (x * a % m = 1) := by show _ = _; rw [HI.out.1]; exact Nat.mod_eq_of_lt (by omega)
      have e1 : (x : Int) % m = x := Int.emod_eq_of_lt (by omega) (by omega)
      go_wp2_with fail
      go_ret2
      exact ⟨x, k, congrArg (fun z => Ending.returned (.tuple #[.int .u64 z, .nilIface])) e1, a3, hx.out, rfl⟩
    · have hs0 : 0 < s := by omega
      have e1 : ((s : Int) != 0) = true := by rw [bne_iff_ne]; omega
      have e2 : (s : Int) ≠ 0 := by omega
      have e3 : (0 : Int) < s := by omega
      obtain ⟨q, hq⟩ : ∃ q, r / s = q := ⟨_, rfl⟩
      obtain ⟨t, ht⟩ : ∃ t, r % s = t := ⟨_, rfl⟩
      have hts : t < s := by rw [← ht]; exact Nat.mod_lt _ hs0
      have hqr : q ≤ r := by rw [← hq]; exact Nat.div_le_self _ _
      have e4 : (r : Int) / s = (q : Int) := by rw [← hq]; rfl
      have e5 : (r : Int) % s = (t : Int) := by rw [← ht]; rfl
      have HS : Hid (lessN x (q * y % m) m * a % m = t % m ∧ Nat.gcd s t = 1) := by
        refine ⟨by rw [← ht]; exact inv_step hm0 hs0 a3 hq.symm HI.out.1 HI.out.2.1, ?_⟩
        rw [← ht, ← HI.out.2.2, Nat.gcd_comm r s, Nat.gcd_rec s r, Nat.gcd_comm]
      obtain ⟨u, hu⟩ : ∃ u, q * y % m = u := ⟨_, rfl⟩
      have hum : u < m := by rw [← hu]; exact Nat.mod_lt _ hm0
      have HU := Lib.hid hu
      rw [hu] at HS
      clear hq ht hs hu
      go_wp2_with fail
      go_quiet (fail)
      go_wp2_with (first
        | (go_at_call 47; refine (mul_any q y m (by omega) (by omega) hm0 hm2 _).mono ?_; rw [HU.out]; rintro e w1 ⟨k1, rfl, rfl⟩)
        | (go_at_call 59; refine (less_any x u m a3 hum hm2 _).mono ?_; rintro e w1 ⟨rfl, rfl⟩))
      all_goals
        go_roundw
        case rel => exact ⟨s, t, y, lessN x u m, _, rfl, by go_num, rfl, rfl, hts, by omega, a4, lessN_lt a3 hum, by first | rfl | (simp only [drew_N]), HI.out.2.1, HS.out.1, HS.out.2⟩
        case measure => simp only [intOf]; omega
end Go.Proofs.YtppebegleedifaaDoor
