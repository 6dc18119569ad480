/- Pow of both sides. -/
import Derived.Test.YtppebegleedifaaDoorXa
import Derived.Test.YtppebegleedifaaDoorXb
namespace Go.Proofs.YtppebegleedifaaDoor
open Go.RowKit

theorem and1 (a : Nat) (ha : a < 18446744073709551616) : bits .and .u64 (a : Int) 1 = ((a % 2 : Nat) : Int) := by
  have h := bits_and_u64_nat a 1 ha (by omega)
  have e : a &&& 1 = a % 2 := Nat.and_two_pow_sub_one_eq_mod a 1
  rw [e] at h
  exact h
theorem pow_odd {o a h m T : Nat} (H : o * a ^ (2 * h + 1) % m = T) : o * a % m * (a * a % m) ^ h % m = T := by
  rw [← H, Nat.mul_mod, Nat.mod_mod, ← Nat.pow_mod, ← Nat.mul_mod, Nat.mul_assoc]
  congr 1
  rw [← Nat.pow_two, ← Nat.pow_mul, ← Nat.pow_succ']
theorem pow_even {o a h m T : Nat} (H : o * a ^ (2 * h) % m = T) : o * (a * a % m) ^ h % m = T := by
  rw [← H, Nat.mul_mod, ← Nat.pow_mod, ← Nat.mul_mod, ← Nat.pow_two, ← Nat.pow_mul]
set_option maxHeartbeats 1000000 in
theorem pow_any (a e m : Nat) (ha : a < 18446744073709551616) (he : e < 18446744073709551616) (hm : 0 < m) (hm2 : m < 4294967296) (w : World) :
    Calls Tryd.prog 57 #[.int .u64 a, .int .u64 e, .int .u64 m] w fun x w' => ∃ k, x = .returned (.int .u64 ((a ^ e % m : Nat) : Int)) ∧ w' = w.drewN k := by
  have h1 : ((m : Int) == 0) = false := by simp; omega
  have h3 : (0 : Int) < m := by omega
  have h4 : (m : Int) ≠ 0 := by omega
  obtain ⟨T, hT⟩ : ∃ T, a ^ e % m = T := ⟨_, rfl⟩
  rw [hT]
  go_enter Tryd.func57, Tryd.ntmps57
  go_wp2_with fail
  go_loopw [0, 1, 7] (fun x y z wr => ∃ a' e' o' k : Nat, x = .int .u64 a' ∧ y = .int .u64 e' ∧ z = .int .u64 o' ∧ wr = w.drewN k ∧ a' < 18446744073709551616 ∧ e' < 18446744073709551616 ∧ o' < m ∧ Hid (o' * a' ^ e' % m = T)) (fun _ y _ _ => (intOf y).toNat)
  case atStart => exact ⟨a, e, 1 % m, 0, rfl, rfl, rfl, rfl, ha, he, Nat.mod_lt _ hm, by show _ = _; rw [← hT, Nat.mul_mod, Nat.mod_mod, ← Nat.mul_mod, Nat.one_mul]⟩
  case round =>
    obtain ⟨a', e', o', k, rfl, rfl, rfl, rfl, ha', he', ho', HI⟩ := hrel
    clear hT
    rcases Nat.eq_zero_or_pos e' with h0 | h0
    · subst h0
      have HT : Hid (o' = T) := by show _ = _; have := HI.out; rw [Nat.pow_zero, Nat.mul_one, Nat.mod_eq_of_lt ho'] at this; exact this
      go_wp2_with fail
      go_ret
      exact ⟨k, by rw [← HT.out]; rfl, rfl⟩
    · have g0 : (0 : Int) < e' := by omega
      have g1 := and1 e' he'
      rcases Nat.mod_two_eq_zero_or_one e' with hp | hp
      · rw [hp] at g1
        have HE := Lib.hid (pow_even (o := o') (a := a') (m := m) (T := T) (h := e' / 2) (by rw [show 2 * (e' / 2) = e' by omega]; exact HI.out))
        go_wp2_with (go_at_call 47; refine (mul_any a' a' m ha' ha' hm hm2 _).mono ?_; rintro x w1 ⟨k2, rfl, rfl⟩)
        go_roundw
        case rel => exact ⟨a' * a' % m, e' / 2, o', k + k2, by go_num, by go_num, rfl, rfl, by have := Nat.mod_lt (a' * a') hm; omega, by omega, ho', HE.out⟩
        case measure => first | (simp [intOf]; done) | (simp [intOf]; omega)
      · rw [hp] at g1
        have HE := Lib.hid (pow_odd (o := o') (a := a') (m := m) (T := T) (h := e' / 2) (by rw [show 2 * (e' / 2) + 1 = e' by omega]; exact HI.out))
        have ho2 : o' < 18446744073709551616 := by omega
        go_wp2_with (first
          | (go_at_call_of 47 (Value.int .u64 (o' : Int)); refine (mul_any o' a' m ho2 ha' hm hm2 _).mono ?_; rintro x w1 ⟨k2, rfl, rfl⟩)
          | (go_at_call 47; refine (mul_any a' a' m ha' ha' hm hm2 _).mono ?_; rintro x w1 ⟨k3, rfl, rfl⟩))
        go_roundw
        case rel => exact ⟨a' * a' % m, e' / 2, o' * a' % m, _, by go_num, by go_num, by go_num, by first | rfl | simp only [drew_N], by have := Nat.mod_lt (a' * a') hm; omega, by omega, Nat.mod_lt _ hm, HE.out⟩
        case measure => first | (simp [intOf]; done) | (simp [intOf]; omega)
theorem pow_bit (a e m j b : Nat) (hb : e / 2 ^ j % 2 = b) (_hb2 : b < 2) : (a ^ (e / 2 ^ (j + 1)) % m) * (a ^ (e / 2 ^ (j + 1)) % m) % m * a ^ b % m = a ^ (e / 2 ^ j) % m := by
  have h : e / 2 ^ j = 2 * (e / 2 ^ (j + 1)) + b := by rw [Nat.pow_succ, ← Nat.div_div_eq_div_mul]; omega
  rw [h]
  generalize e / 2 ^ (j + 1) = q
  rw [← Nat.mul_mod, Nat.mul_mod, Nat.mod_mod, ← Nat.mul_mod, Nat.pow_add, Nat.two_mul, Nat.pow_add]
theorem shr_nat (e j : Nat) : (e : Int) / 2 ^ j = ((e / 2 ^ j : Nat) : Int) := by
  rw [Int.natCast_ediv, Int.natCast_pow]; rfl
set_option maxHeartbeats 1000000 in
theorem powR_any (a e m : Nat) (ha : a < 18446744073709551616) (he : e < 18446744073709551616) (hm : 0 < m) (hm2 : m < 4294967296) (w : World) :
    Calls Tryd.prog 33 #[.int .u64 a, .int .u64 e, .int .u64 m] w fun x w' => ∃ k, x = .returned (.int .u64 ((a ^ e % m : Nat) : Int)) ∧ w' = w.drewN k := by
  have h1 : ((m : Int) == 0) = false := by simp; omega
  have h3 : (0 : Int) < m := by omega
  have h4 : (m : Int) ≠ 0 := by omega
  obtain ⟨T, hT⟩ : ∃ T, a ^ e % m = T := ⟨_, rfl⟩
  obtain ⟨F, hF⟩ : ∃ F : Nat → Nat, ∀ j, F j = a ^ (e / 2 ^ j) % m := ⟨fun j => a ^ (e / 2 ^ j) % m, fun _ => rfl⟩
  obtain ⟨D, hD⟩ : ∃ D : Nat → Nat, ∀ j, D j = e / 2 ^ j := ⟨fun j => e / 2 ^ j, fun _ => rfl⟩
  rw [hT]
  have HT : Hid (F 0 = T) := by show _ = _; rw [hF, ← hT, Nat.pow_zero, Nat.div_one]
  have H64 : Hid (F 64 = 1 % m) := by show _ = _; rw [hF, Nat.div_eq_of_lt (by simpa using he), Nat.pow_zero]
  have HFl : Hid (∀ j, F j < m) := fun j => by rw [hF]; exact Nat.mod_lt _ hm
  have HD : Hid (∀ j : Nat, (e : Int) / 2 ^ j = (D j : Int)) := fun j => by rw [hD, shr_nat]
  have HDl : Hid (∀ j, D j < 18446744073709551616) := fun j => by rw [hD]; exact Nat.lt_of_le_of_lt (Nat.div_le_self _ _) he
  have HS : Hid (∀ j b, D j % 2 = b → b < 2 → F (j + 1) * F (j + 1) % m * a ^ b % m = F j) := fun j b hb hb2 => by
    rw [hF, hF]; rw [hD] at hb; exact pow_bit a e m j b hb hb2
  clear hT hF hD
  go_enter Tryd.func33, Tryd.ntmps33
  go_wp2_with fail
  go_loopw [7, 8] (fun z y wr => ∃ j k : Nat, j ≤ 64 ∧ y = .int .i64 ((j : Int) - 1) ∧ z = .int .u64 (F j) ∧ wr = w.drewN k) (fun _ y _ => (intOf y + 1).toNat)
  case atStart => exact ⟨64, 0, by omega, by go_num, by rw [H64.out]; rfl, rfl⟩
  case round =>
    obtain ⟨j, k, hj, rfl, rfl, rfl⟩ := hrel
    rcases Nat.eq_zero_or_pos j with h0 | h0
    · subst h0
      go_wp2_with fail
      go_ret
      exact ⟨k, by rw [← HT.out]; rfl, rfl⟩
    · obtain ⟨t, rfl⟩ : ∃ t, j = t + 1 := ⟨j - 1, by omega⟩
      have et : ((t + 1 : Nat) : Int) - 1 = (t : Int) := by omega
      rw [et]
      have f1 := HFl.out (t + 1)
      have f2 : F (t + 1) < 18446744073709551616 := by omega
      have f3 : F (t + 1) * F (t + 1) % m < 18446744073709551616 := by have := Nat.mod_lt (F (t + 1) * F (t + 1)) hm; omega
      have ht : (t : Int) < 64 := by omega
      have d1 := HD.out t
      have g1 := and1 (D t) (HDl.out t)
      obtain ⟨p, hp⟩ : ∃ p, D t % 2 = p := ⟨_, rfl⟩
      have hp2 : p < 2 := by omega
      have HE := Lib.hid (HS.out t p hp hp2)
      rw [hp] at g1
      clear et hp
      generalize F (t + 1) = v at *
      obtain ⟨u, hu⟩ : ∃ u, v * v % m = u := ⟨_, rfl⟩
      have HU := Lib.hid hu
      rw [hu] at f3 HE
      have hum : u < m := by rw [← hu]; exact Nat.mod_lt _ hm
      clear hu
      rcases (show p = 0 ∨ p = 1 by omega) with rfl | rfl
      · go_wp2_with (go_at_call 50; refine (mulR_any v v m f2 f2 hm hm2 _).mono ?_; rw [HU.out]; rintro x w1 ⟨k2, rfl, rfl⟩)
        go_roundw
        case rel => exact ⟨t, k + k2, by omega, by go_num, by rw [← HE.out, Nat.pow_zero, Nat.mul_one, Nat.mod_eq_of_lt hum], rfl⟩
        case measure => first | (simp [intOf]; done) | (simp [intOf]; omega)
      · go_wp2_with (first
          | (go_at_call_of 50 (Value.int .u64 (v : Int)); refine (mulR_any v v m f2 f2 hm hm2 _).mono ?_; rw [HU.out]; rintro x w1 ⟨k2, rfl, rfl⟩)
          | (go_at_call_of 50 (Value.int .u64 (u : Int)); refine (mulR_any u a m f3 ha hm hm2 _).mono ?_; rintro x w1 ⟨k3, rfl, rfl⟩))
        go_roundw
        case rel => exact ⟨t, _, by omega, by go_num, by rw [← HE.out, Nat.pow_one]; rfl, by first | rfl | simp only [drew_N]⟩
        case measure => first | (simp [intOf]; done) | (simp [intOf]; omega)
end Go.Proofs.YtppebegleedifaaDoor
