/- Numbers of 192 bits: add. -/
import Derived.Test.YtppebegleedifaaDoorXn
namespace Go.Proofs.YtppebegleedifaaDoor
open Go.RowKit

theorem add64N (x y c : Nat) (hc : c ≤ 1) (w : World) :
    (callFunc 52 #[.int .u64 (x : Nat), .int .u64 (y : Nat), .int .u64 (c : Nat)]).run Tryd.prog w =
      .ok (.value (.tuple #[.int .u64 (((x + y + c) % 18446744073709551616 : Nat) : Int), .int .u64 (((x + y + c) / 18446744073709551616 : Nat) : Int)])) w := by
  rw [run_callFunc_extern Tryd.func52 (by kernel_rfl) (by kernel_rfl) (by kernel_rfl) (e := add64Entry) (by kernel_rfl), run_add64 x y c (by omega) (by omega) (by omega) (by omega)]
  simp only [Result.andThen]
  congr 5 <;> omega
set_option maxHeartbeats 2000000 in
theorem wadd_core (B o a0 a1 a2 U V H L h1 h2 top s0 s1 s2 c0 c1 c2 : Nat) (u v hs tt : Int) (w : World)
    (k0 : w.cell? ⟨B, o, none⟩ = some (.int .u64 (a0 : Nat))) (k1 : w.cell? ⟨B, o + 1, none⟩ = some (.int .u64 (a1 : Nat))) (k2 : w.cell? ⟨B, o + 2, none⟩ = some (.int .u64 (a2 : Nat)))
    (f0 : w.frozen? ⟨B, o, none⟩ = false) (f1 : w.frozen? ⟨B, o + 1, none⟩ = false) (f2 : w.frozen? ⟨B, o + 2, none⟩ = false)
    (hU : IntKind.u64.wrap u = (U : Int)) (hV : IntKind.u64.wrap v = (V : Int)) (hU2 : U < 18446744073709551616) (hV2 : V < 18446744073709551616)
    (hH : Hid (U * V / 18446744073709551616 = H)) (hL : Hid (U * V % 18446744073709551616 = L))
    (g1 : u < 0 ∧ IntKind.u64.wrap ((H : Int) - V) = (h1 : Int) ∨ ¬ u < 0 ∧ h1 = H) (g2 : v < 0 ∧ IntKind.u64.wrap ((h1 : Int) - U) = (h2 : Int) ∨ ¬ v < 0 ∧ h2 = h1)
    (e1 : IntKind.i64.wrap (h2 : Int) = hs) (e2 : hs / 9223372036854775808 = tt) (e3 : IntKind.u64.wrap tt = (top : Int))
    (A0 : ∀ w : World, (callFunc 52 #[.int .u64 (a0 : Nat), .int .u64 (L : Nat), .int .u64 0]).run Tryd.prog w = .ok (.value (.tuple #[.int .u64 (s0 : Nat), .int .u64 (c0 : Nat)])) w)
    (A1 : ∀ w : World, (callFunc 52 #[.int .u64 (a1 : Nat), .int .u64 (h2 : Nat), .int .u64 (c0 : Nat)]).run Tryd.prog w = .ok (.value (.tuple #[.int .u64 (s1 : Nat), .int .u64 (c1 : Nat)])) w)
    (A2 : ∀ w : World, (callFunc 52 #[.int .u64 (a2 : Nat), .int .u64 (top : Nat), .int .u64 (c1 : Nat)]).run Tryd.prog w = .ok (.value (.tuple #[.int .u64 (s2 : Nat), .int .u64 (c2 : Nat)])) w) :
    Calls Tryd.prog 38 #[.pointer (some ⟨B, o, none⟩), .int .i64 u, .int .i64 v] w fun e w' => ∃ k r, e = .returned r ∧ w' = (((w.setCell ⟨B, o, none⟩ (.int .u64 (s0 : Nat))).setCell ⟨B, o + 1, none⟩ (.int .u64 (s1 : Nat))).setCell ⟨B, o + 2, none⟩ (.int .u64 (s2 : Nat))).drewN k := by
  have k1' : (w.setCell ⟨B, o, none⟩ (.int .u64 (s0 : Nat))).cell? ⟨B, o + 1, none⟩ = some (.int .u64 (a1 : Nat)) := by
    rw [← k1]; exact World.cell?_setCell_other _ _ _ _ (by intro e'; injection e' with _ e' _; omega)
  have k2' : ((w.setCell ⟨B, o, none⟩ (.int .u64 (s0 : Nat))).setCell ⟨B, o + 1, none⟩ (.int .u64 (s1 : Nat))).cell? ⟨B, o + 2, none⟩ = some (.int .u64 (a2 : Nat)) := by
    rw [← k2]
    exact (World.cell?_setCell_other _ _ _ _ (by intro e'; injection e' with _ e' _; omega)).trans (World.cell?_setCell_other _ _ _ _ (by intro e'; injection e' with _ e' _; omega))
  clear k1 k2
  rcases g1 with ⟨g1a, g1b⟩ | ⟨g1a, rfl⟩
  all_goals rcases g2 with ⟨g2a, g2b⟩ | ⟨g2a, rfl⟩
  all_goals
  go_enter Tryd.func38, Tryd.ntmps38
  go_wp2_with (go_at_call 51; refine (mul64_any U V hU2 hV2 _).mono ?_; rw [hH.out, hL.out]; rintro e w1 ⟨rfl, rfl⟩)
  go_big_region
  all_goals
    go_wp2_with fail
    go_big_region
  all_goals
    go_wp2_with fail
    go_big_region
  all_goals
    go_wp2_with fail
  all_goals
    go_end0
    exact ⟨3, _, rfl, rfl⟩

/-- Three words that are S modulo 2^192. -/
structure R3 (S : Int) (a0 a1 a2 : Nat) : Prop where
  l0 : a0 < 18446744073709551616
  l1 : a1 < 18446744073709551616
  l2 : a2 < 18446744073709551616
  val : ∃ q : Int, S = (a0 : Int) + 18446744073709551616 * ((a1 : Int) + 18446744073709551616 * a2) + q * (18446744073709551616 * (18446744073709551616 * 18446744073709551616))
theorem r3_sum (K a0 a1 a2 x0 x1 x2 s0 s1 s2 c0 c1 c2 : Int) (h0 : a0 + x0 = s0 + c0 * K) (h1 : a1 + x1 + c0 = s1 + c1 * K) (h2 : a2 + x2 + c1 = s2 + c2 * K) :
    s0 + K * (s1 + K * s2) = (a0 + K * (a1 + K * a2)) + (x0 + K * (x1 + K * x2)) - c2 * (K * (K * K)) := by
  have e0 : s0 = a0 + x0 - c0 * K := by omega
  have e1 : s1 = a1 + x1 + c0 - c1 * K := by omega
  have e2 : s2 = a2 + x2 + c1 - c2 * K := by omega
  subst e0 e1 e2
  simp only [Int.mul_add, Int.mul_sub, Int.mul_comm, Int.mul_left_comm]
  omega
theorem r3_prod (K u v eu ev U V H L h1 h2 d1 d2 : Int) (hU : U = u + eu * K) (hV : V = v + ev * K) (hHL : U * V = H * K + L) (e1 : h1 = H - eu * V + d1 * K) (e2 : h2 = h1 - ev * U + d2 * K) :
    L + K * h2 = u * v + (d1 + d2 - eu * ev) * (K * K) := by
  have e3 : L = U * V - H * K := by omega
  subst e3 e2 e1 hU hV
  simp only [Int.mul_add, Int.mul_sub, Int.mul_comm, Int.mul_left_comm]
  omega
theorem mul_bound {u v : Int} (hu : -9223372036854775808 ≤ u ∧ u ≤ 9223372036854775807) (hv : -9223372036854775808 ≤ v ∧ v ≤ 9223372036854775807) :
    -85070591730234615865843651857942052864 ≤ u * v ∧ u * v ≤ 85070591730234615865843651857942052864 := by
  have h1 : u.natAbs * v.natAbs ≤ 9223372036854775808 * 9223372036854775808 := Nat.mul_le_mul (by omega) (by omega)
  rw [← Int.natAbs_mul] at h1
  omega
theorem wrapU (x : Int) : ∃ (n : Nat) (d : Int), IntKind.u64.wrap x = (n : Int) ∧ n < 18446744073709551616 ∧ (n : Int) = x + d * 18446744073709551616 := by
  refine ⟨(x % 18446744073709551616).toNat, -(x / 18446744073709551616), ?_, ?_, ?_⟩
  · rw [IntKind.wrap_u64]; omega
  · omega
  · omega
/-- The third word: the sign's. -/
theorem third_word (L h2 : Nat) (P m : Int) (hL : L < 18446744073709551616) (hh : h2 < 18446744073709551616) (hP : -85070591730234615865843651857942052864 ≤ P ∧ P ≤ 85070591730234615865843651857942052864)
    (h : (L : Int) + 18446744073709551616 * h2 = P + m * (18446744073709551616 * 18446744073709551616)) :
    (h2 < 9223372036854775808 ∧ m = 0) ∨ (9223372036854775808 ≤ h2 ∧ m = 1) := by
  omega
theorem top_word (h2 : Nat) (hh : h2 < 18446744073709551616) (top : Nat) (ht : top = if 9223372036854775808 ≤ h2 then 18446744073709551615 else 0) :
    ∃ hs tt : Int, IntKind.i64.wrap (h2 : Int) = hs ∧ hs / 9223372036854775808 = tt ∧ IntKind.u64.wrap tt = (top : Int) := by
  refine ⟨_, _, rfl, rfl, ?_⟩
  rw [IntKind.wrap_u64, IntKind.wrap_i64]
  subst ht
  split <;> omega
set_option maxHeartbeats 1000000 in
theorem wadd_any (B o a0 a1 a2 : Nat) (S u v : Int) (w : World) (h : R3 S a0 a1 a2) (hu : -9223372036854775808 ≤ u ∧ u ≤ 9223372036854775807) (hv : -9223372036854775808 ≤ v ∧ v ≤ 9223372036854775807)
    (k0 : w.cell? ⟨B, o, none⟩ = some (.int .u64 (a0 : Nat))) (k1 : w.cell? ⟨B, o + 1, none⟩ = some (.int .u64 (a1 : Nat))) (k2 : w.cell? ⟨B, o + 2, none⟩ = some (.int .u64 (a2 : Nat)))
    (f0 : w.frozen? ⟨B, o, none⟩ = false) (f1 : w.frozen? ⟨B, o + 1, none⟩ = false) (f2 : w.frozen? ⟨B, o + 2, none⟩ = false) :
    Calls Tryd.prog 38 #[.pointer (some ⟨B, o, none⟩), .int .i64 u, .int .i64 v] w fun e w' => ∃ k r s0 s1 s2, e = .returned r ∧ R3 (S + u * v) s0 s1 s2 ∧ w' = (((w.setCell ⟨B, o, none⟩ (.int .u64 (s0 : Nat))).setCell ⟨B, o + 1, none⟩ (.int .u64 (s1 : Nat))).setCell ⟨B, o + 2, none⟩ (.int .u64 (s2 : Nat))).drewN k := by
  obtain ⟨l0, l1, l2, q, hq⟩ := h
  obtain ⟨U, eu, hU1, hU2, hU3⟩ := wrapU u
  obtain ⟨V, ev, hV1, hV2, hV3⟩ := wrapU v
  obtain ⟨H, hH⟩ : ∃ H, U * V / 18446744073709551616 = H := ⟨_, rfl⟩
  obtain ⟨L, hL⟩ : ∃ L, U * V % 18446744073709551616 = L := ⟨_, rfl⟩
  have hLl : L < 18446744073709551616 := by rw [← hL]; exact Nat.mod_lt _ (by decide)
  have hHl : H < 18446744073709551616 := by
    rw [← hH, Nat.div_lt_iff_lt_mul (by decide)]
    exact Nat.mul_lt_mul'' hU2 hV2
  have hHL : (U : Int) * V = (H : Int) * 18446744073709551616 + L := by
    rw [← Int.natCast_mul]; omega
  have heu : (u < 0 → eu = 1) ∧ (¬ u < 0 → eu = 0) := by omega
  have hev : (v < 0 → ev = 1) ∧ (¬ v < 0 → ev = 0) := by omega
  obtain ⟨h1, d1, g1, hh1, g1e⟩ : ∃ (h1 : Nat) (d1 : Int), (u < 0 ∧ IntKind.u64.wrap ((H : Int) - V) = (h1 : Int) ∨ ¬ u < 0 ∧ h1 = H) ∧ h1 < 18446744073709551616 ∧ (h1 : Int) = H - eu * V + d1 * 18446744073709551616 := by
    by_cases hs : u < 0
    · obtain ⟨n, d, e1, e2, e3⟩ := wrapU ((H : Int) - V)
      exact ⟨n, d, .inl ⟨hs, e1⟩, e2, by rw [e3, heu.1 hs, Int.one_mul]⟩
    · exact ⟨H, 0, .inr ⟨hs, rfl⟩, hHl, by rw [heu.2 hs]; omega⟩
  obtain ⟨h2, d2, g2, hh2, g2e⟩ : ∃ (h2 : Nat) (d2 : Int), (v < 0 ∧ IntKind.u64.wrap ((h1 : Int) - U) = (h2 : Int) ∨ ¬ v < 0 ∧ h2 = h1) ∧ h2 < 18446744073709551616 ∧ (h2 : Int) = h1 - ev * U + d2 * 18446744073709551616 := by
    by_cases hs : v < 0
    · obtain ⟨n, d, e1, e2, e3⟩ := wrapU ((h1 : Int) - U)
      exact ⟨n, d, .inl ⟨hs, e1⟩, e2, by rw [e3, hev.1 hs, Int.one_mul]⟩
    · exact ⟨h1, 0, .inr ⟨hs, rfl⟩, hh1, by rw [hev.2 hs]; omega⟩
  have hP := r3_prod 18446744073709551616 u v eu ev U V H L h1 h2 d1 d2 hU3 hV3 hHL g1e g2e
  have hb := mul_bound hu hv
  have h3 := third_word L h2 (u * v) (d1 + d2 - eu * ev) hLl hh2 hb hP
  obtain ⟨top, htop⟩ : ∃ top : Nat, top = if 9223372036854775808 ≤ h2 then 18446744073709551615 else 0 := ⟨_, rfl⟩
  obtain ⟨hs, tt, t1, t2, t3⟩ := top_word h2 hh2 top htop
  have htl : top < 18446744073709551616 := by rw [htop]; split <;> omega
  have hX : (L : Int) + 18446744073709551616 * ((h2 : Int) + 18446744073709551616 * top) = u * v + (if 9223372036854775808 ≤ h2 then 1 else 0) * (18446744073709551616 * (18446744073709551616 * 18446744073709551616)) := by
    rcases h3 with ⟨x1, x2⟩ | ⟨x1, x2⟩
    · rw [htop, if_neg (by omega), if_neg (by omega)]; rw [x2] at hP; omega
    · rw [htop, if_pos x1, if_pos x1]; rw [x2] at hP; omega
  refine (wadd_core B o a0 a1 a2 U V H L h1 h2 top ((a0 + L + 0) % 18446744073709551616) ((a1 + h2 + (a0 + L + 0) / 18446744073709551616) % 18446744073709551616) ((a2 + top + (a1 + h2 + (a0 + L + 0) / 18446744073709551616) / 18446744073709551616) % 18446744073709551616)
    ((a0 + L + 0) / 18446744073709551616) ((a1 + h2 + (a0 + L + 0) / 18446744073709551616) / 18446744073709551616) ((a2 + top + (a1 + h2 + (a0 + L + 0) / 18446744073709551616) / 18446744073709551616) / 18446744073709551616) u v hs tt w k0 k1 k2 f0 f1 f2 hU1 hV1 hU2 hV2 hH hL g1 g2 t1 t2 t3
    (fun w => add64N a0 L 0 (by omega) w) (fun w => add64N a1 h2 _ (by omega) w) (fun w => add64N a2 top _ (by omega) w)).mono ?_
  rintro e w' ⟨k, r, rfl, rfl⟩
  refine ⟨k, r, _, _, _, rfl, ?_, rfl⟩
  generalize hs0 : (a0 + L + 0) % 18446744073709551616 = s0 at *
  generalize hc0 : (a0 + L + 0) / 18446744073709551616 = c0 at *
  generalize hs1 : (a1 + h2 + c0) % 18446744073709551616 = s1 at *
  generalize hc1 : (a1 + h2 + c0) / 18446744073709551616 = c1 at *
  generalize hs2 : (a2 + top + c1) % 18446744073709551616 = s2 at *
  generalize hc2 : (a2 + top + c1) / 18446744073709551616 = c2 at *
  have hsum := r3_sum 18446744073709551616 a0 a1 a2 L h2 top s0 s1 s2 c0 c1 c2 (by omega) (by omega) (by omega)
  refine ⟨by omega, by omega, by omega, q - (if 9223372036854775808 ≤ h2 then 1 else 0) + c2, ?_⟩
  rw [hsum, hX, hq]
  generalize (if 9223372036854775808 ≤ h2 then (1 : Int) else 0) = f at *
  generalize (18446744073709551616 * (18446744073709551616 * 18446744073709551616) : Int) = K3 at *
  generalize u * v = P at *
  rw [Int.add_mul, Int.sub_mul]
  omega
end Go.Proofs.YtppebegleedifaaDoor
