/- The reference's numbers of 192 bits: plus, fits. -/
import Derived.Test.YtppebegleedifaaDoorXs
import Derived.Test.YtppebegleedifaaDoorWb
namespace Go.Proofs.YtppebegleedifaaDoor
open Go.RowKit

def wv (a0 a1 a2 : Nat) : Value := .agg #[.int .u64 (a2 : Nat), .int .u64 (a1 : Nat), .int .u64 (a0 : Nat)]
set_option maxRecDepth 20000 in
set_option maxHeartbeats 4000000 in
theorem plus_core (a0 a1 a2 U V H L h1 h2 b s0 s1 s2 c0 c1 c2 : Nat) (u v T : Int) (w : World)
    (hU : IntKind.u64.wrap u = (U : Int)) (hV : IntKind.u64.wrap v = (V : Int)) (hU2 : U < 18446744073709551616) (hV2 : V < 18446744073709551616)
    (hH : Hid (U * V / 18446744073709551616 = H)) (hL : Hid (U * V % 18446744073709551616 = L))
    (g1 : u < 0 ∧ IntKind.u64.wrap ((H : Int) - V) = (h1 : Int) ∨ ¬ u < 0 ∧ h1 = H) (g2 : v < 0 ∧ IntKind.u64.wrap ((h1 : Int) - U) = (h2 : Int) ∨ ¬ v < 0 ∧ h2 = h1)
    (e1 : (h2 : Int) / 9223372036854775808 = (b : Int)) (g3 : ((b : Int) == 1) = true ∧ T = 18446744073709551615 ∨ ((b : Int) == 1) = false ∧ T = 0)
    (A0 : ∀ w : World, (callFunc 52 #[.int .u64 (a0 : Nat), .int .u64 (L : Nat), .int .u64 0]).run Tryd.prog w = .ok (.value (.tuple #[.int .u64 (s0 : Nat), .int .u64 (c0 : Nat)])) w)
    (A1 : ∀ w : World, (callFunc 52 #[.int .u64 (a1 : Nat), .int .u64 (h2 : Nat), .int .u64 (c0 : Nat)]).run Tryd.prog w = .ok (.value (.tuple #[.int .u64 (s1 : Nat), .int .u64 (c1 : Nat)])) w)
    (A2 : ∀ w : World, (callFunc 52 #[.int .u64 (a2 : Nat), .int .u64 T, .int .u64 (c1 : Nat)]).run Tryd.prog w = .ok (.value (.tuple #[.int .u64 (s2 : Nat), .int .u64 (c2 : Nat)])) w) :
    Calls Tryd.prog 40 #[wv a0 a1 a2, .int .i64 u, .int .i64 v] w fun e w' => e = .returned (wv s0 s1 s2) ∧ Nx w w' := by
  unfold wv
  rcases g1 with ⟨g1a, g1b⟩ | ⟨g1a, rfl⟩
  all_goals rcases g2 with ⟨g2a, g2b⟩ | ⟨g2a, rfl⟩
  all_goals rcases g3 with ⟨g3a, rfl⟩ | ⟨g3a, rfl⟩
  all_goals
  go_enter Tryd.func40, Tryd.ntmps40
  go_wp2_with (go_at_call 51; refine (mul64_any U V hU2 hV2 _).mono ?_; rw [hH.out, hL.out]; rintro e w1 ⟨rfl, rfl⟩)
  exact bodyPost_ret (v := .agg #[.int .u64 (s2 : Nat), .int .u64 (s1 : Nat), .int .u64 (s0 : Nat)]) (by simp [results, Tryd.results40, go_sem]) rfl ⟨rfl, (nx_alloc _ _).alloc _⟩
/-- w + a x b, of the reference. -/
theorem plusR_any (a0 a1 a2 : Nat) (S u v : Int) (w : World) (h : R3 S a0 a1 a2) (hu : -9223372036854775808 ≤ u ∧ u ≤ 9223372036854775807) (hv : -9223372036854775808 ≤ v ∧ v ≤ 9223372036854775807) :
    Calls Tryd.prog 40 #[wv a0 a1 a2, .int .i64 u, .int .i64 v] w fun e w' => ∃ s0 s1 s2, e = .returned (wv s0 s1 s2) ∧ R3 (S + u * v) s0 s1 s2 ∧ Nx w w' := by
  obtain ⟨l0, l1, l2, q, hq⟩ := h
  obtain ⟨U, eu, hU1, hU2, hU3⟩ := wrapU u
  obtain ⟨V, ev, hV1, hV2, hV3⟩ := wrapU v
  obtain ⟨H, hH⟩ : ∃ H, U * V / 18446744073709551616 = H := ⟨_, rfl⟩
  obtain ⟨L, hL⟩ : ∃ L, U * V % 18446744073709551616 = L := ⟨_, rfl⟩
  have hLl : L < 18446744073709551616 := by rw [← hL]; exact Nat.mod_lt _ (by decide)
  have hHl : H < 18446744073709551616 := by
    rw [← hH, Nat.div_lt_iff_lt_mul (by decide)]
    exact Nat.mul_lt_mul'' hU2 hV2
  have hHL : (U : Int) * V = (H : Int) * 18446744073709551616 + L := by
    rw [← Int.natCast_mul]; omega
  have heu : (u < 0 → eu = 1) ∧ (¬ u < 0 → eu = 0) := by omega
  have hev : (v < 0 → ev = 1) ∧ (¬ v < 0 → ev = 0) := by omega
  obtain ⟨h1, d1, g1, hh1, g1e⟩ : ∃ (h1 : Nat) (d1 : Int), (u < 0 ∧ IntKind.u64.wrap ((H : Int) - V) = (h1 : Int) ∨ ¬ u < 0 ∧ h1 = H) ∧ h1 < 18446744073709551616 ∧ (h1 : Int) = H - eu * V + d1 * 18446744073709551616 := by
    by_cases hs : u < 0
    · obtain ⟨n, d, e1, e2, e3⟩ := wrapU ((H : Int) - V)
      exact ⟨n, d, .inl ⟨hs, e1⟩, e2, by rw [e3, heu.1 hs, Int.one_mul]⟩
    · exact ⟨H, 0, .inr ⟨hs, rfl⟩, hHl, by rw [heu.2 hs]; omega⟩
  obtain ⟨h2, d2, g2, hh2, g2e⟩ : ∃ (h2 : Nat) (d2 : Int), (v < 0 ∧ IntKind.u64.wrap ((h1 : Int) - U) = (h2 : Int) ∨ ¬ v < 0 ∧ h2 = h1) ∧ h2 < 18446744073709551616 ∧ (h2 : Int) = h1 - ev * U + d2 * 18446744073709551616 := by
    by_cases hs : v < 0
    · obtain ⟨n, d, e1, e2, e3⟩ := wrapU ((h1 : Int) - U)
      exact ⟨n, d, .inl ⟨hs, e1⟩, e2, by rw [e3, hev.1 hs, Int.one_mul]⟩
    · exact ⟨h1, 0, .inr ⟨hs, rfl⟩, hh1, by rw [hev.2 hs]; omega⟩
  have hP := r3_prod 18446744073709551616 u v eu ev U V H L h1 h2 d1 d2 hU3 hV3 hHL g1e g2e
  have hb := mul_bound hu hv
  have h3 := third_word L h2 (u * v) (d1 + d2 - eu * ev) hLl hh2 hb hP
  obtain ⟨top, htop⟩ : ∃ top : Nat, top = if 9223372036854775808 ≤ h2 then 18446744073709551615 else 0 := ⟨_, rfl⟩
  have htl : top < 18446744073709551616 := by rw [htop]; split <;> omega
  obtain ⟨b, hb1⟩ : ∃ b, h2 / 9223372036854775808 = b := ⟨_, rfl⟩
  have hbi : (h2 : Int) / 9223372036854775808 = (b : Int) := by omega
  have g3 : ((b : Int) == 1) = true ∧ (top : Int) = 18446744073709551615 ∨ ((b : Int) == 1) = false ∧ (top : Int) = 0 := by
    by_cases hc : 9223372036854775808 ≤ h2
    · left; rw [htop, if_pos hc]; exact ⟨by simp; omega, rfl⟩
    · right; rw [htop, if_neg hc]; exact ⟨by simp; omega, rfl⟩
  have hX : (L : Int) + 18446744073709551616 * ((h2 : Int) + 18446744073709551616 * top) = u * v + (if 9223372036854775808 ≤ h2 then 1 else 0) * (18446744073709551616 * (18446744073709551616 * 18446744073709551616)) := by
    rcases h3 with ⟨x1, x2⟩ | ⟨x1, x2⟩
    · rw [htop, if_neg (by omega), if_neg (by omega)]; rw [x2] at hP; omega
    · rw [htop, if_pos x1, if_pos x1]; rw [x2] at hP; omega
  refine (plus_core a0 a1 a2 U V H L h1 h2 b ((a0 + L + 0) % 18446744073709551616) ((a1 + h2 + (a0 + L + 0) / 18446744073709551616) % 18446744073709551616) ((a2 + top + (a1 + h2 + (a0 + L + 0) / 18446744073709551616) / 18446744073709551616) % 18446744073709551616)
    ((a0 + L + 0) / 18446744073709551616) ((a1 + h2 + (a0 + L + 0) / 18446744073709551616) / 18446744073709551616) ((a2 + top + (a1 + h2 + (a0 + L + 0) / 18446744073709551616) / 18446744073709551616) / 18446744073709551616) u v top w hU1 hV1 hU2 hV2 hH hL g1 g2 hbi g3
    (fun w => add64N a0 L 0 (by omega) w) (fun w => add64N a1 h2 _ (by omega) w) (fun w => add64N a2 top _ (by omega) w)).mono ?_
  rintro e w' ⟨rfl, hw⟩
  refine ⟨_, _, _, rfl, ?_, hw⟩
  generalize hs0 : (a0 + L + 0) % 18446744073709551616 = s0 at *
  generalize hc0 : (a0 + L + 0) / 18446744073709551616 = c0 at *
  generalize hs1 : (a1 + h2 + c0) % 18446744073709551616 = s1 at *
  generalize hc1 : (a1 + h2 + c0) / 18446744073709551616 = c1 at *
  generalize hs2 : (a2 + top + c1) % 18446744073709551616 = s2 at *
  generalize hc2 : (a2 + top + c1) / 18446744073709551616 = c2 at *
  have hsum := r3_sum 18446744073709551616 a0 a1 a2 L h2 top s0 s1 s2 c0 c1 c2 (by omega) (by omega) (by omega)
  refine ⟨by omega, by omega, by omega, q - (if 9223372036854775808 ≤ h2 then 1 else 0) + c2, ?_⟩
  rw [hsum, hX, hq]
  generalize (if 9223372036854775808 ≤ h2 then (1 : Int) else 0) = f at *
  generalize (18446744073709551616 * (18446744073709551616 * 18446744073709551616) : Int) = K3 at *
  generalize u * v = P at *
  rw [Int.add_mul, Int.sub_mul]
  omega
end Go.Proofs.YtppebegleedifaaDoor
