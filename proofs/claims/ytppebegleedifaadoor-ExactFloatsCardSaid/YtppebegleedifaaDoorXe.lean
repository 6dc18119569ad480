/- Prime, Root of both sides, at a prime whose least root is known. -/
import Derived.Test.YtppebegleedifaaDoorXd
import Derived.WalkMore
namespace Go.Proofs.YtppebegleedifaaDoor
open Go.RowKit

set_option maxHeartbeats 1000000 in
theorem prime_any (p : Nat) (hp : Npr p) (w : World) : Calls Tryd.prog 62 #[.int .i64 p] w fun e w' => e = .returned (.bool true) ∧ w = w' := by
  obtain ⟨p1, p2, p3⟩ := hp
  have h1 : ¬ (p : Int) < 2 := by omega
  have h2 : ¬ (4294967296 : Int) < p := by omega
  have h3 : (2 : Int) ≤ p := by omega
  have h4 : (p : Int) < 4294967296 := by omega
  have HP := Lib.hid p3
  clear p3
  go_enter Tryd.func62, Tryd.ntmps62
  go_wp2_with fail
  go_loopw [3] (fun y wr => ∃ d : Nat, y = .int .i64 d ∧ 2 ≤ d ∧ d ≤ 65537 ∧ wr = w) (fun y _ => 65537 - (intOf y).toNat)
  case atStart => exact ⟨2, rfl, by omega, by omega, rfl⟩
  case round =>
    obtain ⟨d, rfl, a3, a4, rfl⟩ := hrel
    have b1 : (d : Int) * d ≤ 4295098369 := by have := Nat.mul_le_mul a4 a4; rw [← Int.natCast_mul]; omega
    have b2 : (0 : Int) ≤ (d : Int) * d := by rw [← Int.natCast_mul]; omega
    by_cases hc : d * d ≤ p
    · have b3 : (d : Int) * d ≤ (p : Int) := by rw [← Int.natCast_mul]; omega
      have a6 : d < 65536 := by
        rcases Nat.lt_or_ge d 65536 with h3 | h3
        · exact h3
        · have := Nat.mul_le_mul h3 h3; omega
      have hz := HP.out d a3 a6
      have e1 : (d : Int) ≠ 0 := by omega
      have e2 : ((p : Int) % d == 0) = false := by simp; omega
      clear hc hz
      go_wp2_with fail
      go_roundw
      case rel => exact ⟨d + 1, by go_num, by omega, by omega, trivial⟩
      case measure => simp only [intOf]; omega
    · have b3 : ¬ (d : Int) * d ≤ (p : Int) := by rw [← Int.natCast_mul]; omega
      clear hc
      go_wp2_with fail
      go_ret
      exact ⟨rfl, rfl⟩
theorem primeR_any (p : Nat) (hp : Npr p) (w : World) : Calls Tryd.prog 65 #[.int .i64 p] w fun e w' => e = .returned (.bool true) ∧ Below w.heap.size w w' := by
  go_enter Tryd.func65, Tryd.ntmps65
  go_wp2_with (go_at_call 66; refine (factorsR_any p [p] hp.1 (by have := hp.2.1; omega) (fc_prime hp 65535 2 (by omega) (by omega)) (by simp) _).mono ?_; rintro e w1 ⟨A, c, rfl, hB, hbel⟩; have HB := Lib.hid hB; have k1 := hB.rs.nc; have k2 := hB.rs.cm; clear hB)
  go_ret
  exact ⟨rfl, hbel⟩

/-- A prime with its least root. -/
structure PR (p g : Nat) (T : List Nat) : Prop where
  np : Npr p
  p3 : 3 ≤ p
  fc : Fc false (p - 1) 2 T
  hl : T.length ≤ 1000
  hq : ∀ j, j < T.length → 2 ≤ T.getD j 0
  hqM : ∀ j, j < T.length → T.getD j 0 < 4294967296
  lo : ∀ h, 1 ≤ h → h < g → ∃ j, j < T.length ∧ h ^ ((p - 1) / T.getD j 0) % p = 1
  hi : ∀ j, j < T.length → g ^ ((p - 1) / T.getD j 0) % p ≠ 1
  g1 : 1 ≤ g
  g2 : g ≤ 1000
set_option maxHeartbeats 2000000 in
theorem root_any (p g : Nat) (T : List Nat) (h : PR p g T) (w : World) :
    Calls Tryd.prog 56 #[.int .i64 p] w fun e w' => e = .returned (.tuple #[.int .i64 g, .nilIface]) ∧ Below w.heap.size w w' := by
  obtain ⟨np, p3, fc, hl, hq, hqM, lo, hi, g1, g2⟩ := h
  have np2 := np.2.1
  obtain ⟨M, hM⟩ : ∃ M, p - 1 = M := ⟨_, rfl⟩
  have hpM : (p : Int) - 1 = (M : Int) := by omega
  have hMl : M < 4294967296 := by omega
  have hM2 : 2 ≤ M := by omega
  have hp0 : 0 < p := by omega
  rw [hM] at fc lo hi
  obtain ⟨V, hV⟩ : ∃ V : Nat → Nat → Nat, ∀ x j, V x j = x ^ (M / T.getD j 0) % p := ⟨fun x j => x ^ (M / T.getD j 0) % p, fun _ _ => rfl⟩
  obtain ⟨X, hX⟩ : ∃ X : Nat → Nat, ∀ j, X j = M / T.getD j 0 := ⟨fun j => M / T.getD j 0, fun _ => rfl⟩
  obtain ⟨D, hD⟩ : ∃ D : Nat → Nat, ∀ j, D j = T.getD j 0 := ⟨fun j => T.getD j 0, fun _ => rfl⟩
  have HV : Hid (∀ x j, x ^ X j % p = V x j) := fun x j => by rw [hX, hV]
  have HX : Hid (∀ j, (M : Int) / (D j : Int) = (X j : Int)) := fun j => by rw [hX, hD]; rfl
  have HXl : Hid (∀ j, X j < 18446744073709551616) := fun j => by rw [hX]; exact Nat.lt_of_le_of_lt (Nat.div_le_self _ _) (by omega)
  have HD : Hid (∀ j, nat3 T j = .int .i64 (D j : Nat)) := fun j => by unfold nat3; rw [hD]
  have HQ : Hid (∀ j, j < T.length → 2 ≤ D j ∧ D j < 4294967296) := fun j hj => by rw [hD]; exact ⟨hq j hj, hqM j hj⟩
  have HLo : Hid (∀ x, 1 ≤ x → x < g → ∃ j, j < T.length ∧ V x j = 1) := fun x h1 h2 => by
    obtain ⟨j, hj, e⟩ := lo x h1 h2; exact ⟨j, hj, by rw [hV]; exact e⟩
  have HHi : Hid (∀ j, j < T.length → V g j ≠ 1) := fun j hj => by rw [hV]; exact hi j hj
  have HN := Lib.hid np
  have HF := Lib.hid fc
  have HVl : Hid (∀ x j, V x j < p) := fun x j => by rw [hV]; exact Nat.mod_lt _ hp0
  obtain ⟨n, hn⟩ : ∃ n, T.length = n := ⟨_, rfl⟩
  have Hn := Lib.hid hn
  rw [hn] at hl HQ HLo HHi
  clear np fc hq hqM lo hi hV hX hD hM hn
  go_enter Tryd.func56, Tryd.ntmps56
  go_wp2_with fail
  try go_step3
  go_wp2_with (first
    | (go_at_call 62; refine (prime_any p HN.out _).mono ?_; rintro e w1 ⟨rfl, rfl⟩)
    | (go_at_call 63; refine (factors_any M T hM2 (by omega) HF.out (by rw [Hn.out]; exact hl) _).mono ?_; unfold IntsAt; rw [Hn.out]; rintro e w1 ⟨A, c, rfl, hB, hbel⟩))
  have k1 := hB.rs.nc
  have k2 := hB.rs.cm
  have HB := Lib.hid hB.rs
  have Hbel := Lib.hid hbel
  clear hB hbel
  try go_step3
  go_wp2_with fail
  go_loopw [6] (fun y wr => ∃ x k : Nat, y = .int .u64 x ∧ 1 ≤ x ∧ x ≤ g ∧ wr = w1.drewN k) (fun y _ => g - (intOf y).toNat)
  case atStart => exact ⟨1, 0, rfl, Nat.le_refl _, g1, rfl⟩
  case round =>
    obtain ⟨x, k, rfl, x1, x2, rfl⟩ := hrel
    have x3 : (x : Int) ≤ 1000 := by omega
    go_wp2_with fail
    go_loopw [22] (fun y wr => ∃ j k : Nat, y = .int .i64 j ∧ j ≤ n ∧ wr = w1.drewN k ∧ Hid (∀ i, i < j → V x i ≠ 1)) (fun y _ => n - (intOf y).toNat)
    case atStart => exact ⟨0, k, rfl, Nat.zero_le _, rfl, fun i hi => absurd hi (by omega)⟩
    case round =>
      obtain ⟨j, k, rfl, hj, rfl, HA⟩ := hrel
      by_cases hlt : j < n
      · have HR : RS (w1.drewN k) A n c (nat3 T) := HB.out.drewN k
        obtain ⟨q1, q2⟩ := HQ.out j hlt
        have q3 : (D j : Int) ≠ 0 := by omega
        have q4 := HX.out j
        have q5 := HXl.out j
        have q6 := HVl.out x j
        have q7 : (2 : Int) ≤ D j := by omega
        have q8 : (D j : Int) < 4294967296 := by omega
        have hx64 : x < 18446744073709551616 := by omega
        by_cases hv : V x j = 1
        · have e1 : ((V x j : Int) == 1) = true := by rw [hv]; rfl
          have hxg : x < g := by
            rcases Nat.lt_or_ge x g with h | h
            · exact h
            · have : x = g := by omega
              subst this
              exact absurd hv (HHi.out j hlt)
          clear hv
          go_wp2_with (first
            | ((with_reducible show wpList _ _ _ (⟨some 24, _, _, _, _, _⟩ :: _) _ _); refine wpl_ix rfl 50 3 _ _ rfl Tryd.underlying50 cells3 A n c j _ _ (nat3 T) rfl rfl rfl hlt HR ?_; rw [HD.out]; intro pp hpp)
            | (go_at_call 57; refine (pow_any x (X j) p hx64 q5 hp0 (by omega) _).mono ?_; rw [HV.out]; rintro e w2 ⟨k2, rfl, rfl⟩))
          go_roundw
          case rel => exact ⟨x + 1, k + k2, by go_num, by omega, by omega, rfl⟩
          case measure => simp only [intOf]; omega
        · have e1 : ((V x j : Int) == 1) = false := by simp; omega
          have HA2 : Hid (∀ i, i < j + 1 → V x i ≠ 1) := fun i hi => by
            rcases Nat.lt_or_ge i j with h | h
            · exact HA.out i h
            · have : i = j := by omega
              rw [this]; exact hv
          clear hv
          go_wp2_with (first
            | ((with_reducible show wpList _ _ _ (⟨some 24, _, _, _, _, _⟩ :: _) _ _); refine wpl_ix rfl 50 3 _ _ rfl Tryd.underlying50 cells3 A n c j _ _ (nat3 T) rfl rfl rfl hlt HR ?_; rw [HD.out]; intro pp hpp)
            | (go_at_call 57; refine (pow_any x (X j) p hx64 q5 hp0 (by omega) _).mono ?_; rw [HV.out]; rintro e w2 ⟨k2, rfl, rfl⟩))
          go_roundw
          case rel => exact ⟨j + 1, k + k2, by go_num, by omega, rfl, HA2.out⟩
          case measure => simp only [intOf]; omega
      · obtain rfl : j = n := by omega
        have hxg : x = g := by
          rcases Nat.lt_or_ge x g with h | h
          · obtain ⟨i, hi, e⟩ := HLo.out x x1 h
            exact absurd e (HA.out i hi)
          · omega
        go_wp2_with fail
        try rw [Exit.noGoto_ret]
        go_ret2
        exact ⟨by first | rfl | rw [hxg], below_drewN Hbel.out _⟩
set_option maxHeartbeats 2000000 in
theorem rootR_any (p g : Nat) (T : List Nat) (h : PR p g T) (w : World) :
    Calls Tryd.prog 60 #[.int .i64 p] w fun e w' => e = .returned (.tuple #[.int .i64 g, .int .i64 0]) ∧ Below w.heap.size w w' := by
  obtain ⟨np, p3, fc, hl, hq, hqM, lo, hi, g1, g2⟩ := h
  have np2 := np.2.1
  obtain ⟨M, hM⟩ : ∃ M, p - 1 = M := ⟨_, rfl⟩
  have hpM : (p : Int) - 1 = (M : Int) := by omega
  have hMl : M < 4294967296 := by omega
  have hM2 : 2 ≤ M := by omega
  have hp0 : 0 < p := by omega
  rw [hM] at fc lo hi
  obtain ⟨V, hV⟩ : ∃ V : Nat → Nat → Nat, ∀ x j, V x j = x ^ (M / T.getD j 0) % p := ⟨fun x j => x ^ (M / T.getD j 0) % p, fun _ _ => rfl⟩
  obtain ⟨X, hX⟩ : ∃ X : Nat → Nat, ∀ j, X j = M / T.getD j 0 := ⟨fun j => M / T.getD j 0, fun _ => rfl⟩
  obtain ⟨D, hD⟩ : ∃ D : Nat → Nat, ∀ j, D j = T.getD j 0 := ⟨fun j => T.getD j 0, fun _ => rfl⟩
  have HV : Hid (∀ x j, x ^ X j % p = V x j) := fun x j => by rw [hX, hV]
  have HX : Hid (∀ j, (M : Int) / (D j : Int) = (X j : Int)) := fun j => by rw [hX, hD]; rfl
  have HXl : Hid (∀ j, X j < 18446744073709551616) := fun j => by rw [hX]; exact Nat.lt_of_le_of_lt (Nat.div_le_self _ _) (by omega)
  have HD : Hid (∀ j, nat3 T j = .int .i64 (D j : Nat)) := fun j => by unfold nat3; rw [hD]
  have HQ : Hid (∀ j, j < T.length → 2 ≤ D j ∧ D j < 4294967296) := fun j hj => by rw [hD]; exact ⟨hq j hj, hqM j hj⟩
  have HLo : Hid (∀ x, 1 ≤ x → x < g → ∃ j, j < T.length ∧ V x j = 1) := fun x h1 h2 => by
    obtain ⟨j, hj, e⟩ := lo x h1 h2; exact ⟨j, hj, by rw [hV]; exact e⟩
  have HHi : Hid (∀ j, j < T.length → V g j ≠ 1) := fun j hj => by rw [hV]; exact hi j hj
  have HN := Lib.hid np
  have HF := Lib.hid fc
  have HVl : Hid (∀ x j, V x j < p) := fun x j => by rw [hV]; exact Nat.mod_lt _ hp0
  obtain ⟨n, hn⟩ : ∃ n, T.length = n := ⟨_, rfl⟩
  have Hn := Lib.hid hn
  rw [hn] at hl HQ HLo HHi
  clear np fc hq hqM lo hi hV hX hD hM hn
  go_enter Tryd.func60, Tryd.ntmps60
  go_wp2_with (first
    | (go_at_call 65; refine (primeR_any p HN.out _).mono ?_; rintro e w0 ⟨rfl, hb0⟩)
    | (go_at_call 66; refine (factorsR_any M T hM2 (by omega) HF.out (by rw [Hn.out]; exact hl) _).mono ?_; unfold IntsAt; rw [Hn.out]; rintro e w1 ⟨A, c, rfl, hB, hbel⟩))
  have k1 := hB.rs.nc
  have k2 := hB.rs.cm
  have HB := Lib.hid hB.rs
  have Hbel := Lib.hid (hb0.trans (hbel.mono hb0.size))
  clear hB hbel
  go_loopw [5] (fun y wr => ∃ x k : Nat, y = .int .i64 x ∧ 1 ≤ x ∧ x ≤ g ∧ wr = w1.drewN k) (fun y _ => g - (intOf y).toNat)
  case atStart => exact ⟨1, 0, rfl, Nat.le_refl _, g1, rfl⟩
  case round =>
    obtain ⟨x, k, rfl, x1, x2, rfl⟩ := hrel
    have x3 : (x : Int) ≤ 1000 := by omega
    go_wp2_with fail
    go_loopw [6, 7] (fun o y wr => ∃ j k : Nat, ∃ b : Bool, o = .bool b ∧ y = .int .i64 j ∧ j ≤ n ∧ wr = w1.drewN k ∧ Hid (b = false → x < g) ∧ Hid (b = true → ∀ i, i < j → V x i ≠ 1)) (fun _ y _ => n - (intOf y).toNat)
    case atStart => exact ⟨0, k, true, rfl, rfl, Nat.zero_le _, rfl, (fun h => by cases h), fun _ i hi => absurd hi (by omega)⟩
    case round =>
      obtain ⟨j, k, b, rfl, rfl, hj, rfl, HF2, HA⟩ := hrel
      by_cases hlt : j < n
      · have HR : RS (w1.drewN k) A n c (nat3 T) := HB.out.drewN k
        obtain ⟨q1, q2⟩ := HQ.out j hlt
        have q3 : (D j : Int) ≠ 0 := by omega
        have q4 := HX.out j
        have q5 := HXl.out j
        have q6 := HVl.out x j
        have q7 : (2 : Int) ≤ D j := by omega
        have q8 : (D j : Int) < 4294967296 := by omega
        have q9 : (X j : Int) < 4294967296 := by rw [← q4]; exact Int.lt_of_le_of_lt (Int.ediv_le_self _ (by omega)) (by omega)
        have hx64 : x < 18446744073709551616 := by omega
        by_cases hv : V x j = 1
        · have e1 : ((V x j : Int) == 1) = true := by rw [hv]; rfl
          have hxg : x < g := by
            rcases Nat.lt_or_ge x g with h | h
            · exact h
            · have : x = g := by omega
              subst this
              exact absurd hv (HHi.out j hlt)
          clear hv
          go_wp2_with (first
            | ((with_reducible show wpList _ _ _ (⟨some 28, _, _, _, _, _⟩ :: _) _ _); refine wpl_ix rfl 50 3 _ _ rfl Tryd.underlying50 cells3 A n c j _ _ (nat3 T) rfl rfl rfl hlt HR ?_; rw [HD.out]; intro pp hpp)
            | (go_at_call 33; refine (powR_any x (X j) p hx64 q5 hp0 (by omega) _).mono ?_; rw [HV.out]; rintro e w2 ⟨k2, rfl, rfl⟩))
          go_roundw
          case rel => exact ⟨j + 1, k + k2, false, rfl, by go_num, by omega, rfl, fun _ => hxg, fun h => by cases h⟩
          case measure => simp only [intOf]; omega
        · have e1 : ((V x j : Int) == 1) = false := by simp; omega
          have HA2 : Hid (b = true → ∀ i, i < j + 1 → V x i ≠ 1) := fun hb i hi => by
            rcases Nat.lt_or_ge i j with h | h
            · exact HA.out hb i h
            · have : i = j := by omega
              rw [this]; exact hv
          clear hv
          go_wp2_with (first
            | ((with_reducible show wpList _ _ _ (⟨some 28, _, _, _, _, _⟩ :: _) _ _); refine wpl_ix rfl 50 3 _ _ rfl Tryd.underlying50 cells3 A n c j _ _ (nat3 T) rfl rfl rfl hlt HR ?_; rw [HD.out]; intro pp hpp)
            | (go_at_call 33; refine (powR_any x (X j) p hx64 q5 hp0 (by omega) _).mono ?_; rw [HV.out]; rintro e w2 ⟨k2, rfl, rfl⟩))
          go_roundw
          case rel => exact ⟨j + 1, k + k2, b, rfl, by go_num, by omega, rfl, HF2.out, HA2.out⟩
          case measure => simp only [intOf]; omega
      · obtain rfl : j = n := by omega
        cases b
        · have hxg := HF2.out rfl
          go_wp2_with fail
          go_roundw
          case rel => exact ⟨x + 1, k, by go_num, by omega, by omega, rfl⟩
          case measure => simp only [intOf]; omega
        · have hxg : x = g := by
            rcases Nat.lt_or_ge x g with h | h
            · obtain ⟨i, hi, e⟩ := HLo.out x x1 h
              exact absurd e (HA.out rfl i hi)
            · omega
          go_wp2_with fail
          go_ret2
          exact ⟨by first | rfl | rw [hxg], below_drewN Hbel.out _⟩
end Go.Proofs.YtppebegleedifaaDoor
