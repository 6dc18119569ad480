/- add, for every finite float. -/
import Derived.Test.YtdfbmfmfhdifpaaAd
namespace Go.Proofs.Ytdfbmfmfhdifpaa
open Go.RowKit

theorem shift_low {X Y i0 j : Nat} (hX : X = Y * 2 ^ (32 * i0)) (hj : j ≤ i0) : X % 2 ^ (32 * j) = 0 := by
  obtain ⟨k, rfl⟩ : ∃ k, i0 = j + k := ⟨i0 - j, by omega⟩
  rw [hX, Nat.mul_add, Nat.pow_add, Nat.mul_comm (2 ^ (32 * j)), ← Nat.mul_assoc]
  exact Nat.mul_mod_left _ _
theorem carA_low {N X Y i0 j : Nat} (hX : X = Y * 2 ^ (32 * i0)) (hj : j ≤ i0) : carA N X j = 0 := by
  unfold carA
  rw [shift_low hX hj, Nat.add_zero]
  exact Nat.div_eq_of_lt (Nat.mod_lt _ (Nat.two_pow_pos _))
theorem borS_low {N X Y i0 j : Nat} (hX : X = Y * 2 ^ (32 * i0)) (hj : j ≤ i0) : borS N X j = 0 := by
  unfold borS
  rw [shift_low hX hj, if_neg (Nat.not_lt_zero _)]
theorem dig_high {X Y i0 i : Nat} (hX : X = Y * 2 ^ (32 * i0)) (hY : Y < Mx 3) (hi : i0 ≤ i) : dig X i = if i - i0 < 3 then dig Y (i - i0) else 0 := by
  rw [hX, dig_shift, if_neg (by omega)]
  by_cases h : i - i0 < 3
  · rw [if_pos h]
  · rw [if_neg h, dig_bigx Y _ 3 hY (by omega)]
theorem dig_lowX {X Y i0 i : Nat} (hX : X = Y * 2 ^ (32 * i0)) (hi : i < i0) : dig X i = 0 := by
  rw [hX, dig_shift, if_pos hi]

theorem step_pos {N X Y i0 : Nat} (hX : X = Y * 2 ^ (32 * i0)) (hY : Y < Mx 3) : ∀ i, i0 ≤ i → i < 70 →
    dig ((N + X) % M70) i = (carA N X i + (if i - i0 < 3 then dig Y (i - i0) else 0) + dig N i) % 4294967296 ∧
    carA N X (i + 1) = (carA N X i + (if i - i0 < 3 then dig Y (i - i0) else 0) + dig N i) / 4294967296 := by
  intro i h0 h1
  rw [← dig_high hX hY h0, dig_mod _ _ h1, dig_add, carA_succ]
  rw [show dig N i + dig X i + carA N X i = carA N X i + dig X i + dig N i from by omega]
  exact ⟨rfl, rfl⟩
theorem step_neg {N X Y i0 : Nat} (hX : X = Y * 2 ^ (32 * i0)) (hY : Y < Mx 3) (hXM : X ≤ M70) : ∀ i, i0 ≤ i → i < 70 →
    (dig ((N + M70 - X) % M70) i : Int) = ((dig N i : Int) - (borS N X i + (if i - i0 < 3 then dig Y (i - i0) else 0) : Nat)) % 4294967296 ∧
    borS N X (i + 1) = if dig N i < borS N X i + (if i - i0 < 3 then dig Y (i - i0) else 0) then 1 else 0 := by
  intro i h0 h1
  rw [← dig_high hX hY h0, dig_sub _ _ _ hXM h1, borS_succ]
  rw [Nat.add_comm (borS N X i) (dig X i)]
  exact ⟨by rw [Int.natCast_add], rfl⟩
theorem low_pos {N X Y i0 : Nat} (hX : X = Y * 2 ^ (32 * i0)) (hi0 : i0 < 64) : ∀ j, j < i0 → dig ((N + X) % M70) j = dig N j := by
  intro j hj
  have := dig_lt N j
  rw [dig_mod _ _ (by omega), dig_add, dig_lowX hX hj, carA_low hX (by omega)]
  omega
theorem low_neg {N X Y i0 : Nat} (hX : X = Y * 2 ^ (32 * i0)) (hXM : X ≤ M70) (hi0 : i0 < 64) : ∀ j, j < i0 → dig ((N + M70 - X) % M70) j = dig N j := by
  intro j hj
  have h := dig_sub N X j hXM (by omega)
  have := dig_lt N j
  rw [dig_lowX hX hj, borS_low hX (by omega)] at h
  omega

/-- What the walks of add ask of the numbers. -/
structure AddFacts (b m q s i0 lo hh Y X : Nat) : Prop where
  hm : m < 9007199254740992
  hq : q < 2047
  hs : (q : Int) % 32 = (s : Int)
  hs1 : s < 32
  hi : (q : Int) / 32 = (i0 : Int)
  hi0 : i0 < 64
  hL : IntKind.u64.wrap ((m : Int) * 2 ^ s) = (lo : Int)
  hH : (m : Int) / 2 ^ (64 - s) = (hh : Int)
  hp0 : (lo : Int) % 4294967296 = (dig Y 0 : Int)
  hp1 : (lo : Int) / 4294967296 % 4294967296 = (dig Y 1 : Int)
  hp2 : (hh : Int) % 4294967296 = (dig Y 2 : Int)
  hX : X = Y * 2 ^ (32 * i0)
  hY : Y < Mx 3
  hXM : X ≤ M70
  hmag : X = mag b
theorem Mx_mono {i j : Nat} (h : i ≤ j) : Mx i ≤ Mx j := by unfold Mx; exact Nat.pow_le_pow_right (by decide) (by omega)
theorem mag_lt (b : Nat) : mag b < Mx 66 := by
  unfold mag Mx
  have h1 := fM_lt b
  have h2 := fQ_lt b
  calc fM b * 2 ^ fQ b < 2 ^ 53 * 2 ^ fQ b := Nat.mul_lt_mul_of_pos_right h1 (Nat.two_pow_pos _)
    _ = 2 ^ (53 + fQ b) := by rw [Nat.pow_add]
    _ ≤ 2 ^ (32 * 66) := Nat.pow_le_pow_right (by decide) (by omega)
theorem addFacts (b : Nat) : AddFacts b (fM b) (fQ b) (fQ b % 32) (fQ b / 32) (fM b * 2 ^ (fQ b % 32) % 18446744073709551616) (fM b / 2 ^ (64 - fQ b % 32)) (fM b * 2 ^ (fQ b % 32)) (mag b) := by
  have h1 := fM_lt b
  have h2 := fQ_lt b
  have hml := mag_lt b
  have hX : mag b = fM b * 2 ^ (fQ b % 32) * 2 ^ (32 * (fQ b / 32)) := by
    unfold mag
    rw [Nat.mul_assoc, ← Nat.pow_add]
    congr 2
    omega
  have hs1 : fQ b % 32 < 32 := Nat.mod_lt _ (by decide)
  have hY : fM b * 2 ^ (fQ b % 32) < Mx 3 := by
    unfold Mx
    calc fM b * 2 ^ (fQ b % 32) < 2 ^ 53 * 2 ^ (fQ b % 32) := Nat.mul_lt_mul_of_pos_right h1 (Nat.two_pow_pos _)
      _ = 2 ^ (53 + fQ b % 32) := by rw [Nat.pow_add]
      _ ≤ 2 ^ (32 * 3) := Nat.pow_le_pow_right (by decide) (by omega)
  refine ⟨h1, h2, by omega, hs1, by omega, by omega, ?_, ?_, ?_, ?_, ?_, hX, hY, ?_, rfl⟩
  · rw [IntKind.wrap_u64]
    have e : (fM b : Int) * 2 ^ (fQ b % 32) = ((fM b * 2 ^ (fQ b % 32) : Nat) : Int) := by rw [Int.natCast_mul, Int.natCast_pow]; rfl
    rw [e]; rfl
  · have e : (2 : Int) ^ (64 - fQ b % 32) = ((2 ^ (64 - fQ b % 32) : Nat) : Int) := by rw [Int.natCast_pow]; rfl
    rw [e]; rfl
  · unfold dig
    simp only [Nat.mul_zero, Nat.pow_zero, Nat.div_one]
    omega
  · unfold dig
    show _ = ((fM b * 2 ^ (fQ b % 32) / 2 ^ 32 % 4294967296 : Nat) : Int)
    generalize fM b * 2 ^ (fQ b % 32) = Y
    omega
  · unfold dig
    have e : fM b * 2 ^ (fQ b % 32) / 2 ^ (32 * 2) = fM b / 2 ^ (64 - fQ b % 32) := by
      rw [show 32 * 2 = (64 - fQ b % 32) + fQ b % 32 from by omega, Nat.pow_add, Nat.mul_div_mul_right _ _ (Nat.two_pow_pos _)]
    rw [e]
    rfl
  · exact Nat.le_trans (Nat.le_of_lt hml) (Mx_mono (by decide))

theorem add_any (W N b : Nat) (w : World) (hw : Wh w W (dig N)) (hb : b < 18446744073709551616) (hfin : b % 9223372036854775808 < 9218868437227405312) :
    Calls Try.prog 25 #[.pointer (some ⟨W, 0, none⟩), .float .f64 b] w fun e w' => e = .returned (.tuple #[]) ∧ Wh w' W (dig (addN N b)) ∧ Chg W w w' := by
  have hcn : cn b = b := by unfold cn; rw [if_neg (by omega)]
  have F := addFacts b
  have g1 := and_frac b hb
  have g2 := and_expo b hb
  have hf : b % 4503599627370496 < 4503599627370496 := Nat.mod_lt _ (by decide)
  have g3 := or_lead _ hf
  unfold addN
  by_cases he : b / 4503599627370496 % 2048 = 0
  · have eM : fM b = b % 4503599627370496 := by unfold fM; rw [if_pos he]
    have eQ : fQ b = 0 := by unfold fQ; rw [he]
    rw [← eM] at g1
    rw [he, show (0 : Nat) = fQ b from eQ.symm] at g2
    have hd : decide (0 < fQ b) = false := by rw [eQ]; rfl
    by_cases hs : b ≥ 9223372036854775808
    · rw [if_pos hs]
      exact add_neg0 W N _ b (fM b) 0 (fQ b) _ _ _ _ (dig (fM b * 2 ^ (fQ b % 32))) (borS N (mag b)) w hw hcn F.hq (by decide) hd g2 g1 F.hm F.hs F.hs1 F.hi F.hi0 (by rw [beq_iff_eq]; omega)
        F.hL F.hH F.hp0 F.hp1 F.hp2 (dig_lt _) (borS_low F.hX (Nat.le_refl _)) (borS_le N _) (step_neg F.hX F.hY F.hXM) (low_neg F.hX F.hXM F.hi0)
    · rw [if_neg hs]
      exact add_pos0 W N _ b (fM b) 0 (fQ b) _ _ _ _ (dig (fM b * 2 ^ (fQ b % 32))) (carA N (mag b)) w hw hcn F.hq (by decide) hd g2 g1 F.hm F.hs F.hs1 F.hi F.hi0 (by rw [beq_eq_false_iff_ne]; omega)
        F.hL F.hH F.hp0 F.hp1 F.hp2 (dig_lt _) (carA_low F.hX (Nat.le_refl _)) (carA_le N _) (step_pos F.hX F.hY) (low_pos F.hX F.hi0)
  · have eM : fM b = b % 4503599627370496 + 4503599627370496 := by unfold fM; rw [if_neg he]
    have eQ : b / 4503599627370496 % 2048 = fQ b + 1 := by unfold fQ; omega
    rw [← eM] at g3
    rw [eQ] at g2
    by_cases hs : b ≥ 9223372036854775808
    · rw [if_pos hs]
      exact add_neg1 W N _ b (fM b) _ (fQ b) _ _ _ _ (dig (fM b * 2 ^ (fQ b % 32))) (borS N (mag b)) w hw hcn F.hq hf g2 g1 g3 F.hm F.hs F.hs1 F.hi F.hi0 (by rw [beq_iff_eq]; omega)
        F.hL F.hH F.hp0 F.hp1 F.hp2 (dig_lt _) (borS_low F.hX (Nat.le_refl _)) (borS_le N _) (step_neg F.hX F.hY F.hXM) (low_neg F.hX F.hXM F.hi0)
    · rw [if_neg hs]
      exact add_pos1 W N _ b (fM b) _ (fQ b) _ _ _ _ (dig (fM b * 2 ^ (fQ b % 32))) (carA N (mag b)) w hw hcn F.hq hf g2 g1 g3 F.hm F.hs F.hs1 F.hi F.hi0 (by rw [beq_eq_false_iff_ne]; omega)
        F.hL F.hH F.hp0 F.hp1 F.hp2 (dig_lt _) (carA_low F.hX (Nat.le_refl _)) (carA_le N _) (step_pos F.hX F.hY) (low_pos F.hX F.hi0)
end Go.Proofs.Ytdfbmfmfhdifpaa
