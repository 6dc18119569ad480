/- Floats that are whole numbers: sums, differences, products, equality. Plain arithmetic. -/
import Derived.Test.YtppebegleedifaaDoorEa
namespace Go.Proofs.YtppebegleedifaaDoor.Fw
open Ieee

/-- The word u is the whole number z (a zero of either sign). -/
def IsI (u : Nat) (z : Int) : Prop := fin u ∧ sval u = z * (U : Int)
theorem isI_word (s : Bool) (z : Int) (h : z.natAbs ≤ 9007199254740992) : IsI (wordI s (z * (U : Int))) z := by
  obtain ⟨k, hk⟩ : ∃ k : Nat, k = 1074 := ⟨_, rfl⟩
  by_cases h2 : z.natAbs < 9007199254740992
  · obtain ⟨p, q, _⟩ := wordI_fin s (z * (U : Int)) z.natAbs k (by rw [Int.natAbs_mul, Int.natAbs_natCast, U_eq k hk]) h2 (by omega)
    exact ⟨p, q⟩
  · obtain ⟨p, q, _⟩ := wordI_fin s (z * (U : Int)) 4503599627370496 (k + 1) (by
      rw [Int.natAbs_mul, Int.natAbs_natCast, show z.natAbs = 4503599627370496 * 2 from by omega, Nat.mul_assoc, U_eq k hk, Nat.mul_comm 2, ← Nat.pow_succ]) (by omega) (by omega)
    exact ⟨p, q⟩
theorem isI_Wz {z : Int} (h : z.natAbs ≤ 9007199254740992) : IsI (Wz z) z := ⟨(Wz_fin h).1, (Wz_fin h).2.1⟩
theorem isI_lt {u : Nat} {z : Int} (h : IsI u z) : u < 18446744073709551616 := h.1.1
theorem isI_add {u v : Nat} {a b : Int} (ha : IsI u a) (hb : IsI v b) (h : (a + b).natAbs ≤ 9007199254740992) : IsI (fop .add u v) (a + b) := by
  rw [add_fin ha.1 hb.1, ha.2, hb.2, ← Int.add_mul]
  exact isI_word _ _ h
theorem isI_sub {u v : Nat} {a b : Int} (ha : IsI u a) (hb : IsI v b) (h : (a - b).natAbs ≤ 9007199254740992) : IsI (fop .sub u v) (a - b) := by
  rw [sub_fin ha.1 hb.1, ha.2, hb.2, ← Int.sub_mul]
  exact isI_word _ _ h
theorem mul_fin {u v : Nat} (hu : fin u) (hv : fin v) : fop .mul u v = Fl.D.word (sg u ^^ sg v) (Fl.rung (mag u * mag v) 1074) := by
  have e : floatBits .mul .f64 u v = some (Fl.D.nearest (sg u ^^ sg v) (fM u * fM v) (-1074 + (fQ u : Int) + (-1074 + (fQ v : Int)))) := by
    show (((Fl.D.read u).product (Fl.D.read v)).map Fl.D.write) = _
    rw [read_fin2 hu, read_fin2 hv]
    rfl
  unfold fop
  rw [e]
  show Fl.D.nearest _ _ _ = _
  rw [Fl.nearest_eq _ _ _ 1074 (by omega)]
  rw [show (-1074 + (fQ u : Int) + (-1074 + (fQ v : Int)) + 1074 + ((1074 : Nat) : Int)).toNat = fQ u + fQ v from by omega]
  have e2 : mag u * mag v = fM u * fM v * 2 ^ (fQ u + fQ v) := by
    unfold mag
    rw [Nat.pow_add]
    generalize 2 ^ fQ u = p
    generalize 2 ^ fQ v = q
    rw [Nat.mul_mul_mul_comm]
  rw [e2]
theorem sg_of {u : Nat} {a : Int} (h : IsI u a) (h0 : a ≠ 0) : sg u = decide (a < 0) := by
  have hU := U_pos
  have h1 := h.2
  generalize U = V at *
  unfold sval at h1
  unfold sg
  have hV : (0 : Int) < V := by omega
  by_cases ha : a < 0
  · have := Int.mul_neg_of_neg_of_pos ha hV
    rw [decide_eq_true ha]
    split at h1
    · rename_i h2; exact decide_eq_true h2
    · omega
  · have := Int.mul_pos (show 0 < a by omega) hV
    rw [decide_eq_false ha]
    split at h1
    · omega
    · rename_i h2; exact decide_eq_false h2
theorem mag_of {u : Nat} {a : Int} (h : IsI u a) : mag u = a.natAbs * U := by
  rw [← sval_abs, h.2, Int.natAbs_mul, Int.natAbs_natCast]
theorem isI_mul {u v : Nat} {a b : Int} (ha : IsI u a) (hb : IsI v b) (h : (a * b).natAbs ≤ 9007199254740992) : IsI (fop .mul u v) (a * b) := by
  have hU := U_pos
  rw [mul_fin ha.1 hb.1, mag_of ha, mag_of hb]
  by_cases h0 : a * b = 0
  · have e : a.natAbs * U * (b.natAbs * U) = 0 := by
      have : a.natAbs * b.natAbs = 0 := by rw [← Int.natAbs_mul, h0]; rfl
      rw [Nat.mul_mul_mul_comm, this, Nat.zero_mul]
    rw [e, Fl.rung_zero, h0]
    have := isI_word (sg u ^^ sg v) 0 (by decide)
    rw [Int.zero_mul] at this
    unfold wordI at this
    rw [if_pos rfl, Int.natAbs_zero, Fl.rung_zero] at this
    exact this
  · have ha0 : a ≠ 0 := fun e => h0 (by rw [e, Int.zero_mul])
    have hb0 : b ≠ 0 := fun e => h0 (by rw [e, Int.mul_zero])
    have hs : (sg u ^^ sg v) = decide (a * b * (U : Int) < 0) := by
      rw [sg_of ha ha0, sg_of hb hb0]
      have hV : (0 : Int) < (U : Int) := by omega
      generalize (U : Int) = V at *
      rcases Int.lt_or_gt_of_ne ha0 with h1 | h1 <;> rcases Int.lt_or_gt_of_ne hb0 with h2 | h2
      · have := Int.mul_pos_of_neg_of_neg h1 h2
        have := Int.mul_pos this hV
        rw [decide_eq_true h1, decide_eq_true h2, decide_eq_false (by omega)]; rfl
      · have := Int.mul_neg_of_neg_of_pos h1 h2
        have := Int.mul_neg_of_neg_of_pos this hV
        rw [decide_eq_true h1, decide_eq_false (by omega), decide_eq_true (by omega)]; rfl
      · have := Int.mul_neg_of_pos_of_neg h1 h2
        have := Int.mul_neg_of_neg_of_pos this hV
        rw [decide_eq_false (by omega), decide_eq_true h2, decide_eq_true (by omega)]; rfl
      · have := Int.mul_pos h1 h2
        have := Int.mul_pos this hV
        rw [decide_eq_false (by omega), decide_eq_false (by omega), decide_eq_false (by omega)]; rfl
    have hne : a * b * (U : Int) ≠ 0 := Int.mul_ne_zero h0 (by omega)
    have hr : Fl.rung (a.natAbs * U * (b.natAbs * U)) 1074 = Fl.rung (a * b * (U : Int)).natAbs 0 := by
      obtain ⟨k, hk⟩ : ∃ k : Nat, k = 1074 := ⟨_, rfl⟩
      have e1 : a.natAbs * U * (b.natAbs * U) = (a * b * (U : Int)).natAbs * 2 ^ k := by
        rw [Int.natAbs_mul, Int.natAbs_mul, Int.natAbs_natCast, ← U_eq k hk]
        generalize U = V
        rw [Nat.mul_mul_mul_comm, Nat.mul_assoc, Nat.mul_assoc, Nat.mul_assoc]
      rw [e1]
      have := Fl.rung_scale (a * b * (U : Int)).natAbs 0 k (by intro e; exact hne (Int.natAbs_eq_zero.1 e))
      rw [Nat.zero_add, hk] at this
      rw [hk]
      exact this
    have := isI_word false (a * b) h
    unfold wordI at this
    rw [if_neg hne, ← hs, ← hr] at this
    exact this
theorem isI_eq {u v : Nat} {a b : Int} (ha : IsI u a) (hb : IsI v b) : (FloatKind.f64.format.order u v == some .eq) = decide (a = b) := by
  have hU := U_pos
  have e0 : Fl.D.order u v = some (compare (signed (sg u) (fM u) (fQ u - min (fQ u) (fQ v))) (signed (sg v) (fM v) (fQ v - min (fQ u) (fQ v)))) := by
    unfold Format.order
    rw [read_fin2 ha.1, read_fin2 hb.1]
    simp only [Datum.order]
    rw [show (-1074 + (fQ u : Int) - min (-1074 + (fQ u : Int)) (-1074 + (fQ v : Int))).toNat = fQ u - min (fQ u) (fQ v) from by omega,
      show (-1074 + (fQ v : Int) - min (-1074 + (fQ u : Int)) (-1074 + (fQ v : Int))).toNat = fQ v - min (fQ u) (fQ v) from by omega]
  show (Fl.D.order u v == some .eq) = _
  rw [e0]
  have h1 := signed_mul (sg u) (fM u) (fQ u) (min (fQ u) (fQ v)) (by omega)
  have h2 := signed_mul (sg v) (fM v) (fQ v) (min (fQ u) (fQ v)) (by omega)
  rw [← sval_sgn, ha.2] at h1
  rw [← sval_sgn, hb.2] at h2
  have hp : 0 < 2 ^ min (fQ u) (fQ v) := Nat.two_pow_pos _
  generalize signed (sg u) (fM u) (fQ u - min (fQ u) (fQ v)) = x at *
  generalize signed (sg v) (fM v) (fQ v - min (fQ u) (fQ v)) = y at *
  generalize 2 ^ min (fQ u) (fQ v) = P at *
  generalize U = V at *
  have key : x = y ↔ a = b := by
    constructor
    · intro e
      rw [e, h2] at h1
      exact (Int.eq_of_mul_eq_mul_right (by omega) h1).symm
    · intro e
      rw [e, ← h2] at h1
      exact Int.eq_of_mul_eq_mul_right (by omega) h1
  rcases Int.lt_trichotomy x y with h | h | h
  · rw [Int.compare_eq_lt.2 h, decide_eq_false (fun e => by have := key.2 e; omega)]; rfl
  · rw [Int.compare_eq_eq.2 h, decide_eq_true (key.1 h)]; rfl
  · rw [Int.compare_eq_gt.2 h, decide_eq_false (fun e => by have := key.2 e; omega)]; rfl
end Go.Proofs.YtppebegleedifaaDoor.Fw
