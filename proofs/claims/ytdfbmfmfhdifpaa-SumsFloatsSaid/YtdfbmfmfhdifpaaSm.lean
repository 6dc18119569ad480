/- The small functions: Float64bits, Float64frombits, Float, Bits, Same, Abs, Class, size. -/
import Derived.Test.YtdfbmfmfhdifpaaLf
import Derived.Laws.Externs
namespace Go.Proofs.Ytdfbmfmfhdifpaa
open Go.RowKit

theorem find41 : ∃ e, Extern.find Try.f41 = some e ∧ ∀ (n : Int) (w : World), (e #[.int .u64 n]).run Try.prog w = .ok (.float .f64 n.toNat) w :=
  ⟨Extern.MathFloatBits.float64frombits, by kernel_rfl, fun _ _ => rfl⟩
theorem find42 : ∃ e, Extern.find Try.f42 = some e ∧ ∀ (b : Nat) (w : World), (e #[.float .f64 b]).run Try.prog w = .ok (.int .u64 b) w :=
  ⟨Extern.MathFloatBits.float64bits, by kernel_rfl, fun _ _ => rfl⟩
theorem run41 (n : Int) (w : World) : (callFunc 41 #[.int .u64 n]).run Try.prog w = .ok (.value (.float .f64 n.toNat)) w := by
  obtain ⟨e, he, hr⟩ := find41
  rw [run_callFunc_extern Try.func41 (by kernel_rfl) (by kernel_rfl) (by kernel_rfl) he, hr]
  rfl
theorem run42 (b : Nat) (w : World) : (callFunc 42 #[.float .f64 b]).run Try.prog w = .ok (.value (.int .u64 b)) w := by
  obtain ⟨e, he, hr⟩ := find42
  rw [run_callFunc_extern Try.func42 (by kernel_rfl) (by kernel_rfl) (by kernel_rfl) he, hr]
  rfl

/-- x != x: it is a NaN. -/
theorem cmp_nan (b : Nat) (h : b % 9223372036854775808 > 9218868437227405312) : (FloatKind.f64.format.order b b != some .eq) = true := by
  obtain ⟨s, f, e⟩ := nan_of (read_nan b h)
  have e' : (FloatKind.f64.format).read b = .nan s f := e
  unfold Ieee.Format.order
  rw [e']
  rfl
theorem order_refl (d : Ieee.Datum) (h : d.isNaN = false) : d.order d = some .eq := by
  cases d with
  | number s m p =>
    simp only [Ieee.Datum.order]
    simp
  | infinity s =>
    simp only [Ieee.Datum.order]
    simp
  | nan s f => cases h
theorem read_num (a : Nat) (h : ¬ a % 9223372036854775808 > 9218868437227405312) : (Fl.D.read a).isNaN = false := by
  unfold Ieee.Format.read
  simp only [Fl.D_sign, Fl.D_bin, Fl.D_inf]
  split
  · rfl
  · split
    · rfl
    · rw [if_pos (by omega)]; rfl
theorem cmp_num (b : Nat) (h : ¬ b % 9223372036854775808 > 9218868437227405312) : (FloatKind.f64.format.order b b != some .eq) = false := by
  have := order_refl _ (read_num b h)
  unfold Ieee.Format.order
  show (((Fl.D.read b).order (Fl.D.read b)) != some .eq) = false
  rw [this]
  rfl

set_option maxHeartbeats 400000 in
theorem float_any (n : Nat) (w : World) : Calls Try.prog 22 #[.int .u64 n] w fun e w' => e = .returned (.float .f64 (cn n)) ∧ w = w' := by
  have h41 := run41
  by_cases h : n % 9223372036854775808 > 9218868437227405312
  · have hc := cmp_nan n h
    have e : cn n = nanW := by unfold cn; rw [if_pos h]
    rw [e]
    clear e
    go_enter Try.func22, Try.ntmps22
    go_wp2_with fail
    go_ret
    exact ⟨rfl, rfl⟩
  · have hc := cmp_num n h
    have e : cn n = n := by unfold cn; rw [if_neg h]
    rw [e]
    clear e
    go_enter Try.func22, Try.ntmps22
    go_wp2_with fail
    go_ret
    exact ⟨rfl, rfl⟩

set_option maxHeartbeats 400000 in
theorem bits_ref (b : Nat) (w : World) : Calls Try.prog 31 #[.float .f64 b] w fun e w' => e = .returned (.int .u64 (cn b)) ∧ w = w' := by
  have h42 := run42
  by_cases h : b % 9223372036854775808 > 9218868437227405312
  · have e : cn b = nanW := by unfold cn; rw [if_pos h]
    rw [e]
    go_enter Try.func31, Try.ntmps31
    go_wp2_with fail
    go_ret
    exact ⟨rfl, rfl⟩
  · have e : cn b = b := by unfold cn; rw [if_neg h]
    rw [e]
    go_enter Try.func31, Try.ntmps31
    go_wp2_with fail
    go_ret
    exact ⟨rfl, rfl⟩
set_option maxHeartbeats 400000 in
theorem bits_own (b : Nat) (w : World) : Calls Try.prog 43 #[.float .f64 b] w fun e w' => e = .returned (.int .u64 (cn b)) ∧ w = w' := by
  have h42 := run42
  by_cases h : b % 9223372036854775808 > 9218868437227405312
  · have hc := cmp_nan b h
    have e : cn b = nanW := by unfold cn; rw [if_pos h]
    rw [e]
    clear e
    go_enter Try.func43, Try.ntmps43
    go_wp2_with fail
    go_ret
    exact ⟨rfl, rfl⟩
  · have hc := cmp_num b h
    have e : cn b = b := by unfold cn; rw [if_neg h]
    rw [e]
    clear e
    go_enter Try.func43, Try.ntmps43
    go_wp2_with fail
    go_ret
    exact ⟨rfl, rfl⟩

theorem beq_cast (a b : Nat) : (((a : Int)) == (b : Int)) = (a == b) := by
  rw [Bool.eq_iff_iff, beq_iff_eq, beq_iff_eq]; omega
set_option maxHeartbeats 400000 in
theorem same_any (a b : Nat) (w : World) : Calls Try.prog 14 #[.float .f64 a, .float .f64 b] w fun e w' => e = .returned (.bool (cn a == cn b)) ∧ w = w' := by
  have hb := beq_cast (cn a) (cn b)
  go_enter Try.func14, Try.ntmps14
  go_wp2_with (go_at_call 31; refine (bits_ref _ _).mono ?_; rintro e w' ⟨rfl, rfl⟩)
  go_ret
  exact ⟨rfl, rfl⟩

theorem andNot_sign (b : Nat) (h : b < 18446744073709551616) : bits .andNot .u64 (b : Int) 9223372036854775808 = ((b % 9223372036854775808 : Nat) : Int) := by
  have := u64_andNot_nat b 9223372036854775808 h (by decide)
  rw [show ((9223372036854775808 : Int)) = ((9223372036854775808 : Nat) : Int) from rfl, this]
  have e : (18446744073709551615 - 9223372036854775808 : Nat) = 2 ^ 63 - 1 := by decide
  rw [e, Nat.and_two_pow_sub_one_eq_mod]

set_option maxHeartbeats 400000 in
theorem abs_any (b : Nat) (w : World) (hb : b < 18446744073709551616) : Calls Try.prog 23 #[.float .f64 b] w fun e w' => e = .returned (.float .f64 (b % 9223372036854775808)) ∧ w = w' := by
  have h41 := run41
  have h42 := run42
  have ha := andNot_sign b hb
  have hb' := Lib.hid hb; clear hb
  generalize b % 9223372036854775808 = v at *
  go_enter Try.func23, Try.ntmps23
  go_wp2_with fail
  go_ret
  exact ⟨rfl, rfl⟩

/-- The class of a float, by its word. -/
def classN (b : Nat) : Int :=
  if b % 9223372036854775808 > 9218868437227405312 then 9
  else
    let a := if b % 9223372036854775808 = 0 then 5 else if b % 9223372036854775808 < 4503599627370496 then 6 else if b % 9223372036854775808 = 9218868437227405312 then 8 else 7
    if b ≥ 9223372036854775808 then 9 - a else a

def selC (z0 z1 z2 s : Bool) : Int :=
  let a := if z0 then 5 else if z1 then 6 else if z2 then 8 else 7
  if s then 9 - a else a
theorem classN_nan {b : Nat} (h : b % 9223372036854775808 > 9218868437227405312) : classN b = 9 := by unfold classN; rw [if_pos h]
theorem classN_num {b v : Nat} (hv : b % 9223372036854775808 = v) (h : ¬ v > 9218868437227405312) :
    classN b = selC (v == 0) (decide (v < 4503599627370496)) (v == 9218868437227405312) (decide (9223372036854775808 ≤ b)) := by
  unfold classN selC; rw [hv, if_neg h]
  simp

set_option maxHeartbeats 1000000 in
theorem class_ttf_t (b v : Nat) (w : World) (hc : (FloatKind.f64.format.order b b != some .eq) = false) (ha : bits .andNot .u64 (b : Int) 9223372036854775808 = (v : Int))
    (f0 : (((v : Nat) : Int) == 0) = true) (f1 : decide ((v : Int) < 4503599627370496) = true) (f2 : (((v : Nat) : Int) == 9218868437227405312) = false) (f3 : decide (9223372036854775808 ≤ (b : Int)) = true) :
    Calls Try.prog 24 #[.float .f64 b] w fun e w' => e = .returned (.int .i64 (selC true true false true)) ∧ w = w' := by
  have h42 := run42
  go_enter Try.func24, Try.ntmps24
  go_wp2_with fail
  go_ret
  exact ⟨rfl, rfl⟩

set_option maxHeartbeats 1000000 in
theorem class_ttf_f (b v : Nat) (w : World) (hc : (FloatKind.f64.format.order b b != some .eq) = false) (ha : bits .andNot .u64 (b : Int) 9223372036854775808 = (v : Int))
    (f0 : (((v : Nat) : Int) == 0) = true) (f1 : decide ((v : Int) < 4503599627370496) = true) (f2 : (((v : Nat) : Int) == 9218868437227405312) = false) (f3 : decide (9223372036854775808 ≤ (b : Int)) = false) :
    Calls Try.prog 24 #[.float .f64 b] w fun e w' => e = .returned (.int .i64 (selC true true false false)) ∧ w = w' := by
  have h42 := run42
  go_enter Try.func24, Try.ntmps24
  go_wp2_with fail
  go_ret
  exact ⟨rfl, rfl⟩

set_option maxHeartbeats 1000000 in
theorem class_ftf_t (b v : Nat) (w : World) (hc : (FloatKind.f64.format.order b b != some .eq) = false) (ha : bits .andNot .u64 (b : Int) 9223372036854775808 = (v : Int))
    (f0 : (((v : Nat) : Int) == 0) = false) (f1 : decide ((v : Int) < 4503599627370496) = true) (f2 : (((v : Nat) : Int) == 9218868437227405312) = false) (f3 : decide (9223372036854775808 ≤ (b : Int)) = true) :
    Calls Try.prog 24 #[.float .f64 b] w fun e w' => e = .returned (.int .i64 (selC false true false true)) ∧ w = w' := by
  have h42 := run42
  go_enter Try.func24, Try.ntmps24
  go_wp2_with fail
  go_ret
  exact ⟨rfl, rfl⟩

set_option maxHeartbeats 1000000 in
theorem class_ftf_f (b v : Nat) (w : World) (hc : (FloatKind.f64.format.order b b != some .eq) = false) (ha : bits .andNot .u64 (b : Int) 9223372036854775808 = (v : Int))
    (f0 : (((v : Nat) : Int) == 0) = false) (f1 : decide ((v : Int) < 4503599627370496) = true) (f2 : (((v : Nat) : Int) == 9218868437227405312) = false) (f3 : decide (9223372036854775808 ≤ (b : Int)) = false) :
    Calls Try.prog 24 #[.float .f64 b] w fun e w' => e = .returned (.int .i64 (selC false true false false)) ∧ w = w' := by
  have h42 := run42
  go_enter Try.func24, Try.ntmps24
  go_wp2_with fail
  go_ret
  exact ⟨rfl, rfl⟩

set_option maxHeartbeats 1000000 in
theorem class_fft_t (b v : Nat) (w : World) (hc : (FloatKind.f64.format.order b b != some .eq) = false) (ha : bits .andNot .u64 (b : Int) 9223372036854775808 = (v : Int))
    (f0 : (((v : Nat) : Int) == 0) = false) (f1 : decide ((v : Int) < 4503599627370496) = false) (f2 : (((v : Nat) : Int) == 9218868437227405312) = true) (f3 : decide (9223372036854775808 ≤ (b : Int)) = true) :
    Calls Try.prog 24 #[.float .f64 b] w fun e w' => e = .returned (.int .i64 (selC false false true true)) ∧ w = w' := by
  have h42 := run42
  go_enter Try.func24, Try.ntmps24
  go_wp2_with fail
  go_ret
  exact ⟨rfl, rfl⟩

set_option maxHeartbeats 1000000 in
theorem class_fft_f (b v : Nat) (w : World) (hc : (FloatKind.f64.format.order b b != some .eq) = false) (ha : bits .andNot .u64 (b : Int) 9223372036854775808 = (v : Int))
    (f0 : (((v : Nat) : Int) == 0) = false) (f1 : decide ((v : Int) < 4503599627370496) = false) (f2 : (((v : Nat) : Int) == 9218868437227405312) = true) (f3 : decide (9223372036854775808 ≤ (b : Int)) = false) :
    Calls Try.prog 24 #[.float .f64 b] w fun e w' => e = .returned (.int .i64 (selC false false true false)) ∧ w = w' := by
  have h42 := run42
  go_enter Try.func24, Try.ntmps24
  go_wp2_with fail
  go_ret
  exact ⟨rfl, rfl⟩

set_option maxHeartbeats 1000000 in
theorem class_fff_t (b v : Nat) (w : World) (hc : (FloatKind.f64.format.order b b != some .eq) = false) (ha : bits .andNot .u64 (b : Int) 9223372036854775808 = (v : Int))
    (f0 : (((v : Nat) : Int) == 0) = false) (f1 : decide ((v : Int) < 4503599627370496) = false) (f2 : (((v : Nat) : Int) == 9218868437227405312) = false) (f3 : decide (9223372036854775808 ≤ (b : Int)) = true) :
    Calls Try.prog 24 #[.float .f64 b] w fun e w' => e = .returned (.int .i64 (selC false false false true)) ∧ w = w' := by
  have h42 := run42
  go_enter Try.func24, Try.ntmps24
  go_wp2_with fail
  go_ret
  exact ⟨rfl, rfl⟩

set_option maxHeartbeats 1000000 in
theorem class_fff_f (b v : Nat) (w : World) (hc : (FloatKind.f64.format.order b b != some .eq) = false) (ha : bits .andNot .u64 (b : Int) 9223372036854775808 = (v : Int))
    (f0 : (((v : Nat) : Int) == 0) = false) (f1 : decide ((v : Int) < 4503599627370496) = false) (f2 : (((v : Nat) : Int) == 9218868437227405312) = false) (f3 : decide (9223372036854775808 ≤ (b : Int)) = false) :
    Calls Try.prog 24 #[.float .f64 b] w fun e w' => e = .returned (.int .i64 (selC false false false false)) ∧ w = w' := by
  have h42 := run42
  go_enter Try.func24, Try.ntmps24
  go_wp2_with fail
  go_ret
  exact ⟨rfl, rfl⟩

theorem selC_of (b v : Nat) (w : World) (hc : (FloatKind.f64.format.order b b != some .eq) = false) (ha : bits .andNot .u64 (b : Int) 9223372036854775808 = (v : Int)) :
    Calls Try.prog 24 #[.float .f64 b] w fun e w' => e = .returned (.int .i64 (selC (v == 0) (decide (v < 4503599627370496)) (v == 9218868437227405312) (decide (9223372036854775808 ≤ b)))) ∧ w = w' := by
  have z0 : ∀ x : Bool, (v == 0) = x → (((v : Nat) : Int) == 0) = x := fun x h => by rw [← h]; exact beq_cast v 0
  have z2 : ∀ x : Bool, (v == 9218868437227405312) = x → (((v : Nat) : Int) == 9218868437227405312) = x := fun x h => by rw [← h]; exact beq_cast v 9218868437227405312
  have z1 : ∀ x : Bool, decide (v < 4503599627370496) = x → decide ((v : Int) < 4503599627370496) = x := fun x h => by rw [← h]; simp; omega
  have z3 : ∀ x : Bool, decide (9223372036854775808 ≤ b) = x → decide (9223372036854775808 ≤ (b : Int)) = x := fun x h => by rw [← h]; simp; omega
  cases e3 : decide (9223372036854775808 ≤ b) <;> cases e0 : (v == 0) <;> cases e1 : decide (v < 4503599627370496) <;> cases e2 : (v == 9218868437227405312)
  all_goals first
    | exact class_ttf_t b v w hc ha (z0 _ e0) (z1 _ e1) (z2 _ e2) (z3 _ e3)
    | exact class_ftf_t b v w hc ha (z0 _ e0) (z1 _ e1) (z2 _ e2) (z3 _ e3)
    | exact class_fft_t b v w hc ha (z0 _ e0) (z1 _ e1) (z2 _ e2) (z3 _ e3)
    | exact class_fff_t b v w hc ha (z0 _ e0) (z1 _ e1) (z2 _ e2) (z3 _ e3)
    | exact class_ttf_f b v w hc ha (z0 _ e0) (z1 _ e1) (z2 _ e2) (z3 _ e3)
    | exact class_ftf_f b v w hc ha (z0 _ e0) (z1 _ e1) (z2 _ e2) (z3 _ e3)
    | exact class_fft_f b v w hc ha (z0 _ e0) (z1 _ e1) (z2 _ e2) (z3 _ e3)
    | exact class_fff_f b v w hc ha (z0 _ e0) (z1 _ e1) (z2 _ e2) (z3 _ e3)
    | (exfalso; simp at e0 e1 e2; omega)

theorem class_any (b : Nat) (w : World) (hb : b < 18446744073709551616) : Calls Try.prog 24 #[.float .f64 b] w fun e w' => e = .returned (.int .i64 (classN b)) ∧ w = w' := by
  by_cases h : b % 9223372036854775808 > 9218868437227405312
  · have hc := cmp_nan b h
    rw [classN_nan h]
    clear h hb
    go_enter Try.func24, Try.ntmps24
    go_wp2_with fail
    go_ret
    exact ⟨rfl, rfl⟩
  · rw [classN_num rfl h]
    exact selC_of b (b % 9223372036854775808) w (cmp_num b h) (andNot_sign b hb)

set_option maxHeartbeats 400000 in
theorem size_any (b : Nat) (w : World) (h : (FloatKind.f64.format.order b 0 == some .lt) = true) :
    Calls Try.prog 32 #[.float .f64 b] w fun e w' => e = .returned (.float .f64 (b ^^^ 9223372036854775808)) ∧ w = w' := by
  have hn : ∀ w : World, (Op.unary .neg (.float .f64 b)).run Try.prog w = .ok (.float .f64 (b ^^^ 9223372036854775808)) w := fun _ => rfl
  go_enter Try.func32, Try.ntmps32
  go_wp2_with fail
  go_ret
  exact ⟨rfl, rfl⟩
set_option maxHeartbeats 400000 in
theorem size_no (b : Nat) (w : World) (h : (FloatKind.f64.format.order b 0 == some .lt) = false) :
    Calls Try.prog 32 #[.float .f64 b] w fun e w' => e = .returned (.float .f64 b) ∧ w = w' := by
  go_enter Try.func32, Try.ntmps32
  go_wp2_with fail
  go_ret
  exact ⟨rfl, rfl⟩
end Go.Proofs.Ytdfbmfmfhdifpaa
