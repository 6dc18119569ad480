/- power, within. -/
import Derived.Test.YtdfbmfmfhdifpaaSc
import Derived.Test.YtdfbmfmfhdifpaaNw
namespace Go.Proofs.Ytdfbmfmfhdifpaa
open Go.RowKit

theorem pw_lt {p : Nat} (h1 : 1 ≤ p) (h2 : p ≤ 2046) : pw p < 9218868437227405312 := by
  obtain ⟨⟨a, b⟩, _, _, c⟩ := pw_fin h1 h2
  unfold sg at c
  have c' := of_decide_eq_false c
  omega
theorem pw_cn {p : Nat} (h1 : 1 ≤ p) (h2 : p ≤ 2046) : cn (pw p) = pw p := by
  have := (pw_fin h1 h2).1.2
  unfold cn
  rw [if_neg (by omega)]
theorem pw_cast (p : Nat) : (p : Int) * 4503599627370496 = ((pw p : Nat) : Int) := by unfold pw; rw [Int.natCast_mul]; rfl

set_option maxHeartbeats 400000 in
theorem power_any (p : Nat) (h1 : 1 ≤ p) (h2 : p ≤ 2046) (k : Int) (hk : k = (p : Int) - 1023) (w : World) : Calls Try.prog 21 #[.int .i64 k] w fun e w' => e = .returned (.float .f64 (pw p)) ∧ w = w' := by
  have e1 : 1023 + k = (p : Int) := by omega
  have e2 := pw_cast p
  have hlt := pw_lt h1 h2
  have hc := pw_cn h1 h2
  have hw : IntKind.u64.wrap ((pw p : Nat) : Int) = ((pw p : Nat) : Int) := by rw [IntKind.wrap_u64]; omega
  have h1' : (1 : Int) ≤ p := by omega
  have h2' : (p : Int) ≤ 2046 := by omega
  have k1 : -1022 ≤ k := by omega
  have k2 : k ≤ 1023 := by omega
  clear h1 h2 hk hlt
  go_enter Try.func21, Try.ntmps21
  go_wp2_with (go_at_call 22; refine (float_any _ _).mono ?_; rintro e w1 ⟨rfl, rfl⟩; rw [hc])
  go_ret
  exact ⟨rfl, rfl⟩

theorem read_inf (s : Bool) : Fl.D.read (if s = true then 18442240474082181120 else 9218868437227405312) = .infinity s := by
  cases s <;> decide +kernel
theorem sg_neg {b : Nat} (hb : b < 18446744073709551616) : sg (negW b) = !sg b := by
  unfold sg negW
  by_cases h : b < 9223372036854775808
  · rw [if_pos h, decide_eq_true (show 9223372036854775808 ≤ b + 9223372036854775808 by omega), decide_eq_false (show ¬ 9223372036854775808 ≤ b by omega)]; rfl
  · rw [if_neg h, decide_eq_false (show ¬ 9223372036854775808 ≤ b - 9223372036854775808 by omega), decide_eq_true (show 9223372036854775808 ≤ b by omega)]; rfl
theorem neg_mod {b : Nat} (hb : b < 18446744073709551616) : negW b % 9223372036854775808 = b % 9223372036854775808 := by
  unfold negW; split <;> omega
theorem read_neg (b : Nat) (hb : b < 18446744073709551616) (h : b % 9223372036854775808 ≤ 9218868437227405312) :
    (∃ M P, Fl.D.read b = .number (sg b) M P ∧ Fl.D.read (negW b) = .number (!sg b) M P) ∨ (Fl.D.read b = .infinity (sg b) ∧ Fl.D.read (negW b) = .infinity (!sg b)) := by
  by_cases hf : b % 9223372036854775808 < 9218868437227405312
  · left
    have f1 : fin b := ⟨hb, hf⟩
    have f2 := fin_neg f1
    refine ⟨fM b, _, read_fin2 f1, ?_⟩
    rw [read_fin2 f2, sg_neg hb]
    have e1 : negW b / 4503599627370496 % 2048 = b / 4503599627370496 % 2048 := by have := neg_mod hb; omega
    have e2 : negW b % 4503599627370496 = b % 4503599627370496 := by have := neg_mod hb; omega
    unfold fM fQ
    rw [e1, e2]
  · right
    have e : b % 9223372036854775808 = 9218868437227405312 := by omega
    have h2 : b = 9218868437227405312 ∨ b = 18442240474082181120 := by omega
    rcases h2 with rfl | rfl <;> exact ⟨by decide +kernel, by decide +kernel⟩
theorem max_num (b : Nat) (hb : b < 18446744073709551616) (h : b % 9223372036854775808 ≤ 9218868437227405312) (w : World) :
    (Builtin.max_ #[26, 26] 26 #[.float .f64 b, .float .f64 (negW b)]).run Try.prog w = .ok (.float .f64 (b % 9223372036854775808)) w := by
  have ho : (sg b = false ∧ (FloatKind.f64.format.order b (negW b) = some .gt ∨ FloatKind.f64.format.order b (negW b) = some .eq)) ∨
      (sg b = true ∧ (FloatKind.f64.format.order b (negW b) = some .lt ∨ FloatKind.f64.format.order b (negW b) = some .eq)) := by
    show (sg b = false ∧ (Fl.D.order b (negW b) = some .gt ∨ Fl.D.order b (negW b) = some .eq)) ∨ (sg b = true ∧ (Fl.D.order b (negW b) = some .lt ∨ Fl.D.order b (negW b) = some .eq))
    unfold Ieee.Format.order
    rcases read_neg b hb h with ⟨M, P, e1, e2⟩ | ⟨e1, e2⟩
    · rw [e1, e2]
      simp only [Ieee.Datum.order]
      rw [Int.min_self, Int.sub_self]
      cases sg b
      · left
        refine ⟨rfl, ?_⟩
        show some (compare (Ieee.signed false M _) (Ieee.signed true M _)) = _ ∨ some (compare (Ieee.signed false M _) (Ieee.signed true M _)) = _
        rw [signed_pos, signed_neg]
        generalize M <<< (0 : Int).toNat = u
        by_cases hu : u = 0
        · right; subst hu; rfl
        · left; rw [Int.compare_eq_gt.2 (by omega)]
      · right
        refine ⟨rfl, ?_⟩
        show some (compare (Ieee.signed true M _) (Ieee.signed false M _)) = _ ∨ some (compare (Ieee.signed true M _) (Ieee.signed false M _)) = _
        rw [signed_pos, signed_neg]
        generalize M <<< (0 : Int).toNat = u
        by_cases hu : u = 0
        · right; subst hu; rfl
        · left; rw [Int.compare_eq_lt.2 (by omega)]
    · rw [e1, e2]
      cases sg b
      · left; exact ⟨rfl, .inl (by decide)⟩
      · right; exact ⟨rfl, .inl (by decide)⟩
  have hs : (FloatKind.f64.decode b).neg = sg b := by
    show (Fl.D.read b).neg = sg b
    rcases read_neg b hb h with ⟨M, P, e1, _⟩ | ⟨e1, _⟩ <;> rw [e1] <;> rfl
  have hn : sg b = true → negW b = b % 9223372036854775808 := by
    intro hs; have := of_decide_eq_true hs; unfold negW; rw [if_neg (by omega)]; omega
  have hp : sg b = false → b = b % 9223372036854775808 := by
    intro hs; have := of_decide_eq_false hs; omega
  rcases ho with ⟨e, ho | ho⟩ | ⟨e, ho | ho⟩
  · simp [Builtin.max_, Builtin.max2, ho, ← hp e]
  · simp [Builtin.max_, Builtin.max2, ho, hs, e, ← hp e]
  · rw [← hn e]; simp [Builtin.max_, Builtin.max2, ho]
  · rw [← hn e]; simp [Builtin.max_, Builtin.max2, ho, hs, e]
theorem max_nan (b : Nat) (h : b % 9223372036854775808 > 9218868437227405312) (w : World) : ∃ r n,
    (Builtin.max_ #[26, 26] 26 #[.float .f64 b, .float .f64 (negW b)]).run Try.prog w = .ok (.float .f64 r) (w.drewN n) ∧ r % 9223372036854775808 > 9218868437227405312 := by
  have ho : FloatKind.f64.format.order b (negW b) = none := order_nan_left h
  refine ⟨(Question.nanMinMax .f64 true b (negW b)).cut (w.tape w.drawn (.nanMinMax .f64 true b (negW b))), 1, ?_, ?_⟩
  · simp [Builtin.max_, Builtin.max2, ho, choose, Sem.run, Question.forced, Result.andThen, World.drewN]
  · generalize w.tape w.drawn (.nanMinMax .f64 true b (negW b)) = t
    have h1 : (t / 2) % (2 ^ 52 - 1) < 2 ^ 52 - 1 := Nat.mod_lt _ (by decide)
    have h2 : t % 2 < 2 := Nat.mod_lt _ (by decide)
    have e : (Question.nanMinMax .f64 true b (negW b)).cut t = (t % 2) * 2 ^ 63 + 0x7ff0000000000000 + 1 + (t / 2) % (2 ^ 52 - 1) := rfl
    rw [e]
    generalize (t / 2) % (2 ^ 52 - 1) = u at *
    generalize t % 2 = s at *
    omega
theorem max_run (b : Nat) (hb : b < 18446744073709551616) (w : World) : ∃ r n, (Builtin.max_ #[26, 26] 26 #[.float .f64 b, .float .f64 (negW b)]).run Try.prog w = .ok (.float .f64 r) (w.drewN n) ∧
    (r % 9223372036854775808 > 9218868437227405312 ∨ (r = b % 9223372036854775808 ∧ r ≤ 9218868437227405312)) := by
  by_cases h : b % 9223372036854775808 > 9218868437227405312
  · obtain ⟨r, n, h1, h2⟩ := max_nan b h w
    exact ⟨r, n, h1, .inl h2⟩
  · exact ⟨_, 0, max_num b hb (by omega) w, .inr ⟨rfl, by omega⟩⟩
theorem order_inf {p : Nat} (hp : p < 9218868437227405312) : FloatKind.f64.format.order 9218868437227405312 p = some .gt := by
  show Fl.D.order _ _ = _
  unfold Ieee.Format.order
  rw [read_fin p (by omega), show Fl.D.read 9218868437227405312 = .infinity false from by decide +kernel]
  rfl
theorem wit_ok {r p1 p2 : Nat} (h1 : p1 < 9218868437227405312) (h2 : p2 < 9218868437227405312) (hr : r % 9223372036854775808 > 9218868437227405312 ∨ r ≤ 9218868437227405312)
    (h : ((FloatKind.f64.format.order r p1 == some .gt || FloatKind.f64.format.order r p1 == some .eq) && (FloatKind.f64.format.order r p2 == some .lt || FloatKind.f64.format.order r p2 == some .eq)) = true) :
    ¬ r % 9223372036854775808 > 9218868437227405312 ∧ r < 9218868437227405312 ∧ p1 ≤ r ∧ r ≤ p2 := by
  rcases hr with hn | hr
  · rw [order_nan_left hn] at h; simp at h
  · by_cases e : r = 9218868437227405312
    · subst e
      rw [order_inf h1, order_inf h2] at h
      simp at h
    · have hlt : r < 9218868437227405312 := by omega
      rw [order_words r p1 hlt h1, order_words r p2 hlt h2] at h
      refine ⟨by omega, hlt, ?_, ?_⟩
      · rcases Nat.lt_or_ge r p1 with h3 | h3
        · rw [Nat.compare_eq_lt.2 h3] at h; exact absurd h (by simp)
        · exact h3
      · rcases Nat.lt_or_ge p2 r with h3 | h3
        · rw [Nat.compare_eq_gt.2 h3] at h; exact absurd h (by simp)
        · exact h3

set_option maxHeartbeats 400000 in
theorem within_any (b m : Nat) (hm : m = 900 ∨ m = 950) (hb : b < 18446744073709551616) (w : World) :
    Calls Try.prog 20 #[.float .f64 b, .int .i64 m] w fun e w' => ∃ v k, e = .returned (.bool v) ∧ w' = w.drewN k ∧ (v = true → fin b ∧ pw (1023 - m) ≤ b % 9223372036854775808 ∧ b % 9223372036854775808 ≤ pw (1023 + m)) := by
  obtain ⟨r, k, hmax, hr⟩ := max_run b hb w
  have hx : ∀ w : World, (Op.unary .neg (.float .f64 b)).run Try.prog w = .ok (.float .f64 (negW b)) w := fun w => by rw [← neg_word b hb]; rfl
  have P1 := Lib.hid (fun w => power_any (1023 - m) (by omega) (by omega) (-(m : Int)) (by omega) w)
  have P2 := Lib.hid (fun w => power_any (1023 + m) (by omega) (by omega) (m : Int) (by omega) w)
  have hm1 : (900 : Int) ≤ m := by omega
  have hm2 : (m : Int) ≤ 950 := by omega
  have HW := Lib.hid (fun h => wit_ok (r := r) (pw_lt (p := 1023 - m) (by omega) (by omega)) (pw_lt (p := 1023 + m) (by omega) (by omega)) (hr.imp id And.right) h)
  have HF : Hid (¬ r % 9223372036854775808 > 9218868437227405312 → r < 9218868437227405312 → r = b % 9223372036854775808 ∧ fin b) := by
    refine Lib.hid fun k1 k2 => ?_
    rcases hr with h1 | ⟨h1, _⟩
    · exact absurd h1 k1
    · exact ⟨h1, hb, by omega⟩
  generalize pw (1023 - m) = p1 at *
  generalize pw (1023 + m) = p2 at *
  clear hm hr hb
  go_enter Try.func20, Try.ntmps20
  go_wp2_with (first
    | (go_at_call_of 21 (Value.int IntKind.i64 (m : Int)); refine (P2.out _).mono ?_; rintro e w1 ⟨rfl, rfl⟩)
    | (go_at_call 21; refine (P1.out _).mono ?_; rintro e w1 ⟨rfl, rfl⟩))
  · go_ret
    refine ⟨_, k, rfl, rfl, fun h => ?_⟩
    obtain ⟨k1, k2, k3, k4⟩ := HW.out h
    obtain ⟨e1, e2⟩ := HF.out k1 k2
    rw [← e1]
    exact ⟨e2, k3, k4⟩
  · go_ret
    exact ⟨_, k, rfl, rfl, fun h => by cases h⟩
end Go.Proofs.Ytdfbmfmfhdifpaa
