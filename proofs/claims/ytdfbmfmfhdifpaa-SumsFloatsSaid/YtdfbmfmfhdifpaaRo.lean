/- The program's whole number: rounded. -/
import Derived.Test.YtdfbmfmfhdifpaaLe
namespace Go.Proofs.Ytdfbmfmfhdifpaa
open Go.RowKit

theorem if_iff {p q : Prop} [Decidable p] [Decidable q] (h : p ↔ q) : (if p then 1 else 0 : Nat) = if q then 1 else 0 := by
  by_cases hp : p
  · rw [if_pos hp, if_pos (h.1 hp)]
  · rw [if_neg hp, if_neg (fun hq => hp (h.2 hq))]
/-- The mantissa behind the rounding. -/
theorem rne_beside (A c : Nat) : Fl.rne A c = A / 2 ^ c + (if besideN A c = 1 ∨ (besideN A c = 0 ∧ A / 2 ^ c % 2 = 1) then 1 else 0) := by
  unfold Fl.rne
  congr 1
  unfold besideN
  rcases Nat.eq_zero_or_pos c with h | h
  · subst h
    simp [Nat.mod_one]
  · obtain ⟨k, rfl⟩ : ∃ k, c = k + 1 := ⟨c - 1, by omega⟩
    rw [Nat.add_sub_cancel]
    have hb : A / 2 ^ k % 2 = 0 ∨ A / 2 ^ k % 2 = 1 := by omega
    have hm : A % 2 ^ (k + 1) = A % 2 ^ k + 2 ^ k * (A / 2 ^ k % 2) := by rw [Nat.pow_succ, Nat.mod_mul]
    have hp : 2 ^ (k + 1) = 2 * 2 ^ k := Fl.two_pow_succ k
    have hlt : A % 2 ^ k < 2 ^ k := Nat.mod_lt _ (Nat.two_pow_pos _)
    rcases hb with hb | hb
    · rw [if_pos (show k + 1 = 0 ∨ A / 2 ^ k % 2 = 0 from .inr hb)]
      rw [hb, Nat.mul_zero, Nat.add_zero] at hm
      exact if_iff (by omega)
    · rw [if_neg (show ¬ (k + 1 = 0 ∨ A / 2 ^ k % 2 = 0) by omega)]
      rw [hb, Nat.mul_one] at hm
      by_cases h0 : A % 2 ^ k = 0
      · rw [if_pos h0]
        exact if_iff (by omega)
      · rw [if_neg h0]
        exact if_iff (by omega)

/-- cut, and what it leaves. -/
structure CutF (A L cut : Nat) : Prop where
  hA : A ≠ 0
  hL : blen A = L
  hL2 : L ≤ 2240
  hc : cut = L - 53
theorem CutF.log {A L cut : Nat} (h : CutF A L cut) : A.log2 + 1 = L := by
  have := h.hL; unfold blen at this; rw [if_neg h.hA] at this; exact this
theorem CutF.lt {A L cut : Nat} (h : CutF A L cut) : A < 2 ^ (cut + 53) := by
  have h1 := h.log
  have h2 := h.hc
  exact Nat.lt_of_lt_of_le (Fl.lt_log2 A) (Nat.pow_le_pow_right (by decide) (by omega))
theorem CutF.start {A L cut : Nat} (h : CutF A L cut) : A / 2 ^ (cut + 53) = 0 := Nat.div_eq_of_lt h.lt
theorem CutF.m_lt {A L cut : Nat} (h : CutF A L cut) : A / 2 ^ cut < 9007199254740992 := by
  rw [Nat.div_lt_iff_lt_mul (Nat.two_pow_pos _)]
  have := h.lt
  rw [Nat.pow_add, Nat.mul_comm] at this
  exact this
theorem CutF.m_ge {A L cut : Nat} (h : CutF A L cut) (hc : cut ≠ 0) : 4503599627370496 ≤ A / 2 ^ cut := by
  have h1 := h.log
  have h2 := h.hc
  rw [Nat.le_div_iff_mul_le (Nat.two_pow_pos _)]
  calc 4503599627370496 * 2 ^ cut = 2 ^ (52 + cut) := by rw [Nat.pow_add]
    _ = 2 ^ A.log2 := by congr 1; omega
    _ ≤ A := Nat.log2_self_le h.hA
theorem CutF.rung {A L cut : Nat} (h : CutF A L cut) : ldW (Fl.rne A cut) cut = Fl.rung A 0 := by
  have h1 := h.log
  have h2 := h.hc
  unfold ldW Fl.rung
  have e : max (A.log2 - 52) 0 = cut := by omega
  rw [e]
  rfl
theorem CutF.zero {A L cut : Nat} (h : CutF A L cut) (hc : cut = 0) : Fl.rne A cut = A / 2 ^ cut := by
  subst hc; rw [Fl.rne_zero]; simp
theorem CutF.args {A L cut m : Nat} (h : CutF A L cut) (hm : m = Fl.rne A cut) : 1 ≤ m ∧ m ≤ 9007199254740992 ∧ cut < 2400 ∧ (cut = 0 ∧ m < 9007199254740992 ∨ 4503599627370496 ≤ m) := by
  have h1 := h.m_lt
  have h2 := h.hc
  have h3 := h.hL2
  by_cases hc : cut = 0
  · have e := h.zero hc
    have hA := h.hA
    have e2 : A / 2 ^ cut = A := by rw [hc]; simp
    rw [hm, e, e2]
    rw [e2] at h1
    omega
  · have h4 := h.m_ge hc
    have : Fl.rne A cut ≤ A / 2 ^ cut + 1 := by unfold Fl.rne; split <;> omega
    have : A / 2 ^ cut ≤ Fl.rne A cut := by unfold Fl.rne; omega
    omega
theorem bit_step (A t : Nat) : A / 2 ^ t = 2 * (A / 2 ^ (t + 1)) + A / 2 ^ t % 2 := by
  rw [Nat.pow_succ, ← Nat.div_div_eq_div_mul]
  omega
theorem or_bit (x z : Nat) (hx : x < 9007199254740992) (hz : z < 2) : bits .or .u64 ((x : Int) * 2) (z : Int) = ((2 * x + z : Nat) : Int) := by
  rw [show (x : Int) * 2 = ((2 * x : Nat) : Int) from by omega, u64_or_nat _ _ (by omega) (by omega)]
  congr 1
  have := Nat.two_pow_add_eq_or_of_lt (show z < 2 ^ 1 from hz) x
  rw [show 2 * x = 2 ^ 1 * x from by omega, ← this]
theorem xor_sign (r : Nat) (h : r < 9223372036854775808) : r ^^^ 9223372036854775808 = 9223372036854775808 + r := by
  rw [show (9223372036854775808 : Nat) = 2 ^ 63 from rfl]
  apply Nat.eq_of_testBit_eq
  intro i
  have e2 := Nat.two_pow_add_eq_or_of_lt (show r < 2 ^ 63 from h) 1
  rw [Nat.mul_one] at e2
  rw [e2, Nat.testBit_xor, Nat.testBit_or, Nat.testBit_two_pow]
  by_cases hi : 63 = i
  · subst hi
    rw [Nat.testBit_lt_two_pow (show r < 2 ^ 63 from h)]; simp
  · simp [hi]
theorem ldW_le (m c : Nat) : ldW m c ≤ 9218868437227405312 := by unfold ldW; exact Nat.min_le_right _ _

set_option maxHeartbeats 4000000 in
theorem rounded_poss (N A L : Nat) (cs : Array Value) (w : World) (hcs : Hid (cs.size = 70 ∧ ∀ j, j < 70 → cs[j]? = some (.int .u32 (dig N j)))) (hN : Hid (N < M70))
    (hsg : neg70 N = false) (hA : Hid (A = N)) (hcut : Hid (CutF A L 0)) (hcc : Hid (0 < 2188 ∧ L ≤ 2240)) (hAM : Hid (A < Mx 70))
    (hL : L ≤ 2240) (hmx : ¬ (0 : Int) ≤ (L : Int) - 53) :
    Calls Try.prog 29 #[.agg cs] w fun e w' => e = .returned (.float .f64 (Fl.rung A 0)) ∧ Below w.heap.size w w' := by
  have hn : ∀ (b : Nat) (w : World), (Op.unary .neg (.float .f64 b)).run Try.prog w = .ok (.float .f64 (b ^^^ 9223372036854775808)) w := fun _ _ => rfl
  have hw1 : Wh (w.alloc (.cells cs 44)) w.heap.size (dig N) := ⟨cs, 44, heap_alloc_new w _, hcs.out.1, hcs.out.2⟩
  have hb1 : Below w.heap.size w (w.alloc (.cells cs 44)) := (Below.refl _ _).alloc (Nat.le_refl _) _
  have hw1' := Lib.hid hw1; clear hw1
  have hwA : Hid (Wh (w.alloc (.cells cs 44)) w.heap.size (dig A)) := by
    show Wh _ _ _
    rw [hA.out]; exact hw1'.out
  go_enter Try.func29, Try.ntmps29
  go_wp2_with (first
    | (go_at_call 45; refine (minus_any w.heap.size N _ hw1'.out).mono ?_; rintro e w' ⟨rfl, rfl⟩; simp only [hsg]; clear hsg)
    | (go_at_call 28; refine (length_any w.heap.size A _ hwA.out hAM.out).mono ?_; rintro e w' ⟨rfl, rfl⟩; simp only [hcut.out.hL]))
  have hbel := hb1
  obtain ⟨W, hW⟩ : ∃ W, w.heap.size = W := ⟨_, rfl⟩
  rw [hW] at hwA hw1'
  rw [hW]
  have hbel : Below w.heap.size w (w.alloc (.cells cs 44)) := hb1
  clear hb1 hw1'
  generalize w.alloc (.cells cs 44) = w2 at *
  have hm53 : ∀ j, 0 ≤ j → A / 2 ^ j < 9007199254740992 := fun j hj => Nat.lt_of_le_of_lt (Nat.div_le_div_left (Nat.pow_le_pow_right (by decide) hj) (Nat.two_pow_pos _)) hcut.out.m_lt
  obtain ⟨mf, hmf⟩ : ∃ mf : Nat → Nat, ∀ j, mf j = A / 2 ^ j := ⟨fun j => A / 2 ^ j, fun _ => rfl⟩
  have Hmf := Lib.hid hmf
  have Hm53 : Hid (∀ j, 0 ≤ j → mf j < 9007199254740992) := fun j hj => by rw [hmf]; exact hm53 j hj
  clear hm53 hmf
  go_loop [5, 6] (fun m i => ∃ j : Nat, 0 ≤ j ∧ j ≤ 0 + 53 ∧ i = .int .i64 ((j : Int) - 1) ∧ m = .int .u64 (mf j)) (fun m i => (intOf i + 1).toNat)
  case atStart => exact ⟨0 + 53, by omega, by omega, by go_num, by rw [Hmf.out, hcut.out.start]; rfl⟩
  case round =>
    obtain ⟨j, hj0, hj1, rfl, rfl⟩ := hrel
    by_cases hlt : 0 < j
    · obtain ⟨t, rfl⟩ : ∃ t, j = t + 1 := ⟨j - 1, by omega⟩
      have hx := Hm53.out (t + 1) (by omega)
      obtain ⟨z, hz⟩ : ∃ z, A / 2 ^ t % 2 = z := ⟨_, rfl⟩
      have hz2 : z < 2 := by omega
      have hor : bits .or .u64 ((mf (t + 1) : Int) * 2) (z : Int) = (mf t : Int) := by
        rw [or_bit _ _ hx hz2, Hmf.out, Hmf.out, bit_step A t, hz]
      have hcl := hcc.out.1
      have ht : t < 2240 := by omega
      have ht' : (0 : Int) ≤ (t : Int) := by omega
      have Hz := Lib.hid hz
      clear hz
      generalize mf (t + 1) = x at *
      go_wp2_with (go_at_call 44; refine (bit_is W A t z _ ht hwA.out Hz.out).mono ?_; rintro e w' ⟨rfl, rfl⟩)
      go_round
      case rel => exact ⟨t, by omega, by omega, by go_num, rfl⟩
      case measure => simp [intOf]
    · obtain rfl : j = 0 := by omega
      have hm0 := Hm53.out 0 (Nat.le_refl _)
      have hdec : ¬ (0 : Int) ≤ (0 : Int) - 1 := by omega
      have hmj := Hmf.out 0
      have hcl := hcc.out.1
      have hne := rne_beside A 0
      rw [← hmj] at hne
      rcases (show besideN A 0 = 1 ∨ (besideN A 0 = 0 ∧ mf 0 % 2 = 1) ∨ (besideN A 0 = 0 ∧ ¬ mf 0 % 2 = 1) ∨ besideN A 0 = -1 from by unfold besideN; split <;> (try split) <;> omega) with hv | hv | hv | hv
      · rw [if_pos (.inl hv)] at hne
        have hargs := hcut.out.args (m := mf 0 + 1) hne.symm
        have hrung : ldW (mf 0 + 1) 0 = Fl.rung A 0 := by rw [← hcut.out.rung, hne]
        have HL : Hid (∀ w, Calls Try.prog 48 #[.float .f64 (floatOfInt .f64 ((mf 0 : Int) + 1)), .int .i64 (-1074)] w fun e w' => e = .returned (.float .f64 (ldW (mf 0 + 1) 0)) ∧ w = w') := by
          intro w
          have := ldexp_any (mf 0 + 1) 0 w hargs.1 hargs.2.1 hargs.2.2.1 hargs.2.2.2
          have ec : ((mf 0 + 1 : Nat) : Int) = (mf 0 : Int) + 1 := by omega
          rw [ec] at this
          rw [show (((0 : Nat) : Int) - 1074) = -1074 from rfl] at this
          exact this
        have Hbes : Hid (besideN A 0 = 1) := hv
        have Hrung := Lib.hid hrung
        clear hrung hargs hne hv hmj
        have hj2240 : 0 ≤ 2240 := by omega
        go_wp2_with (first
          | (go_at_call 47; refine (beside_any W A 0 _ hwA.out hj2240).mono ?_; rintro e w' ⟨rfl, rfl⟩; rw [Hbes.out])
          | (go_at_call 48; refine (HL.out _).mono ?_; rintro e w' ⟨rfl, rfl⟩))
        go_ret
        exact ⟨by rw [Hrung.out]; rfl, hbel⟩
      · rw [if_pos (.inr hv)] at hne
        have hargs := hcut.out.args (m := mf 0 + 1) hne.symm
        have hrung : ldW (mf 0 + 1) 0 = Fl.rung A 0 := by rw [← hcut.out.rung, hne]
        have HL : Hid (∀ w, Calls Try.prog 48 #[.float .f64 (floatOfInt .f64 ((mf 0 : Int) + 1)), .int .i64 (-1074)] w fun e w' => e = .returned (.float .f64 (ldW (mf 0 + 1) 0)) ∧ w = w') := by
          intro w
          have := ldexp_any (mf 0 + 1) 0 w hargs.1 hargs.2.1 hargs.2.2.1 hargs.2.2.2
          have ec : ((mf 0 + 1 : Nat) : Int) = (mf 0 : Int) + 1 := by omega
          rw [ec] at this
          rw [show (((0 : Nat) : Int) - 1074) = -1074 from rfl] at this
          exact this
        have Hbes : Hid (besideN A 0 = 0) := hv.1
        have Hrung := Lib.hid hrung
        have hpar : ((mf 0 : Int) % 2 == 1) = true := by rw [beq_iff_eq]; have := hv.2; omega
        clear hrung hargs hne hv hmj
        have hj2240 : 0 ≤ 2240 := by omega
        go_wp2_with (first
          | (go_at_call 47; refine (beside_any W A 0 _ hwA.out hj2240).mono ?_; rintro e w' ⟨rfl, rfl⟩; rw [Hbes.out])
          | (go_at_call 48; refine (HL.out _).mono ?_; rintro e w' ⟨rfl, rfl⟩))
        go_ret
        exact ⟨by rw [Hrung.out]; rfl, hbel⟩
      · rw [if_neg (by omega)] at hne
        have hargs := hcut.out.args (m := mf 0) hne.symm
        have hrung : ldW (mf 0) 0 = Fl.rung A 0 := by rw [← hcut.out.rung, hne, Nat.add_zero]
        have HL : Hid (∀ w, Calls Try.prog 48 #[.float .f64 (floatOfInt .f64 (mf 0 : Int)), .int .i64 (-1074)] w fun e w' => e = .returned (.float .f64 (ldW (mf 0) 0)) ∧ w = w') := by
          intro w
          have := ldexp_any (mf 0) 0 w hargs.1 hargs.2.1 hargs.2.2.1 hargs.2.2.2
          rw [show (((0 : Nat) : Int) - 1074) = -1074 from rfl] at this
          exact this
        have Hbes : Hid (besideN A 0 = 0) := hv.1
        have Hrung := Lib.hid hrung
        have hpar : ((mf 0 : Int) % 2 == 1) = false := by rw [beq_eq_false_iff_ne]; have := hv.2; omega
        clear hrung hargs hne hv hmj
        have hj2240 : 0 ≤ 2240 := by omega
        go_wp2_with (first
          | (go_at_call 47; refine (beside_any W A 0 _ hwA.out hj2240).mono ?_; rintro e w' ⟨rfl, rfl⟩; rw [Hbes.out])
          | (go_at_call 48; refine (HL.out _).mono ?_; rintro e w' ⟨rfl, rfl⟩))
        go_ret
        exact ⟨by rw [Hrung.out]; rfl, hbel⟩
      · rw [if_neg (by omega)] at hne
        have hargs := hcut.out.args (m := mf 0) hne.symm
        have hrung : ldW (mf 0) 0 = Fl.rung A 0 := by rw [← hcut.out.rung, hne, Nat.add_zero]
        have HL : Hid (∀ w, Calls Try.prog 48 #[.float .f64 (floatOfInt .f64 (mf 0 : Int)), .int .i64 (-1074)] w fun e w' => e = .returned (.float .f64 (ldW (mf 0) 0)) ∧ w = w') := by
          intro w
          have := ldexp_any (mf 0) 0 w hargs.1 hargs.2.1 hargs.2.2.1 hargs.2.2.2
          rw [show (((0 : Nat) : Int) - 1074) = -1074 from rfl] at this
          exact this
        have Hbes : Hid (besideN A 0 = -1) := hv
        have Hrung := Lib.hid hrung
        clear hrung hargs hne hv hmj
        have hj2240 : 0 ≤ 2240 := by omega
        go_wp2_with (first
          | (go_at_call 47; refine (beside_any W A 0 _ hwA.out hj2240).mono ?_; rintro e w' ⟨rfl, rfl⟩; rw [Hbes.out])
          | (go_at_call 48; refine (HL.out _).mono ?_; rintro e w' ⟨rfl, rfl⟩))
        go_ret
        exact ⟨by rw [Hrung.out]; rfl, hbel⟩

set_option maxHeartbeats 4000000 in
theorem rounded_posb (N A L cut : Nat) (cs : Array Value) (w : World) (hcs : Hid (cs.size = 70 ∧ ∀ j, j < 70 → cs[j]? = some (.int .u32 (dig N j)))) (hN : Hid (N < M70))
    (hsg : neg70 N = false) (hA : Hid (A = N)) (hcut : Hid (CutF A L cut)) (hcc : Hid (cut < 2188 ∧ L ≤ 2240)) (hAM : Hid (A < Mx 70))
    (hL : L ≤ 2240) (hmx : (0 : Int) ≤ (L : Int) - 53) (hmx2 : (L : Int) - 53 = (cut : Int)) :
    Calls Try.prog 29 #[.agg cs] w fun e w' => e = .returned (.float .f64 (Fl.rung A 0)) ∧ Below w.heap.size w w' := by
  have hn : ∀ (b : Nat) (w : World), (Op.unary .neg (.float .f64 b)).run Try.prog w = .ok (.float .f64 (b ^^^ 9223372036854775808)) w := fun _ _ => rfl
  have hw1 : Wh (w.alloc (.cells cs 44)) w.heap.size (dig N) := ⟨cs, 44, heap_alloc_new w _, hcs.out.1, hcs.out.2⟩
  have hb1 : Below w.heap.size w (w.alloc (.cells cs 44)) := (Below.refl _ _).alloc (Nat.le_refl _) _
  have hw1' := Lib.hid hw1; clear hw1
  have hwA : Hid (Wh (w.alloc (.cells cs 44)) w.heap.size (dig A)) := by
    show Wh _ _ _
    rw [hA.out]; exact hw1'.out
  go_enter Try.func29, Try.ntmps29
  go_wp2_with (first
    | (go_at_call 45; refine (minus_any w.heap.size N _ hw1'.out).mono ?_; rintro e w' ⟨rfl, rfl⟩; simp only [hsg]; clear hsg)
    | (go_at_call 28; refine (length_any w.heap.size A _ hwA.out hAM.out).mono ?_; rintro e w' ⟨rfl, rfl⟩; simp only [hcut.out.hL]))
  have hbel := hb1
  obtain ⟨W, hW⟩ : ∃ W, w.heap.size = W := ⟨_, rfl⟩
  rw [hW] at hwA hw1'
  rw [hW]
  have hbel : Below w.heap.size w (w.alloc (.cells cs 44)) := hb1
  clear hb1 hw1'
  generalize w.alloc (.cells cs 44) = w2 at *
  have hm53 : ∀ j, cut ≤ j → A / 2 ^ j < 9007199254740992 := fun j hj => Nat.lt_of_le_of_lt (Nat.div_le_div_left (Nat.pow_le_pow_right (by decide) hj) (Nat.two_pow_pos _)) hcut.out.m_lt
  obtain ⟨mf, hmf⟩ : ∃ mf : Nat → Nat, ∀ j, mf j = A / 2 ^ j := ⟨fun j => A / 2 ^ j, fun _ => rfl⟩
  have Hmf := Lib.hid hmf
  have Hm53 : Hid (∀ j, cut ≤ j → mf j < 9007199254740992) := fun j hj => by rw [hmf]; exact hm53 j hj
  clear hm53 hmf
  go_loop [5, 6] (fun m i => ∃ j : Nat, cut ≤ j ∧ j ≤ cut + 53 ∧ i = .int .i64 ((j : Int) - 1) ∧ m = .int .u64 (mf j)) (fun m i => (intOf i + 1).toNat)
  case atStart => exact ⟨cut + 53, by omega, by omega, by go_num, by rw [Hmf.out, hcut.out.start]; rfl⟩
  case round =>
    obtain ⟨j, hj0, hj1, rfl, rfl⟩ := hrel
    by_cases hlt : cut < j
    · obtain ⟨t, rfl⟩ : ∃ t, j = t + 1 := ⟨j - 1, by omega⟩
      have hx := Hm53.out (t + 1) (by omega)
      obtain ⟨z, hz⟩ : ∃ z, A / 2 ^ t % 2 = z := ⟨_, rfl⟩
      have hz2 : z < 2 := by omega
      have hor : bits .or .u64 ((mf (t + 1) : Int) * 2) (z : Int) = (mf t : Int) := by
        rw [or_bit _ _ hx hz2, Hmf.out, Hmf.out, bit_step A t, hz]
      have hcl := hcc.out.1
      have ht : t < 2240 := by omega
      have ht' : ((cut : Int) : Int) ≤ (t : Int) := by omega
      have Hz := Lib.hid hz
      clear hz
      generalize mf (t + 1) = x at *
      go_wp2_with (go_at_call 44; refine (bit_is W A t z _ ht hwA.out Hz.out).mono ?_; rintro e w' ⟨rfl, rfl⟩)
      go_round
      case rel => exact ⟨t, by omega, by omega, by go_num, rfl⟩
      case measure => simp [intOf]
    · obtain rfl : cut = j := by omega
      have hm0 := Hm53.out cut (Nat.le_refl _)
      have hdec : ¬ ((cut : Int) : Int) ≤ ((cut : Int) : Int) - 1 := by omega
      have hmj := Hmf.out cut
      have hcl := hcc.out.1
      have hne := rne_beside A cut
      rw [← hmj] at hne
      rcases (show besideN A cut = 1 ∨ (besideN A cut = 0 ∧ mf cut % 2 = 1) ∨ (besideN A cut = 0 ∧ ¬ mf cut % 2 = 1) ∨ besideN A cut = -1 from by unfold besideN; split <;> (try split) <;> omega) with hv | hv | hv | hv
      · rw [if_pos (.inl hv)] at hne
        have hargs := hcut.out.args (m := mf cut + 1) hne.symm
        have hrung : ldW (mf cut + 1) cut = Fl.rung A 0 := by rw [← hcut.out.rung, hne]
        have HL : Hid (∀ w, Calls Try.prog 48 #[.float .f64 (floatOfInt .f64 ((mf cut : Int) + 1)), .int .i64 ((cut : Int) - 1074)] w fun e w' => e = .returned (.float .f64 (ldW (mf cut + 1) cut)) ∧ w = w') := by
          intro w
          have := ldexp_any (mf cut + 1) cut w hargs.1 hargs.2.1 hargs.2.2.1 hargs.2.2.2
          have ec : ((mf cut + 1 : Nat) : Int) = (mf cut : Int) + 1 := by omega
          rw [ec] at this
          exact this
        have Hbes : Hid (besideN A cut = 1) := hv
        have Hrung := Lib.hid hrung
        clear hrung hargs hne hv hmj
        have hj2240 : cut ≤ 2240 := by omega
        go_wp2_with (first
          | (go_at_call 47; refine (beside_any W A cut _ hwA.out hj2240).mono ?_; rintro e w' ⟨rfl, rfl⟩; rw [Hbes.out])
          | (go_at_call 48; refine (HL.out _).mono ?_; rintro e w' ⟨rfl, rfl⟩))
        go_ret
        exact ⟨by rw [Hrung.out]; rfl, hbel⟩
      · rw [if_pos (.inr hv)] at hne
        have hargs := hcut.out.args (m := mf cut + 1) hne.symm
        have hrung : ldW (mf cut + 1) cut = Fl.rung A 0 := by rw [← hcut.out.rung, hne]
        have HL : Hid (∀ w, Calls Try.prog 48 #[.float .f64 (floatOfInt .f64 ((mf cut : Int) + 1)), .int .i64 ((cut : Int) - 1074)] w fun e w' => e = .returned (.float .f64 (ldW (mf cut + 1) cut)) ∧ w = w') := by
          intro w
          have := ldexp_any (mf cut + 1) cut w hargs.1 hargs.2.1 hargs.2.2.1 hargs.2.2.2
          have ec : ((mf cut + 1 : Nat) : Int) = (mf cut : Int) + 1 := by omega
          rw [ec] at this
          exact this
        have Hbes : Hid (besideN A cut = 0) := hv.1
        have Hrung := Lib.hid hrung
        have hpar : ((mf cut : Int) % 2 == 1) = true := by rw [beq_iff_eq]; have := hv.2; omega
        clear hrung hargs hne hv hmj
        have hj2240 : cut ≤ 2240 := by omega
        go_wp2_with (first
          | (go_at_call 47; refine (beside_any W A cut _ hwA.out hj2240).mono ?_; rintro e w' ⟨rfl, rfl⟩; rw [Hbes.out])
          | (go_at_call 48; refine (HL.out _).mono ?_; rintro e w' ⟨rfl, rfl⟩))
        go_ret
        exact ⟨by rw [Hrung.out]; rfl, hbel⟩
      · rw [if_neg (by omega)] at hne
        have hargs := hcut.out.args (m := mf cut) hne.symm
        have hrung : ldW (mf cut) cut = Fl.rung A 0 := by rw [← hcut.out.rung, hne, Nat.add_zero]
        have HL : Hid (∀ w, Calls Try.prog 48 #[.float .f64 (floatOfInt .f64 (mf cut : Int)), .int .i64 ((cut : Int) - 1074)] w fun e w' => e = .returned (.float .f64 (ldW (mf cut) cut)) ∧ w = w') := by
          intro w
          have := ldexp_any (mf cut) cut w hargs.1 hargs.2.1 hargs.2.2.1 hargs.2.2.2
          exact this
        have Hbes : Hid (besideN A cut = 0) := hv.1
        have Hrung := Lib.hid hrung
        have hpar : ((mf cut : Int) % 2 == 1) = false := by rw [beq_eq_false_iff_ne]; have := hv.2; omega
        clear hrung hargs hne hv hmj
        have hj2240 : cut ≤ 2240 := by omega
        go_wp2_with (first
          | (go_at_call 47; refine (beside_any W A cut _ hwA.out hj2240).mono ?_; rintro e w' ⟨rfl, rfl⟩; rw [Hbes.out])
          | (go_at_call 48; refine (HL.out _).mono ?_; rintro e w' ⟨rfl, rfl⟩))
        go_ret
        exact ⟨by rw [Hrung.out]; rfl, hbel⟩
      · rw [if_neg (by omega)] at hne
        have hargs := hcut.out.args (m := mf cut) hne.symm
        have hrung : ldW (mf cut) cut = Fl.rung A 0 := by rw [← hcut.out.rung, hne, Nat.add_zero]
        have HL : Hid (∀ w, Calls Try.prog 48 #[.float .f64 (floatOfInt .f64 (mf cut : Int)), .int .i64 ((cut : Int) - 1074)] w fun e w' => e = .returned (.float .f64 (ldW (mf cut) cut)) ∧ w = w') := by
          intro w
          have := ldexp_any (mf cut) cut w hargs.1 hargs.2.1 hargs.2.2.1 hargs.2.2.2
          exact this
        have Hbes : Hid (besideN A cut = -1) := hv
        have Hrung := Lib.hid hrung
        clear hrung hargs hne hv hmj
        have hj2240 : cut ≤ 2240 := by omega
        go_wp2_with (first
          | (go_at_call 47; refine (beside_any W A cut _ hwA.out hj2240).mono ?_; rintro e w' ⟨rfl, rfl⟩; rw [Hbes.out])
          | (go_at_call 48; refine (HL.out _).mono ?_; rintro e w' ⟨rfl, rfl⟩))
        go_ret
        exact ⟨by rw [Hrung.out]; rfl, hbel⟩

set_option maxHeartbeats 4000000 in
theorem rounded_negs (N A L : Nat) (cs : Array Value) (w : World) (hcs : Hid (cs.size = 70 ∧ ∀ j, j < 70 → cs[j]? = some (.int .u32 (dig N j)))) (hN : Hid (N < M70))
    (hsg : neg70 N = true) (hA : Hid (A = turnN N)) (hcut : Hid (CutF A L 0)) (hcc : Hid (0 < 2188 ∧ L ≤ 2240)) (hAM : Hid (A < Mx 70))
    (hL : L ≤ 2240) (hmx : ¬ (0 : Int) ≤ (L : Int) - 53) :
    Calls Try.prog 29 #[.agg cs] w fun e w' => e = .returned (.float .f64 (9223372036854775808 + Fl.rung A 0)) ∧ Below w.heap.size w w' := by
  have hn : ∀ (b : Nat) (w : World), (Op.unary .neg (.float .f64 b)).run Try.prog w = .ok (.float .f64 (b ^^^ 9223372036854775808)) w := fun _ _ => rfl
  have hw1 : Wh (w.alloc (.cells cs 44)) w.heap.size (dig N) := ⟨cs, 44, heap_alloc_new w _, hcs.out.1, hcs.out.2⟩
  have hb1 : Below w.heap.size w (w.alloc (.cells cs 44)) := (Below.refl _ _).alloc (Nat.le_refl _) _
  have hw1' := Lib.hid hw1; clear hw1
  go_enter Try.func29, Try.ntmps29
  go_wp2_with (first
    | (go_at_call 45; refine (minus_any w.heap.size N _ hw1'.out).mono ?_; rintro e w' ⟨rfl, rfl⟩; simp only [hsg]; clear hsg)
    | (go_at_call 46; refine (turn_any w.heap.size N _ hN.out hw1'.out).mono ?_; rintro e w2 ⟨rfl, hw2, hc2⟩; rw [← hA.out] at hw2; have hw2' := Lib.hid hw2; clear hw2)
    | (go_at_call 28; refine (length_any w.heap.size A _ hw2'.out hAM.out).mono ?_; rintro e w' ⟨rfl, rfl⟩; simp only [hcut.out.hL]))
  have hbel : Below w.heap.size w w2 := hb1.trans ((hc2.below (Nat.le_refl _) hb1.size))
  obtain ⟨W, hW⟩ : ∃ W, w.heap.size = W := ⟨_, rfl⟩
  have hwA : Hid (Wh w2 W (dig A)) := by rw [← hW]; exact hw2'.out
  rw [hW]
  clear hb1 hw1' hw2' hc2
  have hm53 : ∀ j, 0 ≤ j → A / 2 ^ j < 9007199254740992 := fun j hj => Nat.lt_of_le_of_lt (Nat.div_le_div_left (Nat.pow_le_pow_right (by decide) hj) (Nat.two_pow_pos _)) hcut.out.m_lt
  obtain ⟨mf, hmf⟩ : ∃ mf : Nat → Nat, ∀ j, mf j = A / 2 ^ j := ⟨fun j => A / 2 ^ j, fun _ => rfl⟩
  have Hmf := Lib.hid hmf
  have Hm53 : Hid (∀ j, 0 ≤ j → mf j < 9007199254740992) := fun j hj => by rw [hmf]; exact hm53 j hj
  clear hm53 hmf
  go_loop [5, 6] (fun m i => ∃ j : Nat, 0 ≤ j ∧ j ≤ 0 + 53 ∧ i = .int .i64 ((j : Int) - 1) ∧ m = .int .u64 (mf j)) (fun m i => (intOf i + 1).toNat)
  case atStart => exact ⟨0 + 53, by omega, by omega, by go_num, by rw [Hmf.out, hcut.out.start]; rfl⟩
  case round =>
    obtain ⟨j, hj0, hj1, rfl, rfl⟩ := hrel
    by_cases hlt : 0 < j
    · obtain ⟨t, rfl⟩ : ∃ t, j = t + 1 := ⟨j - 1, by omega⟩
      have hx := Hm53.out (t + 1) (by omega)
      obtain ⟨z, hz⟩ : ∃ z, A / 2 ^ t % 2 = z := ⟨_, rfl⟩
      have hz2 : z < 2 := by omega
      have hor : bits .or .u64 ((mf (t + 1) : Int) * 2) (z : Int) = (mf t : Int) := by
        rw [or_bit _ _ hx hz2, Hmf.out, Hmf.out, bit_step A t, hz]
      have hcl := hcc.out.1
      have ht : t < 2240 := by omega
      have ht' : (0 : Int) ≤ (t : Int) := by omega
      have Hz := Lib.hid hz
      clear hz
      generalize mf (t + 1) = x at *
      go_wp2_with (go_at_call 44; refine (bit_is W A t z _ ht hwA.out Hz.out).mono ?_; rintro e w' ⟨rfl, rfl⟩)
      go_round
      case rel => exact ⟨t, by omega, by omega, by go_num, rfl⟩
      case measure => simp [intOf]
    · obtain rfl : j = 0 := by omega
      have hm0 := Hm53.out 0 (Nat.le_refl _)
      have hdec : ¬ (0 : Int) ≤ (0 : Int) - 1 := by omega
      have hmj := Hmf.out 0
      have hcl := hcc.out.1
      have hne := rne_beside A 0
      rw [← hmj] at hne
      rcases (show besideN A 0 = 1 ∨ (besideN A 0 = 0 ∧ mf 0 % 2 = 1) ∨ (besideN A 0 = 0 ∧ ¬ mf 0 % 2 = 1) ∨ besideN A 0 = -1 from by unfold besideN; split <;> (try split) <;> omega) with hv | hv | hv | hv
      · rw [if_pos (.inl hv)] at hne
        have hargs := hcut.out.args (m := mf 0 + 1) hne.symm
        have hrung : ldW (mf 0 + 1) 0 = Fl.rung A 0 := by rw [← hcut.out.rung, hne]
        have HL : Hid (∀ w, Calls Try.prog 48 #[.float .f64 (floatOfInt .f64 ((mf 0 : Int) + 1)), .int .i64 (-1074)] w fun e w' => e = .returned (.float .f64 (ldW (mf 0 + 1) 0)) ∧ w = w') := by
          intro w
          have := ldexp_any (mf 0 + 1) 0 w hargs.1 hargs.2.1 hargs.2.2.1 hargs.2.2.2
          have ec : ((mf 0 + 1 : Nat) : Int) = (mf 0 : Int) + 1 := by omega
          rw [ec] at this
          rw [show (((0 : Nat) : Int) - 1074) = -1074 from rfl] at this
          exact this
        have Hbes : Hid (besideN A 0 = 1) := hv
        have Hrung := Lib.hid hrung
        clear hrung hargs hne hv hmj
        have hj2240 : 0 ≤ 2240 := by omega
        go_wp2_with (first
          | (go_at_call 47; refine (beside_any W A 0 _ hwA.out hj2240).mono ?_; rintro e w' ⟨rfl, rfl⟩; rw [Hbes.out])
          | (go_at_call 48; refine (HL.out _).mono ?_; rintro e w' ⟨rfl, rfl⟩))
        go_ret
        exact ⟨by rw [xor_sign _ (by have := ldW_le (mf 0 + 1) 0; omega), Hrung.out]; rfl, hbel⟩
      · rw [if_pos (.inr hv)] at hne
        have hargs := hcut.out.args (m := mf 0 + 1) hne.symm
        have hrung : ldW (mf 0 + 1) 0 = Fl.rung A 0 := by rw [← hcut.out.rung, hne]
        have HL : Hid (∀ w, Calls Try.prog 48 #[.float .f64 (floatOfInt .f64 ((mf 0 : Int) + 1)), .int .i64 (-1074)] w fun e w' => e = .returned (.float .f64 (ldW (mf 0 + 1) 0)) ∧ w = w') := by
          intro w
          have := ldexp_any (mf 0 + 1) 0 w hargs.1 hargs.2.1 hargs.2.2.1 hargs.2.2.2
          have ec : ((mf 0 + 1 : Nat) : Int) = (mf 0 : Int) + 1 := by omega
          rw [ec] at this
          rw [show (((0 : Nat) : Int) - 1074) = -1074 from rfl] at this
          exact this
        have Hbes : Hid (besideN A 0 = 0) := hv.1
        have Hrung := Lib.hid hrung
        have hpar : ((mf 0 : Int) % 2 == 1) = true := by rw [beq_iff_eq]; have := hv.2; omega
        clear hrung hargs hne hv hmj
        have hj2240 : 0 ≤ 2240 := by omega
        go_wp2_with (first
          | (go_at_call 47; refine (beside_any W A 0 _ hwA.out hj2240).mono ?_; rintro e w' ⟨rfl, rfl⟩; rw [Hbes.out])
          | (go_at_call 48; refine (HL.out _).mono ?_; rintro e w' ⟨rfl, rfl⟩))
        go_ret
        exact ⟨by rw [xor_sign _ (by have := ldW_le (mf 0 + 1) 0; omega), Hrung.out]; rfl, hbel⟩
      · rw [if_neg (by omega)] at hne
        have hargs := hcut.out.args (m := mf 0) hne.symm
        have hrung : ldW (mf 0) 0 = Fl.rung A 0 := by rw [← hcut.out.rung, hne, Nat.add_zero]
        have HL : Hid (∀ w, Calls Try.prog 48 #[.float .f64 (floatOfInt .f64 (mf 0 : Int)), .int .i64 (-1074)] w fun e w' => e = .returned (.float .f64 (ldW (mf 0) 0)) ∧ w = w') := by
          intro w
          have := ldexp_any (mf 0) 0 w hargs.1 hargs.2.1 hargs.2.2.1 hargs.2.2.2
          rw [show (((0 : Nat) : Int) - 1074) = -1074 from rfl] at this
          exact this
        have Hbes : Hid (besideN A 0 = 0) := hv.1
        have Hrung := Lib.hid hrung
        have hpar : ((mf 0 : Int) % 2 == 1) = false := by rw [beq_eq_false_iff_ne]; have := hv.2; omega
        clear hrung hargs hne hv hmj
        have hj2240 : 0 ≤ 2240 := by omega
        go_wp2_with (first
          | (go_at_call 47; refine (beside_any W A 0 _ hwA.out hj2240).mono ?_; rintro e w' ⟨rfl, rfl⟩; rw [Hbes.out])
          | (go_at_call 48; refine (HL.out _).mono ?_; rintro e w' ⟨rfl, rfl⟩))
        go_ret
        exact ⟨by rw [xor_sign _ (by have := ldW_le (mf 0) 0; omega), Hrung.out]; rfl, hbel⟩
      · rw [if_neg (by omega)] at hne
        have hargs := hcut.out.args (m := mf 0) hne.symm
        have hrung : ldW (mf 0) 0 = Fl.rung A 0 := by rw [← hcut.out.rung, hne, Nat.add_zero]
        have HL : Hid (∀ w, Calls Try.prog 48 #[.float .f64 (floatOfInt .f64 (mf 0 : Int)), .int .i64 (-1074)] w fun e w' => e = .returned (.float .f64 (ldW (mf 0) 0)) ∧ w = w') := by
          intro w
          have := ldexp_any (mf 0) 0 w hargs.1 hargs.2.1 hargs.2.2.1 hargs.2.2.2
          rw [show (((0 : Nat) : Int) - 1074) = -1074 from rfl] at this
          exact this
        have Hbes : Hid (besideN A 0 = -1) := hv
        have Hrung := Lib.hid hrung
        clear hrung hargs hne hv hmj
        have hj2240 : 0 ≤ 2240 := by omega
        go_wp2_with (first
          | (go_at_call 47; refine (beside_any W A 0 _ hwA.out hj2240).mono ?_; rintro e w' ⟨rfl, rfl⟩; rw [Hbes.out])
          | (go_at_call 48; refine (HL.out _).mono ?_; rintro e w' ⟨rfl, rfl⟩))
        go_ret
        exact ⟨by rw [xor_sign _ (by have := ldW_le (mf 0) 0; omega), Hrung.out]; rfl, hbel⟩

set_option maxHeartbeats 4000000 in
theorem rounded_negb (N A L cut : Nat) (cs : Array Value) (w : World) (hcs : Hid (cs.size = 70 ∧ ∀ j, j < 70 → cs[j]? = some (.int .u32 (dig N j)))) (hN : Hid (N < M70))
    (hsg : neg70 N = true) (hA : Hid (A = turnN N)) (hcut : Hid (CutF A L cut)) (hcc : Hid (cut < 2188 ∧ L ≤ 2240)) (hAM : Hid (A < Mx 70))
    (hL : L ≤ 2240) (hmx : (0 : Int) ≤ (L : Int) - 53) (hmx2 : (L : Int) - 53 = (cut : Int)) :
    Calls Try.prog 29 #[.agg cs] w fun e w' => e = .returned (.float .f64 (9223372036854775808 + Fl.rung A 0)) ∧ Below w.heap.size w w' := by
  have hn : ∀ (b : Nat) (w : World), (Op.unary .neg (.float .f64 b)).run Try.prog w = .ok (.float .f64 (b ^^^ 9223372036854775808)) w := fun _ _ => rfl
  have hw1 : Wh (w.alloc (.cells cs 44)) w.heap.size (dig N) := ⟨cs, 44, heap_alloc_new w _, hcs.out.1, hcs.out.2⟩
  have hb1 : Below w.heap.size w (w.alloc (.cells cs 44)) := (Below.refl _ _).alloc (Nat.le_refl _) _
  have hw1' := Lib.hid hw1; clear hw1
  go_enter Try.func29, Try.ntmps29
  go_wp2_with (first
    | (go_at_call 45; refine (minus_any w.heap.size N _ hw1'.out).mono ?_; rintro e w' ⟨rfl, rfl⟩; simp only [hsg]; clear hsg)
    | (go_at_call 46; refine (turn_any w.heap.size N _ hN.out hw1'.out).mono ?_; rintro e w2 ⟨rfl, hw2, hc2⟩; rw [← hA.out] at hw2; have hw2' := Lib.hid hw2; clear hw2)
    | (go_at_call 28; refine (length_any w.heap.size A _ hw2'.out hAM.out).mono ?_; rintro e w' ⟨rfl, rfl⟩; simp only [hcut.out.hL]))
  have hbel : Below w.heap.size w w2 := hb1.trans ((hc2.below (Nat.le_refl _) hb1.size))
  obtain ⟨W, hW⟩ : ∃ W, w.heap.size = W := ⟨_, rfl⟩
  have hwA : Hid (Wh w2 W (dig A)) := by rw [← hW]; exact hw2'.out
  rw [hW]
  clear hb1 hw1' hw2' hc2
  have hm53 : ∀ j, cut ≤ j → A / 2 ^ j < 9007199254740992 := fun j hj => Nat.lt_of_le_of_lt (Nat.div_le_div_left (Nat.pow_le_pow_right (by decide) hj) (Nat.two_pow_pos _)) hcut.out.m_lt
  obtain ⟨mf, hmf⟩ : ∃ mf : Nat → Nat, ∀ j, mf j = A / 2 ^ j := ⟨fun j => A / 2 ^ j, fun _ => rfl⟩
  have Hmf := Lib.hid hmf
  have Hm53 : Hid (∀ j, cut ≤ j → mf j < 9007199254740992) := fun j hj => by rw [hmf]; exact hm53 j hj
  clear hm53 hmf
  go_loop [5, 6] (fun m i => ∃ j : Nat, cut ≤ j ∧ j ≤ cut + 53 ∧ i = .int .i64 ((j : Int) - 1) ∧ m = .int .u64 (mf j)) (fun m i => (intOf i + 1).toNat)
  case atStart => exact ⟨cut + 53, by omega, by omega, by go_num, by rw [Hmf.out, hcut.out.start]; rfl⟩
  case round =>
    obtain ⟨j, hj0, hj1, rfl, rfl⟩ := hrel
    by_cases hlt : cut < j
    · obtain ⟨t, rfl⟩ : ∃ t, j = t + 1 := ⟨j - 1, by omega⟩
      have hx := Hm53.out (t + 1) (by omega)
      obtain ⟨z, hz⟩ : ∃ z, A / 2 ^ t % 2 = z := ⟨_, rfl⟩
      have hz2 : z < 2 := by omega
      have hor : bits .or .u64 ((mf (t + 1) : Int) * 2) (z : Int) = (mf t : Int) := by
        rw [or_bit _ _ hx hz2, Hmf.out, Hmf.out, bit_step A t, hz]
      have hcl := hcc.out.1
      have ht : t < 2240 := by omega
      have ht' : ((cut : Int) : Int) ≤ (t : Int) := by omega
      have Hz := Lib.hid hz
      clear hz
      generalize mf (t + 1) = x at *
      go_wp2_with (go_at_call 44; refine (bit_is W A t z _ ht hwA.out Hz.out).mono ?_; rintro e w' ⟨rfl, rfl⟩)
      go_round
      case rel => exact ⟨t, by omega, by omega, by go_num, rfl⟩
      case measure => simp [intOf]
    · obtain rfl : cut = j := by omega
      have hm0 := Hm53.out cut (Nat.le_refl _)
      have hdec : ¬ ((cut : Int) : Int) ≤ ((cut : Int) : Int) - 1 := by omega
      have hmj := Hmf.out cut
      have hcl := hcc.out.1
      have hne := rne_beside A cut
      rw [← hmj] at hne
      rcases (show besideN A cut = 1 ∨ (besideN A cut = 0 ∧ mf cut % 2 = 1) ∨ (besideN A cut = 0 ∧ ¬ mf cut % 2 = 1) ∨ besideN A cut = -1 from by unfold besideN; split <;> (try split) <;> omega) with hv | hv | hv | hv
      · rw [if_pos (.inl hv)] at hne
        have hargs := hcut.out.args (m := mf cut + 1) hne.symm
        have hrung : ldW (mf cut + 1) cut = Fl.rung A 0 := by rw [← hcut.out.rung, hne]
        have HL : Hid (∀ w, Calls Try.prog 48 #[.float .f64 (floatOfInt .f64 ((mf cut : Int) + 1)), .int .i64 ((cut : Int) - 1074)] w fun e w' => e = .returned (.float .f64 (ldW (mf cut + 1) cut)) ∧ w = w') := by
          intro w
          have := ldexp_any (mf cut + 1) cut w hargs.1 hargs.2.1 hargs.2.2.1 hargs.2.2.2
          have ec : ((mf cut + 1 : Nat) : Int) = (mf cut : Int) + 1 := by omega
          rw [ec] at this
          exact this
        have Hbes : Hid (besideN A cut = 1) := hv
        have Hrung := Lib.hid hrung
        clear hrung hargs hne hv hmj
        have hj2240 : cut ≤ 2240 := by omega
        go_wp2_with (first
          | (go_at_call 47; refine (beside_any W A cut _ hwA.out hj2240).mono ?_; rintro e w' ⟨rfl, rfl⟩; rw [Hbes.out])
          | (go_at_call 48; refine (HL.out _).mono ?_; rintro e w' ⟨rfl, rfl⟩))
        go_ret
        exact ⟨by rw [xor_sign _ (by have := ldW_le (mf cut + 1) cut; omega), Hrung.out]; rfl, hbel⟩
      · rw [if_pos (.inr hv)] at hne
        have hargs := hcut.out.args (m := mf cut + 1) hne.symm
        have hrung : ldW (mf cut + 1) cut = Fl.rung A 0 := by rw [← hcut.out.rung, hne]
        have HL : Hid (∀ w, Calls Try.prog 48 #[.float .f64 (floatOfInt .f64 ((mf cut : Int) + 1)), .int .i64 ((cut : Int) - 1074)] w fun e w' => e = .returned (.float .f64 (ldW (mf cut + 1) cut)) ∧ w = w') := by
          intro w
          have := ldexp_any (mf cut + 1) cut w hargs.1 hargs.2.1 hargs.2.2.1 hargs.2.2.2
          have ec : ((mf cut + 1 : Nat) : Int) = (mf cut : Int) + 1 := by omega
          rw [ec] at this
          exact this
        have Hbes : Hid (besideN A cut = 0) := hv.1
        have Hrung := Lib.hid hrung
        have hpar : ((mf cut : Int) % 2 == 1) = true := by rw [beq_iff_eq]; have := hv.2; omega
        clear hrung hargs hne hv hmj
        have hj2240 : cut ≤ 2240 := by omega
        go_wp2_with (first
          | (go_at_call 47; refine (beside_any W A cut _ hwA.out hj2240).mono ?_; rintro e w' ⟨rfl, rfl⟩; rw [Hbes.out])
          | (go_at_call 48; refine (HL.out _).mono ?_; rintro e w' ⟨rfl, rfl⟩))
        go_ret
        exact ⟨by rw [xor_sign _ (by have := ldW_le (mf cut + 1) cut; omega), Hrung.out]; rfl, hbel⟩
      · rw [if_neg (by omega)] at hne
        have hargs := hcut.out.args (m := mf cut) hne.symm
        have hrung : ldW (mf cut) cut = Fl.rung A 0 := by rw [← hcut.out.rung, hne, Nat.add_zero]
        have HL : Hid (∀ w, Calls Try.prog 48 #[.float .f64 (floatOfInt .f64 (mf cut : Int)), .int .i64 ((cut : Int) - 1074)] w fun e w' => e = .returned (.float .f64 (ldW (mf cut) cut)) ∧ w = w') := by
          intro w
          have := ldexp_any (mf cut) cut w hargs.1 hargs.2.1 hargs.2.2.1 hargs.2.2.2
          exact this
        have Hbes : Hid (besideN A cut = 0) := hv.1
        have Hrung := Lib.hid hrung
        have hpar : ((mf cut : Int) % 2 == 1) = false := by rw [beq_eq_false_iff_ne]; have := hv.2; omega
        clear hrung hargs hne hv hmj
        have hj2240 : cut ≤ 2240 := by omega
        go_wp2_with (first
          | (go_at_call 47; refine (beside_any W A cut _ hwA.out hj2240).mono ?_; rintro e w' ⟨rfl, rfl⟩; rw [Hbes.out])
          | (go_at_call 48; refine (HL.out _).mono ?_; rintro e w' ⟨rfl, rfl⟩))
        go_ret
        exact ⟨by rw [xor_sign _ (by have := ldW_le (mf cut) cut; omega), Hrung.out]; rfl, hbel⟩
      · rw [if_neg (by omega)] at hne
        have hargs := hcut.out.args (m := mf cut) hne.symm
        have hrung : ldW (mf cut) cut = Fl.rung A 0 := by rw [← hcut.out.rung, hne, Nat.add_zero]
        have HL : Hid (∀ w, Calls Try.prog 48 #[.float .f64 (floatOfInt .f64 (mf cut : Int)), .int .i64 ((cut : Int) - 1074)] w fun e w' => e = .returned (.float .f64 (ldW (mf cut) cut)) ∧ w = w') := by
          intro w
          have := ldexp_any (mf cut) cut w hargs.1 hargs.2.1 hargs.2.2.1 hargs.2.2.2
          exact this
        have Hbes : Hid (besideN A cut = -1) := hv
        have Hrung := Lib.hid hrung
        clear hrung hargs hne hv hmj
        have hj2240 : cut ≤ 2240 := by omega
        go_wp2_with (first
          | (go_at_call 47; refine (beside_any W A cut _ hwA.out hj2240).mono ?_; rintro e w' ⟨rfl, rfl⟩; rw [Hbes.out])
          | (go_at_call 48; refine (HL.out _).mono ?_; rintro e w' ⟨rfl, rfl⟩))
        go_ret
        exact ⟨by rw [xor_sign _ (by have := ldW_le (mf cut) cut; omega), Hrung.out]; rfl, hbel⟩

end Go.Proofs.Ytdfbmfmfhdifpaa
