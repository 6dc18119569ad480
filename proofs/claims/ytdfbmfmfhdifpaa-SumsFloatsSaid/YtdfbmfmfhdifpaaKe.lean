/- Kept, of the program and of the reference. -/
import Derived.Test.YtdfbmfmfhdifpaaPa
namespace Go.Proofs.Ytdfbmfmfhdifpaa
open Go.RowKit

def ge (a b : Nat) : Bool := FloatKind.f64.format.order a b == some .gt || FloatKind.f64.format.order a b == some .eq
def absge (a b : Nat) : Bool := ge (a % 9223372036854775808) (b % 9223372036854775808)
def sizeN (b : Nat) : Nat := if (FloatKind.f64.format.order b 0 == some .lt) = true then b ^^^ 9223372036854775808 else b

theorem sizeR_any (b : Nat) (w : World) : Calls Try.prog 32 #[.float .f64 b] w fun e w' => e = .returned (.float .f64 (sizeN b)) ∧ w = w' := by
  unfold sizeN
  by_cases h : (FloatKind.f64.format.order b 0 == some .lt) = true
  · rw [if_pos h]; exact size_any b w h
  · rw [if_neg h]; exact size_no b w (by simpa using h)

theorem order_nan_left {a b : Nat} (h : a % 9223372036854775808 > 9218868437227405312) : FloatKind.f64.format.order a b = none := by
  obtain ⟨s, f, e⟩ := nan_of (read_nan a h)
  have e' : (FloatKind.f64.format).read a = .nan s f := e
  unfold Ieee.Format.order
  rw [e']
  cases (FloatKind.f64.format).read b <;> rfl
theorem order_nan_right {a b : Nat} (h : b % 9223372036854775808 > 9218868437227405312) : FloatKind.f64.format.order a b = none := by
  obtain ⟨s, f, e⟩ := nan_of (read_nan b h)
  have e' : (FloatKind.f64.format).read b = .nan s f := e
  unfold Ieee.Format.order
  rw [e']
  cases (FloatKind.f64.format).read a <;> rfl
theorem ge_nan_left {a b : Nat} (h : a % 9223372036854775808 > 9218868437227405312) : ge a b = false := by
  unfold ge; rw [order_nan_left h]; rfl
theorem ge_nan_right {a b : Nat} (h : b % 9223372036854775808 > 9218868437227405312) : ge a b = false := by
  unfold ge; rw [order_nan_right h]; rfl

/-- Two words that every comparison takes alike. -/
structure Like (a b : Nat) : Prop where
  left : ∀ x, ge a x = ge b x
  right : ∀ x, ge x a = ge x b
theorem Like.refl (a : Nat) : Like a a := ⟨fun _ => rfl, fun _ => rfl⟩
theorem Like.nan {a b : Nat} (ha : a % 9223372036854775808 > 9218868437227405312) (hb : b % 9223372036854775808 > 9218868437227405312) : Like a b :=
  ⟨fun x => by rw [ge_nan_left ha, ge_nan_left hb], fun x => by rw [ge_nan_right ha, ge_nan_right hb]⟩
theorem Like.trans {a b c : Nat} (h : Like a b) (k : Like b c) : Like a c := ⟨fun x => (h.left x).trans (k.left x), fun x => (h.right x).trans (k.right x)⟩

theorem like_zero : Like 9223372036854775808 0 := by
  have e0 : (FloatKind.f64.format).read 0 = .number false 0 (-1074) := by decide
  have e1 : (FloatKind.f64.format).read 9223372036854775808 = .number true 0 (-1074) := by decide
  constructor <;> intro x <;> unfold ge Ieee.Format.order <;> rw [e0, e1] <;> cases (FloatKind.f64.format).read x <;> simp [Ieee.Datum.order, Ieee.signed]

theorem absge_like {a b a' b' : Nat} (ha : Like (a % 9223372036854775808) (a' % 9223372036854775808)) (hb : Like (b % 9223372036854775808) (b' % 9223372036854775808)) : absge a b = absge a' b' := by
  unfold absge; rw [ha.left, hb.right]
theorem like_cn (a : Nat) : Like (a % 9223372036854775808) (cn a % 9223372036854775808) := by
  by_cases h : a % 9223372036854775808 > 9218868437227405312
  · have e : cn a = nanW := by unfold cn; rw [if_pos h]
    rw [e]
    exact Like.nan (by omega) (by decide)
  · have e : cn a = a := by unfold cn; rw [if_neg h]
    rw [e]; exact Like.refl _
theorem absge_cn {a b a' b' : Nat} (ha : cn a = cn a') (hb : cn b = cn b') : absge a b = absge a' b' := by
  rw [absge_like (like_cn a) (like_cn b), ha, hb, ← absge_like (like_cn a') (like_cn b')]

theorem signed_pos (m k : Nat) : Ieee.signed false m k = ((m <<< k : Nat) : Int) := rfl
theorem signed_neg (m k : Nat) : Ieee.signed true m k = -((m <<< k : Nat) : Int) := rfl
theorem signed_zero (k : Nat) : Ieee.signed false 0 k = 0 := by rw [signed_pos]; simp
theorem read_pos (b : Nat) (h : b < 9223372036854775808) : (Fl.D.read b).neg = false := by
  have h1 : b / 9223372036854775808 % 2 = 0 := by omega
  unfold Ieee.Format.read
  simp only [Fl.D_sign, Fl.D_bin, Fl.D_inf, h1]
  repeat' split
  all_goals rfl
theorem not_lt_pos (b : Nat) (h : b < 9223372036854775808) : ¬ (FloatKind.f64.format.order b 0 == some .lt) = true := by
  have e0 : (FloatKind.f64.format).read 0 = .number false 0 (-1074) := by decide
  have hp := read_pos b h
  have hp' : ((FloatKind.f64.format).read b).neg = false := hp
  unfold Ieee.Format.order
  rw [e0]
  cases e : (FloatKind.f64.format).read b with
  | number s m p =>
    rw [e] at hp'
    cases hp'
    simp only [Ieee.Datum.order]
    intro hc
    have hc := beq_iff_eq.1 hc
    have hc := Option.some.inj hc
    rw [Int.compare_eq_lt, signed_pos, signed_zero] at hc
    generalize m <<< (p - min p (-1074)).toNat = z at hc
    omega
  | infinity s =>
    rw [e] at hp'
    cases hp'
    simp [Ieee.Datum.order]
  | nan s f => simp [Ieee.Datum.order]
theorem lt_neg (b : Nat) (h : 9223372036854775808 < b) (hb : b < 18446744073709551616) (hn : ¬ b % 9223372036854775808 > 9218868437227405312) : (FloatKind.f64.format.order b 0 == some .lt) = true := by
  have e0 : (FloatKind.f64.format).read 0 = .number false 0 (-1074) := by decide
  have h1 : b / 9223372036854775808 % 2 = 1 := by omega
  have e1 : (FloatKind.f64.format).read b = if b % 9223372036854775808 < 4503599627370496 then .number true (b % 9223372036854775808) (-1074)
      else if b % 9223372036854775808 < 9218868437227405312 then .number true (4503599627370496 + b % 9223372036854775808 % 4503599627370496) (-1074 + (b % 9223372036854775808 / 4503599627370496 - 1 : Nat))
      else .infinity true := by
    show Fl.D.read b = _
    unfold Ieee.Format.read
    simp only [Fl.D_sign, Fl.D_bin, Fl.D_inf, Fl.D_least, h1]
    split
    · rfl
    · split
      · rfl
      · rw [if_pos (by omega)]; rfl
  unfold Ieee.Format.order
  rw [e0, e1]
  have key : ∀ (m : Nat) (p : Int), 0 < m → ((Ieee.Datum.number true m p).order (.number false 0 (-1074)) == some .lt) = true := by
    intro m p hm
    simp only [Ieee.Datum.order]
    rw [beq_iff_eq, Option.some.injEq, Int.compare_eq_lt, signed_neg, signed_zero, Nat.shiftLeft_eq]
    have : 0 < m * 2 ^ (p - min p (-1074)).toNat := Nat.mul_pos hm (Nat.two_pow_pos _)
    omega
  split
  · exact key _ _ (by omega)
  · split
    · exact key _ _ (by omega)
    · rfl
theorem like_size (b : Nat) (hb : b < 18446744073709551616) : Like (sizeN b) (b % 9223372036854775808) := by
  unfold sizeN
  by_cases h : b < 9223372036854775808
  · rw [if_neg (not_lt_pos b h), Nat.mod_eq_of_lt h]; exact Like.refl _
  · have ex : b ^^^ 9223372036854775808 = b % 9223372036854775808 := by
      have e1 : b = 2 ^ 63 + b % 9223372036854775808 := by omega
      have hlt : b % 9223372036854775808 < 2 ^ 63 := Nat.mod_lt _ (by decide)
      generalize b % 9223372036854775808 = v at *
      subst e1
      rw [show (9223372036854775808 : Nat) = 2 ^ 63 from rfl]
      apply Nat.eq_of_testBit_eq
      intro i
      have e2 := Nat.two_pow_add_eq_or_of_lt hlt 1
      rw [Nat.mul_one] at e2
      rw [e2, Nat.testBit_xor, Nat.testBit_or, Nat.testBit_two_pow]
      by_cases hi : 63 = i
      · subst hi
        rw [Nat.testBit_lt_two_pow hlt]; simp
      · simp [hi]
    by_cases hn : b % 9223372036854775808 > 9218868437227405312
    · split
      · rw [ex]; exact Like.refl _
      · exact Like.nan hn (by omega)
    · by_cases hz : b = 9223372036854775808
      · subst hz
        split
        · rw [ex]; exact Like.refl _
        · exact like_zero
      · rw [if_pos (lt_neg b (by omega) hb hn), ex]; exact Like.refl _
theorem ge_size (a b : Nat) (ha : a < 18446744073709551616) (hb : b < 18446744073709551616) : ge (sizeN a) (sizeN b) = absge a b := by
  unfold absge; rw [(like_size a ha).left, (like_size b hb).right]
def keptSt (g : Nat → Nat) : Nat → Nat × Nat
  | 0 => (0, 0)
  | 1 => (g 0, 0)
  | k + 2 =>
    let p := keptSt g (k + 1)
    let x := g (k + 1)
    let t := fop .add p.1 x
    (t, if absge p.1 x then fop .add p.2 (fop .add (fop .sub p.1 t) x) else fop .add p.2 (fop .add (fop .sub x t) p.1))
def keptG (g : Nat → Nat) (n : Nat) : Nat := if n < 2 then leftG g n else fop .add (keptSt g n).1 (keptSt g n).2

def KSt (g : Nat → Nat) (k r q : Nat) : Prop := r < 2 ^ 64 ∧ q < 2 ^ 64 ∧ cn r = cn (keptSt g k).1 ∧ cn q = cn (keptSt g k).2

theorem kst_yes {g : Nat → Nat} {k r q t a b d : Nat} (h : KSt g (k + 1) r q) (hge : absge r (g (1 + k)) = true) (bt : t < 2 ^ 64) (bd : d < 2 ^ 64)
    (ht : cn t = fop .add r (g (1 + k))) (ha : cn a = fop .sub r t) (hb : cn b = fop .add a (g (1 + k))) (hd : cn d = fop .add q b) : KSt g (k + 1 + 1) t d := by
  obtain ⟨_, _, h3, h4⟩ := h
  rw [Nat.add_comm 1 k] at *
  have e1 : cn t = cn (fop .add (keptSt g (k + 1)).1 (g (k + 1))) := by rw [ht, cn_fop]; exact fop_congr .add h3 rfl
  have e2 : cn a = cn (fop .sub (keptSt g (k + 1)).1 (fop .add (keptSt g (k + 1)).1 (g (k + 1)))) := by rw [ha, cn_fop]; exact fop_congr .sub h3 e1
  have e3 : cn b = cn (fop .add (fop .sub (keptSt g (k + 1)).1 (fop .add (keptSt g (k + 1)).1 (g (k + 1)))) (g (k + 1))) := by rw [hb, cn_fop]; exact fop_congr .add e2 rfl
  refine ⟨bt, bd, e1, ?_⟩
  rw [absge_cn h3 rfl] at hge
  show cn d = cn (if absge (keptSt g (k + 1)).1 (g (k + 1)) then _ else _)
  rw [if_pos hge, hd, cn_fop]
  exact fop_congr .add h4 e3
theorem kst_no {g : Nat → Nat} {k r q t a b d : Nat} (h : KSt g (k + 1) r q) (hge : ¬ absge r (g (1 + k)) = true) (bt : t < 2 ^ 64) (bd : d < 2 ^ 64)
    (ht : cn t = fop .add r (g (1 + k))) (ha : cn a = fop .sub (g (1 + k)) t) (hb : cn b = fop .add a r) (hd : cn d = fop .add q b) : KSt g (k + 1 + 1) t d := by
  obtain ⟨_, _, h3, h4⟩ := h
  rw [Nat.add_comm 1 k] at *
  have e1 : cn t = cn (fop .add (keptSt g (k + 1)).1 (g (k + 1))) := by rw [ht, cn_fop]; exact fop_congr .add h3 rfl
  have e2 : cn a = cn (fop .sub (g (k + 1)) (fop .add (keptSt g (k + 1)).1 (g (k + 1)))) := by rw [ha, cn_fop]; exact fop_congr .sub rfl e1
  have e3 : cn b = cn (fop .add (fop .sub (g (k + 1)) (fop .add (keptSt g (k + 1)).1 (g (k + 1)))) (keptSt g (k + 1)).1) := by rw [hb, cn_fop]; exact fop_congr .add e2 h3
  refine ⟨bt, bd, e1, ?_⟩
  rw [absge_cn h3 rfl] at hge
  show cn d = cn (if absge (keptSt g (k + 1)).1 (g (k + 1)) then _ else _)
  rw [if_neg hge, hd, cn_fop]
  exact fop_congr .add h4 e3
theorem kst_end {g : Nat → Nat} {n r q z : Nat} (h2 : ¬ n < 2) (h : KSt g n r q) (hz : cn z = fop .add r q) : cn z = cn (keptG g n) := by
  unfold keptG
  rw [if_neg h2, hz, cn_fop]
  exact fop_congr .add h.2.2.1 h.2.2.2
theorem keptG_small {g : Nat → Nat} {n : Nat} (h : n < 2) : keptG g n = leftG g n := by unfold keptG; rw [if_pos h]

set_option maxHeartbeats 2000000 in
theorem kept_any (A : Option Addr) (n c : Nat) (g : Nat → Nat) (w : World) (hg : ∀ j, j < n → g j < 2 ^ 64) (hr : RS w A n c (fl g)) :
    Calls Try.prog 11 #[.slice A n c] w (Fret (keptG g n) w) := by
  have hm := hr.cm
  have hnc := hr.nc
  by_cases h2 : n < 2
  · have HL := Lib.hid (left_any A n c g w hg hr)
    rw [keptG_small h2]
    have h2' : (n : Int) < 2 := by omega
    clear hg h2
    go_enter Try.func11, Try.ntmps11
    go_wp2_with (go_at_call 9; refine HL.out.mono ?_; rintro e w1 ⟨r, m, rfl, hb, hv, rfl⟩)
    go_ret
    exact ⟨r, m, rfl, hb, hv, rfl⟩
  · have h2' : (2 : Int) ≤ n := by omega
    have n1 : 1 ≤ n := by omega
    have hg' := Lib.hid hg; clear hg
    have H2 := Lib.hid h2; clear h2
    obtain ⟨fA, fAn, hfA, hFA⟩ := exFop .add rfl
    obtain ⟨fS, fSn, hfS, hFS⟩ := exFop .sub rfl
    go_enter Try.func11, Try.ntmps11
    go_wp2_with (first
      | ((with_reducible show wpList _ _ _ (⟨some 14, _, _, _, _, _⟩ :: _) _ _); refine wpl_ix rfl 24 26 _ _ rfl Try.underlying24 cells26 A n c 0 _ _ (fl g) rfl rfl rfl n1 hr ?_; intro p hp)
      | ((with_reducible show wpList _ _ _ (⟨some 17, _, _, _, _, _⟩ :: _) _ _); refine wpl_from rfl 24 26 _ _ rfl Try.underlying24 cells26 A n c 1 _ _ (fl g) rfl rfl rfl n1 hr ?_; intro A' hr'))
    go_loopw [3,4,6,7,19] (fun s c x t i wr => ∃ k r q m : Nat, k + 1 ≤ n ∧ i = .int .i64 k ∧ s = .float .f64 r ∧ c = .float .f64 q ∧ KSt g (k + 1) r q ∧ wr = w.drewN m) (fun s c x t i _ => n - (intOf i).toNat)
    case atStart => exact ⟨0, _, 0, 0, n1, rfl, rfl, rfl, ⟨hg'.out 0 n1, by decide, rfl, rfl⟩, rfl⟩
    case round =>
      obtain ⟨k, r, q, m, hk, rfl, rfl, rfl, hst, rfl⟩ := hrel
      by_cases hlt : k + 1 < n
      · have bx := hg'.out (1 + k) (by omega)
        have br := hst.1
        by_cases hge : absge r (g (1 + k)) = true
        · have ht : (FloatKind.f64.format.order (r % 9223372036854775808) (g (1 + k) % 9223372036854775808) == some .gt || FloatKind.f64.format.order (r % 9223372036854775808) (g (1 + k) % 9223372036854775808) == some .eq) = true := hge
          have Hge := Lib.hid hge; clear hge
          go_wp2_with (first
            | ((with_reducible show wpList _ _ _ (⟨some 21, _, _, _, _, _⟩ :: _) _ _); refine wpl_ix rfl 24 26 _ _ rfl Try.underlying24 cells26 A' (n - 1) (c - 1) k _ _ _ rfl rfl rfl (by omega) (hr'.drewN _) ?_; intro p hp)
            | (go_at_call 23; refine (abs_any _ _ (by assumption)).mono ?_; rintro e w1 ⟨rfl, rfl⟩))
          go_roundw
          case rel => exact ⟨k + 1, _, _, _, by omega, by go_num, rfl, rfl, kst_yes hst Hge.out (hFA.out _ _ _).1 (hFA.out _ _ _).1 (hFA.out _ _ _).2 (hFS.out _ _ _).2 (hFA.out _ _ _).2 (hFA.out _ _ _).2, rfl⟩
          case measure => simp [intOf]; omega
        · have ht : (FloatKind.f64.format.order (r % 9223372036854775808) (g (1 + k) % 9223372036854775808) == some .gt || FloatKind.f64.format.order (r % 9223372036854775808) (g (1 + k) % 9223372036854775808) == some .eq) = false := by simpa [absge, ge] using hge
          have Hge := Lib.hid hge; clear hge
          go_wp2_with (first
            | ((with_reducible show wpList _ _ _ (⟨some 21, _, _, _, _, _⟩ :: _) _ _); refine wpl_ix rfl 24 26 _ _ rfl Try.underlying24 cells26 A' (n - 1) (c - 1) k _ _ _ rfl rfl rfl (by omega) (hr'.drewN _) ?_; intro p hp)
            | (go_at_call 23; refine (abs_any _ _ (by assumption)).mono ?_; rintro e w1 ⟨rfl, rfl⟩))
          go_roundw
          case rel => exact ⟨k + 1, _, _, _, by omega, by go_num, rfl, rfl, kst_no hst Hge.out (hFA.out _ _ _).1 (hFA.out _ _ _).1 (hFA.out _ _ _).2 (hFS.out _ _ _).2 (hFA.out _ _ _).2 (hFA.out _ _ _).2, rfl⟩
          case measure => simp [intOf]; omega
      · have hst' : KSt g n r q := by
          have : k + 1 = n := by omega
          rw [← this]; exact hst
        go_wp2_with fail
        go_ret
        exact ⟨_, _, rfl, (hFA.out _ _ _).1, kst_end H2.out hst' (hFA.out _ _ _).2, rfl⟩

set_option maxHeartbeats 2000000 in
theorem keptR_any (A : Option Addr) (n c : Nat) (g : Nat → Nat) (w : World) (hg : ∀ j, j < n → g j < 2 ^ 64) (hr : RS w A n c (fl g)) :
    Calls Try.prog 17 #[.slice A n c] w (Fret (keptG g n) w) := by
  have hm := hr.cm
  have hnc := hr.nc
  by_cases h2 : n < 2
  · have HL := Lib.hid (leftR_any A n c g w hg hr)
    rw [keptG_small h2]
    have h2' : (n : Int) < 2 := by omega
    clear hg h2
    go_enter Try.func17, Try.ntmps17
    go_wp2_with (go_at_call 15; refine HL.out.mono ?_; rintro e w1 ⟨r, m, rfl, hb, hv, rfl⟩)
    go_ret
    exact ⟨r, m, rfl, hb, hv, rfl⟩
  · have h2' : (2 : Int) ≤ n := by omega
    have n1 : 1 ≤ n := by omega
    have hg' := Lib.hid hg; clear hg
    have H2 := Lib.hid h2; clear h2
    obtain ⟨fA, fAn, hfA, hFA⟩ := exFop .add rfl
    obtain ⟨fS, fSn, hfS, hFS⟩ := exFop .sub rfl
    go_enter Try.func17, Try.ntmps17
    go_wp2_with (first
      | ((with_reducible show wpList _ _ _ (⟨some 16, _, _, _, _, _⟩ :: _) _ _); refine wpl_ix rfl 24 26 _ _ rfl Try.underlying24 cells26 A n c 0 _ _ (fl g) rfl rfl rfl n1 hr ?_; intro p hp)
      | ((with_reducible show wpList _ _ _ (⟨some 19, _, _, _, _, _⟩ :: _) _ _); refine wpl_from rfl 24 26 _ _ rfl Try.underlying24 cells26 A n c 1 _ _ (fl g) rfl rfl rfl n1 hr ?_; intro A' hr'))
    go_loopw [3,4,6,7,8,9,21] (fun s c x t d1 d2 i wr => ∃ k r q m : Nat, k + 1 ≤ n ∧ i = .int .i64 k ∧ s = .float .f64 r ∧ c = .float .f64 q ∧ KSt g (k + 1) r q ∧ wr = w.drewN m) (fun s c x t d1 d2 i _ => n - (intOf i).toNat)
    case atStart => exact ⟨0, _, 0, 0, n1, rfl, rfl, rfl, ⟨hg'.out 0 n1, by decide, rfl, rfl⟩, rfl⟩
    case round =>
      obtain ⟨k, r, q, m, hk, rfl, rfl, rfl, hst, rfl⟩ := hrel
      by_cases hlt : k + 1 < n
      · have bx := hg'.out (1 + k) (by omega)
        have br := hst.1
        by_cases hge : absge r (g (1 + k)) = true
        · have ht : (FloatKind.f64.format.order (sizeN r) (sizeN (g (1 + k))) == some .gt || FloatKind.f64.format.order (sizeN r) (sizeN (g (1 + k))) == some .eq) = true := (by have := ge_size r (g (1 + k)) br bx; unfold ge at this; rw [this]; exact hge)
          have Hge := Lib.hid hge; clear hge
          go_wp2_with (first
            | ((with_reducible show wpList _ _ _ (⟨some 23, _, _, _, _, _⟩ :: _) _ _); refine wpl_ix rfl 24 26 _ _ rfl Try.underlying24 cells26 A' (n - 1) (c - 1) k _ _ _ rfl rfl rfl (by omega) (hr'.drewN _) ?_; intro p hp)
            | (go_at_call 32; refine (sizeR_any _ _).mono ?_; rintro e w1 ⟨rfl, rfl⟩))
          go_roundw
          case rel => exact ⟨k + 1, _, _, _, by omega, by go_num, rfl, rfl, kst_yes hst Hge.out (hFA.out _ _ _).1 (hFA.out _ _ _).1 (hFA.out _ _ _).2 (hFS.out _ _ _).2 (hFA.out _ _ _).2 (hFA.out _ _ _).2, rfl⟩
          case measure => simp [intOf]; omega
        · have ht : (FloatKind.f64.format.order (sizeN r) (sizeN (g (1 + k))) == some .gt || FloatKind.f64.format.order (sizeN r) (sizeN (g (1 + k))) == some .eq) = false := by (have := ge_size r (g (1 + k)) br bx; unfold ge at this; rw [this]; simpa using hge)
          have Hge := Lib.hid hge; clear hge
          go_wp2_with (first
            | ((with_reducible show wpList _ _ _ (⟨some 23, _, _, _, _, _⟩ :: _) _ _); refine wpl_ix rfl 24 26 _ _ rfl Try.underlying24 cells26 A' (n - 1) (c - 1) k _ _ _ rfl rfl rfl (by omega) (hr'.drewN _) ?_; intro p hp)
            | (go_at_call 32; refine (sizeR_any _ _).mono ?_; rintro e w1 ⟨rfl, rfl⟩))
          go_roundw
          case rel => exact ⟨k + 1, _, _, _, by omega, by go_num, rfl, rfl, kst_no hst Hge.out (hFA.out _ _ _).1 (hFA.out _ _ _).1 (hFA.out _ _ _).2 (hFS.out _ _ _).2 (hFA.out _ _ _).2 (hFA.out _ _ _).2, rfl⟩
          case measure => simp [intOf]; omega
      · have hst' : KSt g n r q := by
          have : k + 1 = n := by omega
          rw [← this]; exact hst
        go_wp2_with fail
        go_ret
        exact ⟨_, _, rfl, (hFA.out _ _ _).1, kst_end H2.out hst' (hFA.out _ _ _).2, rfl⟩

end Go.Proofs.Ytdfbmfmfhdifpaa
