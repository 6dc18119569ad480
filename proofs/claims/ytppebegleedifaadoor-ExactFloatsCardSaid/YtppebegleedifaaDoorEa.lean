/- Floats as words and as numbers: what the first seat's texts proved of them, the plain part. -/
import Ieee.Arith
import Derived.Laws.FloatBits
import Derived.WalkKit
import Derived.WalkSpells
import Derived.WalkLawsBesides
import Derived.Laws.FloatArith
import Derived.Deep.Draws
import Derived.Lib.Hide
namespace Go.Proofs.YtppebegleedifaaDoor.Fw
namespace Fl
open Ieee
/-- n / 2^d to the nearest whole number, a half to the even one. -/
def rne (n d : Nat) : Nat := n / 2 ^ d + (if 2 ^ d < 2 * (n % 2 ^ d) ∨ (2 ^ d = 2 * (n % 2 ^ d) ∧ n / 2 ^ d % 2 = 1) then 1 else 0)
theorem lt_log2 (n : Nat) : n < 2 ^ (n.log2 + 1) := Nat.lt_log2_self
theorem rne_scale (n d j : Nat) : rne (n * 2 ^ j) (d + j) = rne n d := by
  have hj : 0 < 2 ^ j := Nat.two_pow_pos _
  unfold rne
  rw [Nat.pow_add, Nat.mul_div_mul_right _ _ hj, Nat.mul_mod_mul_right]
  have e1 : (2 ^ d * 2 ^ j < 2 * (n % 2 ^ d * 2 ^ j)) ↔ (2 ^ d < 2 * (n % 2 ^ d)) := by
    rw [← Nat.mul_assoc]; exact Nat.mul_lt_mul_right hj
  have e2 : (2 ^ d * 2 ^ j = 2 * (n % 2 ^ d * 2 ^ j)) ↔ (2 ^ d = 2 * (n % 2 ^ d)) := by
    rw [← Nat.mul_assoc]; exact Nat.mul_left_inj (by omega)
  simp only [e1, e2]
theorem rne_zero (n : Nat) : rne n 0 = n := by
  unfold rne
  simp [Nat.mod_one]
theorem rne_exact (n d : Nat) : rne (n * 2 ^ d) d = n := by
  have := rne_scale n 0 d
  rw [Nat.zero_add] at this
  rw [this, rne_zero]
theorem rne_small (n d : Nat) (h : 2 * n < 2 ^ d) : rne n d = 0 := by
  unfold rne
  rw [Nat.div_eq_of_lt (by omega), Nat.mod_eq_of_lt (by omega)]
  rw [if_neg (by omega)]
theorem two_pow_succ (k : Nat) : 2 ^ (k + 1) = 2 * 2 ^ k := by rw [Nat.pow_succ, Nat.mul_comm]
/-- Ieee's own cut to the nearest is rne. -/
theorem cut_even (neg : Bool) (n d : Nat) : Toward.even.cut neg n d = rne n d := by
  unfold Toward.cut
  simp only [Nat.one_shiftLeft]
  by_cases h : d ≤ n.log2 + 2
  · rw [Nat.min_eq_left h]
    unfold rne
    congr 1
    by_cases hc : 2 ^ d < 2 * (n % 2 ^ d) ∨ (2 ^ d = 2 * (n % 2 ^ d) ∧ n / 2 ^ d % 2 = 1)
    · rw [if_pos hc]
      have : (decide (2 ^ d < 2 * (n % 2 ^ d)) || 2 ^ d == 2 * (n % 2 ^ d) && n / 2 ^ d % 2 == 1) = true := by
        simpa using hc
      rw [this]; rfl
    · rw [if_neg hc]
      have : (decide (2 ^ d < 2 * (n % 2 ^ d)) || 2 ^ d == 2 * (n % 2 ^ d) && n / 2 ^ d % 2 == 1) = false := by
        rw [← Bool.not_eq_true]; simpa using hc
      rw [this]; rfl
  · have hlt := lt_log2 n
    have h2 : 2 ^ (n.log2 + 2) = 2 * 2 ^ (n.log2 + 1) := two_pow_succ _
    have h3 : 2 ^ (n.log2 + 2) < 2 ^ d := Nat.pow_lt_pow_right (by omega) (by omega)
    rw [Nat.min_eq_right (by omega), rne_small n d (by omega), Nat.div_eq_of_lt (by omega), Nat.mod_eq_of_lt (by omega)]
    have : (decide (2 ^ (n.log2 + 2) < 2 * n) || 2 ^ (n.log2 + 2) == 2 * n && 0 % 2 == 1) = false := by
      simp; omega
    rw [this]; rfl
theorem log2_mul_pow (m j : Nat) (h : m ≠ 0) : (m * 2 ^ j).log2 = m.log2 + j := by
  have hm : m * 2 ^ j ≠ 0 := Nat.mul_ne_zero h (by have := Nat.two_pow_pos j; omega)
  apply (Nat.log2_eq_iff hm).2
  have h1 := Nat.log2_self_le h
  have h2 := lt_log2 m
  constructor
  · rw [Nat.pow_add]; exact Nat.mul_le_mul_right _ h1
  · rw [Nat.add_right_comm, Nat.pow_add]; exact Nat.mul_lt_mul_of_pos_right h2 (Nat.two_pow_pos _)
abbrev D : Format := double
theorem D_least : D.leastPlace = -1074 := by decide
theorem D_bin : D.binade = 4503599627370496 := by decide
theorem D_inf : D.infRung = 9218868437227405312 := by decide
theorem D_sign : D.signWeight = 9223372036854775808 := by decide
theorem D_frac : D.fractionBits = 52 := rfl
/-- The rung nearest to n / 2^t times the least place (2^-1074). -/
def rung (n t : Nat) : Nat := min ((max (n.log2 - 52) t - t) * 4503599627370496 + rne n (max (n.log2 - 52) t)) 9218868437227405312
theorem rung_zero (t : Nat) : rung 0 t = 0 := by
  have e : rne 0 (max ((0 : Nat).log2 - 52) t) = 0 := by
    unfold rne; simp
  unfold rung
  rw [e]
  have : (0 : Nat).log2 = 0 := by decide
  rw [this]
  simp
theorem rung_scale (n t j : Nat) (h : n ≠ 0) : rung (n * 2 ^ j) (t + j) = rung n t := by
  unfold rung
  rw [log2_mul_pow n j h]
  by_cases hc : n.log2 + j - 52 ≤ t + j
  · rw [Nat.max_eq_right hc]
    have : rne (n * 2 ^ j) (t + j) = rne n t := rne_scale n t j
    rw [this, Nat.max_eq_right (by omega)]
    simp
  · rw [Nat.max_eq_left (by omega)]
    by_cases h52 : 52 ≤ n.log2
    · have e : n.log2 + j - 52 = (n.log2 - 52) + j := by omega
      rw [e, rne_scale, Nat.max_eq_left (by omega)]
      have : n.log2 - 52 + j - (t + j) = n.log2 - 52 - t := by omega
      rw [this]
    · exfalso; omega
/-- Ieee's nearest word, at whatever place from -1074 - t on. -/
theorem nearest_eq (neg : Bool) (m : Nat) (p : Int) (t : Nat) (hp : -1074 - (t : Int) ≤ p) :
    D.nearest neg m p = D.word neg (rung (m * 2 ^ (p + 1074 + t).toNat) t) := by
  by_cases hm : m = 0
  · subst hm
    unfold Format.nearest
    rw [if_pos rfl, Nat.zero_mul, rung_zero]
  · unfold Format.nearest
    rw [if_neg hm]
    simp only [cut_even]
    rw [D_least, D_bin, D_inf, D_frac]
    refine congrArg (D.word neg) ?_
    unfold rung
    obtain ⟨j, hj⟩ : ∃ j : Nat, (j : Int) = p + 1074 + t := ⟨(p + 1074 + t).toNat, by omega⟩
    have hj' : (p + 1074 + (t : Int)).toNat = j := by omega
    rw [hj', log2_mul_pow m j hm]
    generalize hL : m.log2 = L
    -- last
    generalize hlast : max (p + (L : Int) - 52) (-1074) = last
    -- two cases: the place is above or below last
    by_cases hge : last ≤ p
    · -- exact
      obtain ⟨u, hu⟩ : ∃ u : Nat, (u : Int) = p - last := ⟨(p - last).toNat, by omega⟩
      have e1 : (p - last).toNat = u := by omega
      have e2 : (last - p).toNat = 0 := by omega
      rw [e1, e2, rne_zero, Nat.shiftLeft_eq]
      have e3 : max (L + j - 52) t = j - u := by omega
      have e4 : (last - -1074).toNat = j - u - t := by omega
      have e5 : j = u + (j - u) := by omega
      rw [e3, e4]
      have e6 : m * 2 ^ j = (m * 2 ^ u) * 2 ^ (j - u) := by
        rw [Nat.mul_assoc, ← Nat.pow_add, ← e5]
      rw [e6, rne_exact]
    · obtain ⟨u, hu⟩ : ∃ u : Nat, (u : Int) = last - p := ⟨(last - p).toNat, by omega⟩
      have e1 : (p - last).toNat = 0 := by omega
      have e2 : (last - p).toNat = u := by omega
      rw [e1, e2]
      have e3 : max (L + j - 52) t = u + j := by omega
      have e4 : (last - -1074).toNat = u + j - t := by omega
      rw [e3, e4, rne_scale]
      simp
end Fl
section
open Go.RowKit
/-- The word of each NaN. -/
def nanW : Nat := 9221120237041090560
/-- A float's word, those of every NaN made one. -/
def cn (b : Nat) : Nat := if b % 9223372036854775808 > 9218868437227405312 then nanW else b
/-- An operation of floats, its NaN made one. -/
def fop (op : BinOp) (a b : Nat) : Nat := match floatBits op .f64 a b with | some r => r | none => nanW
def isArith : BinOp → Bool
  | .add | .sub | .mul | .quo => true
  | _ => false
theorem nan_cut (x y t : Nat) : (Question.nanBits .f64 x y).cut t < 2 ^ 64 ∧ cn ((Question.nanBits .f64 x y).cut t) = nanW := by
  have h1 : (t / 2) % (2 ^ 52 - 1) < 2 ^ 52 - 1 := Nat.mod_lt _ (by decide)
  have h2 : t % 2 < 2 := Nat.mod_lt _ (by decide)
  have e : (Question.nanBits .f64 x y).cut t = (t % 2) * 2 ^ 63 + 0x7ff0000000000000 + 1 + (t / 2) % (2 ^ 52 - 1) := rfl
  rw [e]
  generalize (t / 2) % (2 ^ 52 - 1) = u at *
  generalize t % 2 = s at *
  constructor
  · omega
  · unfold cn
    rw [if_pos]
    omega
theorem word_cn (neg : Bool) (r : Nat) (h : r ≤ 9218868437227405312) : cn (Fl.D.word neg r) = Fl.D.word neg r := by
  unfold cn Ieee.Format.word
  rw [Fl.D_sign, if_neg]
  cases neg <;> simp <;> omega
theorem write_cn (d : Ieee.Datum) (h : d.isNaN = false) : cn (Fl.D.write d) = Fl.D.write d := by
  cases d with
  | number s m p =>
    have hp : -1074 - (((-1074 - p).toNat : Nat) : Int) ≤ p := by omega
    show cn (Fl.D.nearest s m p) = Fl.D.nearest s m p
    rw [Fl.nearest_eq s m p _ hp]
    apply word_cn
    unfold Fl.rung
    exact Nat.min_le_right _ _
  | infinity s =>
    show cn (Fl.D.word s Fl.D.infRung) = Fl.D.word s Fl.D.infRung
    apply word_cn
    rw [Fl.D_inf]
    exact Nat.le_refl _
  | nan s f => cases h
theorem sum_num {x y d : Ieee.Datum} (h : x.sum y = some d) : d.isNaN = false := by
  cases x <;> cases y <;> simp only [Ieee.Datum.sum] at h <;> first | (cases h; done) | skip
  all_goals first
    | (injection h with h; subst h; rfl)
    | (split at h <;> first | (cases h; done) | (injection h with h; subst h; rfl))
theorem product_num {x y d : Ieee.Datum} (h : x.product y = some d) : d.isNaN = false := by
  cases x <;> cases y <;> simp only [Ieee.Datum.product] at h <;> first | (cases h; done) | skip
  all_goals first
    | (injection h with h; subst h; rfl)
    | (split at h <;> first | (cases h; done) | (injection h with h; subst h; rfl))
theorem quotient_num {k : Nat} {x y d : Ieee.Datum} (h : x.quotient k y = some d) : d.isNaN = false := by
  cases x <;> cases y <;> simp only [Ieee.Datum.quotient] at h <;> first | (cases h; done) | skip
  all_goals first
    | (injection h with h; subst h; rfl)
    | (split at h <;> first | (cases h; done) | (injection h with h; subst h; rfl) | (split at h <;> first | (cases h; done) | (injection h with h; subst h; rfl)))
theorem floatBits_cn {op : BinOp} {a b r : Nat} (h : floatBits op .f64 a b = some r) : r < 2 ^ 64 ∧ cn r = r := by
  constructor
  · have := floatBits_wf h
    simpa [Lit.wf] using this
  · unfold floatBits at h
    have key : ∀ o : Option Ieee.Datum, o.map Fl.D.write = some r → (∀ d, o = some d → d.isNaN = false) → cn r = r := by
      intro o ho hn
      cases o with
      | none => cases ho
      | some d => injection ho with ho; rw [← ho]; exact write_cn d (hn d rfl)
    cases op <;> simp only at h <;> first | (cases h; done) | skip
    · exact key _ h fun d => sum_num
    · exact key _ h fun d => sum_num
    · exact key _ h fun d => product_num
    · exact key _ h fun d => quotient_num
/-- What an operation on two floats does: a word that is the operation's, the NaN's own bits aside; some draws. -/
theorem run_fop {P : Program} (w : World) (op : BinOp) (t : TypeId) (a b : Nat) (ho : isArith op = true) :
    ∃ r n, (binOp op t (.float .f64 a) (.float .f64 b)).run P w = .ok (.float .f64 r) (w.drewN n) ∧ r < 2 ^ 64 ∧ cn r = fop op a b := by
  cases h : floatBits op .f64 a b with
  | some r =>
    obtain ⟨h1, h2⟩ := floatBits_cn h
    exact ⟨r, 0, run_float_arith w op t .f64 a b r h, h1, by unfold fop; rw [h]; exact h2⟩
  | none =>
    obtain ⟨h1, h2⟩ := nan_cut a b (w.tape w.drawn (.nanBits .f64 a b))
    refine ⟨_, 1, ?_, h1, by unfold fop; rw [h]; exact h2⟩
    unfold floatBits at h
    cases op <;> simp only at h <;> first | (cases ho; done) | skip
    all_goals
      simp [binOp, Op.floatArith, h, choose, Sem.run, Question.forced, Result.andThen, World.drewN]
theorem wp_fop {P : Program} {w : World} {o : Oper} {a : Act} {K : Act → World → Prop} {Q : Exit → Act → World → Prop}
    (op : BinOp) (xt yt : TypeId) (x y : Operand) (hop : o.op = Op.binOp op xt x y yt) (ha : isArith op = true) (p q : Nat)
    (hx : a.eval x = .float .f64 p) (hy : a.eval y = .float .f64 q)
    (hK : ∀ r n, r < 2 ^ 64 → cn r = fop op p q → K (a.put o.dst (.float .f64 r)) (w.drewN n)) :
    o.wp P a w K Q := by
  obtain ⟨r, n, hrun, h1, h2⟩ := run_fop (P := P) w op xt p q ha
  unfold Oper.wp
  have he : (eqGuard op xt x y (.float .f64 p) (.float .f64 q)).run P w = .ok () w := by
    cases op <;> first | (cases ha; done) | rfl
  simp [execOp, hop, hx, hy, he, hrun, Result.andThen]
  exact hK r n h1 h2
theorem read_nan (a : Nat) (h : a % 9223372036854775808 > 9218868437227405312) : (Fl.D.read a).isNaN = true := by
  unfold Ieee.Format.read
  simp only [Fl.D_sign, Fl.D_bin, Fl.D_inf]
  rw [if_neg (by omega), if_neg (by omega), if_neg (by omega)]
  rfl
theorem nan_of {d : Ieee.Datum} (h : d.isNaN = true) : ∃ s f, d = .nan s f := by
  cases d <;> first | exact ⟨_, _, rfl⟩ | cases h
theorem arith_nan_left (op : BinOp) (a b : Nat) (h : (Fl.D.read a).isNaN = true) : floatBits op .f64 a b = none := by
  obtain ⟨s, f, e⟩ := nan_of h
  have e' : (FloatKind.f64.format).read a = .nan s f := e
  unfold floatBits
  cases op <;> simp only [Ieee.Format.add, Ieee.Format.sub, Ieee.Format.mul, Ieee.Format.div, e']
  · cases (FloatKind.f64.format).read b <;> rfl
  · cases ((FloatKind.f64.format).read b).opposite <;> rfl
  · cases (FloatKind.f64.format).read b <;> rfl
  · cases (FloatKind.f64.format).read b <;> rfl
theorem arith_nan_right (op : BinOp) (a b : Nat) (h : (Fl.D.read b).isNaN = true) : floatBits op .f64 a b = none := by
  obtain ⟨s, f, e⟩ := nan_of h
  have e' : (FloatKind.f64.format).read b = .nan s f := e
  unfold floatBits
  cases op <;> simp only [Ieee.Format.add, Ieee.Format.sub, Ieee.Format.mul, Ieee.Format.div, e', Ieee.Datum.opposite]
  · cases (FloatKind.f64.format).read a <;> rfl
  · cases (FloatKind.f64.format).read a <;> rfl
  · cases (FloatKind.f64.format).read a <;> rfl
  · cases (FloatKind.f64.format).read a <;> rfl
theorem nanW_nan : (Fl.D.read nanW).isNaN = true := by decide
theorem fop_cn (op : BinOp) (a b : Nat) : fop op (cn a) (cn b) = fop op a b := by
  by_cases ha : a % 9223372036854775808 > 9218868437227405312
  · have e : cn a = nanW := by unfold cn; rw [if_pos ha]
    unfold fop
    rw [e, arith_nan_left op _ _ nanW_nan, arith_nan_left op _ _ (read_nan a ha)]
  · have e : cn a = a := by unfold cn; rw [if_neg ha]
    rw [e]
    by_cases hb : b % 9223372036854775808 > 9218868437227405312
    · have e : cn b = nanW := by unfold cn; rw [if_pos hb]
      unfold fop
      rw [e, arith_nan_right op _ _ nanW_nan, arith_nan_right op _ _ (read_nan b hb)]
    · have e : cn b = b := by unfold cn; rw [if_neg hb]
      rw [e]
def ge (a b : Nat) : Bool := FloatKind.f64.format.order a b == some .gt || FloatKind.f64.format.order a b == some .eq
/-- Two words that every comparison takes alike. -/
structure Like (a b : Nat) : Prop where
  left : ∀ x, ge a x = ge b x
  right : ∀ x, ge x a = ge x b
theorem like_zero : Like 9223372036854775808 0 := by
  have e0 : (FloatKind.f64.format).read 0 = .number false 0 (-1074) := by decide
  have e1 : (FloatKind.f64.format).read 9223372036854775808 = .number true 0 (-1074) := by decide
  constructor <;> intro x <;> unfold ge Ieee.Format.order <;> rw [e0, e1] <;> cases (FloatKind.f64.format).read x <;> simp [Ieee.Datum.order, Ieee.signed]
theorem signed_pos (m k : Nat) : Ieee.signed false m k = ((m <<< k : Nat) : Int) := rfl
theorem signed_neg (m k : Nat) : Ieee.signed true m k = -((m <<< k : Nat) : Int) := rfl
/-- A finite float's value without its sign: m x 2^q times the least place. -/
def fM (b : Nat) : Nat := if b / 4503599627370496 % 2048 = 0 then b % 4503599627370496 else b % 4503599627370496 + 4503599627370496
def fQ (b : Nat) : Nat := b / 4503599627370496 % 2048 - 1
def mag (b : Nat) : Nat := fM b * 2 ^ fQ b
theorem fM_lt (b : Nat) : fM b < 9007199254740992 := by unfold fM; split <;> omega
end
section
open Ieee
theorem read_fin (b : Nat) (h : b % 9223372036854775808 < 9218868437227405312) :
    Fl.D.read b = .number (b / 9223372036854775808 % 2 == 1) (fM b) (-1074 + (fQ b : Int)) := by
  have h2 : b % 9223372036854775808 / 4503599627370496 = b / 4503599627370496 % 2048 := by omega
  unfold Format.read fM fQ
  simp only [Fl.D_sign, Fl.D_bin, Fl.D_inf, Fl.D_least]
  by_cases h0 : b % 9223372036854775808 < 4503599627370496
  · have e1 : b / 4503599627370496 % 2048 = 0 := by omega
    rw [if_pos h0, if_pos e1, e1]
    have : b % 9223372036854775808 = b % 4503599627370496 := by omega
    rw [this]; rfl
  · have e1 : ¬ b / 4503599627370496 % 2048 = 0 := by omega
    rw [if_neg h0, if_pos h, if_neg e1, h2]
    have : 4503599627370496 + b % 9223372036854775808 % 4503599627370496 = b % 4503599627370496 + 4503599627370496 := by omega
    rw [this]
theorem mag_mono {a b : Nat} (h : a < b) (hb : b < 9218868437227405312) : mag a < mag b := by
  unfold mag
  have ea : a / 4503599627370496 % 2048 = a / 4503599627370496 := by omega
  have eb : b / 4503599627370496 % 2048 = b / 4503599627370496 := by omega
  by_cases hE : a / 4503599627370496 = b / 4503599627370496
  · have e1 : fQ a = fQ b := by unfold fQ; rw [ea, eb, hE]
    rw [e1]
    apply Nat.mul_lt_mul_of_pos_right _ (Nat.two_pow_pos _)
    unfold fM
    rw [ea, eb, hE]
    split <;> omega
  · have hlt : a / 4503599627370496 < b / 4503599627370496 := by omega
    have hMb : 4503599627370496 ≤ fM b := by unfold fM; rw [eb, if_neg (by omega)]; omega
    have hQb : fQ b = b / 4503599627370496 - 1 := by unfold fQ; rw [eb]
    by_cases h0 : a / 4503599627370496 = 0
    · have hMa : fM a < 4503599627370496 := by unfold fM; rw [ea, if_pos h0]; omega
      have hQa : fQ a = 0 := by unfold fQ; rw [ea, h0]
      rw [hQa, Nat.pow_zero, Nat.mul_one]
      calc fM a < 4503599627370496 := hMa
        _ ≤ fM b := hMb
        _ ≤ fM b * 2 ^ fQ b := Nat.le_mul_of_pos_right _ (Nat.two_pow_pos _)
    · have hQa : fQ a = a / 4503599627370496 - 1 := by unfold fQ; rw [ea]
      have hle : fQ a + 1 ≤ fQ b := by omega
      calc fM a * 2 ^ fQ a < 9007199254740992 * 2 ^ fQ a := Nat.mul_lt_mul_of_pos_right (fM_lt a) (Nat.two_pow_pos _)
        _ = 4503599627370496 * 2 ^ (fQ a + 1) := by rw [Nat.pow_succ]; omega
        _ ≤ 4503599627370496 * 2 ^ fQ b := Nat.mul_le_mul_left _ (Nat.pow_le_pow_right (by decide) hle)
        _ ≤ fM b * 2 ^ fQ b := Nat.mul_le_mul_right _ hMb
theorem order_fin (a b : Nat) (ha : a < 9218868437227405312) (hb : b < 9218868437227405312) : FloatKind.f64.format.order a b = some (compare (mag a) (mag b)) := by
  have ra := read_fin a (by omega)
  have rb := read_fin b (by omega)
  have sa : (a / 9223372036854775808 % 2 == 1) = false := by rw [beq_eq_false_iff_ne]; omega
  have sb : (b / 9223372036854775808 % 2 == 1) = false := by rw [beq_eq_false_iff_ne]; omega
  rw [sa] at ra
  rw [sb] at rb
  show Fl.D.order a b = _
  unfold Format.order
  rw [ra, rb]
  simp only [Datum.order, signed_pos]
  congr 1
  have e1 : (-1074 + (fQ a : Int) - min (-1074 + (fQ a : Int)) (-1074 + (fQ b : Int))).toNat = fQ a - min (fQ a) (fQ b) := by omega
  have e2 : (-1074 + (fQ b : Int) - min (-1074 + (fQ a : Int)) (-1074 + (fQ b : Int))).toNat = fQ b - min (fQ a) (fQ b) := by omega
  rw [e1, e2]
  have h1 : mag a = (fM a <<< (fQ a - min (fQ a) (fQ b))) * 2 ^ min (fQ a) (fQ b) := by
    unfold mag; rw [Nat.shiftLeft_eq, Nat.mul_assoc, ← Nat.pow_add]; congr 2; omega
  have h2 : mag b = (fM b <<< (fQ b - min (fQ a) (fQ b))) * 2 ^ min (fQ a) (fQ b) := by
    unfold mag; rw [Nat.shiftLeft_eq, Nat.mul_assoc, ← Nat.pow_add]; congr 2; omega
  rw [h1, h2]
  generalize fM a <<< (fQ a - min (fQ a) (fQ b)) = x
  generalize fM b <<< (fQ b - min (fQ a) (fQ b)) = y
  have hp : 0 < 2 ^ min (fQ a) (fQ b) := Nat.two_pow_pos _
  generalize 2 ^ min (fQ a) (fQ b) = P at *
  rcases Nat.lt_trichotomy x y with h | h | h
  · rw [Int.compare_eq_lt.2 (by omega), Nat.compare_eq_lt.2 (Nat.mul_lt_mul_of_pos_right h hp)]
  · subst h; simp
  · rw [Int.compare_eq_gt.2 (by omega), Nat.compare_eq_gt.2 (Nat.mul_lt_mul_of_pos_right h hp)]
theorem order_words (a b : Nat) (ha : a < 9218868437227405312) (hb : b < 9218868437227405312) : FloatKind.f64.format.order a b = some (compare a b) := by
  rw [order_fin a b ha hb]
  rcases Nat.lt_trichotomy a b with h | h | h
  · rw [Nat.compare_eq_lt.2 h, Nat.compare_eq_lt.2 (mag_mono h hb)]
  · subst h; simp
  · rw [Nat.compare_eq_gt.2 h, Nat.compare_eq_gt.2 (mag_mono h ha)]
theorem log2_of {S k : Nat} (h1 : 2 ^ k ≤ S) (h2 : S < 2 ^ (k + 1)) : S.log2 = k := by
  have h0 : S ≠ 0 := by have := Nat.two_pow_pos k; omega
  exact (Nat.log2_eq_iff h0).2 ⟨h1, h2⟩
theorem rung_val (S j t : Nat) (h1 : 4503599627370496 ≤ S) (h2 : S < 9007199254740992) : Fl.rung (S * 2 ^ (j + t)) t = min (j * 4503599627370496 + S) 9218868437227405312 := by
  have hl : S.log2 = 52 := log2_of (k := 52) h1 h2
  unfold Fl.rung
  rw [Fl.log2_mul_pow S _ (by omega), hl]
  have e : max (52 + (j + t) - 52) t = j + t := by omega
  rw [e, Fl.rne_exact, Nat.add_sub_cancel]
theorem rung_small (r t : Nat) (h : r < 9007199254740992) : Fl.rung (r * 2 ^ t) t = r := by
  by_cases h0 : r = 0
  · subst h0; rw [Nat.zero_mul, Fl.rung_zero]
  · have hl : r.log2 ≤ 52 := by
      have : r.log2 < 53 := (Nat.log2_lt h0).2 h
      omega
    unfold Fl.rung
    rw [Fl.log2_mul_pow r _ h0]
    have e : max (r.log2 + t - 52) t = t := by omega
    rw [e, Fl.rne_exact]
    omega
theorem word_false (r : Nat) : Fl.D.word false r = r := rfl
/-- A product of two finite words without a sign. -/
theorem mul_bits (a b : Nat) (ha : a < 9218868437227405312) (hb : b < 9218868437227405312) (t : Nat) (ht : -1074 - (t : Int) ≤ -2148 + (fQ a : Int) + fQ b) :
    floatBits .mul .f64 a b = some (Fl.rung (fM a * fM b * 2 ^ (-2148 + (fQ a : Int) + fQ b + 1074 + t).toNat) t) := by
  have ra := read_fin a (by omega)
  have rb := read_fin b (by omega)
  have sa : (a / 9223372036854775808 % 2 == 1) = false := by rw [beq_eq_false_iff_ne]; omega
  have sb : (b / 9223372036854775808 % 2 == 1) = false := by rw [beq_eq_false_iff_ne]; omega
  rw [sa] at ra
  rw [sb] at rb
  have e : floatBits .mul .f64 a b = some (Fl.D.nearest false (fM a * fM b) (-1074 + (fQ a : Int) + (-1074 + (fQ b : Int)))) := by
    show (((Fl.D.read a).product (Fl.D.read b)).map Fl.D.write) = _
    rw [ra, rb]
    rfl
  rw [e, Fl.nearest_eq false _ _ t (by omega), word_false]
  rw [show -1074 + (fQ a : Int) + (-1074 + (fQ b : Int)) + 1074 + (t : Int) = -2148 + (fQ a : Int) + fQ b + 1074 + t from by omega]
end
section
open Go.RowKit
def sval (b : Nat) : Int := if b ≥ 9223372036854775808 then -(mag b : Int) else (mag b : Int)
theorem word_true (r : Nat) : Fl.D.word true r = 9223372036854775808 + r := by
  unfold Ieee.Format.word
  rw [if_pos rfl, Fl.D_sign]
theorem sval_abs (b : Nat) : (sval b).natAbs = mag b := by
  unfold sval; split <;> omega
end
section
open Ieee Go.RowKit
def fin (b : Nat) : Prop := b < 18446744073709551616 ∧ b % 9223372036854775808 < 9218868437227405312
def sg (b : Nat) : Bool := decide (9223372036854775808 ≤ b)
def sgn (s : Bool) (m : Nat) : Int := if s = true then -(m : Int) else (m : Int)
theorem read_fin2 {b : Nat} (h : fin b) : Fl.D.read b = .number (sg b) (fM b) (-1074 + (fQ b : Int)) := by
  rw [read_fin b h.2]
  congr 1
  unfold sg
  have := h.1
  rw [Bool.eq_iff_iff, beq_iff_eq, decide_eq_true_iff]
  omega
theorem sval_sgn (b : Nat) : sval b = sgn (sg b) (fM b * 2 ^ fQ b) := by
  unfold sval sgn sg mag
  simp only [decide_eq_true_eq, ge_iff_le]
/-- The word nearest to x least units; s: the sign of a zero. -/
def wordI (s : Bool) (x : Int) : Nat := Fl.D.word (if x = 0 then s else decide (x < 0)) (Fl.rung x.natAbs 0)
theorem signed_mul (s : Bool) (m q k : Nat) (h : k ≤ q) : signed s m (q - k) * ((2 ^ k : Nat) : Int) = sgn s (m * 2 ^ q) := by
  have e : (m <<< (q - k)) * 2 ^ k = m * 2 ^ q := by
    rw [Nat.shiftLeft_eq, Nat.mul_assoc, ← Nat.pow_add, show q - k + k = q from by omega]
  cases s
  · rw [signed_pos, ← Int.natCast_mul, e]; rfl
  · rw [signed_neg, Int.neg_mul, ← Int.natCast_mul, e]; rfl
theorem sum_fin (sa sb : Bool) (ma mb qa qb : Nat) :
    ((Datum.number sa ma (-1074 + (qa : Int))).sum (.number sb mb (-1074 + (qb : Int)))).map Fl.D.write
      = some (wordI (sa && sb) (sgn sa (ma * 2 ^ qa) + sgn sb (mb * 2 ^ qb))) := by
  simp only [Datum.sum, Option.map_some]
  have e1 : (-1074 + (qa : Int) - min (-1074 + (qa : Int)) (-1074 + (qb : Int))).toNat = qa - min qa qb := by omega
  have e2 : (-1074 + (qb : Int) - min (-1074 + (qa : Int)) (-1074 + (qb : Int))).toNat = qb - min qa qb := by omega
  rw [e1, e2, ← signed_mul sa ma qa (min qa qb) (by omega), ← signed_mul sb mb qb (min qa qb) (by omega), ← Int.add_mul]
  generalize signed sa ma (qa - min qa qb) + signed sb mb (qb - min qa qb) = T
  refine congrArg some ?_
  show Fl.D.nearest _ T.natAbs _ = _
  rw [Fl.nearest_eq _ _ _ 0 (by omega)]
  have e3 : (min (-1074 + (qa : Int)) (-1074 + (qb : Int)) + 1074 + ((0 : Nat) : Int)).toNat = min qa qb := by omega
  rw [e3]
  generalize min qa qb = k
  unfold wordI
  have hp : 0 < 2 ^ k := Nat.two_pow_pos k
  have e4 : (T * ((2 ^ k : Nat) : Int)).natAbs = T.natAbs * 2 ^ k := by rw [Int.natAbs_mul, Int.natAbs_natCast]
  rw [e4]
  generalize 2 ^ k = p at *
  congr 1
  by_cases h0 : T = 0
  · rw [if_pos h0, if_pos (by rw [h0]; simp)]
  · have : T * (p : Int) ≠ 0 := Int.mul_ne_zero h0 (by omega)
    rw [if_neg h0, if_neg this]
    rw [Bool.eq_iff_iff, decide_eq_true_iff, decide_eq_true_iff]
    constructor
    · intro h; exact Int.mul_neg_of_neg_of_pos h (by omega)
    · intro h
      rcases Int.lt_or_le T 0 with h2 | h2
      · exact h2
      · have := Int.mul_nonneg h2 (show (0 : Int) ≤ p by omega); omega
theorem add_fin {a b : Nat} (ha : fin a) (hb : fin b) : fop .add a b = wordI (sg a && sg b) (sval a + sval b) := by
  have e : floatBits .add .f64 a b = some (wordI (sg a && sg b) (sval a + sval b)) := by
    show ((Fl.D.read a).sum (Fl.D.read b)).map Fl.D.write = _
    rw [read_fin2 ha, read_fin2 hb, sum_fin, sval_sgn, sval_sgn]
  unfold fop; rw [e]
theorem sgn_not (s : Bool) (m : Nat) : sgn (!s) m = -sgn s m := by cases s <;> simp [sgn]
theorem sub_fin {a b : Nat} (ha : fin a) (hb : fin b) : fop .sub a b = wordI (sg a && !sg b) (sval a - sval b) := by
  have e : floatBits .sub .f64 a b = some (wordI (sg a && !sg b) (sval a - sval b)) := by
    show ((Fl.D.read a).sum (Fl.D.read b).opposite).map Fl.D.write = _
    rw [read_fin2 ha, read_fin2 hb]
    show ((Datum.number _ _ _).sum (Datum.number (!sg b) _ _)).map Fl.D.write = _
    rw [sum_fin, sgn_not, ← sval_sgn, ← sval_sgn, Int.sub_eq_add_neg]
  unfold fop; rw [e]
theorem blk_div (B j r : Nat) (hr : r < B) : (j * B + (B + r)) / B = j + 1 ∧ (j * B + (B + r)) % B = r := by
  have e : j * B + (B + r) = B * (j + 1) + r := by rw [Nat.mul_succ, Nat.mul_comm B j, Nat.add_assoc]
  rw [e]
  exact ⟨by rw [Nat.mul_add_div (by omega), Nat.div_eq_of_lt hr, Nat.add_zero], by rw [Nat.mul_add_mod, Nat.mod_eq_of_lt hr]⟩
theorem blk_mag (j r : Nat) (hj : j ≤ 2045) (hr : r < 4503599627370496) : mag (j * 4503599627370496 + (4503599627370496 + r)) = (4503599627370496 + r) * 2 ^ j := by
  obtain ⟨d1, d2⟩ := blk_div 4503599627370496 j r hr
  unfold mag fM fQ
  rw [d1, d2, show (j + 1) % 2048 = j + 1 from by omega, if_neg (by omega), Nat.add_sub_cancel, Nat.add_comm r]
theorem blk_lt (B j r : Nat) (hj : j ≤ 2045) (hr : r < 2 * B) : j * B + r < 2047 * B := by
  have := Nat.mul_le_mul_right B hj
  generalize j * B = u at *
  omega
theorem rung_exact (S q : Nat) (hS : S < 9007199254740992) (hq : q ≤ 2045) :
    Fl.rung (S * 2 ^ q) 0 < 9218868437227405312 ∧ mag (Fl.rung (S * 2 ^ q) 0) = S * 2 ^ q := by
  by_cases h : S * 2 ^ q < 4503599627370496
  · have e := rung_small (S * 2 ^ q) 0 (by omega)
    rw [Nat.pow_zero, Nat.mul_one] at e
    rw [e]
    refine ⟨by omega, ?_⟩
    generalize S * 2 ^ q = r at *
    have e1 : r / 4503599627370496 % 2048 = 0 := by omega
    unfold mag fM fQ
    rw [e1, if_pos rfl, Nat.pow_zero, Nat.mul_one]
    omega
  · have h0 : S ≠ 0 := by intro h0; rw [h0, Nat.zero_mul] at h; omega
    have hl : S.log2 < 53 := (Nat.log2_lt h0).2 hS
    have hN : (S * 2 ^ q).log2 = S.log2 + q := Fl.log2_mul_pow S q h0
    have hN52 : 52 ≤ S.log2 + q := by
      rw [← hN]
      exact (Nat.le_log2 (by omega)).2 (by omega)
    have hlo := Nat.log2_self_le h0
    have hhi := Fl.lt_log2 S
    generalize S.log2 = l at *
    have e1 : S * 2 ^ q = (S * 2 ^ (52 - l)) * 2 ^ (q - (52 - l) + 0) := by
      rw [Nat.mul_assoc, ← Nat.pow_add, show 52 - l + (q - (52 - l) + 0) = q from by omega]
    have h1 : 4503599627370496 ≤ S * 2 ^ (52 - l) := by
      have := Nat.mul_le_mul_right (2 ^ (52 - l)) hlo
      rw [← Nat.pow_add, show l + (52 - l) = 52 from by omega] at this
      exact this
    have h2 : S * 2 ^ (52 - l) < 9007199254740992 := by
      have := Nat.mul_lt_mul_of_pos_right hhi (Nat.two_pow_pos (52 - l))
      rw [← Nat.pow_add, show l + 1 + (52 - l) = 53 from by omega] at this
      exact this
    have hj : q - (52 - l) ≤ 2045 := by omega
    have hr := rung_val (S * 2 ^ (52 - l)) (q - (52 - l)) 0 h1 h2
    rw [← e1] at hr
    rw [hr]
    generalize q - (52 - l) = j at *
    rw [e1]
    generalize S * 2 ^ (52 - l) = S' at *
    have hm : j * 4503599627370496 + S' < 9218868437227405312 := blk_lt 4503599627370496 j S' hj h2
    rw [Nat.min_eq_left (Nat.le_of_lt hm)]
    refine ⟨hm, ?_⟩
    clear hm
    obtain ⟨r, rfl⟩ : ∃ r, S' = 4503599627370496 + r := ⟨S' - 4503599627370496, by omega⟩
    rw [Nat.add_zero]
    exact blk_mag j r hj (by omega)
theorem mag_mod (b : Nat) : mag (b % 9223372036854775808) = mag b := by
  have e : b % 9223372036854775808 / 4503599627370496 % 2048 = b / 4503599627370496 % 2048 := by omega
  have e2 : b % 9223372036854775808 % 4503599627370496 = b % 4503599627370496 := by omega
  unfold mag fM fQ
  rw [e, e2]
theorem fQ_fin {b : Nat} (h : fin b) : fQ b ≤ 2045 := by
  have := h.2
  unfold fQ
  omega
theorem mag_inj {a b : Nat} (ha : a < 9218868437227405312) (hb : b < 9218868437227405312) (h : mag a = mag b) : a = b := by
  rcases Nat.lt_trichotomy a b with h1 | h1 | h1
  · have := mag_mono h1 hb; omega
  · exact h1
  · have := mag_mono h1 ha; omega
theorem rung_mag {b : Nat} (h : fin b) : Fl.rung (mag b) 0 = b % 9223372036854775808 := by
  obtain ⟨h1, h2⟩ := rung_exact (fM b) (fQ b) (fM_lt b) (fQ_fin h)
  exact mag_inj h1 h.2 (by rw [mag_mod]; exact h2)
theorem wordI_word (s : Bool) (x : Int) : wordI s x = if (if x = 0 then s else decide (x < 0)) = true then 9223372036854775808 + Fl.rung x.natAbs 0 else Fl.rung x.natAbs 0 := by
  unfold wordI
  cases (if x = 0 then s else decide (x < 0))
  · rfl
  · rw [word_true]; rfl
/-- A number that the format has. -/
theorem wordI_fin (s : Bool) (x : Int) (S q : Nat) (hx : x.natAbs = S * 2 ^ q) (hS : S < 9007199254740992) (hq : q ≤ 2045) :
    fin (wordI s x) ∧ sval (wordI s x) = x ∧ sg (wordI s x) = (if x = 0 then s else decide (x < 0)) := by
  obtain ⟨h1, h2⟩ := rung_exact S q hS hq
  rw [← hx] at h1 h2
  rw [wordI_word]
  generalize Fl.rung x.natAbs 0 = r at *
  by_cases hs : (if x = 0 then s else decide (x < 0)) = true
  · rw [if_pos hs]
    have hg : sg (9223372036854775808 + r) = true := by unfold sg; rw [decide_eq_true_iff]; omega
    refine ⟨⟨by omega, by omega⟩, ?_, by rw [hs, hg]⟩
    unfold sval
    have e : mag (9223372036854775808 + r) = x.natAbs := by
      rw [← mag_mod, show (9223372036854775808 + r) % 9223372036854775808 = r from by omega, h2]
    rw [if_pos (by omega), e]
    by_cases h0 : x = 0
    · rw [h0]; rfl
    · rw [if_neg h0, decide_eq_true_iff] at hs; omega
  · rw [if_neg hs]
    have hs' : (if x = 0 then s else decide (x < 0)) = false := Bool.eq_false_iff.mpr hs
    have hg : sg r = false := by unfold sg; rw [decide_eq_false_iff_not]; omega
    refine ⟨⟨by omega, by omega⟩, ?_, by rw [hs', hg]⟩
    unfold sval
    rw [if_neg (by omega), h2]
    by_cases h0 : x = 0
    · rw [h0]; rfl
    · rw [if_neg h0, decide_eq_false_iff_not] at hs'; omega
/-- A finite word is its number's. -/
theorem word_of {b : Nat} (h : fin b) : wordI (sg b) (sval b) = b := by
  rw [wordI_word, sval_abs, rung_mag h]
  have := h.1
  by_cases hb : 9223372036854775808 ≤ b
  · have hg : sg b = true := decide_eq_true hb
    have hv : sval b = -(mag b : Int) := by unfold sval; rw [if_pos hb]
    rw [if_pos, show 9223372036854775808 + b % 9223372036854775808 = b from by omega]
    rw [hg, hv]
    split
    · rfl
    · rw [decide_eq_true_iff]; omega
  · have hg : sg b = false := decide_eq_false hb
    have hv : sval b = (mag b : Int) := by unfold sval; rw [if_neg hb]
    rw [if_neg, show b % 9223372036854775808 = b from by omega]
    rw [hg, hv]
    split
    · simp
    · rw [decide_eq_true_iff]; omega

/-! ### Whole numbers -/
def U : Nat := 2 ^ 1074
theorem U_eq (k : Nat) (hk : k = 1074) : U = 2 ^ k := by rw [hk, U]
theorem U_pos : 0 < U := by
  obtain ⟨k, hk⟩ : ∃ k : Nat, k = 1074 := ⟨_, rfl⟩
  rw [U_eq k hk]
  exact Nat.two_pow_pos k
def Wz (z : Int) : Nat := floatOfInt .f64 z
theorem Wz_eq (z : Int) : Wz z = wordI false (z * (U : Int)) := by
  have h0 : Wz z = Fl.D.nearest (decide (z < 0)) z.natAbs 0 := rfl
  rw [h0]
  clear h0
  rw [Fl.nearest_eq _ _ _ 0 (by omega)]
  rw [show ((0 : Int) + 1074 + ((0 : Nat) : Int)).toNat = 1074 from rfl, ← U_eq 1074 rfl]
  have hU := U_pos
  unfold wordI
  have e4 : (z * (U : Int)).natAbs = z.natAbs * U := by rw [Int.natAbs_mul, Int.natAbs_natCast]
  rw [e4]
  generalize U = p at *
  congr 1
  by_cases h0 : z = 0
  · subst h0; simp
  · have : z * (p : Int) ≠ 0 := Int.mul_ne_zero h0 (by omega)
    rw [if_neg this, Bool.eq_iff_iff, decide_eq_true_iff, decide_eq_true_iff]
    constructor
    · intro h; exact Int.mul_neg_of_neg_of_pos h (by omega)
    · intro h
      rcases Int.lt_or_le z 0 with h2 | h2
      · exact h2
      · have := Int.mul_nonneg h2 (show (0 : Int) ≤ p by omega); omega
theorem Wz_fin {z : Int} (h : z.natAbs ≤ 9007199254740992) : fin (Wz z) ∧ sval (Wz z) = z * (U : Int) ∧ (sg (Wz z) = true → z < 0) := by
  have hU := U_pos
  have key : fin (Wz z) ∧ sval (Wz z) = z * (U : Int) ∧ sg (Wz z) = (if z * (U : Int) = 0 then false else decide (z * (U : Int) < 0)) := by
    rw [Wz_eq]
    by_cases h2 : z.natAbs < 9007199254740992
    · obtain ⟨k, hk⟩ : ∃ k : Nat, k = 1074 := ⟨_, rfl⟩
      exact wordI_fin false _ z.natAbs k (by rw [Int.natAbs_mul, Int.natAbs_natCast, U_eq k hk]) h2 (by omega)
    · obtain ⟨k, hk⟩ : ∃ k : Nat, k = 1074 := ⟨_, rfl⟩
      refine wordI_fin false _ 4503599627370496 (k + 1) ?_ (by omega) (by omega)
      rw [Int.natAbs_mul, Int.natAbs_natCast, show z.natAbs = 4503599627370496 * 2 from by omega, Nat.mul_assoc, U_eq k hk, Nat.mul_comm 2, ← Nat.pow_succ]
  obtain ⟨k1, k2, k3⟩ := key
  refine ⟨k1, k2, fun hs => ?_⟩
  rw [k3] at hs
  split at hs
  · cases hs
  · rw [decide_eq_true_iff] at hs
    rcases Int.lt_or_le z 0 with h2 | h2
    · exact h2
    · have := Int.mul_nonneg h2 (show (0 : Int) ≤ (U : Int) by omega); omega
theorem Wz_add {a b : Int} (ha : a.natAbs ≤ 9007199254740992) (hb : b.natAbs ≤ 9007199254740992) : fop .add (Wz a) (Wz b) = Wz (a + b) := by
  obtain ⟨a1, a2, a3⟩ := Wz_fin ha
  obtain ⟨b1, b2, b3⟩ := Wz_fin hb
  rw [add_fin a1 b1, a2, b2, ← Int.add_mul, Wz_eq (a + b)]
  have hU := U_pos
  unfold wordI
  congr 1
  by_cases h0 : (a + b) * (U : Int) = 0
  · rw [if_pos h0, if_pos h0]
    rcases Int.mul_eq_zero.1 h0 with h1 | h1
    · rw [Bool.and_eq_false_iff]
      cases hs : sg (Wz a) with
      | false => exact .inl rfl
      | true =>
        refine .inr ?_
        have := a3 hs
        cases ht : sg (Wz b) with
        | false => rfl
        | true => have := b3 ht; omega
    · omega
  · rw [if_neg h0, if_neg h0]
end
section
open Go.RowKit
theorem Wz_cn {z : Int} (h : z.natAbs ≤ 9007199254740992) : cn (Wz z) = Wz z := by
  have := (Wz_fin h).1.2
  unfold cn
  rw [if_neg (by omega)]

end
end Go.Proofs.YtppebegleedifaaDoor.Fw
