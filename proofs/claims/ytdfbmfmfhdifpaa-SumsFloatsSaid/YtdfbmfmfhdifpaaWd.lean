/- Words for the walks: floats as canonical words, slices that are read, what an operation on floats leaves. -/
import Derived.Test.YtdfbmfmfhdifpaaFl
import Derived.Test.YtdfbmfmfhdifpaaRows
import Derived.WalkKit
import Derived.WalkSpells
import Derived.WalkLawsBesides
import Derived.Laws.FloatArith
import Derived.Deep.Draws
import Derived.Lib.Hide
namespace Go.Proofs.Ytdfbmfmfhdifpaa
open Go.RowKit

/-- The word of each NaN. -/
def nanW : Nat := 9221120237041090560
/-- A float's word, those of every NaN made one. -/
def cn (b : Nat) : Nat := if b % 9223372036854775808 > 9218868437227405312 then nanW else b
/-- An operation of floats, its NaN made one. -/
def fop (op : BinOp) (a b : Nat) : Nat := match floatBits op .f64 a b with | some r => r | none => nanW

def isArith : BinOp → Bool
  | .add | .sub | .mul | .quo => true
  | _ => false

theorem nan_cut (x y t : Nat) : (Question.nanBits .f64 x y).cut t < 2 ^ 64 ∧ cn ((Question.nanBits .f64 x y).cut t) = nanW := by
  have h1 : (t / 2) % (2 ^ 52 - 1) < 2 ^ 52 - 1 := Nat.mod_lt _ (by decide)
  have h2 : t % 2 < 2 := Nat.mod_lt _ (by decide)
  have e : (Question.nanBits .f64 x y).cut t = (t % 2) * 2 ^ 63 + 0x7ff0000000000000 + 1 + (t / 2) % (2 ^ 52 - 1) := rfl
  rw [e]
  generalize (t / 2) % (2 ^ 52 - 1) = u at *
  generalize t % 2 = s at *
  constructor
  · omega
  · unfold cn
    rw [if_pos]
    omega

theorem word_cn (neg : Bool) (r : Nat) (h : r ≤ 9218868437227405312) : cn (Fl.D.word neg r) = Fl.D.word neg r := by
  unfold cn Ieee.Format.word
  rw [Fl.D_sign, if_neg]
  cases neg <;> simp <;> omega

theorem write_cn (d : Ieee.Datum) (h : d.isNaN = false) : cn (Fl.D.write d) = Fl.D.write d := by
  cases d with
  | number s m p =>
    have hp : -1074 - (((-1074 - p).toNat : Nat) : Int) ≤ p := by omega
    show cn (Fl.D.nearest s m p) = Fl.D.nearest s m p
    rw [Fl.nearest_eq s m p _ hp]
    apply word_cn
    unfold Fl.rung
    exact Nat.min_le_right _ _
  | infinity s =>
    show cn (Fl.D.word s Fl.D.infRung) = Fl.D.word s Fl.D.infRung
    apply word_cn
    rw [Fl.D_inf]
    exact Nat.le_refl _
  | nan s f => cases h

theorem sum_num {x y d : Ieee.Datum} (h : x.sum y = some d) : d.isNaN = false := by
  cases x <;> cases y <;> simp only [Ieee.Datum.sum] at h <;> first | (cases h; done) | skip
  all_goals first
    | (injection h with h; subst h; rfl)
    | (split at h <;> first | (cases h; done) | (injection h with h; subst h; rfl))

theorem product_num {x y d : Ieee.Datum} (h : x.product y = some d) : d.isNaN = false := by
  cases x <;> cases y <;> simp only [Ieee.Datum.product] at h <;> first | (cases h; done) | skip
  all_goals first
    | (injection h with h; subst h; rfl)
    | (split at h <;> first | (cases h; done) | (injection h with h; subst h; rfl))

theorem quotient_num {k : Nat} {x y d : Ieee.Datum} (h : x.quotient k y = some d) : d.isNaN = false := by
  cases x <;> cases y <;> simp only [Ieee.Datum.quotient] at h <;> first | (cases h; done) | skip
  all_goals first
    | (injection h with h; subst h; rfl)
    | (split at h <;> first | (cases h; done) | (injection h with h; subst h; rfl) | (split at h <;> first | (cases h; done) | (injection h with h; subst h; rfl)))

theorem floatBits_cn {op : BinOp} {a b r : Nat} (h : floatBits op .f64 a b = some r) : r < 2 ^ 64 ∧ cn r = r := by
  constructor
  · have := floatBits_wf h
    simpa [Lit.wf] using this
  · unfold floatBits at h
    have key : ∀ o : Option Ieee.Datum, o.map Fl.D.write = some r → (∀ d, o = some d → d.isNaN = false) → cn r = r := by
      intro o ho hn
      cases o with
      | none => cases ho
      | some d => injection ho with ho; rw [← ho]; exact write_cn d (hn d rfl)
    cases op <;> simp only at h <;> first | (cases h; done) | skip
    · exact key _ h fun d => sum_num
    · exact key _ h fun d => sum_num
    · exact key _ h fun d => product_num
    · exact key _ h fun d => quotient_num

/-- What an operation on two floats does: a word that is the operation's, the NaN's own bits aside; some draws. -/
theorem run_fop {P : Program} (w : World) (op : BinOp) (t : TypeId) (a b : Nat) (ho : isArith op = true) :
    ∃ r n, (binOp op t (.float .f64 a) (.float .f64 b)).run P w = .ok (.float .f64 r) (w.drewN n) ∧ r < 2 ^ 64 ∧ cn r = fop op a b := by
  cases h : floatBits op .f64 a b with
  | some r =>
    obtain ⟨h1, h2⟩ := floatBits_cn h
    exact ⟨r, 0, run_float_arith w op t .f64 a b r h, h1, by unfold fop; rw [h]; exact h2⟩
  | none =>
    obtain ⟨h1, h2⟩ := nan_cut a b (w.tape w.drawn (.nanBits .f64 a b))
    refine ⟨_, 1, ?_, h1, by unfold fop; rw [h]; exact h2⟩
    unfold floatBits at h
    cases op <;> simp only at h <;> first | (cases ho; done) | skip
    all_goals
      simp [binOp, Op.floatArith, h, choose, Sem.run, Question.forced, Result.andThen, World.drewN]

theorem wp_fop {P : Program} {w : World} {o : Oper} {a : Act} {K : Act → World → Prop} {Q : Exit → Act → World → Prop}
    (op : BinOp) (xt yt : TypeId) (x y : Operand) (hop : o.op = Op.binOp op xt x y yt) (ha : isArith op = true) (p q : Nat)
    (hx : a.eval x = .float .f64 p) (hy : a.eval y = .float .f64 q)
    (hK : ∀ r n, r < 2 ^ 64 → cn r = fop op p q → K (a.put o.dst (.float .f64 r)) (w.drewN n)) :
    o.wp P a w K Q := by
  obtain ⟨r, n, hrun, h1, h2⟩ := run_fop (P := P) w op xt p q ha
  unfold Oper.wp
  have he : (eqGuard op xt x y (.float .f64 p) (.float .f64 q)).run P w = .ok () w := by
    cases op <;> first | (cases ha; done) | rfl
  simp [execOp, hop, hx, hy, he, hrun, Result.andThen]
  exact hK r n h1 h2

theorem wpList_fop {P : Program} {w : World} {ops : Array Oper} {rest : List Oper} {o : Oper} {a : Act} {Q : Exit → Act → World → Prop}
    (hg : o.guard = none) (op : BinOp) (xt yt : TypeId) (x y : Operand) (hop : o.op = Op.binOp op xt x y yt) (ha : isArith op = true) (p q : Nat)
    (hx : a.eval x = .float .f64 p) (hy : a.eval y = .float .f64 q)
    (hK : ∀ r n, r < 2 ^ 64 → cn r = fop op p q → wpList P ops Q rest (a.put o.dst (.float .f64 r)) (w.drewN n)) :
    wpList P ops Q (o :: rest) a w :=
  wpList_plain hg fun _ hK' => wp_fop op xt yt x y hop ha p q hx hy fun r n h1 h2 => hK' _ _ (hK r n h1 h2)

theorem read_nan (a : Nat) (h : a % 9223372036854775808 > 9218868437227405312) : (Fl.D.read a).isNaN = true := by
  unfold Ieee.Format.read
  simp only [Fl.D_sign, Fl.D_bin, Fl.D_inf]
  rw [if_neg (by omega), if_neg (by omega), if_neg (by omega)]
  rfl
theorem nan_of {d : Ieee.Datum} (h : d.isNaN = true) : ∃ s f, d = .nan s f := by
  cases d <;> first | exact ⟨_, _, rfl⟩ | cases h
theorem arith_nan_left (op : BinOp) (a b : Nat) (h : (Fl.D.read a).isNaN = true) : floatBits op .f64 a b = none := by
  obtain ⟨s, f, e⟩ := nan_of h
  have e' : (FloatKind.f64.format).read a = .nan s f := e
  unfold floatBits
  cases op <;> simp only [Ieee.Format.add, Ieee.Format.sub, Ieee.Format.mul, Ieee.Format.div, e']
  · cases (FloatKind.f64.format).read b <;> rfl
  · cases ((FloatKind.f64.format).read b).opposite <;> rfl
  · cases (FloatKind.f64.format).read b <;> rfl
  · cases (FloatKind.f64.format).read b <;> rfl
theorem arith_nan_right (op : BinOp) (a b : Nat) (h : (Fl.D.read b).isNaN = true) : floatBits op .f64 a b = none := by
  obtain ⟨s, f, e⟩ := nan_of h
  have e' : (FloatKind.f64.format).read b = .nan s f := e
  unfold floatBits
  cases op <;> simp only [Ieee.Format.add, Ieee.Format.sub, Ieee.Format.mul, Ieee.Format.div, e', Ieee.Datum.opposite]
  · cases (FloatKind.f64.format).read a <;> rfl
  · cases (FloatKind.f64.format).read a <;> rfl
  · cases (FloatKind.f64.format).read a <;> rfl
  · cases (FloatKind.f64.format).read a <;> rfl
theorem nanW_nan : (Fl.D.read nanW).isNaN = true := by decide
theorem fop_cn (op : BinOp) (a b : Nat) : fop op (cn a) (cn b) = fop op a b := by
  by_cases ha : a % 9223372036854775808 > 9218868437227405312
  · have e : cn a = nanW := by unfold cn; rw [if_pos ha]
    unfold fop
    rw [e, arith_nan_left op _ _ nanW_nan, arith_nan_left op _ _ (read_nan a ha)]
  · have e : cn a = a := by unfold cn; rw [if_neg ha]
    rw [e]
    by_cases hb : b % 9223372036854775808 > 9218868437227405312
    · have e : cn b = nanW := by unfold cn; rw [if_pos hb]
      unfold fop
      rw [e, arith_nan_right op _ _ nanW_nan, arith_nan_right op _ _ (read_nan b hb)]
    · have e : cn b = b := by unfold cn; rw [if_neg hb]
      rw [e]
theorem fop_congr (op : BinOp) {a b a' b' : Nat} (ha : cn a = cn a') (hb : cn b = cn b') : fop op a b = fop op a' b' := by
  rw [← fop_cn op a b, ha, hb, fop_cn]
theorem cn_nanW : cn nanW = nanW := by decide
theorem cn_cn (a : Nat) : cn (cn a) = cn a := by
  by_cases ha : a % 9223372036854775808 > 9218868437227405312
  · have e : cn a = nanW := by unfold cn; rw [if_pos ha]
    rw [e, cn_nanW]
  · have e : cn a = a := by unfold cn; rw [if_neg ha]
    rw [e, e]
theorem cn_fop (op : BinOp) (a b : Nat) : cn (fop op a b) = fop op a b := by
  unfold fop
  split
  · rename_i r hr
    exact (floatBits_cn hr).2
  · exact cn_nanW

end Go.Proofs.Ytdfbmfmfhdifpaa
