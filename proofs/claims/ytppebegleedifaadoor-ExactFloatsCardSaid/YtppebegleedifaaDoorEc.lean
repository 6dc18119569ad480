/- Complex numbers of whole parts: operations in a walk; Mul. -/
import Derived.Test.YtppebegleedifaaDoorEb
import Derived.Test.YtppebegleedifaaDoorWb
namespace Go.Proofs.YtppebegleedifaaDoor
open Go.RowKit Fw

def isArI : BinOp → Bool
  | .add | .sub | .mul => true
  | _ => false
theorem fb_some (op : BinOp) (ho : isArI op = true) {u v : Nat} (hu : fin u) (hv : fin v) : floatBits op .f64 u v = some (fop op u v) := by
  have key : ∃ r, floatBits op .f64 u v = some r := by
    cases op <;> first | (cases ho; done) | skip
    · exact ⟨_, by show ((Fl.D.read u).sum (Fl.D.read v)).map Fl.D.write = _; rw [read_fin2 hu, read_fin2 hv]; rfl⟩
    · exact ⟨_, by show ((Fl.D.read u).sum (Fl.D.read v).opposite).map Fl.D.write = _; rw [read_fin2 hu, read_fin2 hv]; rfl⟩
    · exact ⟨_, by show ((Fl.D.read u).product (Fl.D.read v)).map Fl.D.write = _; rw [read_fin2 hu, read_fin2 hv]; rfl⟩
  obtain ⟨r, h⟩ := key
  rw [h]
  unfold fop
  rw [h]
/-- One operation on whole floats, as a rule for the walk. -/
theorem run_opI (op : BinOp) (ho : isArI op = true) (t : TypeId) {u v : Nat} (hu : fin u) (hv : fin v) (w : World) :
    (binOp op t (.float .f64 u) (.float .f64 v)).run Tryd.prog w = .ok (.float .f64 (fop op u v)) w := run_float_arith w op t .f64 u v _ (fb_some op ho hu hv)
theorem ex_mulI {u v : Nat} {a b : Int} (hu : IsI u a) (hv : IsI v b) (h : (a * b).natAbs ≤ 9007199254740992) : ∃ r, (∀ w t, (binOp .mul t (.float .f64 u) (.float .f64 v)).run Tryd.prog w = .ok (.float .f64 r) w) ∧ IsI r (a * b) :=
  ⟨_, fun w t => run_opI .mul rfl t hu.1 hv.1 w, isI_mul hu hv h⟩
theorem ex_addI {u v : Nat} {a b : Int} (hu : IsI u a) (hv : IsI v b) (h : (a + b).natAbs ≤ 9007199254740992) : ∃ r, (∀ w t, (binOp .add t (.float .f64 u) (.float .f64 v)).run Tryd.prog w = .ok (.float .f64 r) w) ∧ IsI r (a + b) :=
  ⟨_, fun w t => run_opI .add rfl t hu.1 hv.1 w, isI_add hu hv h⟩
theorem ex_subI {u v : Nat} {a b : Int} (hu : IsI u a) (hv : IsI v b) (h : (a - b).natAbs ≤ 9007199254740992) : ∃ r, (∀ w t, (binOp .sub t (.float .f64 u) (.float .f64 v)).run Tryd.prog w = .ok (.float .f64 r) w) ∧ IsI r (a - b) :=
  ⟨_, fun w t => run_opI .sub rfl t hu.1 hv.1 w, isI_sub hu hv h⟩
/-- The value z is the complex number of these whole parts. -/
def IsC (z : Value) (a b : Int) : Prop := ∃ u v, z = .complex .f64 u v ∧ IsI u a ∧ IsI v b
theorem cmul_any (u v r s : Nat) (a b c d : Int) (w : World) (hu : IsI u a) (hv : IsI v b) (hr : IsI r c) (hs : IsI s d)
    (b1 : (a * c).natAbs ≤ 9007199254740992) (b2 : (b * d).natAbs ≤ 9007199254740992) (b3 : (a * d).natAbs ≤ 9007199254740992) (b4 : (b * c).natAbs ≤ 9007199254740992)
    (b5 : (a * c - b * d).natAbs ≤ 9007199254740992) (b6 : (a * d + b * c).natAbs ≤ 9007199254740992) :
    Calls Tryd.prog 55 #[.complex .f64 u v, .complex .f64 r s] w fun e w' => ∃ p q, e = .returned (.complex .f64 p q) ∧ IsI p (a * c - b * d) ∧ IsI q (a * d + b * c) ∧ w = w' := by
  obtain ⟨p1, h1, k1⟩ := ex_mulI hu hr b1
  obtain ⟨p2, h2, k2⟩ := ex_mulI hv hs b2
  obtain ⟨p3, h3, k3⟩ := ex_mulI hu hs b3
  obtain ⟨p4, h4, k4⟩ := ex_mulI hv hr b4
  obtain ⟨p5, h5, k5⟩ := ex_subI k1 k2 b5
  obtain ⟨p6, h6, k6⟩ := ex_addI k3 k4 b6
  have K5 := Lib.hid k5
  have K6 := Lib.hid k6
  clear hu hv hr hs b1 b2 b3 b4 b5 b6 k1 k2 k3 k4 k5 k6
  go_enter Tryd.func55, Tryd.ntmps55
  go_wp2_with fail
  go_ret
  exact ⟨p5, p6, rfl, K5.out, K6.out, rfl⟩
end Go.Proofs.YtppebegleedifaaDoor
