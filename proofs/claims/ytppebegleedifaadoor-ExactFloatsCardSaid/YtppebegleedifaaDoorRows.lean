/-
  NARROWER THAN 'FOR EVERY INPUT', by the rows' own cells (each row's printed sentence says how): ExactTransforms: laid · ExactConvolutions: laid · ExactSmall: laid · ExactBack: laid · ExactProduct: laid · ExactRules: laid · ExactFloats: laid.
  DERIVED. THE GIVEN ROWS OF THIS SEAT. 7 by the template 'for every input the law returns true; each argument reads behind the call as it read before'; 0 by the template 'total and deterministic' (their statements: YtppebegleedifaaDoorTotals.lean).
  GIVEN WITH THE SEED: the statements are not yours to turn. If you find one false, say at which input.
  Laid BY PROGRAM, IN A SANDBOX (cutbox-rows.mjs): the forced cells as the released guide's own fill.sh prints them over the translation 00e698a7b2a5f950… (all of the seat's roots in one cut). By AI agents, Wed Nov 11 2026. No macro, syntax, notation, axiom, sorry.
-/
import Derived.Test.YtppebegleedifaaDoorChecked
import GoSem.Claim
import GoSem.ClaimJoined
import GoSem.ClaimMapViews
import Derived.JoinedTies
import Derived.KernelRfl
namespace Go.Proofs.YtppebegleedifaaDoor
/- THE CELL 'sum', in the pinned program and in every row, IS THE sha256 OF THE DUMP (.gsa) THAT YtppebegleedifaaDoorProg.lean LOADS. Nothing in Lean hashes anything: it is a label: what it is worth is what the hold of that sum in a sandbox is worth. -/
noncomputable def Tryd.pinned : Pinned := { name := "ytppebegleedifaadoor", sum := "00e698a7b2a5f9502f018c3c7b8c71dbba80a7652bb1d003d53181384cfdd0a9", checked := Tryd.checked }
namespace Rows
def none {H : Type} : Left H := { results := [], args := [] }

/- WHAT THE LISTED PACKAGE-LEVEL VARIABLES READ AS WHEN THE CALL BEGINS. Each datum BY PROGRAM (the guide's laid-datum.mjs) off the statement by which the dump's own 'gosem.cut.vars' lays the variable. In a bare row this is a premise. The card (YtppebegleedifaaDoorCards.lean) ties it to the program's text. -/
def laid_timbre_api_ErrShort {H : Type} : DataW H := .iface "*errors.errorString" (.ptr (.agg [.lit (.string [116, 105, 109, 98, 114, 101, 58, 32, 116, 111, 111, 32, 115, 104, 111, 114, 116])]))
def laid_timbre_api_ErrVarint {H : Type} : DataW H := .iface "*errors.errorString" (.ptr (.agg [.lit (.string [116, 105, 109, 98, 114, 101, 58, 32, 118, 97, 114, 105, 110, 116])]))
def laid_timbre_api_ErrLimit {H : Type} : DataW H := .iface "*errors.errorString" (.ptr (.agg [.lit (.string [116, 105, 109, 98, 114, 101, 58, 32, 108, 105, 109, 105, 116])]))
def laid_timbre_api_ErrTail {H : Type} : DataW H := .iface "*errors.errorString" (.ptr (.agg [.lit (.string [116, 105, 109, 98, 114, 101, 58, 32, 116, 97, 105, 108])]))
def laid_timbre_api_ErrRange {H : Type} : DataW H := .iface "*errors.errorString" (.ptr (.agg [.lit (.string [116, 105, 109, 98, 114, 101, 58, 32, 114, 97, 110, 103, 101])]))
def laid_timbre_api_ErrText {H : Type} : DataW H := .iface "*errors.errorString" (.ptr (.agg [.lit (.string [116, 105, 109, 98, 114, 101, 58, 32, 116, 101, 120, 116])]))
def laid_timbre_api_ErrLength {H : Type} : DataW H := .iface "*errors.errorString" (.ptr (.agg [.lit (.string [116, 105, 109, 98, 114, 101, 58, 32, 108, 101, 110, 103, 116, 104])]))
def laid_timbre_api_ErrOrder {H : Type} : DataW H := .iface "*errors.errorString" (.ptr (.agg [.lit (.string [116, 105, 109, 98, 114, 101, 58, 32, 111, 114, 100, 101, 114])]))
def laid_timbre_api_ErrProgram {H : Type} : DataW H := .iface "*errors.errorString" (.ptr (.agg [.lit (.string [116, 105, 109, 98, 114, 101, 58, 32, 112, 114, 111, 103, 114, 97, 109])]))
def laid_timbre_api_ErrState {H : Type} : DataW H := .iface "*errors.errorString" (.ptr (.agg [.lit (.string [116, 105, 109, 98, 114, 101, 58, 32, 115, 116, 97, 116, 101])]))
def laid_timbre_api_ErrRoot {H : Type} : DataW H := .iface "*errors.errorString" (.ptr (.agg [.lit (.string [116, 105, 109, 98, 114, 101, 58, 32, 114, 111, 111, 116])]))
def laid_timbre_api_ErrPerm {H : Type} : DataW H := .iface "*errors.errorString" (.ptr (.agg [.lit (.string [116, 105, 109, 98, 114, 101, 58, 32, 112, 101, 114, 109, 117, 116, 97, 116, 105, 111, 110])]))
def laid_timbre_api_ErrNumber {H : Type} : DataW H := .iface "*errors.errorString" (.ptr (.agg [.lit (.string [116, 105, 109, 98, 114, 101, 58, 32, 110, 117, 109, 98, 101, 114])]))
def laid_timbre_api_ErrWorkers {H : Type} : DataW H := .iface "*errors.errorString" (.ptr (.agg [.lit (.string [116, 105, 109, 98, 114, 101, 58, 32, 119, 111, 114, 107, 101, 114, 115])]))
def laid_timbre_api_ErrDone {H : Type} : DataW H := .iface "*errors.errorString" (.ptr (.agg [.lit (.string [116, 105, 109, 98, 114, 101, 58, 32, 100, 111, 110, 101])]))
def laid_timbre_api_ErrUnknown {H : Type} : DataW H := .iface "*errors.errorString" (.ptr (.agg [.lit (.string [116, 105, 109, 98, 114, 101, 58, 32, 117, 110, 107, 110, 111, 119, 110])]))
def laid_timbre_api_ErrMode {H : Type} : DataW H := .iface "*errors.errorString" (.ptr (.agg [.lit (.string [116, 105, 109, 98, 114, 101, 58, 32, 109, 111, 100, 101])]))
def laid_timbre_api_ErrCommand {H : Type} : DataW H := .iface "*errors.errorString" (.ptr (.agg [.lit (.string [116, 105, 109, 98, 114, 101, 58, 32, 99, 111, 109, 109, 97, 110, 100])]))
def laid_timbre_api_ErrExact {H : Type} : DataW H := .iface "*errors.errorString" (.ptr (.agg [.lit (.string [116, 105, 109, 98, 114, 101, 58, 32, 101, 120, 97, 99, 116])]))

/-- 'timbrelaw26.ExactTransforms': WHATEVER THE INPUT: true; the input reads as it did. -/
def exactTransformsSpec : ChangeSpec := { name := "exactTransforms", fn := fun _ => fun
  | [d1, d2] => { results := [.lit (.bool true)], args := [d1, d2] }
  | _ => none }
def exactTransformsRow : OpenClaim := { program := "ytppebegleedifaadoor", sum := "00e698a7b2a5f9502f018c3c7b8c71dbba80a7652bb1d003d53181384cfdd0a9", func := "timbre/timbrelaw26.ExactTransforms", spec := "exactTransforms", inPlace := ["math/bits.Add64"], unfollowed := true, recurses := true, named := ["timbre/api.ErrMode", "timbre/api.ErrLength", "timbre/api.ErrRoot", "math/bits.divideError", "math/bits.overflowError", "timbre/api.ErrExact", "timbre/api.ErrShort", "timbre/api.ErrVarint", "timbre/api.ErrLimit", "timbre/api.ErrTail", "timbre/api.ErrRange", "timbre/api.ErrText", "timbre/api.ErrOrder", "timbre/api.ErrProgram", "timbre/api.ErrState", "timbre/api.ErrPerm", "timbre/api.ErrNumber", "timbre/api.ErrWorkers", "timbre/api.ErrDone", "timbre/api.ErrUnknown", "timbre/api.ErrCommand"], apart := false, laid := [("timbre/api.ErrShort", laid_timbre_api_ErrShort), ("timbre/api.ErrVarint", laid_timbre_api_ErrVarint), ("timbre/api.ErrLimit", laid_timbre_api_ErrLimit), ("timbre/api.ErrTail", laid_timbre_api_ErrTail), ("timbre/api.ErrRange", laid_timbre_api_ErrRange), ("timbre/api.ErrText", laid_timbre_api_ErrText), ("timbre/api.ErrLength", laid_timbre_api_ErrLength), ("timbre/api.ErrOrder", laid_timbre_api_ErrOrder), ("timbre/api.ErrProgram", laid_timbre_api_ErrProgram), ("timbre/api.ErrState", laid_timbre_api_ErrState), ("timbre/api.ErrRoot", laid_timbre_api_ErrRoot), ("timbre/api.ErrPerm", laid_timbre_api_ErrPerm), ("timbre/api.ErrNumber", laid_timbre_api_ErrNumber), ("timbre/api.ErrWorkers", laid_timbre_api_ErrWorkers), ("timbre/api.ErrDone", laid_timbre_api_ErrDone), ("timbre/api.ErrUnknown", laid_timbre_api_ErrUnknown), ("timbre/api.ErrMode", laid_timbre_api_ErrMode), ("timbre/api.ErrCommand", laid_timbre_api_ErrCommand), ("timbre/api.ErrExact", laid_timbre_api_ErrExact)] }
def ExactTransformsSaid : Prop := exactTransformsRow.holds Tryd.pinned (OpenSpec.ofChange exactTransformsSpec)

/-- ITS FALSE NEIGHBOUR: 'it returns false'. Refute it at one input. -/
def exactTransformsWrong : ChangeSpec := { name := "exactTransforms", fn := fun _ => fun
  | [d1, d2] => { results := [.lit (.bool false)], args := [d1, d2] }
  | _ => none }
def ExactTransformsWrongFalsely : Prop := exactTransformsRow.holds Tryd.pinned (OpenSpec.ofChange exactTransformsWrong)

/-- 'timbrelaw26.ExactConvolutions': WHATEVER THE INPUT: true; the input reads as it did. -/
def exactConvolutionsSpec : ChangeSpec := { name := "exactConvolutions", fn := fun _ => fun
  | [d1, d2] => { results := [.lit (.bool true)], args := [d1, d2] }
  | _ => none }
def exactConvolutionsRow : OpenClaim := { program := "ytppebegleedifaadoor", sum := "00e698a7b2a5f9502f018c3c7b8c71dbba80a7652bb1d003d53181384cfdd0a9", func := "timbre/timbrelaw26.ExactConvolutions", spec := "exactConvolutions", inPlace := ["math/bits.Add64"], unfollowed := true, recurses := true, named := ["timbre/api.ErrMode", "timbre/api.ErrLength", "timbre/api.ErrRoot", "math/bits.divideError", "math/bits.overflowError", "timbre/api.ErrExact", "timbre/api.ErrShort", "timbre/api.ErrVarint", "timbre/api.ErrLimit", "timbre/api.ErrTail", "timbre/api.ErrRange", "timbre/api.ErrText", "timbre/api.ErrOrder", "timbre/api.ErrProgram", "timbre/api.ErrState", "timbre/api.ErrPerm", "timbre/api.ErrNumber", "timbre/api.ErrWorkers", "timbre/api.ErrDone", "timbre/api.ErrUnknown", "timbre/api.ErrCommand"], apart := false, laid := [("timbre/api.ErrShort", laid_timbre_api_ErrShort), ("timbre/api.ErrVarint", laid_timbre_api_ErrVarint), ("timbre/api.ErrLimit", laid_timbre_api_ErrLimit), ("timbre/api.ErrTail", laid_timbre_api_ErrTail), ("timbre/api.ErrRange", laid_timbre_api_ErrRange), ("timbre/api.ErrText", laid_timbre_api_ErrText), ("timbre/api.ErrLength", laid_timbre_api_ErrLength), ("timbre/api.ErrOrder", laid_timbre_api_ErrOrder), ("timbre/api.ErrProgram", laid_timbre_api_ErrProgram), ("timbre/api.ErrState", laid_timbre_api_ErrState), ("timbre/api.ErrRoot", laid_timbre_api_ErrRoot), ("timbre/api.ErrPerm", laid_timbre_api_ErrPerm), ("timbre/api.ErrNumber", laid_timbre_api_ErrNumber), ("timbre/api.ErrWorkers", laid_timbre_api_ErrWorkers), ("timbre/api.ErrDone", laid_timbre_api_ErrDone), ("timbre/api.ErrUnknown", laid_timbre_api_ErrUnknown), ("timbre/api.ErrMode", laid_timbre_api_ErrMode), ("timbre/api.ErrCommand", laid_timbre_api_ErrCommand), ("timbre/api.ErrExact", laid_timbre_api_ErrExact)] }
def ExactConvolutionsSaid : Prop := exactConvolutionsRow.holds Tryd.pinned (OpenSpec.ofChange exactConvolutionsSpec)

/-- ITS FALSE NEIGHBOUR: 'it returns false'. Refute it at one input. -/
def exactConvolutionsWrong : ChangeSpec := { name := "exactConvolutions", fn := fun _ => fun
  | [d1, d2] => { results := [.lit (.bool false)], args := [d1, d2] }
  | _ => none }
def ExactConvolutionsWrongFalsely : Prop := exactConvolutionsRow.holds Tryd.pinned (OpenSpec.ofChange exactConvolutionsWrong)

/-- 'timbrelaw26.ExactSmall': WHATEVER THE INPUT: true; the input reads as it did. -/
def exactSmallSpec : ChangeSpec := { name := "exactSmall", fn := fun _ => fun
  | [d1, d2] => { results := [.lit (.bool true)], args := [d1, d2] }
  | _ => none }
def exactSmallRow : OpenClaim := { program := "ytppebegleedifaadoor", sum := "00e698a7b2a5f9502f018c3c7b8c71dbba80a7652bb1d003d53181384cfdd0a9", func := "timbre/timbrelaw26.ExactSmall", spec := "exactSmall", inPlace := ["math/bits.Add64"], unfollowed := true, recurses := true, named := ["timbre/api.ErrMode", "timbre/api.ErrLength", "timbre/api.ErrRoot", "math/bits.divideError", "math/bits.overflowError", "timbre/api.ErrExact", "timbre/api.ErrShort", "timbre/api.ErrVarint", "timbre/api.ErrLimit", "timbre/api.ErrTail", "timbre/api.ErrRange", "timbre/api.ErrText", "timbre/api.ErrOrder", "timbre/api.ErrProgram", "timbre/api.ErrState", "timbre/api.ErrPerm", "timbre/api.ErrNumber", "timbre/api.ErrWorkers", "timbre/api.ErrDone", "timbre/api.ErrUnknown", "timbre/api.ErrCommand"], apart := false, laid := [("timbre/api.ErrShort", laid_timbre_api_ErrShort), ("timbre/api.ErrVarint", laid_timbre_api_ErrVarint), ("timbre/api.ErrLimit", laid_timbre_api_ErrLimit), ("timbre/api.ErrTail", laid_timbre_api_ErrTail), ("timbre/api.ErrRange", laid_timbre_api_ErrRange), ("timbre/api.ErrText", laid_timbre_api_ErrText), ("timbre/api.ErrLength", laid_timbre_api_ErrLength), ("timbre/api.ErrOrder", laid_timbre_api_ErrOrder), ("timbre/api.ErrProgram", laid_timbre_api_ErrProgram), ("timbre/api.ErrState", laid_timbre_api_ErrState), ("timbre/api.ErrRoot", laid_timbre_api_ErrRoot), ("timbre/api.ErrPerm", laid_timbre_api_ErrPerm), ("timbre/api.ErrNumber", laid_timbre_api_ErrNumber), ("timbre/api.ErrWorkers", laid_timbre_api_ErrWorkers), ("timbre/api.ErrDone", laid_timbre_api_ErrDone), ("timbre/api.ErrUnknown", laid_timbre_api_ErrUnknown), ("timbre/api.ErrMode", laid_timbre_api_ErrMode), ("timbre/api.ErrCommand", laid_timbre_api_ErrCommand), ("timbre/api.ErrExact", laid_timbre_api_ErrExact)] }
def ExactSmallSaid : Prop := exactSmallRow.holds Tryd.pinned (OpenSpec.ofChange exactSmallSpec)

/-- ITS FALSE NEIGHBOUR: 'it returns false'. Refute it at one input. -/
def exactSmallWrong : ChangeSpec := { name := "exactSmall", fn := fun _ => fun
  | [d1, d2] => { results := [.lit (.bool false)], args := [d1, d2] }
  | _ => none }
def ExactSmallWrongFalsely : Prop := exactSmallRow.holds Tryd.pinned (OpenSpec.ofChange exactSmallWrong)

/-- 'timbrelaw26.ExactBack': WHATEVER THE INPUT: true; the input reads as it did. -/
def exactBackSpec : ChangeSpec := { name := "exactBack", fn := fun _ => fun
  | [d] => { results := [.lit (.bool true)], args := [d] }
  | _ => none }
def exactBackRow : OpenClaim := { program := "ytppebegleedifaadoor", sum := "00e698a7b2a5f9502f018c3c7b8c71dbba80a7652bb1d003d53181384cfdd0a9", func := "timbre/timbrelaw26.ExactBack", spec := "exactBack", inPlace := ["math/bits.Add64"], unfollowed := true, recurses := true, named := ["timbre/api.ErrMode", "timbre/api.ErrLength", "timbre/api.ErrRoot", "math/bits.divideError", "math/bits.overflowError", "timbre/api.ErrExact"], apart := false, laid := [("timbre/api.ErrLength", laid_timbre_api_ErrLength), ("timbre/api.ErrRoot", laid_timbre_api_ErrRoot), ("timbre/api.ErrMode", laid_timbre_api_ErrMode), ("timbre/api.ErrExact", laid_timbre_api_ErrExact)] }
def ExactBackSaid : Prop := exactBackRow.holds Tryd.pinned (OpenSpec.ofChange exactBackSpec)

/-- ITS FALSE NEIGHBOUR: 'it returns false'. Refute it at one input. -/
def exactBackWrong : ChangeSpec := { name := "exactBack", fn := fun _ => fun
  | [d] => { results := [.lit (.bool false)], args := [d] }
  | _ => none }
def ExactBackWrongFalsely : Prop := exactBackRow.holds Tryd.pinned (OpenSpec.ofChange exactBackWrong)

/-- 'timbrelaw26.ExactProduct': WHATEVER THE INPUT: true; the input reads as it did. -/
def exactProductSpec : ChangeSpec := { name := "exactProduct", fn := fun _ => fun
  | [d1, d2] => { results := [.lit (.bool true)], args := [d1, d2] }
  | _ => none }
def exactProductRow : OpenClaim := { program := "ytppebegleedifaadoor", sum := "00e698a7b2a5f9502f018c3c7b8c71dbba80a7652bb1d003d53181384cfdd0a9", func := "timbre/timbrelaw26.ExactProduct", spec := "exactProduct", inPlace := ["math/bits.Add64"], unfollowed := true, recurses := true, named := ["timbre/api.ErrMode", "timbre/api.ErrLength", "timbre/api.ErrRoot", "math/bits.divideError", "math/bits.overflowError", "timbre/api.ErrExact", "timbre/api.ErrShort", "timbre/api.ErrVarint", "timbre/api.ErrLimit", "timbre/api.ErrTail", "timbre/api.ErrRange", "timbre/api.ErrText", "timbre/api.ErrOrder", "timbre/api.ErrProgram", "timbre/api.ErrState", "timbre/api.ErrPerm", "timbre/api.ErrNumber", "timbre/api.ErrWorkers", "timbre/api.ErrDone", "timbre/api.ErrUnknown", "timbre/api.ErrCommand"], apart := false, laid := [("timbre/api.ErrShort", laid_timbre_api_ErrShort), ("timbre/api.ErrVarint", laid_timbre_api_ErrVarint), ("timbre/api.ErrLimit", laid_timbre_api_ErrLimit), ("timbre/api.ErrTail", laid_timbre_api_ErrTail), ("timbre/api.ErrRange", laid_timbre_api_ErrRange), ("timbre/api.ErrText", laid_timbre_api_ErrText), ("timbre/api.ErrLength", laid_timbre_api_ErrLength), ("timbre/api.ErrOrder", laid_timbre_api_ErrOrder), ("timbre/api.ErrProgram", laid_timbre_api_ErrProgram), ("timbre/api.ErrState", laid_timbre_api_ErrState), ("timbre/api.ErrRoot", laid_timbre_api_ErrRoot), ("timbre/api.ErrPerm", laid_timbre_api_ErrPerm), ("timbre/api.ErrNumber", laid_timbre_api_ErrNumber), ("timbre/api.ErrWorkers", laid_timbre_api_ErrWorkers), ("timbre/api.ErrDone", laid_timbre_api_ErrDone), ("timbre/api.ErrUnknown", laid_timbre_api_ErrUnknown), ("timbre/api.ErrMode", laid_timbre_api_ErrMode), ("timbre/api.ErrCommand", laid_timbre_api_ErrCommand), ("timbre/api.ErrExact", laid_timbre_api_ErrExact)] }
def ExactProductSaid : Prop := exactProductRow.holds Tryd.pinned (OpenSpec.ofChange exactProductSpec)

/-- ITS FALSE NEIGHBOUR: 'it returns false'. Refute it at one input. -/
def exactProductWrong : ChangeSpec := { name := "exactProduct", fn := fun _ => fun
  | [d1, d2] => { results := [.lit (.bool false)], args := [d1, d2] }
  | _ => none }
def ExactProductWrongFalsely : Prop := exactProductRow.holds Tryd.pinned (OpenSpec.ofChange exactProductWrong)

/-- 'timbrelaw26.ExactRules': WHATEVER THE INPUT: true; the input reads as it did. -/
def exactRulesSpec : ChangeSpec := { name := "exactRules", fn := fun _ => fun
  | [d1, d2, d3] => { results := [.lit (.bool true)], args := [d1, d2, d3] }
  | _ => none }
def exactRulesRow : OpenClaim := { program := "ytppebegleedifaadoor", sum := "00e698a7b2a5f9502f018c3c7b8c71dbba80a7652bb1d003d53181384cfdd0a9", func := "timbre/timbrelaw26.ExactRules", spec := "exactRules", inPlace := ["math/bits.Add64"], unfollowed := true, recurses := true, named := ["timbre/api.ErrMode", "timbre/api.ErrLength", "timbre/api.ErrRoot", "math/bits.divideError", "math/bits.overflowError", "timbre/api.ErrExact", "timbre/api.ErrShort", "timbre/api.ErrVarint", "timbre/api.ErrLimit", "timbre/api.ErrTail", "timbre/api.ErrRange", "timbre/api.ErrText", "timbre/api.ErrOrder", "timbre/api.ErrProgram", "timbre/api.ErrState", "timbre/api.ErrPerm", "timbre/api.ErrNumber", "timbre/api.ErrWorkers", "timbre/api.ErrDone", "timbre/api.ErrUnknown", "timbre/api.ErrCommand"], apart := false, laid := [("timbre/api.ErrShort", laid_timbre_api_ErrShort), ("timbre/api.ErrVarint", laid_timbre_api_ErrVarint), ("timbre/api.ErrLimit", laid_timbre_api_ErrLimit), ("timbre/api.ErrTail", laid_timbre_api_ErrTail), ("timbre/api.ErrRange", laid_timbre_api_ErrRange), ("timbre/api.ErrText", laid_timbre_api_ErrText), ("timbre/api.ErrLength", laid_timbre_api_ErrLength), ("timbre/api.ErrOrder", laid_timbre_api_ErrOrder), ("timbre/api.ErrProgram", laid_timbre_api_ErrProgram), ("timbre/api.ErrState", laid_timbre_api_ErrState), ("timbre/api.ErrRoot", laid_timbre_api_ErrRoot), ("timbre/api.ErrPerm", laid_timbre_api_ErrPerm), ("timbre/api.ErrNumber", laid_timbre_api_ErrNumber), ("timbre/api.ErrWorkers", laid_timbre_api_ErrWorkers), ("timbre/api.ErrDone", laid_timbre_api_ErrDone), ("timbre/api.ErrUnknown", laid_timbre_api_ErrUnknown), ("timbre/api.ErrMode", laid_timbre_api_ErrMode), ("timbre/api.ErrCommand", laid_timbre_api_ErrCommand), ("timbre/api.ErrExact", laid_timbre_api_ErrExact)] }
def ExactRulesSaid : Prop := exactRulesRow.holds Tryd.pinned (OpenSpec.ofChange exactRulesSpec)

/-- ITS FALSE NEIGHBOUR: 'it returns false'. Refute it at one input. -/
def exactRulesWrong : ChangeSpec := { name := "exactRules", fn := fun _ => fun
  | [d1, d2, d3] => { results := [.lit (.bool false)], args := [d1, d2, d3] }
  | _ => none }
def ExactRulesWrongFalsely : Prop := exactRulesRow.holds Tryd.pinned (OpenSpec.ofChange exactRulesWrong)

/-- 'timbrelaw26.ExactFloats': WHATEVER THE INPUT: true; the input reads as it did. -/
def exactFloatsSpec : ChangeSpec := { name := "exactFloats", fn := fun _ => fun
  | [d1, d2] => { results := [.lit (.bool true)], args := [d1, d2] }
  | _ => none }
def exactFloatsRow : OpenClaim := { program := "ytppebegleedifaadoor", sum := "00e698a7b2a5f9502f018c3c7b8c71dbba80a7652bb1d003d53181384cfdd0a9", func := "timbre/timbrelaw26.ExactFloats", spec := "exactFloats", inPlace := ["math/bits.Add64", "math.Float64frombits"], unfollowed := true, recurses := true, named := ["timbre/api.ErrMode", "timbre/api.ErrLength", "timbre/api.ErrRoot", "math/bits.divideError", "math/bits.overflowError", "timbre/api.ErrExact"], apart := false, laid := [("timbre/api.ErrLength", laid_timbre_api_ErrLength), ("timbre/api.ErrRoot", laid_timbre_api_ErrRoot), ("timbre/api.ErrMode", laid_timbre_api_ErrMode), ("timbre/api.ErrExact", laid_timbre_api_ErrExact)] }
def ExactFloatsSaid : Prop := exactFloatsRow.holds Tryd.pinned (OpenSpec.ofChange exactFloatsSpec)

/-- ITS FALSE NEIGHBOUR: 'it returns false'. Refute it at one input. -/
def exactFloatsWrong : ChangeSpec := { name := "exactFloats", fn := fun _ => fun
  | [d1, d2] => { results := [.lit (.bool false)], args := [d1, d2] }
  | _ => none }
def ExactFloatsWrongFalsely : Prop := exactFloatsRow.holds Tryd.pinned (OpenSpec.ofChange exactFloatsWrong)

/- THE SECOND FORM. 'bulk': how many values and letters a reading holds, each counted each time it is reached (what is shared counts as often as it is met; a slice's spare places count too). A statement '..UptoSaid' is the law's where the arguments, and the package variables that the reading takes, are together of bulk at most 1048576: NARROWER than '..Said'. Prove '..Said' where nothing that the law and all that it calls make is longer than what came in: it says more and counts as full. Else prove '..UptoSaid'. A law counts once. -/
mutual
def uptoBulk {H : Type} : DataW H → Nat
  | .lit (.string bytes) => bytes.length + 1
  | .lit _ => 1
  | .nil => 1
  | .ptr d => uptoBulk d + 1
  | .slice elems spare => uptoBulkAll elems + uptoBulkAll spare + 1
  | .agg parts => uptoBulkAll parts + 1
  | .iface _ d => uptoBulk d + 1
  | .map entries => uptoBulkEntries entries + 1
  | .held _ => 1
def uptoBulkAll {H : Type} : List (DataW H) → Nat
  | [] => 0
  | d :: r => uptoBulk d + uptoBulkAll r
def uptoBulkEntries {H : Type} : List (Lit × DataW H) → Nat
  | [] => 0
  | x :: r => uptoBulkEntry x + uptoBulkEntries r
def uptoBulkEntry {H : Type} : Lit × DataW H → Nat
  | (.string bytes, d) => bytes.length + uptoBulk d + 1
  | (_, d) => uptoBulk d + 1
 end
def uptoSmall : (H : Type) → List (DataW H) → Bool := fun _ ds => decide (uptoBulkAll ds ≤ 1048576)
def OpenSpec.upto (s : _root_.Go.ChangeSpec) : _root_.Go.OpenSpec := { _root_.Go.OpenSpec.ofChange s with cond := some uptoSmall }

/-- 'timbrelaw26.ExactTransforms', WHERE WHAT IT READS IS OF BULK AT MOST 1048576: true; the input reads as it did. -/
def exactTransformsUptoRow : OpenClaim := { program := "ytppebegleedifaadoor", sum := "00e698a7b2a5f9502f018c3c7b8c71dbba80a7652bb1d003d53181384cfdd0a9", func := "timbre/timbrelaw26.ExactTransforms", spec := "exactTransforms", inPlace := ["math/bits.Add64"], unfollowed := true, recurses := true, named := ["timbre/api.ErrMode", "timbre/api.ErrLength", "timbre/api.ErrRoot", "math/bits.divideError", "math/bits.overflowError", "timbre/api.ErrExact", "timbre/api.ErrShort", "timbre/api.ErrVarint", "timbre/api.ErrLimit", "timbre/api.ErrTail", "timbre/api.ErrRange", "timbre/api.ErrText", "timbre/api.ErrOrder", "timbre/api.ErrProgram", "timbre/api.ErrState", "timbre/api.ErrPerm", "timbre/api.ErrNumber", "timbre/api.ErrWorkers", "timbre/api.ErrDone", "timbre/api.ErrUnknown", "timbre/api.ErrCommand"], apart := false, laid := [("timbre/api.ErrShort", laid_timbre_api_ErrShort), ("timbre/api.ErrVarint", laid_timbre_api_ErrVarint), ("timbre/api.ErrLimit", laid_timbre_api_ErrLimit), ("timbre/api.ErrTail", laid_timbre_api_ErrTail), ("timbre/api.ErrRange", laid_timbre_api_ErrRange), ("timbre/api.ErrText", laid_timbre_api_ErrText), ("timbre/api.ErrLength", laid_timbre_api_ErrLength), ("timbre/api.ErrOrder", laid_timbre_api_ErrOrder), ("timbre/api.ErrProgram", laid_timbre_api_ErrProgram), ("timbre/api.ErrState", laid_timbre_api_ErrState), ("timbre/api.ErrRoot", laid_timbre_api_ErrRoot), ("timbre/api.ErrPerm", laid_timbre_api_ErrPerm), ("timbre/api.ErrNumber", laid_timbre_api_ErrNumber), ("timbre/api.ErrWorkers", laid_timbre_api_ErrWorkers), ("timbre/api.ErrDone", laid_timbre_api_ErrDone), ("timbre/api.ErrUnknown", laid_timbre_api_ErrUnknown), ("timbre/api.ErrMode", laid_timbre_api_ErrMode), ("timbre/api.ErrCommand", laid_timbre_api_ErrCommand), ("timbre/api.ErrExact", laid_timbre_api_ErrExact)], narrowed := true }
def ExactTransformsUptoSaid : Prop := exactTransformsUptoRow.holds Tryd.pinned (OpenSpec.upto exactTransformsSpec)

/-- 'timbrelaw26.ExactConvolutions', WHERE WHAT IT READS IS OF BULK AT MOST 1048576: true; the input reads as it did. -/
def exactConvolutionsUptoRow : OpenClaim := { program := "ytppebegleedifaadoor", sum := "00e698a7b2a5f9502f018c3c7b8c71dbba80a7652bb1d003d53181384cfdd0a9", func := "timbre/timbrelaw26.ExactConvolutions", spec := "exactConvolutions", inPlace := ["math/bits.Add64"], unfollowed := true, recurses := true, named := ["timbre/api.ErrMode", "timbre/api.ErrLength", "timbre/api.ErrRoot", "math/bits.divideError", "math/bits.overflowError", "timbre/api.ErrExact", "timbre/api.ErrShort", "timbre/api.ErrVarint", "timbre/api.ErrLimit", "timbre/api.ErrTail", "timbre/api.ErrRange", "timbre/api.ErrText", "timbre/api.ErrOrder", "timbre/api.ErrProgram", "timbre/api.ErrState", "timbre/api.ErrPerm", "timbre/api.ErrNumber", "timbre/api.ErrWorkers", "timbre/api.ErrDone", "timbre/api.ErrUnknown", "timbre/api.ErrCommand"], apart := false, laid := [("timbre/api.ErrShort", laid_timbre_api_ErrShort), ("timbre/api.ErrVarint", laid_timbre_api_ErrVarint), ("timbre/api.ErrLimit", laid_timbre_api_ErrLimit), ("timbre/api.ErrTail", laid_timbre_api_ErrTail), ("timbre/api.ErrRange", laid_timbre_api_ErrRange), ("timbre/api.ErrText", laid_timbre_api_ErrText), ("timbre/api.ErrLength", laid_timbre_api_ErrLength), ("timbre/api.ErrOrder", laid_timbre_api_ErrOrder), ("timbre/api.ErrProgram", laid_timbre_api_ErrProgram), ("timbre/api.ErrState", laid_timbre_api_ErrState), ("timbre/api.ErrRoot", laid_timbre_api_ErrRoot), ("timbre/api.ErrPerm", laid_timbre_api_ErrPerm), ("timbre/api.ErrNumber", laid_timbre_api_ErrNumber), ("timbre/api.ErrWorkers", laid_timbre_api_ErrWorkers), ("timbre/api.ErrDone", laid_timbre_api_ErrDone), ("timbre/api.ErrUnknown", laid_timbre_api_ErrUnknown), ("timbre/api.ErrMode", laid_timbre_api_ErrMode), ("timbre/api.ErrCommand", laid_timbre_api_ErrCommand), ("timbre/api.ErrExact", laid_timbre_api_ErrExact)], narrowed := true }
def ExactConvolutionsUptoSaid : Prop := exactConvolutionsUptoRow.holds Tryd.pinned (OpenSpec.upto exactConvolutionsSpec)

/-- 'timbrelaw26.ExactSmall', WHERE WHAT IT READS IS OF BULK AT MOST 1048576: true; the input reads as it did. -/
def exactSmallUptoRow : OpenClaim := { program := "ytppebegleedifaadoor", sum := "00e698a7b2a5f9502f018c3c7b8c71dbba80a7652bb1d003d53181384cfdd0a9", func := "timbre/timbrelaw26.ExactSmall", spec := "exactSmall", inPlace := ["math/bits.Add64"], unfollowed := true, recurses := true, named := ["timbre/api.ErrMode", "timbre/api.ErrLength", "timbre/api.ErrRoot", "math/bits.divideError", "math/bits.overflowError", "timbre/api.ErrExact", "timbre/api.ErrShort", "timbre/api.ErrVarint", "timbre/api.ErrLimit", "timbre/api.ErrTail", "timbre/api.ErrRange", "timbre/api.ErrText", "timbre/api.ErrOrder", "timbre/api.ErrProgram", "timbre/api.ErrState", "timbre/api.ErrPerm", "timbre/api.ErrNumber", "timbre/api.ErrWorkers", "timbre/api.ErrDone", "timbre/api.ErrUnknown", "timbre/api.ErrCommand"], apart := false, laid := [("timbre/api.ErrShort", laid_timbre_api_ErrShort), ("timbre/api.ErrVarint", laid_timbre_api_ErrVarint), ("timbre/api.ErrLimit", laid_timbre_api_ErrLimit), ("timbre/api.ErrTail", laid_timbre_api_ErrTail), ("timbre/api.ErrRange", laid_timbre_api_ErrRange), ("timbre/api.ErrText", laid_timbre_api_ErrText), ("timbre/api.ErrLength", laid_timbre_api_ErrLength), ("timbre/api.ErrOrder", laid_timbre_api_ErrOrder), ("timbre/api.ErrProgram", laid_timbre_api_ErrProgram), ("timbre/api.ErrState", laid_timbre_api_ErrState), ("timbre/api.ErrRoot", laid_timbre_api_ErrRoot), ("timbre/api.ErrPerm", laid_timbre_api_ErrPerm), ("timbre/api.ErrNumber", laid_timbre_api_ErrNumber), ("timbre/api.ErrWorkers", laid_timbre_api_ErrWorkers), ("timbre/api.ErrDone", laid_timbre_api_ErrDone), ("timbre/api.ErrUnknown", laid_timbre_api_ErrUnknown), ("timbre/api.ErrMode", laid_timbre_api_ErrMode), ("timbre/api.ErrCommand", laid_timbre_api_ErrCommand), ("timbre/api.ErrExact", laid_timbre_api_ErrExact)], narrowed := true }
def ExactSmallUptoSaid : Prop := exactSmallUptoRow.holds Tryd.pinned (OpenSpec.upto exactSmallSpec)

/-- 'timbrelaw26.ExactBack', WHERE WHAT IT READS IS OF BULK AT MOST 1048576: true; the input reads as it did. -/
def exactBackUptoRow : OpenClaim := { program := "ytppebegleedifaadoor", sum := "00e698a7b2a5f9502f018c3c7b8c71dbba80a7652bb1d003d53181384cfdd0a9", func := "timbre/timbrelaw26.ExactBack", spec := "exactBack", inPlace := ["math/bits.Add64"], unfollowed := true, recurses := true, named := ["timbre/api.ErrMode", "timbre/api.ErrLength", "timbre/api.ErrRoot", "math/bits.divideError", "math/bits.overflowError", "timbre/api.ErrExact"], apart := false, laid := [("timbre/api.ErrLength", laid_timbre_api_ErrLength), ("timbre/api.ErrRoot", laid_timbre_api_ErrRoot), ("timbre/api.ErrMode", laid_timbre_api_ErrMode), ("timbre/api.ErrExact", laid_timbre_api_ErrExact)], narrowed := true }
def ExactBackUptoSaid : Prop := exactBackUptoRow.holds Tryd.pinned (OpenSpec.upto exactBackSpec)

/-- 'timbrelaw26.ExactProduct', WHERE WHAT IT READS IS OF BULK AT MOST 1048576: true; the input reads as it did. -/
def exactProductUptoRow : OpenClaim := { program := "ytppebegleedifaadoor", sum := "00e698a7b2a5f9502f018c3c7b8c71dbba80a7652bb1d003d53181384cfdd0a9", func := "timbre/timbrelaw26.ExactProduct", spec := "exactProduct", inPlace := ["math/bits.Add64"], unfollowed := true, recurses := true, named := ["timbre/api.ErrMode", "timbre/api.ErrLength", "timbre/api.ErrRoot", "math/bits.divideError", "math/bits.overflowError", "timbre/api.ErrExact", "timbre/api.ErrShort", "timbre/api.ErrVarint", "timbre/api.ErrLimit", "timbre/api.ErrTail", "timbre/api.ErrRange", "timbre/api.ErrText", "timbre/api.ErrOrder", "timbre/api.ErrProgram", "timbre/api.ErrState", "timbre/api.ErrPerm", "timbre/api.ErrNumber", "timbre/api.ErrWorkers", "timbre/api.ErrDone", "timbre/api.ErrUnknown", "timbre/api.ErrCommand"], apart := false, laid := [("timbre/api.ErrShort", laid_timbre_api_ErrShort), ("timbre/api.ErrVarint", laid_timbre_api_ErrVarint), ("timbre/api.ErrLimit", laid_timbre_api_ErrLimit), ("timbre/api.ErrTail", laid_timbre_api_ErrTail), ("timbre/api.ErrRange", laid_timbre_api_ErrRange), ("timbre/api.ErrText", laid_timbre_api_ErrText), ("timbre/api.ErrLength", laid_timbre_api_ErrLength), ("timbre/api.ErrOrder", laid_timbre_api_ErrOrder), ("timbre/api.ErrProgram", laid_timbre_api_ErrProgram), ("timbre/api.ErrState", laid_timbre_api_ErrState), ("timbre/api.ErrRoot", laid_timbre_api_ErrRoot), ("timbre/api.ErrPerm", laid_timbre_api_ErrPerm), ("timbre/api.ErrNumber", laid_timbre_api_ErrNumber), ("timbre/api.ErrWorkers", laid_timbre_api_ErrWorkers), ("timbre/api.ErrDone", laid_timbre_api_ErrDone), ("timbre/api.ErrUnknown", laid_timbre_api_ErrUnknown), ("timbre/api.ErrMode", laid_timbre_api_ErrMode), ("timbre/api.ErrCommand", laid_timbre_api_ErrCommand), ("timbre/api.ErrExact", laid_timbre_api_ErrExact)], narrowed := true }
def ExactProductUptoSaid : Prop := exactProductUptoRow.holds Tryd.pinned (OpenSpec.upto exactProductSpec)

/-- 'timbrelaw26.ExactRules', WHERE WHAT IT READS IS OF BULK AT MOST 1048576: true; the input reads as it did. -/
def exactRulesUptoRow : OpenClaim := { program := "ytppebegleedifaadoor", sum := "00e698a7b2a5f9502f018c3c7b8c71dbba80a7652bb1d003d53181384cfdd0a9", func := "timbre/timbrelaw26.ExactRules", spec := "exactRules", inPlace := ["math/bits.Add64"], unfollowed := true, recurses := true, named := ["timbre/api.ErrMode", "timbre/api.ErrLength", "timbre/api.ErrRoot", "math/bits.divideError", "math/bits.overflowError", "timbre/api.ErrExact", "timbre/api.ErrShort", "timbre/api.ErrVarint", "timbre/api.ErrLimit", "timbre/api.ErrTail", "timbre/api.ErrRange", "timbre/api.ErrText", "timbre/api.ErrOrder", "timbre/api.ErrProgram", "timbre/api.ErrState", "timbre/api.ErrPerm", "timbre/api.ErrNumber", "timbre/api.ErrWorkers", "timbre/api.ErrDone", "timbre/api.ErrUnknown", "timbre/api.ErrCommand"], apart := false, laid := [("timbre/api.ErrShort", laid_timbre_api_ErrShort), ("timbre/api.ErrVarint", laid_timbre_api_ErrVarint), ("timbre/api.ErrLimit", laid_timbre_api_ErrLimit), ("timbre/api.ErrTail", laid_timbre_api_ErrTail), ("timbre/api.ErrRange", laid_timbre_api_ErrRange), ("timbre/api.ErrText", laid_timbre_api_ErrText), ("timbre/api.ErrLength", laid_timbre_api_ErrLength), ("timbre/api.ErrOrder", laid_timbre_api_ErrOrder), ("timbre/api.ErrProgram", laid_timbre_api_ErrProgram), ("timbre/api.ErrState", laid_timbre_api_ErrState), ("timbre/api.ErrRoot", laid_timbre_api_ErrRoot), ("timbre/api.ErrPerm", laid_timbre_api_ErrPerm), ("timbre/api.ErrNumber", laid_timbre_api_ErrNumber), ("timbre/api.ErrWorkers", laid_timbre_api_ErrWorkers), ("timbre/api.ErrDone", laid_timbre_api_ErrDone), ("timbre/api.ErrUnknown", laid_timbre_api_ErrUnknown), ("timbre/api.ErrMode", laid_timbre_api_ErrMode), ("timbre/api.ErrCommand", laid_timbre_api_ErrCommand), ("timbre/api.ErrExact", laid_timbre_api_ErrExact)], narrowed := true }
def ExactRulesUptoSaid : Prop := exactRulesUptoRow.holds Tryd.pinned (OpenSpec.upto exactRulesSpec)

/-- 'timbrelaw26.ExactFloats', WHERE WHAT IT READS IS OF BULK AT MOST 1048576: true; the input reads as it did. -/
def exactFloatsUptoRow : OpenClaim := { program := "ytppebegleedifaadoor", sum := "00e698a7b2a5f9502f018c3c7b8c71dbba80a7652bb1d003d53181384cfdd0a9", func := "timbre/timbrelaw26.ExactFloats", spec := "exactFloats", inPlace := ["math/bits.Add64", "math.Float64frombits"], unfollowed := true, recurses := true, named := ["timbre/api.ErrMode", "timbre/api.ErrLength", "timbre/api.ErrRoot", "math/bits.divideError", "math/bits.overflowError", "timbre/api.ErrExact"], apart := false, laid := [("timbre/api.ErrLength", laid_timbre_api_ErrLength), ("timbre/api.ErrRoot", laid_timbre_api_ErrRoot), ("timbre/api.ErrMode", laid_timbre_api_ErrMode), ("timbre/api.ErrExact", laid_timbre_api_ErrExact)], narrowed := true }
def ExactFloatsUptoSaid : Prop := exactFloatsUptoRow.holds Tryd.pinned (OpenSpec.upto exactFloatsSpec)

end Rows
end Go.Proofs.YtppebegleedifaaDoor
