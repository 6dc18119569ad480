/-
  No cell of these rows narrows 'for every input' (looked for: loops, veiled, ifaces, maps, wideKeys, modest, calm, conditions, laid).
  DERIVED. THE GIVEN ROWS OF THIS SEAT. 4 by the template 'for every input the law returns true; each argument reads behind the call as it read before'; 0 by the template 'total and deterministic' (their statements: YtdfbmfmfhdifpaaTotals.lean).
  GIVEN WITH THE SEED: the statements are not yours to turn. If you find one false, say at which input.
  Laid BY PROGRAM, IN A SANDBOX (cutbox-rows.mjs): the forced cells as the released guide's own fill.sh prints them over the translation bf8c80f2016d2534… (all of the seat's roots in one cut). By AI agents, Wed Nov 11 2026. No macro, syntax, notation, axiom, sorry.
-/
import Derived.Test.YtdfbmfmfhdifpaaChecked
import GoSem.Claim
import GoSem.ClaimJoined
import GoSem.ClaimMapViews
import Derived.JoinedTies
import Derived.KernelRfl
namespace Go.Proofs.Ytdfbmfmfhdifpaa
/- THE CELL 'sum', in the pinned program and in every row, IS THE sha256 OF THE DUMP (.gsa) THAT YtdfbmfmfhdifpaaProg.lean LOADS. Nothing in Lean hashes anything: it is a label: what it is worth is what the hold of that sum in a sandbox is worth. -/
noncomputable def Try.pinned : Pinned := { name := "ytdfbmfmfhdifpaa", sum := "bf8c80f2016d25342895525f30f2f868308e4f0c20d201e5ef9d1ad02f2ea96b", checked := Try.checked }
namespace Rows
def none {H : Type} : Left H := { results := [], args := [] }

/-- 'timbrelaw09.SumsFloats': WHATEVER THE INPUT: true; the input reads as it did. -/
def sumsFloatsSpec : ChangeSpec := { name := "sumsFloats", fn := fun _ => fun
  | [d] => { results := [.lit (.bool true)], args := [d] }
  | _ => none }
def sumsFloatsRow : OpenClaim := { program := "ytdfbmfmfhdifpaa", sum := "bf8c80f2016d25342895525f30f2f868308e4f0c20d201e5ef9d1ad02f2ea96b", func := "timbre/timbrelaw09.SumsFloats", spec := "sumsFloats", inPlace := ["math.Float64bits", "math.Float64frombits"], recurses := true, apart := false }
def SumsFloatsSaid : Prop := sumsFloatsRow.holds Try.pinned (OpenSpec.ofChange sumsFloatsSpec)

/-- ITS FALSE NEIGHBOUR: 'it returns false'. Refute it at one input. -/
def sumsFloatsWrong : ChangeSpec := { name := "sumsFloats", fn := fun _ => fun
  | [d] => { results := [.lit (.bool false)], args := [d] }
  | _ => none }
def SumsFloatsWrongFalsely : Prop := sumsFloatsRow.holds Try.pinned (OpenSpec.ofChange sumsFloatsWrong)

/-- 'timbrelaw09.SumsNoOrder': WHATEVER THE INPUT: true; the input reads as it did. -/
def sumsNoOrderSpec : ChangeSpec := { name := "sumsNoOrder", fn := fun _ => fun
  | [d1, d2, d3] => { results := [.lit (.bool true)], args := [d1, d2, d3] }
  | _ => none }
def sumsNoOrderRow : OpenClaim := { program := "ytdfbmfmfhdifpaa", sum := "bf8c80f2016d25342895525f30f2f868308e4f0c20d201e5ef9d1ad02f2ea96b", func := "timbre/timbrelaw09.SumsNoOrder", spec := "sumsNoOrder", inPlace := ["math.Float64bits", "math.Float64frombits"], recurses := true, apart := false }
def SumsNoOrderSaid : Prop := sumsNoOrderRow.holds Try.pinned (OpenSpec.ofChange sumsNoOrderSpec)

/-- ITS FALSE NEIGHBOUR: 'it returns false'. Refute it at one input. -/
def sumsNoOrderWrong : ChangeSpec := { name := "sumsNoOrder", fn := fun _ => fun
  | [d1, d2, d3] => { results := [.lit (.bool false)], args := [d1, d2, d3] }
  | _ => none }
def SumsNoOrderWrongFalsely : Prop := sumsNoOrderRow.holds Try.pinned (OpenSpec.ofChange sumsNoOrderWrong)

/-- 'timbrelaw09.SumsWhole': WHATEVER THE INPUT: true; the input reads as it did. -/
def sumsWholeSpec : ChangeSpec := { name := "sumsWhole", fn := fun _ => fun
  | [d] => { results := [.lit (.bool true)], args := [d] }
  | _ => none }
def sumsWholeRow : OpenClaim := { program := "ytdfbmfmfhdifpaa", sum := "bf8c80f2016d25342895525f30f2f868308e4f0c20d201e5ef9d1ad02f2ea96b", func := "timbre/timbrelaw09.SumsWhole", spec := "sumsWhole", inPlace := ["math.Float64bits", "math.Float64frombits"], recurses := true, apart := false }
def SumsWholeSaid : Prop := sumsWholeRow.holds Try.pinned (OpenSpec.ofChange sumsWholeSpec)

/-- ITS FALSE NEIGHBOUR: 'it returns false'. Refute it at one input. -/
def sumsWholeWrong : ChangeSpec := { name := "sumsWhole", fn := fun _ => fun
  | [d] => { results := [.lit (.bool false)], args := [d] }
  | _ => none }
def SumsWholeWrongFalsely : Prop := sumsWholeRow.holds Try.pinned (OpenSpec.ofChange sumsWholeWrong)

/-- 'timbrelaw09.SumsScaled': WHATEVER THE INPUT: true; the input reads as it did. -/
def sumsScaledSpec : ChangeSpec := { name := "sumsScaled", fn := fun _ => fun
  | [d1, d2] => { results := [.lit (.bool true)], args := [d1, d2] }
  | _ => none }
def sumsScaledRow : OpenClaim := { program := "ytdfbmfmfhdifpaa", sum := "bf8c80f2016d25342895525f30f2f868308e4f0c20d201e5ef9d1ad02f2ea96b", func := "timbre/timbrelaw09.SumsScaled", spec := "sumsScaled", inPlace := ["math.Float64bits", "math.Float64frombits"], recurses := true, apart := false }
def SumsScaledSaid : Prop := sumsScaledRow.holds Try.pinned (OpenSpec.ofChange sumsScaledSpec)

/-- ITS FALSE NEIGHBOUR: 'it returns false'. Refute it at one input. -/
def sumsScaledWrong : ChangeSpec := { name := "sumsScaled", fn := fun _ => fun
  | [d1, d2] => { results := [.lit (.bool false)], args := [d1, d2] }
  | _ => none }
def SumsScaledWrongFalsely : Prop := sumsScaledRow.holds Try.pinned (OpenSpec.ofChange sumsScaledWrong)

/- THE SECOND FORM. 'bulk': how many values and letters a reading holds, each counted each time it is reached (what is shared counts as often as it is met; a slice's spare places count too). A statement '..UptoSaid' is the law's where the arguments, and the package variables that the reading takes, are together of bulk at most 1048576: NARROWER than '..Said'. Prove '..Said' where nothing that the law and all that it calls make is longer than what came in: it says more and counts as full. Else prove '..UptoSaid'. A law counts once. -/
mutual
def uptoBulk {H : Type} : DataW H → Nat
  | .lit (.string bytes) => bytes.length + 1
  | .lit _ => 1
  | .nil => 1
  | .ptr d => uptoBulk d + 1
  | .slice elems spare => uptoBulkAll elems + uptoBulkAll spare + 1
  | .agg parts => uptoBulkAll parts + 1
  | .iface _ d => uptoBulk d + 1
  | .map entries => uptoBulkEntries entries + 1
  | .held _ => 1
def uptoBulkAll {H : Type} : List (DataW H) → Nat
  | [] => 0
  | d :: r => uptoBulk d + uptoBulkAll r
def uptoBulkEntries {H : Type} : List (Lit × DataW H) → Nat
  | [] => 0
  | x :: r => uptoBulkEntry x + uptoBulkEntries r
def uptoBulkEntry {H : Type} : Lit × DataW H → Nat
  | (.string bytes, d) => bytes.length + uptoBulk d + 1
  | (_, d) => uptoBulk d + 1
 end
def uptoSmall : (H : Type) → List (DataW H) → Bool := fun _ ds => decide (uptoBulkAll ds ≤ 1048576)
def OpenSpec.upto (s : _root_.Go.ChangeSpec) : _root_.Go.OpenSpec := { _root_.Go.OpenSpec.ofChange s with cond := some uptoSmall }

/-- 'timbrelaw09.SumsFloats', WHERE WHAT IT READS IS OF BULK AT MOST 1048576: true; the input reads as it did. -/
def sumsFloatsUptoRow : OpenClaim := { program := "ytdfbmfmfhdifpaa", sum := "bf8c80f2016d25342895525f30f2f868308e4f0c20d201e5ef9d1ad02f2ea96b", func := "timbre/timbrelaw09.SumsFloats", spec := "sumsFloats", inPlace := ["math.Float64bits", "math.Float64frombits"], recurses := true, apart := false, narrowed := true }
def SumsFloatsUptoSaid : Prop := sumsFloatsUptoRow.holds Try.pinned (OpenSpec.upto sumsFloatsSpec)

/-- 'timbrelaw09.SumsNoOrder', WHERE WHAT IT READS IS OF BULK AT MOST 1048576: true; the input reads as it did. -/
def sumsNoOrderUptoRow : OpenClaim := { program := "ytdfbmfmfhdifpaa", sum := "bf8c80f2016d25342895525f30f2f868308e4f0c20d201e5ef9d1ad02f2ea96b", func := "timbre/timbrelaw09.SumsNoOrder", spec := "sumsNoOrder", inPlace := ["math.Float64bits", "math.Float64frombits"], recurses := true, apart := false, narrowed := true }
def SumsNoOrderUptoSaid : Prop := sumsNoOrderUptoRow.holds Try.pinned (OpenSpec.upto sumsNoOrderSpec)

/-- 'timbrelaw09.SumsWhole', WHERE WHAT IT READS IS OF BULK AT MOST 1048576: true; the input reads as it did. -/
def sumsWholeUptoRow : OpenClaim := { program := "ytdfbmfmfhdifpaa", sum := "bf8c80f2016d25342895525f30f2f868308e4f0c20d201e5ef9d1ad02f2ea96b", func := "timbre/timbrelaw09.SumsWhole", spec := "sumsWhole", inPlace := ["math.Float64bits", "math.Float64frombits"], recurses := true, apart := false, narrowed := true }
def SumsWholeUptoSaid : Prop := sumsWholeUptoRow.holds Try.pinned (OpenSpec.upto sumsWholeSpec)

/-- 'timbrelaw09.SumsScaled', WHERE WHAT IT READS IS OF BULK AT MOST 1048576: true; the input reads as it did. -/
def sumsScaledUptoRow : OpenClaim := { program := "ytdfbmfmfhdifpaa", sum := "bf8c80f2016d25342895525f30f2f868308e4f0c20d201e5ef9d1ad02f2ea96b", func := "timbre/timbrelaw09.SumsScaled", spec := "sumsScaled", inPlace := ["math.Float64bits", "math.Float64frombits"], recurses := true, apart := false, narrowed := true }
def SumsScaledUptoSaid : Prop := sumsScaledUptoRow.holds Try.pinned (OpenSpec.upto sumsScaledSpec)

end Rows
end Go.Proofs.Ytdfbmfmfhdifpaa
