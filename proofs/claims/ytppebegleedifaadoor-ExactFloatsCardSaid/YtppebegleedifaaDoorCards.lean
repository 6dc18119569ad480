/-
  DERIVED. GIVEN WITH THE SEED: THE CARDS: each row of YtppebegleedifaaDoorRows.lean that lists a variable, with what it lists TIED to the program's text (the seventh form; the later family's looks); each row that meets fmt, with fmt's text TOLD by the authors' own Lean function (tested against real Go, not proved from fmt's source: count such statements apart). THE CARD IS WHAT COUNTS. Prove the row's statement (the work); the ties are given (YtppebegleedifaaDoorTie.lean); close each card by the builder's one call (the guide's Derived/Test/ToyasCard.lean, 'card_holds'). Laid BY PROGRAM, IN A SANDBOX (cutbox-door.mjs). By AI agents, Wed Nov 11 2026. No macro, syntax, notation, axiom, sorry.
-/
import Derived.Test.YtppebegleedifaaDoorRows
import GoSem.ClaimSeven
namespace Go.Proofs.YtppebegleedifaaDoor
namespace Rows

/-- THE TIED CARD OF 'timbrelaw26.ExactTransforms'. -/
def exactTransformsCard : Claim7 := { stood := { row := exactTransformsRow, standIns := [], harness := (true, "09c19d681245daaa11b039011db708a4dbde0281d4fe927197cf58d99cd61b83"), looks := true }, kinds := [], alts := [], laidByText := true, laidKinds := [.sentinel, .sentinel, .sentinel, .sentinel, .sentinel, .sentinel, .sentinel, .sentinel, .sentinel, .sentinel, .sentinel, .sentinel, .sentinel, .sentinel, .sentinel, .sentinel, .sentinel, .sentinel, .sentinel], laidTests := true, laidLooks := .later }
def ExactTransformsCardSaid : Prop := Claim7.holds Tryd.pinned (.plain (OpenSpec.ofChange exactTransformsSpec)) exactTransformsCard

/-- THE TIED CARD OF 'timbrelaw26.ExactConvolutions'. -/
def exactConvolutionsCard : Claim7 := { stood := { row := exactConvolutionsRow, standIns := [], harness := (true, "09c19d681245daaa11b039011db708a4dbde0281d4fe927197cf58d99cd61b83"), looks := true }, kinds := [], alts := [], laidByText := true, laidKinds := [.sentinel, .sentinel, .sentinel, .sentinel, .sentinel, .sentinel, .sentinel, .sentinel, .sentinel, .sentinel, .sentinel, .sentinel, .sentinel, .sentinel, .sentinel, .sentinel, .sentinel, .sentinel, .sentinel], laidTests := true, laidLooks := .later }
def ExactConvolutionsCardSaid : Prop := Claim7.holds Tryd.pinned (.plain (OpenSpec.ofChange exactConvolutionsSpec)) exactConvolutionsCard

/-- THE TIED CARD OF 'timbrelaw26.ExactSmall'. -/
def exactSmallCard : Claim7 := { stood := { row := exactSmallRow, standIns := [], harness := (true, "09c19d681245daaa11b039011db708a4dbde0281d4fe927197cf58d99cd61b83"), looks := true }, kinds := [], alts := [], laidByText := true, laidKinds := [.sentinel, .sentinel, .sentinel, .sentinel, .sentinel, .sentinel, .sentinel, .sentinel, .sentinel, .sentinel, .sentinel, .sentinel, .sentinel, .sentinel, .sentinel, .sentinel, .sentinel, .sentinel, .sentinel], laidTests := true, laidLooks := .later }
def ExactSmallCardSaid : Prop := Claim7.holds Tryd.pinned (.plain (OpenSpec.ofChange exactSmallSpec)) exactSmallCard

/-- THE TIED CARD OF 'timbrelaw26.ExactBack'. -/
def exactBackCard : Claim7 := { stood := { row := exactBackRow, standIns := [], harness := (true, "09c19d681245daaa11b039011db708a4dbde0281d4fe927197cf58d99cd61b83"), looks := true }, kinds := [], alts := [], laidByText := true, laidKinds := [.sentinel, .sentinel, .sentinel, .sentinel], laidTests := true, laidLooks := .later }
def ExactBackCardSaid : Prop := Claim7.holds Tryd.pinned (.plain (OpenSpec.ofChange exactBackSpec)) exactBackCard

/-- THE TIED CARD OF 'timbrelaw26.ExactProduct'. -/
def exactProductCard : Claim7 := { stood := { row := exactProductRow, standIns := [], harness := (true, "09c19d681245daaa11b039011db708a4dbde0281d4fe927197cf58d99cd61b83"), looks := true }, kinds := [], alts := [], laidByText := true, laidKinds := [.sentinel, .sentinel, .sentinel, .sentinel, .sentinel, .sentinel, .sentinel, .sentinel, .sentinel, .sentinel, .sentinel, .sentinel, .sentinel, .sentinel, .sentinel, .sentinel, .sentinel, .sentinel, .sentinel], laidTests := true, laidLooks := .later }
def ExactProductCardSaid : Prop := Claim7.holds Tryd.pinned (.plain (OpenSpec.ofChange exactProductSpec)) exactProductCard

/-- THE TIED CARD OF 'timbrelaw26.ExactRules'. -/
def exactRulesCard : Claim7 := { stood := { row := exactRulesRow, standIns := [], harness := (true, "09c19d681245daaa11b039011db708a4dbde0281d4fe927197cf58d99cd61b83"), looks := true }, kinds := [], alts := [], laidByText := true, laidKinds := [.sentinel, .sentinel, .sentinel, .sentinel, .sentinel, .sentinel, .sentinel, .sentinel, .sentinel, .sentinel, .sentinel, .sentinel, .sentinel, .sentinel, .sentinel, .sentinel, .sentinel, .sentinel, .sentinel], laidTests := true, laidLooks := .later }
def ExactRulesCardSaid : Prop := Claim7.holds Tryd.pinned (.plain (OpenSpec.ofChange exactRulesSpec)) exactRulesCard

/-- THE TIED CARD OF 'timbrelaw26.ExactFloats'. -/
def exactFloatsCard : Claim7 := { stood := { row := exactFloatsRow, standIns := [], harness := (true, "09c19d681245daaa11b039011db708a4dbde0281d4fe927197cf58d99cd61b83"), looks := true }, kinds := [], alts := [], laidByText := true, laidKinds := [.sentinel, .sentinel, .sentinel, .sentinel], laidTests := true, laidLooks := .later }
def ExactFloatsCardSaid : Prop := Claim7.holds Tryd.pinned (.plain (OpenSpec.ofChange exactFloatsSpec)) exactFloatsCard

/-- THE SECOND FORM's CARD OF 'timbrelaw26.ExactTransforms'. -/
def exactTransformsUptoCard : Claim7 := { stood := { row := exactTransformsUptoRow, standIns := [], harness := (true, "09c19d681245daaa11b039011db708a4dbde0281d4fe927197cf58d99cd61b83"), looks := true }, kinds := [], alts := [], laidByText := true, laidKinds := [.sentinel, .sentinel, .sentinel, .sentinel, .sentinel, .sentinel, .sentinel, .sentinel, .sentinel, .sentinel, .sentinel, .sentinel, .sentinel, .sentinel, .sentinel, .sentinel, .sentinel, .sentinel, .sentinel], laidTests := true, laidLooks := .later }
def ExactTransformsUptoCardSaid : Prop := Claim7.holds Tryd.pinned (.plain (OpenSpec.upto exactTransformsSpec)) exactTransformsUptoCard

/-- THE SECOND FORM's CARD OF 'timbrelaw26.ExactConvolutions'. -/
def exactConvolutionsUptoCard : Claim7 := { stood := { row := exactConvolutionsUptoRow, standIns := [], harness := (true, "09c19d681245daaa11b039011db708a4dbde0281d4fe927197cf58d99cd61b83"), looks := true }, kinds := [], alts := [], laidByText := true, laidKinds := [.sentinel, .sentinel, .sentinel, .sentinel, .sentinel, .sentinel, .sentinel, .sentinel, .sentinel, .sentinel, .sentinel, .sentinel, .sentinel, .sentinel, .sentinel, .sentinel, .sentinel, .sentinel, .sentinel], laidTests := true, laidLooks := .later }
def ExactConvolutionsUptoCardSaid : Prop := Claim7.holds Tryd.pinned (.plain (OpenSpec.upto exactConvolutionsSpec)) exactConvolutionsUptoCard

/-- THE SECOND FORM's CARD OF 'timbrelaw26.ExactSmall'. -/
def exactSmallUptoCard : Claim7 := { stood := { row := exactSmallUptoRow, standIns := [], harness := (true, "09c19d681245daaa11b039011db708a4dbde0281d4fe927197cf58d99cd61b83"), looks := true }, kinds := [], alts := [], laidByText := true, laidKinds := [.sentinel, .sentinel, .sentinel, .sentinel, .sentinel, .sentinel, .sentinel, .sentinel, .sentinel, .sentinel, .sentinel, .sentinel, .sentinel, .sentinel, .sentinel, .sentinel, .sentinel, .sentinel, .sentinel], laidTests := true, laidLooks := .later }
def ExactSmallUptoCardSaid : Prop := Claim7.holds Tryd.pinned (.plain (OpenSpec.upto exactSmallSpec)) exactSmallUptoCard

/-- THE SECOND FORM's CARD OF 'timbrelaw26.ExactBack'. -/
def exactBackUptoCard : Claim7 := { stood := { row := exactBackUptoRow, standIns := [], harness := (true, "09c19d681245daaa11b039011db708a4dbde0281d4fe927197cf58d99cd61b83"), looks := true }, kinds := [], alts := [], laidByText := true, laidKinds := [.sentinel, .sentinel, .sentinel, .sentinel], laidTests := true, laidLooks := .later }
def ExactBackUptoCardSaid : Prop := Claim7.holds Tryd.pinned (.plain (OpenSpec.upto exactBackSpec)) exactBackUptoCard

/-- THE SECOND FORM's CARD OF 'timbrelaw26.ExactProduct'. -/
def exactProductUptoCard : Claim7 := { stood := { row := exactProductUptoRow, standIns := [], harness := (true, "09c19d681245daaa11b039011db708a4dbde0281d4fe927197cf58d99cd61b83"), looks := true }, kinds := [], alts := [], laidByText := true, laidKinds := [.sentinel, .sentinel, .sentinel, .sentinel, .sentinel, .sentinel, .sentinel, .sentinel, .sentinel, .sentinel, .sentinel, .sentinel, .sentinel, .sentinel, .sentinel, .sentinel, .sentinel, .sentinel, .sentinel], laidTests := true, laidLooks := .later }
def ExactProductUptoCardSaid : Prop := Claim7.holds Tryd.pinned (.plain (OpenSpec.upto exactProductSpec)) exactProductUptoCard

/-- THE SECOND FORM's CARD OF 'timbrelaw26.ExactRules'. -/
def exactRulesUptoCard : Claim7 := { stood := { row := exactRulesUptoRow, standIns := [], harness := (true, "09c19d681245daaa11b039011db708a4dbde0281d4fe927197cf58d99cd61b83"), looks := true }, kinds := [], alts := [], laidByText := true, laidKinds := [.sentinel, .sentinel, .sentinel, .sentinel, .sentinel, .sentinel, .sentinel, .sentinel, .sentinel, .sentinel, .sentinel, .sentinel, .sentinel, .sentinel, .sentinel, .sentinel, .sentinel, .sentinel, .sentinel], laidTests := true, laidLooks := .later }
def ExactRulesUptoCardSaid : Prop := Claim7.holds Tryd.pinned (.plain (OpenSpec.upto exactRulesSpec)) exactRulesUptoCard

/-- THE SECOND FORM's CARD OF 'timbrelaw26.ExactFloats'. -/
def exactFloatsUptoCard : Claim7 := { stood := { row := exactFloatsUptoRow, standIns := [], harness := (true, "09c19d681245daaa11b039011db708a4dbde0281d4fe927197cf58d99cd61b83"), looks := true }, kinds := [], alts := [], laidByText := true, laidKinds := [.sentinel, .sentinel, .sentinel, .sentinel], laidTests := true, laidLooks := .later }
def ExactFloatsUptoCardSaid : Prop := Claim7.holds Tryd.pinned (.plain (OpenSpec.upto exactFloatsSpec)) exactFloatsUptoCard
end Rows
end Go.Proofs.YtppebegleedifaaDoor
