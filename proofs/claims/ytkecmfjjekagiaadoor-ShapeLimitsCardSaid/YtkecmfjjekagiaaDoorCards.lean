/-
  DERIVED. GIVEN WITH THE SEED: THE CARDS: each row of YtkecmfjjekagiaaDoorRows.lean that lists a variable, with what it lists TIED to the program's text (the seventh form; the later family's looks); each row that meets fmt, with fmt's text TOLD by the authors' own Lean function (tested against real Go, not proved from fmt's source: count such statements apart). THE CARD IS WHAT COUNTS. Prove the row's statement (the work); the ties are given (YtkecmfjjekagiaaDoorTie.lean); close each card by the builder's one call (the guide's Derived/Test/ToyasCard.lean, 'card_holds'). Laid BY PROGRAM, IN A SANDBOX (cutbox-door.mjs). By AI agents, Wed Nov 11 2026. No macro, syntax, notation, axiom, sorry.
-/
import Derived.Test.YtkecmfjjekagiaaDoorRows
import GoSem.ClaimSeven
namespace Go.Proofs.YtkecmfjjekagiaaDoor
namespace Rows

/-- THE TIED CARD OF 'pidginlaw1.FaultTells'. -/
def faultTellsCard : Claim7 := { stood := { row := faultTellsRow, standIns := [], harness := (true, "411ea69c4af5da84b3dc186f0cc93ed2d49a0770f3a0eeb6df1e3224e8311419"), looks := true }, kinds := [], alts := [], laidByText := true, laidKinds := [.handle, .sentinel, .sentinel, .sentinel, .sentinel, .sentinel, .sentinel, .sentinel, .sentinel, .sentinel, .sentinel, .sentinel, .sentinel, .sentinel, .sentinel, .sentinel, .sentinel, .sentinel, .sentinel, .sentinel, .sentinel, .sentinel], laidTests := true, laidLooks := .later }
def FaultTellsCardSaid : Prop := Claim7.holds Tryd.pinned (.plain (OpenSpec.ofChange faultTellsSpec)) faultTellsCard

/-- THE TIED CARD OF 'pidginlaw1.FaultCodes'. -/
def faultCodesCard : Claim7 := { stood := { row := faultCodesRow, standIns := [], harness := (true, "411ea69c4af5da84b3dc186f0cc93ed2d49a0770f3a0eeb6df1e3224e8311419"), looks := true }, kinds := [], alts := [], laidByText := true, laidKinds := [.handle, .sentinel, .sentinel, .sentinel, .sentinel, .sentinel, .sentinel, .sentinel, .sentinel, .sentinel, .sentinel, .sentinel, .sentinel, .sentinel, .sentinel, .sentinel, .sentinel, .sentinel, .sentinel, .sentinel, .sentinel, .sentinel], laidTests := true, laidLooks := .later }
def FaultCodesCardSaid : Prop := Claim7.holds Tryd.pinned (.plain (OpenSpec.ofChange faultCodesSpec)) faultCodesCard

/-- THE TIED CARD OF 'pidginlaw1.FaultWraps'. -/
def faultWrapsCard : Claim7 := { stood := { row := faultWrapsRow, standIns := [], harness := (true, "411ea69c4af5da84b3dc186f0cc93ed2d49a0770f3a0eeb6df1e3224e8311419"), looks := true }, kinds := [], alts := [], laidByText := true, laidKinds := [.handle, .sentinel, .sentinel, .sentinel, .sentinel, .sentinel, .sentinel, .sentinel, .sentinel, .sentinel, .sentinel, .sentinel, .sentinel, .sentinel, .sentinel, .sentinel, .sentinel, .sentinel, .sentinel, .sentinel, .sentinel, .sentinel], laidTests := true, laidLooks := .later }
def FaultWrapsCardSaid : Prop := Claim7.holds Tryd.pinned (.plain (OpenSpec.ofChange faultWrapsSpec)) faultWrapsCard

/-- THE TIED CARD OF 'pidginlaw1.FaultElsewhere'. -/
def faultElsewhereCard : Claim7 := { stood := { row := faultElsewhereRow, standIns := [], harness := (true, "411ea69c4af5da84b3dc186f0cc93ed2d49a0770f3a0eeb6df1e3224e8311419"), looks := true }, kinds := [], alts := [], laidByText := true, laidKinds := [.handle, .sentinel, .sentinel, .sentinel, .sentinel, .sentinel, .sentinel, .sentinel, .sentinel, .sentinel, .sentinel, .sentinel, .sentinel, .sentinel, .sentinel, .sentinel, .sentinel, .sentinel, .sentinel, .sentinel, .sentinel, .sentinel], laidTests := true, laidLooks := .later }
def FaultElsewhereCardSaid : Prop := Claim7.holds Tryd.pinned (.plain (OpenSpec.ofChange faultElsewhereSpec)) faultElsewhereCard

/-- THE TIED CARD OF 'pidginlaw14.ShapeNil'. -/
def shapeNilCard : Claim7 := { stood := { row := shapeNilRow, standIns := [], harness := (true, "411ea69c4af5da84b3dc186f0cc93ed2d49a0770f3a0eeb6df1e3224e8311419"), looks := true }, kinds := [], alts := [], laidByText := true, laidKinds := [.sentinel, .sentinel, .sentinel, .sentinel, .sentinel, .sentinel, .sentinel, .sentinel, .sentinel, .sentinel, .sentinel, .sentinel, .sentinel, .sentinel, .sentinel, .sentinel, .sentinel, .sentinel, .sentinel, .sentinel, .sentinel], laidTests := true, laidLooks := .later }
def ShapeNilCardSaid : Prop := Claim7.holds Tryd.pinned (.plain (OpenSpec.ofChange shapeNilSpec)) shapeNilCard

/-- THE TIED CARD OF 'pidginlaw14.ShapePlain'. -/
def shapePlainCard : Claim7 := { stood := { row := shapePlainRow, standIns := [], harness := (true, "411ea69c4af5da84b3dc186f0cc93ed2d49a0770f3a0eeb6df1e3224e8311419"), looks := true }, kinds := [], alts := [], laidByText := true, laidKinds := [.sentinel, .sentinel, .sentinel, .sentinel, .sentinel, .sentinel, .sentinel, .sentinel, .sentinel, .sentinel, .sentinel, .sentinel, .sentinel, .sentinel, .sentinel, .sentinel, .sentinel, .sentinel, .sentinel, .sentinel, .sentinel], laidTests := true, laidLooks := .later }
def ShapePlainCardSaid : Prop := Claim7.holds Tryd.pinned (.plain (OpenSpec.ofChange shapePlainSpec)) shapePlainCard

/-- THE TIED CARD OF 'pidginlaw14.ShapeFlags'. -/
def shapeFlagsCard : Claim7 := { stood := { row := shapeFlagsRow, standIns := [], harness := (true, "411ea69c4af5da84b3dc186f0cc93ed2d49a0770f3a0eeb6df1e3224e8311419"), looks := true }, kinds := [], alts := [], laidByText := true, laidKinds := [.handle, .sentinel, .sentinel, .sentinel, .sentinel, .sentinel, .sentinel, .sentinel, .sentinel, .sentinel, .sentinel, .sentinel, .sentinel, .sentinel, .sentinel, .sentinel, .sentinel, .sentinel, .sentinel, .sentinel, .sentinel, .sentinel], laidTests := true, laidLooks := .later }
def ShapeFlagsCardSaid : Prop := Claim7.holds Tryd.pinned (.plain (OpenSpec.ofChange shapeFlagsSpec)) shapeFlagsCard

/-- THE TIED CARD OF 'pidginlaw14.ShapeLimits'. -/
def shapeLimitsCard : Claim7 := { stood := { row := shapeLimitsRow, standIns := [], harness := (true, "411ea69c4af5da84b3dc186f0cc93ed2d49a0770f3a0eeb6df1e3224e8311419"), looks := true }, kinds := [], alts := [], laidByText := true, laidKinds := [.handle, .sentinel, .sentinel, .sentinel, .sentinel, .sentinel, .sentinel, .sentinel, .sentinel, .sentinel, .sentinel, .sentinel, .sentinel, .sentinel, .sentinel, .sentinel, .sentinel, .sentinel, .sentinel, .sentinel, .sentinel, .sentinel], laidTests := true, laidLooks := .later }
def ShapeLimitsCardSaid : Prop := Claim7.holds Tryd.pinned (.plain (OpenSpec.ofChange shapeLimitsSpec)) shapeLimitsCard

/-- THE TIED CARD OF 'pidginlaw15.FillNumbers'. -/
def fillNumbersCard : Claim7 := { stood := { row := fillNumbersRow, standIns := [], harness := (true, "411ea69c4af5da84b3dc186f0cc93ed2d49a0770f3a0eeb6df1e3224e8311419"), looks := true }, kinds := [], alts := [], laidByText := true, laidKinds := [.sentinel, .sentinel, .sentinel, .sentinel, .sentinel, .sentinel, .sentinel, .sentinel, .sentinel, .sentinel, .sentinel, .sentinel, .sentinel, .sentinel, .sentinel, .sentinel, .sentinel, .sentinel, .sentinel, .sentinel, .sentinel], laidTests := true, laidLooks := .later }
def FillNumbersCardSaid : Prop := Claim7.holds Tryd.pinned (.plain (OpenSpec.ofChange fillNumbersSpec)) fillNumbersCard

/-- THE TIED CARD OF 'pidginlaw15.FillAgain'. -/
def fillAgainCard : Claim7 := { stood := { row := fillAgainRow, standIns := [], harness := (true, "411ea69c4af5da84b3dc186f0cc93ed2d49a0770f3a0eeb6df1e3224e8311419"), looks := true }, kinds := [], alts := [], laidByText := true, laidKinds := [.sentinel, .sentinel, .sentinel, .sentinel, .sentinel, .sentinel, .sentinel, .sentinel, .sentinel, .sentinel, .sentinel, .sentinel, .sentinel, .sentinel, .sentinel, .sentinel, .sentinel, .sentinel, .sentinel, .sentinel, .sentinel], laidTests := true, laidLooks := .later }
def FillAgainCardSaid : Prop := Claim7.holds Tryd.pinned (.plain (OpenSpec.ofChange fillAgainSpec)) fillAgainCard

/-- THE TIED CARD OF 'pidginlaw15.FillEscapes'. -/
def fillEscapesCard : Claim7 := { stood := { row := fillEscapesRow, standIns := [], harness := (true, "411ea69c4af5da84b3dc186f0cc93ed2d49a0770f3a0eeb6df1e3224e8311419"), looks := true }, kinds := [], alts := [], laidByText := true, laidKinds := [.sentinel, .sentinel, .sentinel, .sentinel, .sentinel, .sentinel, .sentinel, .sentinel, .sentinel, .sentinel, .sentinel, .sentinel, .sentinel, .sentinel, .sentinel, .sentinel, .sentinel, .sentinel, .sentinel, .sentinel, .sentinel], laidTests := true, laidLooks := .later }
def FillEscapesCardSaid : Prop := Claim7.holds Tryd.pinned (.plain (OpenSpec.ofChange fillEscapesSpec)) fillEscapesCard

/-- THE TIED CARD OF 'pidginlaw15.FillSigns'. -/
def fillSignsCard : Claim7 := { stood := { row := fillSignsRow, standIns := [], harness := (true, "411ea69c4af5da84b3dc186f0cc93ed2d49a0770f3a0eeb6df1e3224e8311419"), looks := true }, kinds := [], alts := [], laidByText := true, laidKinds := [.sentinel, .sentinel, .sentinel, .sentinel, .sentinel, .sentinel, .sentinel, .sentinel, .sentinel, .sentinel, .sentinel, .sentinel, .sentinel, .sentinel, .sentinel, .sentinel, .sentinel, .sentinel, .sentinel, .sentinel, .sentinel], laidTests := true, laidLooks := .later }
def FillSignsCardSaid : Prop := Claim7.holds Tryd.pinned (.plain (OpenSpec.ofChange fillSignsSpec)) fillSignsCard

/-- THE TIED CARD OF 'pidginlaw15.FillBack'. -/
def fillBackCard : Claim7 := { stood := { row := fillBackRow, standIns := [], harness := (true, "411ea69c4af5da84b3dc186f0cc93ed2d49a0770f3a0eeb6df1e3224e8311419"), looks := true }, kinds := [], alts := [], laidByText := true, laidKinds := [.sentinel, .sentinel, .sentinel, .sentinel, .sentinel, .sentinel, .sentinel, .sentinel, .sentinel, .sentinel, .sentinel, .sentinel, .sentinel, .sentinel, .sentinel, .sentinel, .sentinel, .sentinel, .sentinel, .sentinel, .sentinel], laidTests := true, laidLooks := .later }
def FillBackCardSaid : Prop := Claim7.holds Tryd.pinned (.plain (OpenSpec.ofChange fillBackSpec)) fillBackCard

/-- THE TIED CARD OF 'pidginlaw15.FillWidths'. -/
def fillWidthsCard : Claim7 := { stood := { row := fillWidthsRow, standIns := [], harness := (true, "411ea69c4af5da84b3dc186f0cc93ed2d49a0770f3a0eeb6df1e3224e8311419"), looks := true }, kinds := [], alts := [], laidByText := true, laidKinds := [.sentinel, .sentinel, .sentinel, .sentinel, .sentinel, .sentinel, .sentinel, .sentinel, .sentinel, .sentinel, .sentinel, .sentinel, .sentinel, .sentinel, .sentinel, .sentinel, .sentinel, .sentinel, .sentinel, .sentinel, .sentinel], laidTests := true, laidLooks := .later }
def FillWidthsCardSaid : Prop := Claim7.holds Tryd.pinned (.plain (OpenSpec.ofChange fillWidthsSpec)) fillWidthsCard

/-- THE TIED CARD OF 'pidginlaw15.FillJoins'. -/
def fillJoinsCard : Claim7 := { stood := { row := fillJoinsRow, standIns := [], harness := (true, "411ea69c4af5da84b3dc186f0cc93ed2d49a0770f3a0eeb6df1e3224e8311419"), looks := true }, kinds := [], alts := [], laidByText := true, laidKinds := [.sentinel, .sentinel, .sentinel, .sentinel, .sentinel, .sentinel, .sentinel, .sentinel, .sentinel, .sentinel, .sentinel, .sentinel, .sentinel, .sentinel, .sentinel, .sentinel, .sentinel, .sentinel, .sentinel, .sentinel, .sentinel], laidTests := true, laidLooks := .later }
def FillJoinsCardSaid : Prop := Claim7.holds Tryd.pinned (.plain (OpenSpec.ofChange fillJoinsSpec)) fillJoinsCard

/-- THE TIED CARD OF 'pidginlaw1.FaultText'. -/
def faultTextCard : Claim7 := { stood := { row := faultTextRow, standIns := [], harness := (true, "411ea69c4af5da84b3dc186f0cc93ed2d49a0770f3a0eeb6df1e3224e8311419"), looks := true }, kinds := [], alts := [], laidByText := true, laidKinds := [.data, .data, .data, .handle, .listed, .data, .sentinel, .sentinel, .sentinel, .sentinel, .sentinel, .sentinel, .sentinel, .sentinel, .sentinel, .sentinel, .sentinel, .sentinel, .sentinel, .sentinel, .sentinel, .sentinel, .sentinel, .sentinel, .sentinel, .sentinel, .sentinel], laidTests := true, laidLooks := .later }
def FaultTextCardSaid : Prop := Claim7.holds Tryd.pinned (.plain (OpenSpec.ofChange faultTextSpec)) faultTextCard

/-- THE TIED CARD OF 'pidginlaw14.ShapeParses'. -/
def shapeParsesCard : Claim7 := { stood := { row := shapeParsesRow, standIns := [], harness := (true, "411ea69c4af5da84b3dc186f0cc93ed2d49a0770f3a0eeb6df1e3224e8311419"), looks := true }, kinds := [], alts := [], laidByText := true, laidKinds := [.data, .data, .data, .handle, .sentinel, .sentinel, .sentinel, .sentinel, .sentinel, .sentinel, .sentinel, .sentinel, .sentinel, .sentinel, .sentinel, .sentinel, .sentinel, .sentinel, .sentinel, .sentinel, .sentinel, .sentinel, .sentinel, .sentinel, .sentinel], laidTests := true, laidLooks := .later }
def ShapeParsesCardSaid : Prop := Claim7.holds Tryd.pinned (.plain (OpenSpec.ofChange shapeParsesSpec)) shapeParsesCard

/-- THE TIED CARD OF 'pidginlaw15.FillNil'. -/
def fillNilCard : Claim7 := { stood := { row := fillNilRow, standIns := [], harness := (true, "411ea69c4af5da84b3dc186f0cc93ed2d49a0770f3a0eeb6df1e3224e8311419"), looks := true }, kinds := [], alts := [], laidByText := true, laidKinds := [.handle, .sentinel, .sentinel, .sentinel, .sentinel, .sentinel, .sentinel, .sentinel, .sentinel, .sentinel, .sentinel, .sentinel, .sentinel, .sentinel, .sentinel, .sentinel, .sentinel, .sentinel, .sentinel, .sentinel, .sentinel, .sentinel], laidTests := true, laidLooks := .later }
def FillNilCardSaid : Prop := Claim7.holds Tryd.pinned (.plain (OpenSpec.ofChange fillNilSpec)) fillNilCard

/-- THE SECOND FORM's CARD OF 'pidginlaw1.FaultTells'. -/
def faultTellsUptoCard : Claim7 := { stood := { row := faultTellsUptoRow, standIns := [], harness := (true, "411ea69c4af5da84b3dc186f0cc93ed2d49a0770f3a0eeb6df1e3224e8311419"), looks := true }, kinds := [], alts := [], laidByText := true, laidKinds := [.handle, .sentinel, .sentinel, .sentinel, .sentinel, .sentinel, .sentinel, .sentinel, .sentinel, .sentinel, .sentinel, .sentinel, .sentinel, .sentinel, .sentinel, .sentinel, .sentinel, .sentinel, .sentinel, .sentinel, .sentinel, .sentinel], laidTests := true, laidLooks := .later }
def FaultTellsUptoCardSaid : Prop := Claim7.holds Tryd.pinned (.plain (OpenSpec.upto faultTellsSpec)) faultTellsUptoCard

/-- THE SECOND FORM's CARD OF 'pidginlaw1.FaultCodes'. -/
def faultCodesUptoCard : Claim7 := { stood := { row := faultCodesUptoRow, standIns := [], harness := (true, "411ea69c4af5da84b3dc186f0cc93ed2d49a0770f3a0eeb6df1e3224e8311419"), looks := true }, kinds := [], alts := [], laidByText := true, laidKinds := [.handle, .sentinel, .sentinel, .sentinel, .sentinel, .sentinel, .sentinel, .sentinel, .sentinel, .sentinel, .sentinel, .sentinel, .sentinel, .sentinel, .sentinel, .sentinel, .sentinel, .sentinel, .sentinel, .sentinel, .sentinel, .sentinel], laidTests := true, laidLooks := .later }
def FaultCodesUptoCardSaid : Prop := Claim7.holds Tryd.pinned (.plain (OpenSpec.upto faultCodesSpec)) faultCodesUptoCard

/-- THE SECOND FORM's CARD OF 'pidginlaw1.FaultWraps'. -/
def faultWrapsUptoCard : Claim7 := { stood := { row := faultWrapsUptoRow, standIns := [], harness := (true, "411ea69c4af5da84b3dc186f0cc93ed2d49a0770f3a0eeb6df1e3224e8311419"), looks := true }, kinds := [], alts := [], laidByText := true, laidKinds := [.handle, .sentinel, .sentinel, .sentinel, .sentinel, .sentinel, .sentinel, .sentinel, .sentinel, .sentinel, .sentinel, .sentinel, .sentinel, .sentinel, .sentinel, .sentinel, .sentinel, .sentinel, .sentinel, .sentinel, .sentinel, .sentinel], laidTests := true, laidLooks := .later }
def FaultWrapsUptoCardSaid : Prop := Claim7.holds Tryd.pinned (.plain (OpenSpec.upto faultWrapsSpec)) faultWrapsUptoCard

/-- THE SECOND FORM's CARD OF 'pidginlaw1.FaultElsewhere'. -/
def faultElsewhereUptoCard : Claim7 := { stood := { row := faultElsewhereUptoRow, standIns := [], harness := (true, "411ea69c4af5da84b3dc186f0cc93ed2d49a0770f3a0eeb6df1e3224e8311419"), looks := true }, kinds := [], alts := [], laidByText := true, laidKinds := [.handle, .sentinel, .sentinel, .sentinel, .sentinel, .sentinel, .sentinel, .sentinel, .sentinel, .sentinel, .sentinel, .sentinel, .sentinel, .sentinel, .sentinel, .sentinel, .sentinel, .sentinel, .sentinel, .sentinel, .sentinel, .sentinel], laidTests := true, laidLooks := .later }
def FaultElsewhereUptoCardSaid : Prop := Claim7.holds Tryd.pinned (.plain (OpenSpec.upto faultElsewhereSpec)) faultElsewhereUptoCard

/-- THE SECOND FORM's CARD OF 'pidginlaw14.ShapeNil'. -/
def shapeNilUptoCard : Claim7 := { stood := { row := shapeNilUptoRow, standIns := [], harness := (true, "411ea69c4af5da84b3dc186f0cc93ed2d49a0770f3a0eeb6df1e3224e8311419"), looks := true }, kinds := [], alts := [], laidByText := true, laidKinds := [.sentinel, .sentinel, .sentinel, .sentinel, .sentinel, .sentinel, .sentinel, .sentinel, .sentinel, .sentinel, .sentinel, .sentinel, .sentinel, .sentinel, .sentinel, .sentinel, .sentinel, .sentinel, .sentinel, .sentinel, .sentinel], laidTests := true, laidLooks := .later }
def ShapeNilUptoCardSaid : Prop := Claim7.holds Tryd.pinned (.plain (OpenSpec.upto shapeNilSpec)) shapeNilUptoCard

/-- THE SECOND FORM's CARD OF 'pidginlaw14.ShapePlain'. -/
def shapePlainUptoCard : Claim7 := { stood := { row := shapePlainUptoRow, standIns := [], harness := (true, "411ea69c4af5da84b3dc186f0cc93ed2d49a0770f3a0eeb6df1e3224e8311419"), looks := true }, kinds := [], alts := [], laidByText := true, laidKinds := [.sentinel, .sentinel, .sentinel, .sentinel, .sentinel, .sentinel, .sentinel, .sentinel, .sentinel, .sentinel, .sentinel, .sentinel, .sentinel, .sentinel, .sentinel, .sentinel, .sentinel, .sentinel, .sentinel, .sentinel, .sentinel], laidTests := true, laidLooks := .later }
def ShapePlainUptoCardSaid : Prop := Claim7.holds Tryd.pinned (.plain (OpenSpec.upto shapePlainSpec)) shapePlainUptoCard

/-- THE SECOND FORM's CARD OF 'pidginlaw14.ShapeFlags'. -/
def shapeFlagsUptoCard : Claim7 := { stood := { row := shapeFlagsUptoRow, standIns := [], harness := (true, "411ea69c4af5da84b3dc186f0cc93ed2d49a0770f3a0eeb6df1e3224e8311419"), looks := true }, kinds := [], alts := [], laidByText := true, laidKinds := [.handle, .sentinel, .sentinel, .sentinel, .sentinel, .sentinel, .sentinel, .sentinel, .sentinel, .sentinel, .sentinel, .sentinel, .sentinel, .sentinel, .sentinel, .sentinel, .sentinel, .sentinel, .sentinel, .sentinel, .sentinel, .sentinel], laidTests := true, laidLooks := .later }
def ShapeFlagsUptoCardSaid : Prop := Claim7.holds Tryd.pinned (.plain (OpenSpec.upto shapeFlagsSpec)) shapeFlagsUptoCard

/-- THE SECOND FORM's CARD OF 'pidginlaw14.ShapeLimits'. -/
def shapeLimitsUptoCard : Claim7 := { stood := { row := shapeLimitsUptoRow, standIns := [], harness := (true, "411ea69c4af5da84b3dc186f0cc93ed2d49a0770f3a0eeb6df1e3224e8311419"), looks := true }, kinds := [], alts := [], laidByText := true, laidKinds := [.handle, .sentinel, .sentinel, .sentinel, .sentinel, .sentinel, .sentinel, .sentinel, .sentinel, .sentinel, .sentinel, .sentinel, .sentinel, .sentinel, .sentinel, .sentinel, .sentinel, .sentinel, .sentinel, .sentinel, .sentinel, .sentinel], laidTests := true, laidLooks := .later }
def ShapeLimitsUptoCardSaid : Prop := Claim7.holds Tryd.pinned (.plain (OpenSpec.upto shapeLimitsSpec)) shapeLimitsUptoCard

/-- THE SECOND FORM's CARD OF 'pidginlaw15.FillNumbers'. -/
def fillNumbersUptoCard : Claim7 := { stood := { row := fillNumbersUptoRow, standIns := [], harness := (true, "411ea69c4af5da84b3dc186f0cc93ed2d49a0770f3a0eeb6df1e3224e8311419"), looks := true }, kinds := [], alts := [], laidByText := true, laidKinds := [.sentinel, .sentinel, .sentinel, .sentinel, .sentinel, .sentinel, .sentinel, .sentinel, .sentinel, .sentinel, .sentinel, .sentinel, .sentinel, .sentinel, .sentinel, .sentinel, .sentinel, .sentinel, .sentinel, .sentinel, .sentinel], laidTests := true, laidLooks := .later }
def FillNumbersUptoCardSaid : Prop := Claim7.holds Tryd.pinned (.plain (OpenSpec.upto fillNumbersSpec)) fillNumbersUptoCard

/-- THE SECOND FORM's CARD OF 'pidginlaw15.FillAgain'. -/
def fillAgainUptoCard : Claim7 := { stood := { row := fillAgainUptoRow, standIns := [], harness := (true, "411ea69c4af5da84b3dc186f0cc93ed2d49a0770f3a0eeb6df1e3224e8311419"), looks := true }, kinds := [], alts := [], laidByText := true, laidKinds := [.sentinel, .sentinel, .sentinel, .sentinel, .sentinel, .sentinel, .sentinel, .sentinel, .sentinel, .sentinel, .sentinel, .sentinel, .sentinel, .sentinel, .sentinel, .sentinel, .sentinel, .sentinel, .sentinel, .sentinel, .sentinel], laidTests := true, laidLooks := .later }
def FillAgainUptoCardSaid : Prop := Claim7.holds Tryd.pinned (.plain (OpenSpec.upto fillAgainSpec)) fillAgainUptoCard

/-- THE SECOND FORM's CARD OF 'pidginlaw15.FillEscapes'. -/
def fillEscapesUptoCard : Claim7 := { stood := { row := fillEscapesUptoRow, standIns := [], harness := (true, "411ea69c4af5da84b3dc186f0cc93ed2d49a0770f3a0eeb6df1e3224e8311419"), looks := true }, kinds := [], alts := [], laidByText := true, laidKinds := [.sentinel, .sentinel, .sentinel, .sentinel, .sentinel, .sentinel, .sentinel, .sentinel, .sentinel, .sentinel, .sentinel, .sentinel, .sentinel, .sentinel, .sentinel, .sentinel, .sentinel, .sentinel, .sentinel, .sentinel, .sentinel], laidTests := true, laidLooks := .later }
def FillEscapesUptoCardSaid : Prop := Claim7.holds Tryd.pinned (.plain (OpenSpec.upto fillEscapesSpec)) fillEscapesUptoCard

/-- THE SECOND FORM's CARD OF 'pidginlaw15.FillSigns'. -/
def fillSignsUptoCard : Claim7 := { stood := { row := fillSignsUptoRow, standIns := [], harness := (true, "411ea69c4af5da84b3dc186f0cc93ed2d49a0770f3a0eeb6df1e3224e8311419"), looks := true }, kinds := [], alts := [], laidByText := true, laidKinds := [.sentinel, .sentinel, .sentinel, .sentinel, .sentinel, .sentinel, .sentinel, .sentinel, .sentinel, .sentinel, .sentinel, .sentinel, .sentinel, .sentinel, .sentinel, .sentinel, .sentinel, .sentinel, .sentinel, .sentinel, .sentinel], laidTests := true, laidLooks := .later }
def FillSignsUptoCardSaid : Prop := Claim7.holds Tryd.pinned (.plain (OpenSpec.upto fillSignsSpec)) fillSignsUptoCard

/-- THE SECOND FORM's CARD OF 'pidginlaw15.FillBack'. -/
def fillBackUptoCard : Claim7 := { stood := { row := fillBackUptoRow, standIns := [], harness := (true, "411ea69c4af5da84b3dc186f0cc93ed2d49a0770f3a0eeb6df1e3224e8311419"), looks := true }, kinds := [], alts := [], laidByText := true, laidKinds := [.sentinel, .sentinel, .sentinel, .sentinel, .sentinel, .sentinel, .sentinel, .sentinel, .sentinel, .sentinel, .sentinel, .sentinel, .sentinel, .sentinel, .sentinel, .sentinel, .sentinel, .sentinel, .sentinel, .sentinel, .sentinel], laidTests := true, laidLooks := .later }
def FillBackUptoCardSaid : Prop := Claim7.holds Tryd.pinned (.plain (OpenSpec.upto fillBackSpec)) fillBackUptoCard

/-- THE SECOND FORM's CARD OF 'pidginlaw15.FillWidths'. -/
def fillWidthsUptoCard : Claim7 := { stood := { row := fillWidthsUptoRow, standIns := [], harness := (true, "411ea69c4af5da84b3dc186f0cc93ed2d49a0770f3a0eeb6df1e3224e8311419"), looks := true }, kinds := [], alts := [], laidByText := true, laidKinds := [.sentinel, .sentinel, .sentinel, .sentinel, .sentinel, .sentinel, .sentinel, .sentinel, .sentinel, .sentinel, .sentinel, .sentinel, .sentinel, .sentinel, .sentinel, .sentinel, .sentinel, .sentinel, .sentinel, .sentinel, .sentinel], laidTests := true, laidLooks := .later }
def FillWidthsUptoCardSaid : Prop := Claim7.holds Tryd.pinned (.plain (OpenSpec.upto fillWidthsSpec)) fillWidthsUptoCard

/-- THE SECOND FORM's CARD OF 'pidginlaw15.FillJoins'. -/
def fillJoinsUptoCard : Claim7 := { stood := { row := fillJoinsUptoRow, standIns := [], harness := (true, "411ea69c4af5da84b3dc186f0cc93ed2d49a0770f3a0eeb6df1e3224e8311419"), looks := true }, kinds := [], alts := [], laidByText := true, laidKinds := [.sentinel, .sentinel, .sentinel, .sentinel, .sentinel, .sentinel, .sentinel, .sentinel, .sentinel, .sentinel, .sentinel, .sentinel, .sentinel, .sentinel, .sentinel, .sentinel, .sentinel, .sentinel, .sentinel, .sentinel, .sentinel], laidTests := true, laidLooks := .later }
def FillJoinsUptoCardSaid : Prop := Claim7.holds Tryd.pinned (.plain (OpenSpec.upto fillJoinsSpec)) fillJoinsUptoCard

/-- THE SECOND FORM's CARD OF 'pidginlaw1.FaultText'. -/
def faultTextUptoCard : Claim7 := { stood := { row := faultTextUptoRow, standIns := [], harness := (true, "411ea69c4af5da84b3dc186f0cc93ed2d49a0770f3a0eeb6df1e3224e8311419"), looks := true }, kinds := [], alts := [], laidByText := true, laidKinds := [.data, .data, .data, .handle, .listed, .data, .sentinel, .sentinel, .sentinel, .sentinel, .sentinel, .sentinel, .sentinel, .sentinel, .sentinel, .sentinel, .sentinel, .sentinel, .sentinel, .sentinel, .sentinel, .sentinel, .sentinel, .sentinel, .sentinel, .sentinel, .sentinel], laidTests := true, laidLooks := .later }
def FaultTextUptoCardSaid : Prop := Claim7.holds Tryd.pinned (.plain (OpenSpec.upto faultTextSpec)) faultTextUptoCard

/-- THE SECOND FORM's CARD OF 'pidginlaw14.ShapeParses'. -/
def shapeParsesUptoCard : Claim7 := { stood := { row := shapeParsesUptoRow, standIns := [], harness := (true, "411ea69c4af5da84b3dc186f0cc93ed2d49a0770f3a0eeb6df1e3224e8311419"), looks := true }, kinds := [], alts := [], laidByText := true, laidKinds := [.data, .data, .data, .handle, .sentinel, .sentinel, .sentinel, .sentinel, .sentinel, .sentinel, .sentinel, .sentinel, .sentinel, .sentinel, .sentinel, .sentinel, .sentinel, .sentinel, .sentinel, .sentinel, .sentinel, .sentinel, .sentinel, .sentinel, .sentinel], laidTests := true, laidLooks := .later }
def ShapeParsesUptoCardSaid : Prop := Claim7.holds Tryd.pinned (.plain (OpenSpec.upto shapeParsesSpec)) shapeParsesUptoCard

/-- THE SECOND FORM's CARD OF 'pidginlaw15.FillNil'. -/
def fillNilUptoCard : Claim7 := { stood := { row := fillNilUptoRow, standIns := [], harness := (true, "411ea69c4af5da84b3dc186f0cc93ed2d49a0770f3a0eeb6df1e3224e8311419"), looks := true }, kinds := [], alts := [], laidByText := true, laidKinds := [.handle, .sentinel, .sentinel, .sentinel, .sentinel, .sentinel, .sentinel, .sentinel, .sentinel, .sentinel, .sentinel, .sentinel, .sentinel, .sentinel, .sentinel, .sentinel, .sentinel, .sentinel, .sentinel, .sentinel, .sentinel, .sentinel], laidTests := true, laidLooks := .later }
def FillNilUptoCardSaid : Prop := Claim7.holds Tryd.pinned (.plain (OpenSpec.upto fillNilSpec)) fillNilUptoCard
end Rows
end Go.Proofs.YtkecmfjjekagiaaDoor
