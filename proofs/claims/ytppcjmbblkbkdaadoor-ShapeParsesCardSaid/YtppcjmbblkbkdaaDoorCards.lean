/-
  DERIVED. GIVEN WITH THE SEED: THE CARDS: each row of YtppcjmbblkbkdaaDoorRows.lean that lists a variable, with what it lists TIED to the program's text (the seventh form; the later family's looks); each row that meets fmt, with fmt's text TOLD by the authors' own Lean function (tested against real Go, not proved from fmt's source: count such statements apart). THE CARD IS WHAT COUNTS. Prove the row's statement (the work); the ties are given (YtppcjmbblkbkdaaDoorTie.lean); close each card by the builder's one call (the guide's Derived/Test/ToyasCard.lean, 'card_holds'). Laid BY PROGRAM, IN A SANDBOX (cutbox-door.mjs). By AI agents, Wed Nov 11 2026. No macro, syntax, notation, axiom, sorry.
-/
import Derived.Test.YtppcjmbblkbkdaaDoorRows
import GoSem.ClaimSeven
namespace Go.Proofs.YtppcjmbblkbkdaaDoor
namespace Rows

/-- THE TIED CARD OF 'pidginlaw1.FaultText'. -/
def faultTextCard : Claim7 := { stood := { row := faultTextRow, standIns := [], harness := (true, "b2adc21e4df6fe40dbba16edf1e4583cdf27712490fc10bc7868ab10b9ab9c0e"), looks := true }, kinds := [], alts := [], laidByText := true, laidKinds := [.data, .data, .data, .handle, .listed, .data, .sentinel, .sentinel, .sentinel, .sentinel, .sentinel, .sentinel, .sentinel, .sentinel, .sentinel, .sentinel, .sentinel, .sentinel, .sentinel, .sentinel, .sentinel, .sentinel, .sentinel, .sentinel, .sentinel, .sentinel, .sentinel], laidTests := true, laidLooks := .later }
def FaultTextCardSaid : Prop := Claim7.holds Tryd.pinned (.plain (OpenSpec.ofChange faultTextSpec)) faultTextCard

/-- THE TIED CARD OF 'pidginlaw14.ShapeParses'. -/
def shapeParsesCard : Claim7 := { stood := { row := shapeParsesRow, standIns := [], harness := (true, "b2adc21e4df6fe40dbba16edf1e4583cdf27712490fc10bc7868ab10b9ab9c0e"), looks := true }, kinds := [], alts := [], laidByText := true, laidKinds := [.data, .data, .data, .handle, .sentinel, .sentinel, .sentinel, .sentinel, .sentinel, .sentinel, .sentinel, .sentinel, .sentinel, .sentinel, .sentinel, .sentinel, .sentinel, .sentinel, .sentinel, .sentinel, .sentinel, .sentinel, .sentinel, .sentinel, .sentinel], laidTests := true, laidLooks := .later }
def ShapeParsesCardSaid : Prop := Claim7.holds Tryd.pinned (.plain (OpenSpec.ofChange shapeParsesSpec)) shapeParsesCard

/-- THE SECOND FORM's CARD OF 'pidginlaw1.FaultText'. -/
def faultTextUptoCard : Claim7 := { stood := { row := faultTextUptoRow, standIns := [], harness := (true, "b2adc21e4df6fe40dbba16edf1e4583cdf27712490fc10bc7868ab10b9ab9c0e"), looks := true }, kinds := [], alts := [], laidByText := true, laidKinds := [.data, .data, .data, .handle, .listed, .data, .sentinel, .sentinel, .sentinel, .sentinel, .sentinel, .sentinel, .sentinel, .sentinel, .sentinel, .sentinel, .sentinel, .sentinel, .sentinel, .sentinel, .sentinel, .sentinel, .sentinel, .sentinel, .sentinel, .sentinel, .sentinel], laidTests := true, laidLooks := .later }
def FaultTextUptoCardSaid : Prop := Claim7.holds Tryd.pinned (.plain (OpenSpec.upto faultTextSpec)) faultTextUptoCard

/-- THE SECOND FORM's CARD OF 'pidginlaw14.ShapeParses'. -/
def shapeParsesUptoCard : Claim7 := { stood := { row := shapeParsesUptoRow, standIns := [], harness := (true, "b2adc21e4df6fe40dbba16edf1e4583cdf27712490fc10bc7868ab10b9ab9c0e"), looks := true }, kinds := [], alts := [], laidByText := true, laidKinds := [.data, .data, .data, .handle, .sentinel, .sentinel, .sentinel, .sentinel, .sentinel, .sentinel, .sentinel, .sentinel, .sentinel, .sentinel, .sentinel, .sentinel, .sentinel, .sentinel, .sentinel, .sentinel, .sentinel, .sentinel, .sentinel, .sentinel, .sentinel], laidTests := true, laidLooks := .later }
def ShapeParsesUptoCardSaid : Prop := Claim7.holds Tryd.pinned (.plain (OpenSpec.upto shapeParsesSpec)) shapeParsesUptoCard
end Rows
end Go.Proofs.YtppcjmbblkbkdaaDoor
