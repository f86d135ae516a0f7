/-
  DERIVED. GIVEN WITH THE SEED: THE CARDS: each row of YtppcjmbblkbkdaaGreatDoorRows.lean that lists a variable, with what it lists TIED to the program's text (the seventh form; the later family's looks); each row that meets fmt, with fmt's text TOLD by the authors' own Lean function (tested against real Go, not proved from fmt's source: count such statements apart). THE CARD IS WHAT COUNTS. Prove the row's statement (the work); the ties are given (YtppcjmbblkbkdaaGreatDoorTie.lean); close each card by the builder's one call (the guide's Derived/Test/ToyasCard.lean, 'card_holds'). Laid BY PROGRAM, IN A SANDBOX (cutbox-door.mjs). By AI agents, Wed Nov 11 2026. No macro, syntax, notation, axiom, sorry.
-/
import Derived.Test.YtppcjmbblkbkdaaGreatDoorRows
import GoSem.ClaimSeven
namespace Go.Proofs.YtppcjmbblkbkdaaGreatDoor
namespace Rows

/-- THE TIED CARD OF 'pidginlaw15.FillIntegers'. -/
def fillIntegersCard : Claim7 := { stood := { row := fillIntegersRow, standIns := [], harness := (true, "28d1b2da10709a823e73b271c13ecbbbf97a23454cf4520048c071bf4dc7aa3b"), looks := true }, kinds := [], alts := [], laidByText := true, laidKinds := [.handle, .sentinel, .sentinel, .sentinel, .sentinel, .sentinel, .sentinel, .sentinel, .sentinel, .sentinel, .sentinel, .sentinel, .sentinel, .sentinel, .sentinel, .sentinel, .sentinel, .sentinel, .sentinel, .sentinel, .sentinel, .sentinel], laidTests := true, laidLooks := .later }
def FillIntegersCardSaid : Prop := Claim7.holds Tryz.pinned (.plain (OpenSpec.ofChange fillIntegersSpec)) fillIntegersCard

/-- THE TIED CARD OF 'pidginlaw15.FillGreat'. -/
def fillGreatCard : Claim7 := { stood := { row := fillGreatRow, standIns := [], harness := (true, "28d1b2da10709a823e73b271c13ecbbbf97a23454cf4520048c071bf4dc7aa3b"), looks := true }, kinds := [], alts := [], laidByText := true, laidKinds := [.handle, .sentinel, .sentinel, .sentinel, .sentinel, .sentinel, .sentinel, .sentinel, .sentinel, .sentinel, .sentinel, .sentinel, .sentinel, .sentinel, .sentinel, .sentinel, .sentinel, .sentinel, .sentinel, .sentinel, .sentinel, .sentinel], laidTests := true, laidLooks := .later }
def FillGreatCardSaid : Prop := Claim7.holds Tryz.pinned (.plain (OpenSpec.ofChange fillGreatSpec)) fillGreatCard

/-- THE TIED CARD OF 'pidginlaw15.FillOnce'. -/
def fillOnceCard : Claim7 := { stood := { row := fillOnceRow, standIns := [], harness := (true, "28d1b2da10709a823e73b271c13ecbbbf97a23454cf4520048c071bf4dc7aa3b"), looks := true }, kinds := [], alts := [], laidByText := true, laidKinds := [.handle, .sentinel, .sentinel, .sentinel, .sentinel, .sentinel, .sentinel, .sentinel, .sentinel, .sentinel, .sentinel, .sentinel, .sentinel, .sentinel, .sentinel, .sentinel, .sentinel, .sentinel, .sentinel, .sentinel, .sentinel, .sentinel], laidTests := true, laidLooks := .later }
def FillOnceCardSaid : Prop := Claim7.holds Tryz.pinned (.plain (OpenSpec.ofChange fillOnceSpec)) fillOnceCard

/-- THE SECOND FORM's CARD OF 'pidginlaw15.FillIntegers'. -/
def fillIntegersUptoCard : Claim7 := { stood := { row := fillIntegersUptoRow, standIns := [], harness := (true, "28d1b2da10709a823e73b271c13ecbbbf97a23454cf4520048c071bf4dc7aa3b"), looks := true }, kinds := [], alts := [], laidByText := true, laidKinds := [.handle, .sentinel, .sentinel, .sentinel, .sentinel, .sentinel, .sentinel, .sentinel, .sentinel, .sentinel, .sentinel, .sentinel, .sentinel, .sentinel, .sentinel, .sentinel, .sentinel, .sentinel, .sentinel, .sentinel, .sentinel, .sentinel], laidTests := true, laidLooks := .later }
def FillIntegersUptoCardSaid : Prop := Claim7.holds Tryz.pinned (.plain (OpenSpec.upto fillIntegersSpec)) fillIntegersUptoCard

/-- THE SECOND FORM's CARD OF 'pidginlaw15.FillGreat'. -/
def fillGreatUptoCard : Claim7 := { stood := { row := fillGreatUptoRow, standIns := [], harness := (true, "28d1b2da10709a823e73b271c13ecbbbf97a23454cf4520048c071bf4dc7aa3b"), looks := true }, kinds := [], alts := [], laidByText := true, laidKinds := [.handle, .sentinel, .sentinel, .sentinel, .sentinel, .sentinel, .sentinel, .sentinel, .sentinel, .sentinel, .sentinel, .sentinel, .sentinel, .sentinel, .sentinel, .sentinel, .sentinel, .sentinel, .sentinel, .sentinel, .sentinel, .sentinel], laidTests := true, laidLooks := .later }
def FillGreatUptoCardSaid : Prop := Claim7.holds Tryz.pinned (.plain (OpenSpec.upto fillGreatSpec)) fillGreatUptoCard

/-- THE SECOND FORM's CARD OF 'pidginlaw15.FillOnce'. -/
def fillOnceUptoCard : Claim7 := { stood := { row := fillOnceUptoRow, standIns := [], harness := (true, "28d1b2da10709a823e73b271c13ecbbbf97a23454cf4520048c071bf4dc7aa3b"), looks := true }, kinds := [], alts := [], laidByText := true, laidKinds := [.handle, .sentinel, .sentinel, .sentinel, .sentinel, .sentinel, .sentinel, .sentinel, .sentinel, .sentinel, .sentinel, .sentinel, .sentinel, .sentinel, .sentinel, .sentinel, .sentinel, .sentinel, .sentinel, .sentinel, .sentinel, .sentinel], laidTests := true, laidLooks := .later }
def FillOnceUptoCardSaid : Prop := Claim7.holds Tryz.pinned (.plain (OpenSpec.upto fillOnceSpec)) fillOnceUptoCard
end Rows
end Go.Proofs.YtppcjmbblkbkdaaGreatDoor
