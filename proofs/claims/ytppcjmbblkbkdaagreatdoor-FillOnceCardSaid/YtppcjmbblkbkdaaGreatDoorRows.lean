/-
  NARROWER THAN 'FOR EVERY INPUT', by the rows' own cells (each row's printed sentence says how): FillIntegers: laid · FillGreat: laid · FillOnce: laid.
  DERIVED. THE GIVEN ROWS OF THIS SEAT. 3 by the template 'for every input the law returns true; each argument reads behind the call as it read before'; 0 by the template 'total and deterministic' (their statements: YtppcjmbblkbkdaaGreatDoorTotals.lean).
  GIVEN WITH THE SEED: the statements are not yours to turn. If you find one false, say at which input.
  Laid BY PROGRAM, IN A SANDBOX (cutbox-rows.mjs): the forced cells as the released guide's own fill.sh prints them over the translation 307841e12cee9cae… (all of the seat's roots in one cut). By AI agents, Wed Nov 11 2026. No macro, syntax, notation, axiom, sorry.
-/
import Derived.Test.YtppcjmbblkbkdaaGreatDoorChecked
import GoSem.Claim
import GoSem.ClaimJoined
import GoSem.ClaimMapViews
import Derived.JoinedTies
import Derived.KernelRfl
namespace Go.Proofs.YtppcjmbblkbkdaaGreatDoor
/- THE CELL 'sum', in the pinned program and in every row, IS THE sha256 OF THE DUMP (.gsa) THAT YtppcjmbblkbkdaaGreatDoorProg.lean LOADS. Nothing in Lean hashes anything: it is a label: what it is worth is what the hold of that sum in a sandbox is worth. -/
noncomputable def Tryz.pinned : Pinned := { name := "ytppcjmbblkbkdaagreatdoor", sum := "307841e12cee9cae917dc45b49ecb0cb39a4b04fa82ee6023e259b777fea395f", checked := Tryz.checked }
namespace Rows
def none {H : Type} : Left H := { results := [], args := [] }

/- WHAT THE LISTED PACKAGE-LEVEL VARIABLES READ AS WHEN THE CALL BEGINS. Each datum BY PROGRAM (the guide's laid-datum.mjs) off the statement by which the dump's own 'gosem.cut.vars' lays the variable. In a bare row this is a premise. The card (YtppcjmbblkbkdaaGreatDoorCards.lean) ties it to the program's text. -/
def laid_errors_errorType {H : Type} : DataW H := .iface "internal/reflectlite.rtype" (.agg [.ptr (.lit (.string [101, 114, 114, 111, 114]))])
def laid_pidgin_fault_errArg {H : Type} : DataW H := .iface "*errors.errorString" (.ptr (.agg [.lit (.string [97, 114, 103, 117, 109, 101, 110, 116])]))
def laid_pidgin_fault_errLong {H : Type} : DataW H := .iface "*errors.errorString" (.ptr (.agg [.lit (.string [108, 111, 110, 103])]))
def laid_pidgin_fault_errSyntax {H : Type} : DataW H := .iface "*errors.errorString" (.ptr (.agg [.lit (.string [115, 121, 110, 116, 97, 120])]))
def laid_pidgin_fault_errDeep {H : Type} : DataW H := .iface "*errors.errorString" (.ptr (.agg [.lit (.string [100, 101, 101, 112])]))
def laid_pidgin_fault_errMany {H : Type} : DataW H := .iface "*errors.errorString" (.ptr (.agg [.lit (.string [109, 97, 110, 121])]))
def laid_pidgin_fault_errNumber {H : Type} : DataW H := .iface "*errors.errorString" (.ptr (.agg [.lit (.string [110, 117, 109, 98, 101, 114])]))
def laid_pidgin_fault_errRange {H : Type} : DataW H := .iface "*errors.errorString" (.ptr (.agg [.lit (.string [114, 97, 110, 103, 101])]))
def laid_pidgin_fault_errBracket {H : Type} : DataW H := .iface "*errors.errorString" (.ptr (.agg [.lit (.string [98, 114, 97, 99, 107, 101, 116])]))
def laid_pidgin_fault_errGroup {H : Type} : DataW H := .iface "*errors.errorString" (.ptr (.agg [.lit (.string [103, 114, 111, 117, 112])]))
def laid_pidgin_fault_errEscape {H : Type} : DataW H := .iface "*errors.errorString" (.ptr (.agg [.lit (.string [101, 115, 99, 97, 112, 101])]))
def laid_pidgin_fault_errStates {H : Type} : DataW H := .iface "*errors.errorString" (.ptr (.agg [.lit (.string [115, 116, 97, 116, 101, 115])]))
def laid_pidgin_fault_errDivide {H : Type} : DataW H := .iface "*errors.errorString" (.ptr (.agg [.lit (.string [100, 105, 118, 105, 100, 101])]))
def laid_pidgin_fault_errValue {H : Type} : DataW H := .iface "*errors.errorString" (.ptr (.agg [.lit (.string [118, 97, 108, 117, 101])]))
def laid_pidgin_fault_errOperand {H : Type} : DataW H := .iface "*errors.errorString" (.ptr (.agg [.lit (.string [111, 112, 101, 114, 97, 110, 100])]))
def laid_pidgin_fault_errName {H : Type} : DataW H := .iface "*errors.errorString" (.ptr (.agg [.lit (.string [110, 97, 109, 101])]))
def laid_pidgin_fault_errFile {H : Type} : DataW H := .iface "*errors.errorString" (.ptr (.agg [.lit (.string [102, 105, 108, 101])]))
def laid_pidgin_fault_errDir {H : Type} : DataW H := .iface "*errors.errorString" (.ptr (.agg [.lit (.string [100, 105, 114])]))
def laid_pidgin_fault_errExists {H : Type} : DataW H := .iface "*errors.errorString" (.ptr (.agg [.lit (.string [101, 120, 105, 115, 116, 115])]))
def laid_pidgin_fault_errFull {H : Type} : DataW H := .iface "*errors.errorString" (.ptr (.agg [.lit (.string [102, 117, 108, 108])]))
def laid_pidgin_fault_errLabel {H : Type} : DataW H := .iface "*errors.errorString" (.ptr (.agg [.lit (.string [108, 97, 98, 101, 108])]))
def laid_pidgin_fault_errFuel {H : Type} : DataW H := .iface "*errors.errorString" (.ptr (.agg [.lit (.string [102, 117, 101, 108])]))

/-- 'pidginlaw15.FillIntegers': WHATEVER THE INPUT: true; the input reads as it did. -/
def fillIntegersSpec : ChangeSpec := { name := "fillIntegers", fn := fun _ => fun
  | [d1, d2, d3, d4, d5] => { results := [.lit (.bool true)], args := [d1, d2, d3, d4, d5] }
  | _ => none }
def fillIntegersRow : OpenClaim := { program := "ytppcjmbblkbkdaagreatdoor", sum := "307841e12cee9cae917dc45b49ecb0cb39a4b04fa82ee6023e259b777fea395f", func := "pidgin/pidginlaw15.FillIntegers", spec := "fillIntegers", inPlace := ["internal/bytealg.IndexByteString", "internal/abi.NoEscape", "internal/bytealg.MakeNoZero", "internal/reflectlite.TypeOf", "internal/reflectlite.ValueOf", "(internal/reflectlite.Value).Type", "(internal/reflectlite.Value).IsNil", "(internal/reflectlite.Value).Elem", "(internal/reflectlite.Value).Set"], unfollowed := true, recurses := true, named := ["pidgin/fault.errArg", "pidgin/fault.errLong", "pidgin/fault.errSyntax", "pidgin/fault.errDeep", "pidgin/fault.errMany", "pidgin/fault.errNumber", "pidgin/fault.errRange", "pidgin/fault.errBracket", "pidgin/fault.errGroup", "pidgin/fault.errEscape", "pidgin/fault.errStates", "pidgin/fault.errDivide", "pidgin/fault.errValue", "pidgin/fault.errOperand", "pidgin/fault.errName", "pidgin/fault.errFile", "pidgin/fault.errDir", "pidgin/fault.errExists", "pidgin/fault.errFull", "pidgin/fault.errLabel", "pidgin/fault.errFuel", "errors.errorType"], apart := false, laid := [("errors.errorType", laid_errors_errorType), ("pidgin/fault.errArg", laid_pidgin_fault_errArg), ("pidgin/fault.errLong", laid_pidgin_fault_errLong), ("pidgin/fault.errSyntax", laid_pidgin_fault_errSyntax), ("pidgin/fault.errDeep", laid_pidgin_fault_errDeep), ("pidgin/fault.errMany", laid_pidgin_fault_errMany), ("pidgin/fault.errNumber", laid_pidgin_fault_errNumber), ("pidgin/fault.errRange", laid_pidgin_fault_errRange), ("pidgin/fault.errBracket", laid_pidgin_fault_errBracket), ("pidgin/fault.errGroup", laid_pidgin_fault_errGroup), ("pidgin/fault.errEscape", laid_pidgin_fault_errEscape), ("pidgin/fault.errStates", laid_pidgin_fault_errStates), ("pidgin/fault.errDivide", laid_pidgin_fault_errDivide), ("pidgin/fault.errValue", laid_pidgin_fault_errValue), ("pidgin/fault.errOperand", laid_pidgin_fault_errOperand), ("pidgin/fault.errName", laid_pidgin_fault_errName), ("pidgin/fault.errFile", laid_pidgin_fault_errFile), ("pidgin/fault.errDir", laid_pidgin_fault_errDir), ("pidgin/fault.errExists", laid_pidgin_fault_errExists), ("pidgin/fault.errFull", laid_pidgin_fault_errFull), ("pidgin/fault.errLabel", laid_pidgin_fault_errLabel), ("pidgin/fault.errFuel", laid_pidgin_fault_errFuel)] }
def FillIntegersSaid : Prop := fillIntegersRow.holds Tryz.pinned (OpenSpec.ofChange fillIntegersSpec)

/-- ITS FALSE NEIGHBOUR: 'it returns false'. Refute it at one input. -/
def fillIntegersWrong : ChangeSpec := { name := "fillIntegers", fn := fun _ => fun
  | [d1, d2, d3, d4, d5] => { results := [.lit (.bool false)], args := [d1, d2, d3, d4, d5] }
  | _ => none }
def FillIntegersWrongFalsely : Prop := fillIntegersRow.holds Tryz.pinned (OpenSpec.ofChange fillIntegersWrong)

/-- 'pidginlaw15.FillGreat': WHATEVER THE INPUT: true; the input reads as it did. -/
def fillGreatSpec : ChangeSpec := { name := "fillGreat", fn := fun _ => fun
  | [d1, d2, d3, d4] => { results := [.lit (.bool true)], args := [d1, d2, d3, d4] }
  | _ => none }
def fillGreatRow : OpenClaim := { program := "ytppcjmbblkbkdaagreatdoor", sum := "307841e12cee9cae917dc45b49ecb0cb39a4b04fa82ee6023e259b777fea395f", func := "pidgin/pidginlaw15.FillGreat", spec := "fillGreat", inPlace := ["internal/bytealg.IndexByteString", "internal/abi.NoEscape", "internal/bytealg.MakeNoZero", "internal/reflectlite.TypeOf", "internal/reflectlite.ValueOf", "(internal/reflectlite.Value).Type", "(internal/reflectlite.Value).IsNil", "(internal/reflectlite.Value).Elem", "(internal/reflectlite.Value).Set"], unfollowed := true, recurses := true, named := ["pidgin/fault.errArg", "pidgin/fault.errLong", "pidgin/fault.errSyntax", "pidgin/fault.errDeep", "pidgin/fault.errMany", "pidgin/fault.errNumber", "pidgin/fault.errRange", "pidgin/fault.errBracket", "pidgin/fault.errGroup", "pidgin/fault.errEscape", "pidgin/fault.errStates", "pidgin/fault.errDivide", "pidgin/fault.errValue", "pidgin/fault.errOperand", "pidgin/fault.errName", "pidgin/fault.errFile", "pidgin/fault.errDir", "pidgin/fault.errExists", "pidgin/fault.errFull", "pidgin/fault.errLabel", "pidgin/fault.errFuel", "errors.errorType"], apart := false, laid := [("errors.errorType", laid_errors_errorType), ("pidgin/fault.errArg", laid_pidgin_fault_errArg), ("pidgin/fault.errLong", laid_pidgin_fault_errLong), ("pidgin/fault.errSyntax", laid_pidgin_fault_errSyntax), ("pidgin/fault.errDeep", laid_pidgin_fault_errDeep), ("pidgin/fault.errMany", laid_pidgin_fault_errMany), ("pidgin/fault.errNumber", laid_pidgin_fault_errNumber), ("pidgin/fault.errRange", laid_pidgin_fault_errRange), ("pidgin/fault.errBracket", laid_pidgin_fault_errBracket), ("pidgin/fault.errGroup", laid_pidgin_fault_errGroup), ("pidgin/fault.errEscape", laid_pidgin_fault_errEscape), ("pidgin/fault.errStates", laid_pidgin_fault_errStates), ("pidgin/fault.errDivide", laid_pidgin_fault_errDivide), ("pidgin/fault.errValue", laid_pidgin_fault_errValue), ("pidgin/fault.errOperand", laid_pidgin_fault_errOperand), ("pidgin/fault.errName", laid_pidgin_fault_errName), ("pidgin/fault.errFile", laid_pidgin_fault_errFile), ("pidgin/fault.errDir", laid_pidgin_fault_errDir), ("pidgin/fault.errExists", laid_pidgin_fault_errExists), ("pidgin/fault.errFull", laid_pidgin_fault_errFull), ("pidgin/fault.errLabel", laid_pidgin_fault_errLabel), ("pidgin/fault.errFuel", laid_pidgin_fault_errFuel)] }
def FillGreatSaid : Prop := fillGreatRow.holds Tryz.pinned (OpenSpec.ofChange fillGreatSpec)

/-- ITS FALSE NEIGHBOUR: 'it returns false'. Refute it at one input. -/
def fillGreatWrong : ChangeSpec := { name := "fillGreat", fn := fun _ => fun
  | [d1, d2, d3, d4] => { results := [.lit (.bool false)], args := [d1, d2, d3, d4] }
  | _ => none }
def FillGreatWrongFalsely : Prop := fillGreatRow.holds Tryz.pinned (OpenSpec.ofChange fillGreatWrong)

/-- 'pidginlaw15.FillOnce': WHATEVER THE INPUT: true; the input reads as it did. -/
def fillOnceSpec : ChangeSpec := { name := "fillOnce", fn := fun _ => fun
  | [d1, d2] => { results := [.lit (.bool true)], args := [d1, d2] }
  | _ => none }
def fillOnceRow : OpenClaim := { program := "ytppcjmbblkbkdaagreatdoor", sum := "307841e12cee9cae917dc45b49ecb0cb39a4b04fa82ee6023e259b777fea395f", func := "pidgin/pidginlaw15.FillOnce", spec := "fillOnce", inPlace := ["internal/bytealg.IndexByteString", "internal/reflectlite.TypeOf", "internal/reflectlite.ValueOf", "(internal/reflectlite.Value).Type", "(internal/reflectlite.Value).IsNil", "(internal/reflectlite.Value).Elem", "(internal/reflectlite.Value).Set", "internal/abi.NoEscape", "internal/bytealg.MakeNoZero"], unfollowed := true, recurses := true, named := ["pidgin/fault.errArg", "pidgin/fault.errLong", "pidgin/fault.errSyntax", "pidgin/fault.errDeep", "pidgin/fault.errMany", "pidgin/fault.errNumber", "pidgin/fault.errRange", "pidgin/fault.errBracket", "pidgin/fault.errGroup", "pidgin/fault.errEscape", "pidgin/fault.errStates", "pidgin/fault.errDivide", "pidgin/fault.errValue", "pidgin/fault.errOperand", "pidgin/fault.errName", "pidgin/fault.errFile", "pidgin/fault.errDir", "pidgin/fault.errExists", "pidgin/fault.errFull", "pidgin/fault.errLabel", "pidgin/fault.errFuel", "errors.errorType"], apart := false, laid := [("errors.errorType", laid_errors_errorType), ("pidgin/fault.errArg", laid_pidgin_fault_errArg), ("pidgin/fault.errLong", laid_pidgin_fault_errLong), ("pidgin/fault.errSyntax", laid_pidgin_fault_errSyntax), ("pidgin/fault.errDeep", laid_pidgin_fault_errDeep), ("pidgin/fault.errMany", laid_pidgin_fault_errMany), ("pidgin/fault.errNumber", laid_pidgin_fault_errNumber), ("pidgin/fault.errRange", laid_pidgin_fault_errRange), ("pidgin/fault.errBracket", laid_pidgin_fault_errBracket), ("pidgin/fault.errGroup", laid_pidgin_fault_errGroup), ("pidgin/fault.errEscape", laid_pidgin_fault_errEscape), ("pidgin/fault.errStates", laid_pidgin_fault_errStates), ("pidgin/fault.errDivide", laid_pidgin_fault_errDivide), ("pidgin/fault.errValue", laid_pidgin_fault_errValue), ("pidgin/fault.errOperand", laid_pidgin_fault_errOperand), ("pidgin/fault.errName", laid_pidgin_fault_errName), ("pidgin/fault.errFile", laid_pidgin_fault_errFile), ("pidgin/fault.errDir", laid_pidgin_fault_errDir), ("pidgin/fault.errExists", laid_pidgin_fault_errExists), ("pidgin/fault.errFull", laid_pidgin_fault_errFull), ("pidgin/fault.errLabel", laid_pidgin_fault_errLabel), ("pidgin/fault.errFuel", laid_pidgin_fault_errFuel)] }
def FillOnceSaid : Prop := fillOnceRow.holds Tryz.pinned (OpenSpec.ofChange fillOnceSpec)

/-- ITS FALSE NEIGHBOUR: 'it returns false'. Refute it at one input. -/
def fillOnceWrong : ChangeSpec := { name := "fillOnce", fn := fun _ => fun
  | [d1, d2] => { results := [.lit (.bool false)], args := [d1, d2] }
  | _ => none }
def FillOnceWrongFalsely : Prop := fillOnceRow.holds Tryz.pinned (OpenSpec.ofChange fillOnceWrong)

/- THE SECOND FORM. 'bulk': how many values and letters a reading holds, each counted each time it is reached (what is shared counts as often as it is met; a slice's spare places count too). A statement '..UptoSaid' is the law's where the arguments, and the package variables that the reading takes, are together of bulk at most 1048576: NARROWER than '..Said'. Prove '..Said' where nothing that the law and all that it calls make is longer than what came in: it says more and counts as full. Else prove '..UptoSaid'. A law counts once. -/
mutual
def uptoBulk {H : Type} : DataW H → Nat
  | .lit (.string bytes) => bytes.length + 1
  | .lit _ => 1
  | .nil => 1
  | .ptr d => uptoBulk d + 1
  | .slice elems spare => uptoBulkAll elems + uptoBulkAll spare + 1
  | .agg parts => uptoBulkAll parts + 1
  | .iface _ d => uptoBulk d + 1
  | .map entries => uptoBulkEntries entries + 1
  | .held _ => 1
def uptoBulkAll {H : Type} : List (DataW H) → Nat
  | [] => 0
  | d :: r => uptoBulk d + uptoBulkAll r
def uptoBulkEntries {H : Type} : List (Lit × DataW H) → Nat
  | [] => 0
  | x :: r => uptoBulkEntry x + uptoBulkEntries r
def uptoBulkEntry {H : Type} : Lit × DataW H → Nat
  | (.string bytes, d) => bytes.length + uptoBulk d + 1
  | (_, d) => uptoBulk d + 1
 end
def uptoSmall : (H : Type) → List (DataW H) → Bool := fun _ ds => decide (uptoBulkAll ds ≤ 1048576)
def OpenSpec.upto (s : _root_.Go.ChangeSpec) : _root_.Go.OpenSpec := { _root_.Go.OpenSpec.ofChange s with cond := some uptoSmall }

/-- 'pidginlaw15.FillIntegers', WHERE WHAT IT READS IS OF BULK AT MOST 1048576: true; the input reads as it did. -/
def fillIntegersUptoRow : OpenClaim := { program := "ytppcjmbblkbkdaagreatdoor", sum := "307841e12cee9cae917dc45b49ecb0cb39a4b04fa82ee6023e259b777fea395f", func := "pidgin/pidginlaw15.FillIntegers", spec := "fillIntegers", inPlace := ["internal/bytealg.IndexByteString", "internal/abi.NoEscape", "internal/bytealg.MakeNoZero", "internal/reflectlite.TypeOf", "internal/reflectlite.ValueOf", "(internal/reflectlite.Value).Type", "(internal/reflectlite.Value).IsNil", "(internal/reflectlite.Value).Elem", "(internal/reflectlite.Value).Set"], unfollowed := true, recurses := true, named := ["pidgin/fault.errArg", "pidgin/fault.errLong", "pidgin/fault.errSyntax", "pidgin/fault.errDeep", "pidgin/fault.errMany", "pidgin/fault.errNumber", "pidgin/fault.errRange", "pidgin/fault.errBracket", "pidgin/fault.errGroup", "pidgin/fault.errEscape", "pidgin/fault.errStates", "pidgin/fault.errDivide", "pidgin/fault.errValue", "pidgin/fault.errOperand", "pidgin/fault.errName", "pidgin/fault.errFile", "pidgin/fault.errDir", "pidgin/fault.errExists", "pidgin/fault.errFull", "pidgin/fault.errLabel", "pidgin/fault.errFuel", "errors.errorType"], apart := false, laid := [("errors.errorType", laid_errors_errorType), ("pidgin/fault.errArg", laid_pidgin_fault_errArg), ("pidgin/fault.errLong", laid_pidgin_fault_errLong), ("pidgin/fault.errSyntax", laid_pidgin_fault_errSyntax), ("pidgin/fault.errDeep", laid_pidgin_fault_errDeep), ("pidgin/fault.errMany", laid_pidgin_fault_errMany), ("pidgin/fault.errNumber", laid_pidgin_fault_errNumber), ("pidgin/fault.errRange", laid_pidgin_fault_errRange), ("pidgin/fault.errBracket", laid_pidgin_fault_errBracket), ("pidgin/fault.errGroup", laid_pidgin_fault_errGroup), ("pidgin/fault.errEscape", laid_pidgin_fault_errEscape), ("pidgin/fault.errStates", laid_pidgin_fault_errStates), ("pidgin/fault.errDivide", laid_pidgin_fault_errDivide), ("pidgin/fault.errValue", laid_pidgin_fault_errValue), ("pidgin/fault.errOperand", laid_pidgin_fault_errOperand), ("pidgin/fault.errName", laid_pidgin_fault_errName), ("pidgin/fault.errFile", laid_pidgin_fault_errFile), ("pidgin/fault.errDir", laid_pidgin_fault_errDir), ("pidgin/fault.errExists", laid_pidgin_fault_errExists), ("pidgin/fault.errFull", laid_pidgin_fault_errFull), ("pidgin/fault.errLabel", laid_pidgin_fault_errLabel), ("pidgin/fault.errFuel", laid_pidgin_fault_errFuel)], narrowed := true }
def FillIntegersUptoSaid : Prop := fillIntegersUptoRow.holds Tryz.pinned (OpenSpec.upto fillIntegersSpec)

/-- 'pidginlaw15.FillGreat', WHERE WHAT IT READS IS OF BULK AT MOST 1048576: true; the input reads as it did. -/
def fillGreatUptoRow : OpenClaim := { program := "ytppcjmbblkbkdaagreatdoor", sum := "307841e12cee9cae917dc45b49ecb0cb39a4b04fa82ee6023e259b777fea395f", func := "pidgin/pidginlaw15.FillGreat", spec := "fillGreat", inPlace := ["internal/bytealg.IndexByteString", "internal/abi.NoEscape", "internal/bytealg.MakeNoZero", "internal/reflectlite.TypeOf", "internal/reflectlite.ValueOf", "(internal/reflectlite.Value).Type", "(internal/reflectlite.Value).IsNil", "(internal/reflectlite.Value).Elem", "(internal/reflectlite.Value).Set"], unfollowed := true, recurses := true, named := ["pidgin/fault.errArg", "pidgin/fault.errLong", "pidgin/fault.errSyntax", "pidgin/fault.errDeep", "pidgin/fault.errMany", "pidgin/fault.errNumber", "pidgin/fault.errRange", "pidgin/fault.errBracket", "pidgin/fault.errGroup", "pidgin/fault.errEscape", "pidgin/fault.errStates", "pidgin/fault.errDivide", "pidgin/fault.errValue", "pidgin/fault.errOperand", "pidgin/fault.errName", "pidgin/fault.errFile", "pidgin/fault.errDir", "pidgin/fault.errExists", "pidgin/fault.errFull", "pidgin/fault.errLabel", "pidgin/fault.errFuel", "errors.errorType"], apart := false, laid := [("errors.errorType", laid_errors_errorType), ("pidgin/fault.errArg", laid_pidgin_fault_errArg), ("pidgin/fault.errLong", laid_pidgin_fault_errLong), ("pidgin/fault.errSyntax", laid_pidgin_fault_errSyntax), ("pidgin/fault.errDeep", laid_pidgin_fault_errDeep), ("pidgin/fault.errMany", laid_pidgin_fault_errMany), ("pidgin/fault.errNumber", laid_pidgin_fault_errNumber), ("pidgin/fault.errRange", laid_pidgin_fault_errRange), ("pidgin/fault.errBracket", laid_pidgin_fault_errBracket), ("pidgin/fault.errGroup", laid_pidgin_fault_errGroup), ("pidgin/fault.errEscape", laid_pidgin_fault_errEscape), ("pidgin/fault.errStates", laid_pidgin_fault_errStates), ("pidgin/fault.errDivide", laid_pidgin_fault_errDivide), ("pidgin/fault.errValue", laid_pidgin_fault_errValue), ("pidgin/fault.errOperand", laid_pidgin_fault_errOperand), ("pidgin/fault.errName", laid_pidgin_fault_errName), ("pidgin/fault.errFile", laid_pidgin_fault_errFile), ("pidgin/fault.errDir", laid_pidgin_fault_errDir), ("pidgin/fault.errExists", laid_pidgin_fault_errExists), ("pidgin/fault.errFull", laid_pidgin_fault_errFull), ("pidgin/fault.errLabel", laid_pidgin_fault_errLabel), ("pidgin/fault.errFuel", laid_pidgin_fault_errFuel)], narrowed := true }
def FillGreatUptoSaid : Prop := fillGreatUptoRow.holds Tryz.pinned (OpenSpec.upto fillGreatSpec)

/-- 'pidginlaw15.FillOnce', WHERE WHAT IT READS IS OF BULK AT MOST 1048576: true; the input reads as it did. -/
def fillOnceUptoRow : OpenClaim := { program := "ytppcjmbblkbkdaagreatdoor", sum := "307841e12cee9cae917dc45b49ecb0cb39a4b04fa82ee6023e259b777fea395f", func := "pidgin/pidginlaw15.FillOnce", spec := "fillOnce", inPlace := ["internal/bytealg.IndexByteString", "internal/reflectlite.TypeOf", "internal/reflectlite.ValueOf", "(internal/reflectlite.Value).Type", "(internal/reflectlite.Value).IsNil", "(internal/reflectlite.Value).Elem", "(internal/reflectlite.Value).Set", "internal/abi.NoEscape", "internal/bytealg.MakeNoZero"], unfollowed := true, recurses := true, named := ["pidgin/fault.errArg", "pidgin/fault.errLong", "pidgin/fault.errSyntax", "pidgin/fault.errDeep", "pidgin/fault.errMany", "pidgin/fault.errNumber", "pidgin/fault.errRange", "pidgin/fault.errBracket", "pidgin/fault.errGroup", "pidgin/fault.errEscape", "pidgin/fault.errStates", "pidgin/fault.errDivide", "pidgin/fault.errValue", "pidgin/fault.errOperand", "pidgin/fault.errName", "pidgin/fault.errFile", "pidgin/fault.errDir", "pidgin/fault.errExists", "pidgin/fault.errFull", "pidgin/fault.errLabel", "pidgin/fault.errFuel", "errors.errorType"], apart := false, laid := [("errors.errorType", laid_errors_errorType), ("pidgin/fault.errArg", laid_pidgin_fault_errArg), ("pidgin/fault.errLong", laid_pidgin_fault_errLong), ("pidgin/fault.errSyntax", laid_pidgin_fault_errSyntax), ("pidgin/fault.errDeep", laid_pidgin_fault_errDeep), ("pidgin/fault.errMany", laid_pidgin_fault_errMany), ("pidgin/fault.errNumber", laid_pidgin_fault_errNumber), ("pidgin/fault.errRange", laid_pidgin_fault_errRange), ("pidgin/fault.errBracket", laid_pidgin_fault_errBracket), ("pidgin/fault.errGroup", laid_pidgin_fault_errGroup), ("pidgin/fault.errEscape", laid_pidgin_fault_errEscape), ("pidgin/fault.errStates", laid_pidgin_fault_errStates), ("pidgin/fault.errDivide", laid_pidgin_fault_errDivide), ("pidgin/fault.errValue", laid_pidgin_fault_errValue), ("pidgin/fault.errOperand", laid_pidgin_fault_errOperand), ("pidgin/fault.errName", laid_pidgin_fault_errName), ("pidgin/fault.errFile", laid_pidgin_fault_errFile), ("pidgin/fault.errDir", laid_pidgin_fault_errDir), ("pidgin/fault.errExists", laid_pidgin_fault_errExists), ("pidgin/fault.errFull", laid_pidgin_fault_errFull), ("pidgin/fault.errLabel", laid_pidgin_fault_errLabel), ("pidgin/fault.errFuel", laid_pidgin_fault_errFuel)], narrowed := true }
def FillOnceUptoSaid : Prop := fillOnceUptoRow.holds Tryz.pinned (OpenSpec.upto fillOnceSpec)

end Rows
end Go.Proofs.YtppcjmbblkbkdaaGreatDoor
