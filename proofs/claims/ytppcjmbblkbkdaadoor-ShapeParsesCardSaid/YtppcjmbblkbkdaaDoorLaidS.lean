/- ShapeParses: what its listed variables give, and a world in which they lie. No conditions. -/
import Derived.Test.YtppcjmbblkbkdaaDoorLaid
import Derived.Test.YtppcjmbblkbkdaaDoorTextA
import Derived.Lib.LaidTab
namespace Go.Proofs.YtppcjmbblkbkdaaDoor
open Go.ChangeShapes Go.WideShapes Go.ChangeAt Go.RowKit

def dataS : List (String × DataW Unit) := Rows.shapeParsesRow.laid.filter fun x => x.2.handleName?.isNone
theorem dataS_eq : dataS = ("math/bits.deBruijn32tab", Rows.laid_math_bits_deBruijn32tab) :: ("math/bits.deBruijn64tab", Rows.laid_math_bits_deBruijn64tab) :: ("internal/strconv.uint64pow10", Lib.tabData .u64 Lib.pow10Tab) :: data21 := by kernel_rfl
theorem sents_S {W : World} (h : laidMet Tryd.prog dataS W) : ∃ A, Sents0 W A := by
  rw [dataS_eq] at h
  exact sents_of_met h.tail.tail.tail
theorem pow_S {W : World} (h : laidMet Tryd.prog dataS W) : Lib.TabIs Tryd.prog W "internal/strconv.uint64pow10" .u64 Lib.pow10Tab := by
  rw [dataS_eq] at h
  exact Lib.tabIs_of_head (g := 24) (t := 160) (e := 76) (n := 20) (by kernel_rfl) (by kernel_rfl) (by kernel_rfl) (by kernel_rfl) (by kernel_rfl) (by kernel_rfl) h.tail.tail

noncomputable def laidWorldS (os : Os) : World := (base0 os).layVars Tryd.prog dataS
theorem laidWorldS_os (os : Os) : (laidWorldS os).os = os := World.layVars_os _ _ _
set_option maxRecDepth 100000 in
theorem laidWorldS_met (os : Os) (args : Array Value) : laidMet Tryd.prog dataS ((laidWorldS os).forCall (fun _ _ => 0) ⟨#[], args, []⟩).memory := by
  have e1 : (dataS.filter fun x => (dataS.map (·.1)).contains x.1) = dataS := List.filter_eq_self.2 fun x hx => List.contains_iff_mem.2 (List.mem_map.2 ⟨x, hx, rfl⟩)
  have e2 : (dataS.filter fun x => !(dataS.map (·.1)).contains x.1) = [] := List.filter_eq_nil_iff.2 fun x hx => by rw [List.contains_iff_mem.2 (List.mem_map.2 ⟨x, hx, rfl⟩)]; simp
  have h : laidMet Tryd.prog dataS (laidWorldS os) := laidMet_layVars (w0 := base0 os) (dataS.map (·.1)) [] (by rw [e1]; rfl) (by rw [e1]; kernel_rfl) (by rw [e1]; kernel_rfl) (by rw [e2]; exact LaidIn.none)
  exact h.of_heap (by simp [World.memory, World.forCall, Input.heap])
end Go.Proofs.YtppcjmbblkbkdaaDoor
