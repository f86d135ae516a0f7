/- The walk of pidginlaw15.FillNumbers: it returns true. Conditions as typed. -/
import Derived.Test.YtkecmfjjekagiaaDoorRef4
import Derived.Test.YtkecmfjjekagiaaDoorPrintf
namespace Go.Proofs.YtkecmfjjekagiaaDoor
open Go.RowKit Pg

set_option maxRecDepth 100000 in
set_option maxHeartbeats 4000000 in
/-- FillNumbers: it returns true. -/
theorem fillNumbers_walk (S : ByteArray) (w : World) (A : Nat → Addr) (hS : Sents0 w A) (hs : S.size ≤ maxLen) :
    Calls Tryd.prog 11 #[.string S] w fun e w' => e = .returned (.bool true) ∧ Below w.heap.size w w' := by
  have HS := Lib.hid hS
  have C1 := fun W => fill_Number S W hs
  have C2 := fun W => ref_Number S W hs
  generalize num (bl S) = x at *
  obtain ⟨n, c⟩ := x
  have C1 := Lib.hid C1
  have C2 := Lib.hid C2
  clear hS
  go_enter Tryd.func11, Tryd.ntmps11
  go_wp2_with fail
  refine (C1.out _).mono ?_
  rintro e w1 ⟨rfl, hb1⟩
  have HB1 := Lib.hid hb1
  clear hb1
  go_wp2_with fail
  refine (C2.out _).mono ?_
  rintro e w2 ⟨rfl, hb2⟩
  have HB2 := Lib.hid (HB1.out.trans (hb2.mono HB1.out.size))
  have CA := Lib.hid (fill_awake w2 A (HS.out.kept HB2.out (Nat.le_refl _)))
  clear hb2
  go_wp2_with (go_at_call 39; refine CA.out.mono ?_; rintro e w3 ⟨rfl, hb3⟩; have HB3 := Lib.hid hb3; clear hb3)
  go_ret
  exact ⟨rfl, HB2.out.trans (HB3.out.mono HB2.out.size)⟩
end Go.Proofs.YtkecmfjjekagiaaDoor
