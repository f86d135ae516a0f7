/- The walks of pidginlaw14.awake and of ShapeNil: they return true. Conditions as typed. -/
import Derived.Test.YtkecmfjjekagiaaDoorFText
import Derived.Lib.SlBytesConst
namespace Go.Proofs.YtkecmfjjekagiaaDoor
open Go.RowKit Pg

theorem shape_Parts_nil (w : World) : Calls Tryd.prog 29 #[.pointer none] w fun e w' => e = .returned (.slice none 0 0) ∧ w = w' := by
  go_enter Tryd.func29, Tryd.ntmps29
  go_wp2
  go_ret
  exact ⟨rfl, rfl⟩
theorem shape_Text_nil (w : World) : Calls Tryd.prog 30 #[.pointer none] w fun e w' => e = .returned (.string ⟨#[]⟩) ∧ w = w' := by
  go_enter Tryd.func30, Tryd.ntmps30
  go_wp2
  go_ret
  exact ⟨rfl, rfl⟩
theorem shape_Wants_nil (w : World) : Calls Tryd.prog 31 #[.pointer none] w fun e w' => e = .returned (.int .i64 0) ∧ w = w' := by
  go_enter Tryd.func31, Tryd.ntmps31
  go_wp2
  go_ret
  exact ⟨rfl, rfl⟩

/-- Bytes in a row of their own, marked. -/
theorem Bs.mark (w : World) (t : TypeId) (fr : Nat × Nat) (l : List UInt8) (hm : l.length ≤ maxLen) : Bs (w.alloc (.cells (u8s l).toArray t fr)) (some ⟨w.heap.size, 0, none⟩) l.length l :=
  ⟨Nat.le_refl _, hm, fun i hi => ⟨w.heap.size, 0, rfl, by rw [Nat.zero_add, World.cell?_alloc_mark]; simp [u8s, hi]⟩⟩

def fmt14 : List UInt8 := [97, 37, 45, 53, 46, 51, 100, 37, 37]
set_option maxRecDepth 100000 in
set_option maxHeartbeats 2000000 in
theorem shape_awake (w : World) (A : Nat → Addr) (hS : Sents0 w A) :
    Calls Tryd.prog 32 #[] w fun e w' => e = .returned (.bool true) ∧ Below w.heap.size w w' := by
  have kc := Lib.run_convert_bytes_const (P := Tryd.prog) w 44 5 #[.int .u8 97, .int .u8 37, .int .u8 45, .int .u8 53, .int .u8 46, .int .u8 51, .int .u8 100, .int .u8 37, .int .u8 37] 9 9 Tryd.underlying44 Tryd.underlying5
  have b1 : Below w.heap.size w (w.alloc (.cells (u8s fmt14).toArray 5 (9, 10))) := (Below.refl _ _).alloc (Nat.le_refl _) _
  have hb := Bs.mark w 5 (9, 10) fmt14 (by decide)
  have C : Calls Tryd.prog 33 #[.slice (some ⟨w.heap.size, 0, none⟩) 9 9] (w.alloc (.cells #[.int .u8 97, .int .u8 37, .int .u8 45, .int .u8 53, .int .u8 46, .int .u8 51, .int .u8 100, .int .u8 37, .int .u8 37] 5 (9, 10))) (ParsePost (w.alloc (.cells (u8s fmt14).toArray 5 (9, 10))) A (parse fmt14)) := shape_Parse (some ⟨w.heap.size, 0, none⟩) 9 fmt14 _ hb A (hS.kept b1 (Nat.le_refl _))
  rw [show parse fmt14 = _ from awake14] at C
  have HCC := Lib.hid C
  have B1 := Lib.hid b1
  clear C hb b1 hS
  go_enter Tryd.func32, Tryd.ntmps32
  go_wp2_with fail
  refine HCC.out.mono ?_
  rintro e w1 ⟨hb1, F, rfl, hF⟩
  have HB1 := Lib.hid (B1.out.trans (hb1.mono B1.out.size))
  have CT := Lib.hid (shape_Text _ w1 F _ hF (by decide) (by decide) (by decide) (by decide))
  rw [awake14t] at CT
  have CW := Lib.hid (fun W (h : Below w1.heap.size w1 W) => shape_Wants _ W F _ (hF.below h (Nat.le_refl _)) (by decide))
  rw [show wants [litPart [97], ⟨[], 100, ⟨true, false, false, false, false⟩, 5, 3⟩, litPart [37]] = 1 from rfl] at CW
  clear hb1 hF
  go_wp2_with fail
  refine CT.out.mono ?_
  rintro e w2 ⟨rfl, hb2⟩
  have HB2 := Lib.hid hb2
  clear hb2
  go_wp2_with fail
  refine (CW.out _ HB2.out).mono ?_
  rintro e w3 ⟨rfl, hb3⟩
  have HB3 := Lib.hid hb3
  clear hb3
  go_wp2_with fail
  go_ret
  exact ⟨rfl, (HB1.out.trans (HB2.out.mono HB1.out.size)).trans (HB3.out.mono (Nat.le_trans HB1.out.size HB2.out.size))⟩

/-- ShapeNil: it returns true. -/
theorem shapeNil_walk (w : World) (A : Nat → Addr) (hS : Sents0 w A) :
    Calls Tryd.prog 7 #[] w fun e w' => e = .returned (.bool true) ∧ Below w.heap.size w w' := by
  have C1 := Lib.hid (shape_Parts_nil w)
  have C2 := Lib.hid (shape_Text_nil w)
  have C3 := Lib.hid (shape_Wants_nil w)
  have C4 := Lib.hid (shape_awake w A hS)
  clear hS
  go_enter Tryd.func7, Tryd.ntmps7
  go_wp2_with (first | (go_at_call 29; refine C1.out.mono ?_; rintro e w' ⟨rfl, rfl⟩) | (go_at_call 30; refine C2.out.mono ?_; rintro e w' ⟨rfl, rfl⟩) | (go_at_call 31; refine C3.out.mono ?_; rintro e w' ⟨rfl, rfl⟩) | (go_at_call 32; refine C4.out.mono ?_; rintro e w1 ⟨rfl, hb1⟩; have HB1 := Lib.hid hb1; clear hb1))
  go_ret
  exact ⟨rfl, HB1.out⟩
end Go.Proofs.YtkecmfjjekagiaaDoor
