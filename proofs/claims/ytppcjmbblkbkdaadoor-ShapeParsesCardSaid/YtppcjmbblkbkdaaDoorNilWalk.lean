/- The walks of pidginlaw14.awake and of ShapeNil: they return true. Conditions as typed. -/
import Derived.Test.YtppcjmbblkbkdaaDoorFText
import Derived.Lib.SlBytesConst
namespace Go.Proofs.YtppcjmbblkbkdaaDoor
open Go.RowKit Pg

theorem shape_Parts_nil (w : World) : Calls Tryd.prog 13 #[.pointer none] w fun e w' => e = .returned (.slice none 0 0) ∧ w = w' := by
  go_enter Tryd.func13, Tryd.ntmps13
  go_wp2
  go_ret
  exact ⟨rfl, rfl⟩
theorem shape_Text_nil (w : World) : Calls Tryd.prog 14 #[.pointer none] w fun e w' => e = .returned (.string ⟨#[]⟩) ∧ w = w' := by
  go_enter Tryd.func14, Tryd.ntmps14
  go_wp2
  go_ret
  exact ⟨rfl, rfl⟩
theorem shape_Wants_nil (w : World) : Calls Tryd.prog 16 #[.pointer none] w fun e w' => e = .returned (.int .i64 0) ∧ w = w' := by
  go_enter Tryd.func16, Tryd.ntmps16
  go_wp2
  go_ret
  exact ⟨rfl, rfl⟩

/-- Bytes in a row of their own, marked. -/
theorem Bs.mark (w : World) (t : TypeId) (fr : Nat × Nat) (l : List UInt8) (hm : l.length ≤ maxLen) : Bs (w.alloc (.cells (u8s l).toArray t fr)) (some ⟨w.heap.size, 0, none⟩) l.length l :=
  ⟨Nat.le_refl _, hm, fun i hi => ⟨w.heap.size, 0, rfl, by rw [Nat.zero_add, World.cell?_alloc_mark]; simp [u8s, hi]⟩⟩

def fmt14 : List UInt8 := [97, 37, 45, 53, 46, 51, 100, 37, 37]
set_option maxRecDepth 100000 in
set_option maxHeartbeats 2000000 in
theorem shape_awake (w : World) (A : Nat → Addr) (hS : Sents0 w A) :
    Calls Tryd.prog 11 #[] w fun e w' => e = .returned (.bool true) ∧ Below w.heap.size w w' := by
  have kc := Lib.run_convert_bytes_const (P := Tryd.prog) w 27 5 #[.int .u8 97, .int .u8 37, .int .u8 45, .int .u8 53, .int .u8 46, .int .u8 51, .int .u8 100, .int .u8 37, .int .u8 37] 9 9 Tryd.underlying27 Tryd.underlying5
  have b1 : Below w.heap.size w (w.alloc (.cells (u8s fmt14).toArray 5 (9, 10))) := (Below.refl _ _).alloc (Nat.le_refl _) _
  have hb := Bs.mark w 5 (9, 10) fmt14 (by decide)
  have C : Calls Tryd.prog 8 #[.slice (some ⟨w.heap.size, 0, none⟩) 9 9] (w.alloc (.cells #[.int .u8 97, .int .u8 37, .int .u8 45, .int .u8 53, .int .u8 46, .int .u8 51, .int .u8 100, .int .u8 37, .int .u8 37] 5 (9, 10))) (ParsePost (w.alloc (.cells (u8s fmt14).toArray 5 (9, 10))) A (parse fmt14)) := shape_Parse (some ⟨w.heap.size, 0, none⟩) 9 fmt14 _ hb A (hS.kept b1 (Nat.le_refl _))
  rw [show parse fmt14 = _ from awake14] at C
  have HCC := Lib.hid C
  have B1 := Lib.hid b1
  clear C hb b1 hS
  go_enter Tryd.func11, Tryd.ntmps11
  go_wp2_with fail
  refine HCC.out.mono ?_
  rintro e w1 ⟨hb1, F, rfl, hF⟩
  have HB1 := Lib.hid (B1.out.trans (hb1.mono B1.out.size))
  have CT := Lib.hid (shape_Text _ w1 F _ hF (by decide) (by decide) (by decide) (by decide))
  rw [awake14t] at CT
  have CW := Lib.hid (fun W (h : Below w1.heap.size w1 W) => shape_Wants _ W F _ (hF.below h (Nat.le_refl _)) (by decide))
  rw [show wants [litPart [97], ⟨[], 100, ⟨true, false, false, false, false⟩, 5, 3⟩, litPart [37]] = 1 from rfl] at CW
  clear hb1 hF
  go_wp2_with fail
  refine CT.out.mono ?_
  rintro e w2 ⟨rfl, hb2⟩
  have HB2 := Lib.hid hb2
  clear hb2
  go_wp2_with fail
  refine (CW.out _ HB2.out).mono ?_
  rintro e w3 ⟨rfl, hb3⟩
  have HB3 := Lib.hid hb3
  clear hb3
  go_wp2_with fail
  go_ret
  exact ⟨rfl, (HB1.out.trans (HB2.out.mono HB1.out.size)).trans (HB3.out.mono (Nat.le_trans HB1.out.size HB2.out.size))⟩

end Go.Proofs.YtppcjmbblkbkdaaDoor
