/- The walk of pidginlaw15.FillNil: it returns true. Conditions as typed. -/
import Derived.Test.YtkecmfjjekagiaaDoorTold
import Derived.Test.YtkecmfjjekagiaaDoorTell
namespace Go.Proofs.YtkecmfjjekagiaaDoor
open Go.RowKit Pg

set_option maxRecDepth 100000 in
set_option maxHeartbeats 4000000 in
/-- fault.Tell of an error of a code at a place, in a format. -/
theorem tell_err (w : World) (A : Nat → Addr) (hS : Sents w A) (v : Value) (c : Nat) (p : Int) (h : ErrAt w A v c p) :
    Calls Tryd.prog 22 #[v] w fun e w' => e = .returned (.agg #[.int .i64 c, .int .i64 p, .int .i64 5]) ∧ Below w.heap.size w w' := by
  obtain ⟨b, hc, hb⟩ := h
  have := fault_Tell w A hS b c hb _ v hc
  exact this

set_option maxRecDepth 100000 in
set_option maxHeartbeats 8000000 in
/-- FillNil: it returns true. -/
theorem fillNil_walk (a : Option Addr) (cap : Nat) (l : List ByteArray) (w : World) (A : Nat → Addr) (hS : Sents w A) (_hl : Ss w a cap l) :
    Calls Tryd.prog 20 #[.slice a l.length cap] w fun e w' => e = .returned (.bool true) ∧ Below w.heap.size w w' := by
  have C1 := Lib.hid (fill_Run_nil w A hS.toSents0 (.slice a l.length cap))
  have C2 := Lib.hid (fun W => fill_Once_nil W (.slice a l.length cap))
  have HS := Lib.hid hS
  have CS := Lib.hid (fun W => ref_Same W none none none none 0 0 0 0 0 0 0 0 [] [] [] [] false false rfl rfl rfl rfl (Bs.empty W) (Is.empty W) (Bs.empty W) (Is.empty W))
  clear hS
  go_enter Tryd.func20, Tryd.ntmps20
  go_wp2_with fail
  refine C1.out.mono ?_
  rintro e w1 ⟨hb1, v, rfl, hE⟩
  obtain ⟨t, x, rfl⟩ : ∃ t x, v = .iface t x := by obtain ⟨b, hc, _⟩ := hE; exact hc.iface
  have HE := Lib.hid hE
  have HB1 := Lib.hid hb1
  clear hE hb1
  go_wp2_with fail
  refine (C2.out _).mono ?_
  rintro e w2 ⟨rfl, hb2⟩
  have b1 := BelowA w1 (.cells #[.slice none 0 0, .slice none 0 0, .bool false] 62)
  have hE2 := (HE.out.kept b1 (Nat.le_refl _)).kept hb2 (Nat.le_refl _)
  have B2 := HB1.out.trans ((b1.trans (hb2.mono b1.size)).mono HB1.out.size)
  have HE2 := Lib.hid hE2
  have HB2 := Lib.hid B2
  have hlt : w1.heap.size < w2.heap.size := by have := hb2.size; simp at this; omega
  have HLT := Lib.hid hlt
  have HBN := Lib.hid hb2
  clear hb2 b1 hE2 B2 hlt
  go_wp2_with fail
  have b3 := BelowA w2 (.cells #[.slice none 0 0, .slice none 0 0, .bool false] 62)
  have hB3 := HB2.out.trans (b3.mono HB2.out.size)
  have CT := tell_err _ A (HS.out.kept hB3 (Nat.le_refl _)) _ 1 0 (by simpa using HE2.out.kept b3 (Nat.le_refl _))
  have hz : (w2.alloc (.cells #[.slice none 0 0, .slice none 0 0, .bool false] 62)).heap.size = w2.heap.size + 1 := by simp
  have k1 := (show Blk w2 w1.heap.size 62 _ from (Blk.new w1 62 #[.slice none 0 0, .slice none 0 0, .bool false]).below HBN.out (by simp)).alloc (.cells #[.slice none 0 0, .slice none 0 0, .bool false] 62)
  have k2 := Blk.new w2 62 #[.slice none 0 0, .slice none 0 0, .bool false]
  generalize w2.alloc (.cells #[.slice none 0 0, .slice none 0 0, .bool false] 62) = W2 at *
  refine CT.mono ?_
  rintro e w3 ⟨rfl, hb3⟩
  have j1 := k1.below hb3 k1.lt
  have j2 := k2.below hb3 k2.lt
  have q0 : w3.cell? ⟨w1.heap.size, 0, none⟩ = some (.slice none 0 0) := by rw [j1.cell 0]; rfl
  have q1 : w3.cell? ⟨w1.heap.size, 1, none⟩ = some (.slice none 0 0) := by rw [j1.cell 1]; rfl
  have q2 : w3.cell? ⟨w1.heap.size, 2, none⟩ = some (.bool false) := by rw [j1.cell 2]; rfl
  have J2 := Lib.hid j2
  have HB3 := Lib.hid (hB3.trans (hb3.mono hB3.size))
  clear k1 k2 j1 j2 hb3 hB3 CT b3
  go_wp2_with fail
  refine (CS.out _).mono ?_
  rintro e w4 ⟨rfl, hb4⟩
  have j2 := J2.out.below hb4 J2.out.lt
  have r0 : w4.cell? ⟨w2.heap.size, 0, none⟩ = some (.slice none 0 0) := by rw [j2.cell 0]; rfl
  have r1 : w4.cell? ⟨w2.heap.size, 1, none⟩ = some (.slice none 0 0) := by rw [j2.cell 1]; rfl
  have r2 : w4.cell? ⟨w2.heap.size, 2, none⟩ = some (.bool false) := by rw [j2.cell 2]; rfl
  have HB4 := Lib.hid (HB3.out.trans (hb4.mono HB3.out.size))
  clear j2 hb4
  go_wp2_with fail
  refine (CS.out _).mono ?_
  rintro e w5 ⟨rfl, hb5⟩
  have HB5 := Lib.hid (HB4.out.trans (hb5.mono HB4.out.size))
  have CA := Lib.hid (fill_awake w5 A (HS.out.kept HB5.out (Nat.le_refl _)).toSents0)
  clear hb5
  go_wp2_with (go_at_call 39; refine CA.out.mono ?_; rintro e w6 ⟨rfl, hb6⟩; have HB6 := Lib.hid hb6; clear hb6)
  go_ret
  exact ⟨rfl, HB5.out.trans (HB6.out.mono HB5.out.size)⟩
end Go.Proofs.YtkecmfjjekagiaaDoor
