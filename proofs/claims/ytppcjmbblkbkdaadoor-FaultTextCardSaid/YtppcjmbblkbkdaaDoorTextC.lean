/- The walk of FaultText: fault.Text and the reference's text are one; it returns true. Conditions as typed. -/
import Derived.Test.YtppcjmbblkbkdaaDoorTextB
namespace Go.Proofs.YtppcjmbblkbkdaaDoor
open Go.RowKit Go.Sort

theorem blk_cells3 {W w' : World} {g : Nat} {a b c : Value} {t : TypeId} (h : W.heap[g]? = some (.cells #[a, b, c] t (0, 0))) (hb : Below W.heap.size W w') : w'.cell? ⟨g, 0, none⟩ = some a ∧ w'.cell? ⟨g, 1, none⟩ = some b ∧ w'.cell? ⟨g, 2, none⟩ = some c := by
  have h' : w'.heap[g]? = some (.cells #[a, b, c] t (0, 0)) := (hb.block g (lt_of_heap h)).trans h
  obtain ⟨q0, q1, q2, _, _, _⟩ := cells3 h'
  exact ⟨q0, q1, q2⟩

set_option maxRecDepth 20000 in
set_option maxHeartbeats 4000000 in
/-- FaultText: it returns true. -/
theorem faultText_walk (c p l : Int) (w : World) (A : Nat → Addr) (hS : Sents w A) (hT : Tabs w) (_hc : (Lit.int .i64 c).wf = true) (hp : (Lit.int .i64 p).wf = true) (_hl : (Lit.int .i64 l).wf = true) :
    Calls Tryd.prog 3 #[.agg #[.int .i64 c, .int .i64 p, .int .i64 l]] w fun e w' => e = .returned (.bool true) ∧ Below w.heap.size w w' := by
  have b1 := (Below.refl w.heap.size w).alloc (Nat.le_refl _) (.cells #[.int .i64 c, .int .i64 p, .int .i64 l] 23)
  have k1 := Blk.newT w 23 #[.int .i64 c, .int .i64 p, .int .i64 l]
  have CT := fun (W : World) (hb : Below w.heap.size w W) => fault_Text c p l hp W (hT.kept hb)
  have CR := fun (W : World) (hb : Below w.heap.size w W) => ref_Text c p l hp W (hT.kept hb)
  simp only [fv] at CT CR
  have CT := Lib.hid CT
  have CR := Lib.hid CR
  have CA := Lib.hid (fun (W : World) (hb : Below w.heap.size w W) => fault_awake W A (hS.kept hb (Nat.le_refl _)))
  obtain ⟨T, hTx⟩ : ∃ T, T = txt c p l := ⟨_, rfl⟩
  rw [← hTx] at CT CR
  clear hTx hT hS hp
  go_enter Tryd.func3, Tryd.ntmps3
  go_upto_region 1 with (fail)
  generalize w.alloc (.cells #[.int .i64 c, .int .i64 p, .int .i64 l] 23) = W1 at *
  obtain ⟨q0, q1, q2⟩ := blk_cells3 k1 (Below.refl _ _)
  have K1 := Lib.hid k1
  have B1 := Lib.hid b1
  have hlt1 := lt_of_heap k1
  clear k1 b1
  go_region_with (first
    | (go_at_call 5; refine (CT.out _ (by first | exact B1.out | exact B1.out.drew)).mono ?_; rintro e w7 ⟨rfl, hb7⟩; have hbx : Below W1.heap.size W1 w7 := (by first | exact hb7 | exact ((Below.refl _ _).drew).trans hb7); obtain ⟨x0, x1, x2⟩ := blk_cells3 K1.out hbx; have HB7 := Lib.hid (B1.out.trans (hbx.mono B1.out.size)); clear hb7 hbx)
    | (go_at_call 6; refine (CR.out _ HB7.out).mono ?_; rintro e w8 ⟨rfl, hb8⟩; have HB8 := Lib.hid (HB7.out.trans (hb8.mono HB7.out.size)); clear hb8)
    | (go_at_call 7; refine (CA.out _ HB8.out).mono ?_; rintro e w9 ⟨rfl, hb9⟩; have HB9 := Lib.hid (HB8.out.trans (hb9.mono HB8.out.size)); clear hb9))
  all_goals go_wp2_with fail
  all_goals go_ret
  all_goals exact ⟨rfl, HB9.out⟩
end Go.Proofs.YtppcjmbblkbkdaaDoor
