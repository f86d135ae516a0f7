/- The walk of pidginref14.SameParts over lists that are the same. Conditions as typed. -/
import Derived.Test.YtppcjmbblkbkdaaDoorParts
import Derived.Test.YtppcjmbblkbkdaaDoorStrs
namespace Go.Proofs.YtppcjmbblkbkdaaDoor
open Go.RowKit Pg

set_option maxRecDepth 100000 in
set_option maxHeartbeats 4000000 in
/-- pidginref14.SameParts of the same parts. -/
theorem ref_SameParts (B1 B2 : Nat) (w : World) (v1 v2 : Value) (P : List Part) (h1 : PartsC B1 w v1 P) (h2 : PartsC B2 w v2 P) (_hP : P.length ≤ 5000) :
    Calls Tryd.prog 12 #[v1, v2] w fun e w' => e = .returned (.bool true) ∧ Below w.heap.size w w' := by
  obtain ⟨a, cap, rfl, hc, hm, hcell⟩ := h1.cells
  obtain ⟨a', cap', rfl, hc', hm', hcell'⟩ := h2.cells
  unfold maxLen at hm hm'
  have HC := Lib.hid hcell
  have HC' := Lib.hid hcell'
  clear h1 h2 hcell hcell'
  go_enter Tryd.func12, Tryd.ntmps12
  go_wp2_with fail
  go_loopw [15] (fun i wr => ∃ k : Nat, k ≤ P.length ∧ i = .int .i64 k ∧ Hid (Below w.heap.size w wr)) (fun i _ => P.length - (intOf i).toNat)
  case atStart => exact ⟨0, Nat.zero_le _, rfl, Below.refl _ _⟩
  case round =>
    obtain ⟨k, hk, rfl, HB⟩ := hrel
    by_cases hlt : k < P.length
    · obtain ⟨g, la, lcap, rfl, hg, hlit, c0, c1, c2, c3, c4, c5, c6, c7, c8⟩ := HC.out k hlt
      obtain ⟨g', la', lcap', rfl, hg', hlit', x0, x1, x2, x3, x4, x5, x6, x7, x8⟩ := HC'.out k hlt
      have hs := HB.out.size
      have d := fun (j : Nat) (u : Value) (hu : w.cell? ⟨g, j, none⟩ = some u) => (HB.out.cell (p := ⟨g, j, none⟩) hg).trans hu
      have d0 := d _ _ c0
      have d1 := d _ _ c1
      have d2 := d _ _ c2
      have d3 := d _ _ c3
      have d4 := d _ _ c4
      have d5 := d _ _ c5
      have d6 := d _ _ c6
      have d7 := d _ _ c7
      have d8 := d _ _ c8
      have y := fun (j : Nat) (u : Value) (hu : w.cell? ⟨g', j, none⟩ = some u) => (HB.out.cell (p := ⟨g', j, none⟩) hg').trans hu
      have y0 := y _ _ x0
      have y1 := y _ _ x1
      have y2 := y _ _ x2
      have y3 := y _ _ x3
      have y4 := y _ _ x4
      have y5 := y _ _ x5
      have y6 := y _ _ x6
      have y7 := y _ _ x7
      have y8 := y _ _ x8
      have hgr : g < wr.heap.size := by omega
      have hgr' : g' < wr.heap.size := by omega
      have HL := Lib.hid ((hlit.kept (U8Kept.below HB.out (Nat.le_refl _))).more hs)
      have HL' := Lib.hid ((hlit'.kept (U8Kept.below HB.out (Nat.le_refl _))).more hs)
      clear d y c0 c1 c2 c3 c4 c5 c6 c7 c8 x0 x1 x2 x3 x4 x5 x6 x7 x8 hlit hlit'
      generalize P[k] = p at *
      obtain ⟨_, _, hx1, hbs⟩ := HL.out.bs
      simp only [Value.slice.injEq] at hx1
      obtain ⟨rfl, _, rfl⟩ := hx1
      obtain ⟨_, _, hx1, hbs'⟩ := HL'.out.bs
      simp only [Value.slice.injEq] at hx1
      obtain ⟨rfl, _, rfl⟩ := hx1
      have b2 := ((Below.refl wr.heap.size wr).alloc (Nat.le_refl _) (.cells (partCells (.slice la p.lit.length lcap) p) 57)).alloc (by simp) (.cells (partCells (.slice la' p.lit.length lcap') p) 57)
      have k1 := bsS (hbs.below b2 (Nat.le_refl _))
      have k2 := bsS (hbs'.below b2 (Nat.le_refl _))
      simp only [partCells] at k1 k2
      clear hbs hbs' b2
      go_wp2_with fail
      go_roundw
      case rel => exact ⟨k + 1, by omega, by go_num, (HB.out.alloc hs _).alloc (by simp; omega) _⟩
      case measure => simp [intOf]; omega
    · go_wp2_with fail
      go_ret
      exact ⟨rfl, HB.out⟩
end Go.Proofs.YtppcjmbblkbkdaaDoor
