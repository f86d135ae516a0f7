/- The walk of (*shape.Format).put where no bytes are under way. Conditions as typed. -/
import Derived.Test.YtppcjmbblkbkdaaGreatDoorPut
namespace Go.Proofs.YtppcjmbblkbkdaaGreatDoor
open Go.RowKit Pg

theorem put_endNew {B : Nat} {w w2 w3 : World} {F : Nat} {L : List Part} {K g cap gg cap2 n : Nat} {vs : List Value} {X : Array Value} (h : Mid B w2 F L [] K g cap (.slice none 0 0) vs) (hb : Below B w w2) (hBw : B ≤ w2.heap.size) (b : UInt8)
    (hn : n = L.length) (hown : w3.ownsRow K 5 1 (.slice (some ⟨gg, 0, none⟩) (0 + 1) cap2) (0 + 1) ([] ++ [.int .u8 b.toNat])) (hg : (w2.alloc (.cells X 5)).drew.grownBy w3 (Value.slice none 0 0).ownBlock) :
    PutPost B w F L [b] (.returned (.tuple #[])) (w3.setCell ⟨g, n * 9, none⟩ (.slice (some ⟨gg, 0, none⟩) (0 + 1) cap2)) := by
  subst hn
  obtain ⟨h1, h2⟩ := Mid.push h hBw b hown hg
  exact ⟨rfl, .inr ⟨by simp, K, g, cap, _, vs, h1⟩, hb.trans h2⟩

theorem put_newFacts {w w1 : World} {X : Array Value} {row : Option Nat} {F : Nat} {x : Value} (hg : (w.alloc (.cells X 59)).grownBy w1 row) (hF : F < w.heap.size) (h1 : row ≠ some F)
    (hx : w.cell? ⟨F, 0, none⟩ = some x) (hz : w.frozen? ⟨F, 0, none⟩ = false) : w1.cell? ⟨F, 0, none⟩ = some x ∧ w1.frozen? ⟨F, 0, none⟩ = false := by
  have e : w1.heap[F]? = w.heap[F]? := (hg.block F (by simp; omega) (Ne.symm h1)).trans (Below.heap_alloc w _ F hF)
  exact ⟨(World.cell?_of_block (w := w) (a := ⟨F, 0, none⟩) e).trans hx, (World.frozen?_of_block (w := w) (a := ⟨F, 0, none⟩) e).trans hz⟩

set_option maxRecDepth 100000 in
set_option maxHeartbeats 8000000 in
theorem put_new (B : Nat) (w : World) (F : Nat) (L : List Part) (b : UInt8) (hBF : B ≤ F) (sv : Value) (hf : Blk w F 76 #[sv]) (hP : PartsC B w sv L) (hl : L.length ≤ 5000) (hB : B ≤ w.heap.size) (hlast : ∀ m (h : m < L.length), L.length = m + 1 → L[m].conv ≠ 0) :
    Calls Tryz.prog 27 #[.pointer (some ⟨F, 0, none⟩), .int .u8 b.toNat] w (PutPost B w F L [b]) := by
  obtain ⟨i0, hi0, hz0, hz1, hz2⟩ := info_parts Tryz.infoU8
  obtain ⟨i9, hi9, hy0, hy1, hy2⟩ := info_parts Tryz.infoPart
  obtain ⟨vs, hvs, hlits, hrow⟩ := hP
  obtain ⟨sa, scap, rfl, hsc, hsm, hsg⟩ := ownsRow_form hrow
  have hvF := own_blk_ne hrow hf (by decide)
  have hFlt := hf.lt
  have cF : w.cell? ⟨F, 0, none⟩ = some (.slice sa L.length scap) := by rw [hf.cell 0]; rfl
  have HFZ0 : Hid (w.frozen? ⟨F, 0, none⟩ = false) := hf.frozen _
  have HF := Lib.hid hf
  have HVS := Lib.hid hvs
  have HLITS := Lib.hid hlits
  have HROW := Lib.hid hrow
  have HVF0 := Lib.hid hvF
  have HCF0 := Lib.hid cF
  obtain ⟨n, hn⟩ : ∃ n, n = L.length := ⟨_, rfl⟩
  have HN := Lib.hid hn
  have hrow' := hrow
  rw [← hn] at cF hl hsc hrow'
  rw [← hn] at hvF
  have HROW' := Lib.hid hrow'
  have HVF0' := Lib.hid hvF
  have HCF0' := Lib.hid cF
  have hcv : ∀ m, n = m + 1 → ∃ g0 cv : Nat, sa = some ⟨g0, 0, none⟩ ∧ g0 < w.heap.size ∧ ((cv : Int) != 0) = true ∧ w.cell? ⟨g0, m * 9 + 1, none⟩ = some (.int .u8 cv) := by
    intro m hm
    obtain ⟨g0, rfl, hg0, _⟩ := hsg (by omega)
    have hlm : m < L.length := by omega
    have hc : w.cell? ⟨g0, m * 9 + 1, none⟩ = some (.int .u8 L[m].conv) := by
      rw [hrow.cellAt _ (by omega), rowC_at vs L hvs m hlm (by omega) 1 (by omega)]
      rfl
    exact ⟨g0, L[m].conv, rfl, hg0, bne_iff_ne.2 (by have := hlast m hlm (by omega); omega), hc⟩
  clear hlast hvs hlits hrow hrow' hf hn hsg hvF
  rcases n with _ | m
  · clear hcv
    go_enter Tryz.func27, Tryz.ntmps27
    go_wp2_with (at_builtin; refine wpList_append_lies _ rfl (.tmp 28) (.tmp 30) _ rfl B 59 i9 _ 9 48 Tryz.underlying33 hi9 hy0 hy1 hy2 rfl (by omega) (.slice sa (0) scap) 0 (rowC vs L) rfl (HROW'.out.alloc _) ⟨w.heap.size, 0, none⟩ 1 1 (partCells (.slice none 0 0) (litPart [])).toList rfl rfl (World.news_of_block (cs := partCells (.slice none 0 0) (litPart [])) (t := 59) (fr := (0, 0)) (heap_alloc_new w _)) (by simp [partCells, Value.oneCell']) (by omega) (by unfold maxLen; omega) (by omega) (by simp; omega) (w.heap.size + 1) (by simp) ?_; intro gg cap1 w1 hown1 hgrow1 hat1 hlt1; obtain ⟨dd1, dd2⟩ := put_newFacts hgrow1 hFlt HVF0'.out HCF0'.out HFZ0.out; have HOWN1 := Lib.hid hown1; have HGROW1 := Lib.hid hgrow1; clear hown1 hgrow1)
    obtain ⟨hM, hbel⟩ := Mid.start hBF HF.out HVS.out HLITS.out HROW.out hB (by rw [← HN.out]; exact HOWN1.out) (by rw [← HN.out]; exact HGROW1.out)
    rw [← HN.out] at hM hbel
    have hs2 : w1.heap.size = (w1.setCell ⟨F, 0, none⟩ (.slice (some ⟨gg, 0, none⟩) (0 + 1) cap1)).heap.size := by rw [size_setCell']
    have hB2 : B ≤ (w1.setCell ⟨F, 0, none⟩ (.slice (some ⟨gg, 0, none⟩) (0 + 1) cap1)).heap.size := Nat.le_trans hB hbel.size
    generalize w1.setCell ⟨F, 0, none⟩ (.slice (some ⟨gg, 0, none⟩) (0 + 1) cap1) = w2 at *
    generalize w1.heap.size = K at *
    have hgb := hM.row
    obtain ⟨cur, hgb⟩ := ownsRow_blk hM.row
    have hglt2 := hgb.lt
    have hFlt2 := hM.fm.lt
    have cF2 : w2.cell? ⟨F, 0, none⟩ = some (.slice (some ⟨gg, 0, none⟩) (L.length + 1) cap1) := by rw [hM.fm.cell 0]; rfl
    rw [← HN.out] at cF2
    have hrl := rowC_length vs L HVS.out
    have cg2 : w2.cell? ⟨gg, L.length * 9, none⟩ = some (.slice none 0 0) := by
      rw [hM.row.cellAt _ (by omega), List.getElem?_append_right (by omega), hrl, Nat.sub_self]; rfl
    rw [← HN.out] at cg2
    have HFZ : Hid (w2.frozen? ⟨gg, 0 * 9, none⟩ = false) := hgb.frozen _
    have HCF := Lib.hid cF2
    have HCG := Lib.hid cg2
    have HM := Lib.hid hM
    have HBEL := Lib.hid hbel
    have HS2 := Lib.hid hs2
    have hK2 : K ≤ w2.heap.size := Nat.le_of_eq hs2
    clear hM hbel hgb hrl hs2 cF hat1 hlt1 dd1 dd2
    go_region_law
      ((refine step_append_lies _ (by rfl) _ _ _ (by rfl) K 5 i0 _ 1 1 Tryz.underlying25 hi0 hz0 hz1 hz2 rfl (by omega) (.slice none 0 0) 0 [] (by rfl) (World.ownsRow_nil _ _ _ _)
          ⟨w2.heap.size, 0, none⟩ 1 1 [.int .u8 b.toNat] (by rfl) (by rfl) (World.news_of_block (cs := #[.int .u8 b.toNat]) (t := 5) (fr := (0, 0)) (heap_alloc_new w2 _)) (by simp [Value.oneCell'])
          (by omega) (by unfold maxLen; omega) (by omega) (by simp; omega) (w2.heap.size + 1) (by simp) ?_; intro gg2 cap2 w3 hown3 hgrow3 hat hlt; obtain ⟨cc1, cc2, cc3⟩ := put_facts hgrow3 hFlt2 hglt2 (by simp [Value.ownBlock]) (by simp [Value.ownBlock]) HCF.out HCG.out HFZ.out))
    all_goals go_wp2_with fail
    all_goals (go_end0; exact put_endNew HM.out HBEL.out hB2 b HN.out hown3 hgrow3)
  · obtain ⟨g0, cv, rfl, hg0, hcv1, hcv2⟩ := hcv m rfl
    clear hcv
    go_enter Tryz.func27, Tryz.ntmps27
    go_wp2_with (at_builtin; refine wpList_append_lies _ rfl (.tmp 28) (.tmp 30) _ rfl B 59 i9 _ 9 48 Tryz.underlying33 hi9 hy0 hy1 hy2 rfl (by omega) (.slice (some ⟨g0, 0, none⟩) (m + 1) scap) (m + 1) (rowC vs L) rfl (HROW'.out.alloc _) ⟨w.heap.size, 0, none⟩ 1 1 (partCells (.slice none 0 0) (litPart [])).toList rfl rfl (World.news_of_block (cs := partCells (.slice none 0 0) (litPart [])) (t := 59) (fr := (0, 0)) (heap_alloc_new w _)) (by simp [partCells, Value.oneCell']) (by omega) (by unfold maxLen; omega) (by omega) (by simp; omega) (w.heap.size + 1) (by simp) ?_; intro gg cap1 w1 hown1 hgrow1 hat1 hlt1; obtain ⟨dd1, dd2⟩ := put_newFacts hgrow1 hFlt HVF0'.out HCF0'.out HFZ0.out; have HOWN1 := Lib.hid hown1; have HGROW1 := Lib.hid hgrow1; clear hown1 hgrow1)
    obtain ⟨hM, hbel⟩ := Mid.start hBF HF.out HVS.out HLITS.out HROW.out hB (by rw [← HN.out]; exact HOWN1.out) (by rw [← HN.out]; exact HGROW1.out)
    rw [← HN.out] at hM hbel
    have hs2 : w1.heap.size = (w1.setCell ⟨F, 0, none⟩ (.slice (some ⟨gg, 0, none⟩) (m + 1 + 1) cap1)).heap.size := by rw [size_setCell']
    have hB2 : B ≤ (w1.setCell ⟨F, 0, none⟩ (.slice (some ⟨gg, 0, none⟩) (m + 1 + 1) cap1)).heap.size := Nat.le_trans hB hbel.size
    generalize w1.setCell ⟨F, 0, none⟩ (.slice (some ⟨gg, 0, none⟩) (m + 1 + 1) cap1) = w2 at *
    generalize w1.heap.size = K at *
    have hgb := hM.row
    obtain ⟨cur, hgb⟩ := ownsRow_blk hM.row
    have hglt2 := hgb.lt
    have hFlt2 := hM.fm.lt
    have cF2 : w2.cell? ⟨F, 0, none⟩ = some (.slice (some ⟨gg, 0, none⟩) (L.length + 1) cap1) := by rw [hM.fm.cell 0]; rfl
    rw [← HN.out] at cF2
    have hrl := rowC_length vs L HVS.out
    have cg2 : w2.cell? ⟨gg, L.length * 9, none⟩ = some (.slice none 0 0) := by
      rw [hM.row.cellAt _ (by omega), List.getElem?_append_right (by omega), hrl, Nat.sub_self]; rfl
    rw [← HN.out] at cg2
    have HFZ : Hid (w2.frozen? ⟨gg, (m + 1) * 9, none⟩ = false) := hgb.frozen _
    have HCF := Lib.hid cF2
    have HCG := Lib.hid cg2
    have HM := Lib.hid hM
    have HBEL := Lib.hid hbel
    have HS2 := Lib.hid hs2
    have hK2 : K ≤ w2.heap.size := Nat.le_of_eq hs2
    clear hM hbel hgb hrl hs2 cF hat1 hlt1 dd1 dd2
    have hi0' : (0 : Int) ≤ (m : Int) + 1 := by omega
    have hi1' : (m : Int) + 1 < (m : Int) + 1 + 1 := by omega
    go_region_law
      ((refine step_append_lies _ (by rfl) _ _ _ (by rfl) K 5 i0 _ 1 1 Tryz.underlying25 hi0 hz0 hz1 hz2 rfl (by omega) (.slice none 0 0) 0 [] (by rfl) (World.ownsRow_nil _ _ _ _)
          ⟨w2.heap.size, 0, none⟩ 1 1 [.int .u8 b.toNat] (by rfl) (by rfl) (World.news_of_block (cs := #[.int .u8 b.toNat]) (t := 5) (fr := (0, 0)) (heap_alloc_new w2 _)) (by simp [Value.oneCell'])
          (by omega) (by unfold maxLen; omega) (by omega) (by simp; omega) (w2.heap.size + 1) (by simp) ?_; intro gg2 cap2 w3 hown3 hgrow3 hat hlt; obtain ⟨cc1, cc2, cc3⟩ := put_facts hgrow3 hFlt2 hglt2 (by simp [Value.ownBlock]) (by simp [Value.ownBlock]) HCF.out HCG.out HFZ.out))
    all_goals go_wp2_with fail
    all_goals (go_end0; exact put_endNew HM.out HBEL.out hB2 b HN.out hown3 hgrow3)
end Go.Proofs.YtppcjmbblkbkdaaGreatDoor
