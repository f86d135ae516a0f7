/- The walk of (*shape.Format).put. Conditions as typed. -/
import Derived.Test.YtppcjmbblkbkdaaGreatDoorFmt
import Derived.Deep.RegionLaw
namespace Go.Proofs.YtppcjmbblkbkdaaGreatDoor
open Go.RowKit Pg

theorem Tryz.infoPart : (Tryz.prog.info? 59).map (fun i => (i.zero, i.size, i.bytes)) = some (some (.agg #[.slice none 0 0, .int .u8 0, .bool false, .bool false, .bool false, .bool false, .bool false, .int .i64 0, .int .i64 0]), 9, 48) := by kernel_rfl
theorem Tryz.infoU8 : (Tryz.prog.info? 5).map (fun i => (i.zero, i.size, i.bytes)) = some (some (.int .u8 0), 1, 1) := by kernel_rfl

def PutPost (B : Nat) (w : World) (F : Nat) (L : List Part) (lit : List UInt8) (e : Ending) (w' : World) : Prop := e = .returned (.tuple #[]) ∧ FmtW B w' F L lit ∧ Below B w w'

theorem put_facts {w w1 : World} {X : Array Value} {row : Option Nat} {F g j : Nat} {x y : Value} (hg : (w.alloc (.cells X 5)).drew.grownBy w1 row) (hF : F < w.heap.size) (hgl : g < w.heap.size) (h1 : row ≠ some F) (h2 : row ≠ some g)
    (hx : w.cell? ⟨F, 0, none⟩ = some x) (hy : w.cell? ⟨g, j, none⟩ = some y) (hz : w.frozen? ⟨g, j, none⟩ = false) : w1.cell? ⟨F, 0, none⟩ = some x ∧ w1.cell? ⟨g, j, none⟩ = some y ∧ w1.frozen? ⟨g, j, none⟩ = false := by
  have e : ∀ k, k < w.heap.size → row ≠ some k → w1.heap[k]? = w.heap[k]? := fun k hk hr => (hg.block k (by show k < (w.alloc _).heap.size; simp; omega) (Ne.symm hr)).trans (Below.heap_alloc w _ k hk)
  exact ⟨(World.cell?_of_block (w := w) (a := ⟨F, 0, none⟩) (e F hF h1)).trans hx, (World.cell?_of_block (w := w) (a := ⟨g, j, none⟩) (e g hgl h2)).trans hy, (World.frozen?_of_block (w := w) (a := ⟨g, j, none⟩) (e g hgl h2)).trans hz⟩

theorem put_end {B : Nat} {w w1 : World} {F : Nat} {L : List Part} {lit : List UInt8} {K g cap gg cap2 lcap n q : Nat} {la : Option Addr} {vs : List Value} {X : Array Value} (h : Mid B w F L lit K g cap (.slice la lit.length lcap) vs) (hBw : B ≤ w.heap.size) (b : UInt8)
    (hn : n = L.length) (hq : q = lit.length) (hown : w1.ownsRow K 5 1 (.slice (some ⟨gg, 0, none⟩) (q + 1) cap2) (q + 1) (u8s lit ++ [.int .u8 b.toNat])) (hg : (w.alloc (.cells X 5)).drew.grownBy w1 (Value.slice la q lcap).ownBlock) :
    PutPost B w F L (lit ++ [b]) (.returned (.tuple #[])) (w1.setCell ⟨g, n * 9, none⟩ (.slice (some ⟨gg, 0, none⟩) (q + 1) cap2)) := by
  subst hn hq
  obtain ⟨h1, h2⟩ := Mid.push h hBw b hown hg
  exact ⟨rfl, .inr ⟨by simp, K, g, cap, _, vs, h1⟩, h2⟩

set_option maxRecDepth 100000 in
set_option maxHeartbeats 4000000 in
theorem put_more (B : Nat) (w : World) (F : Nat) (L : List Part) (lit : List UInt8) (b : UInt8) (K g cap : Nat) (v : Value) (vs : List Value) (h : Mid B w F L lit K g cap v vs) (hl : L.length ≤ 5000) (hlit : lit.length ≤ 5000) (hB : B ≤ w.heap.size) (hK : K ≤ w.heap.size) :
    Calls Tryz.prog 27 #[.pointer (some ⟨F, 0, none⟩), .int .u8 b.toNat] w (PutPost B w F L (lit ++ [b])) := by
  obtain ⟨i0, hi0, hz0, hz1, hz2⟩ := info_parts Tryz.infoU8
  have H := Lib.hid h
  obtain ⟨la, lcap, rfl, hlc, hlm, _⟩ := ownsRow_form h.last
  obtain ⟨cur, hgb⟩ := ownsRow_blk h.row
  have hFlt := h.fm.lt
  have hglt := hgb.lt
  have cF : w.cell? ⟨F, 0, none⟩ = some (.slice (some ⟨g, 0, none⟩) (L.length + 1) cap) := by rw [h.fm.cell 0]; rfl
  have hrl := rowC_length vs L h.len
  have cg0 : w.cell? ⟨g, L.length * 9, none⟩ = some (.slice la lit.length lcap) := by
    rw [h.row.cellAt _ (by omega), List.getElem?_append_right (by omega), hrl, Nat.sub_self]; rfl
  have cg1 : w.cell? ⟨g, L.length * 9 + 1, none⟩ = some (.int .u8 0) := by
    rw [h.row.cellAt _ (by omega), List.getElem?_append_right (by omega), hrl, Nat.add_sub_cancel_left]; rfl
  obtain ⟨n, hn⟩ : ∃ n, n = L.length := ⟨_, rfl⟩
  obtain ⟨q, hq⟩ : ∃ q, q = lit.length := ⟨_, rfl⟩
  have hown := h.last
  rw [← hn] at cF cg0 cg1 hl
  rw [← hq] at cg0 hown hlit
  have HN := Lib.hid hn
  have HQ := Lib.hid hq
  have HOWN := Lib.hid hown
  have hvg := own_blk_ne hown hgb (by decide)
  have hvF := own_blk_ne hown h.fm (by decide)
  have HFZ : Hid (w.frozen? ⟨g, n * 9, none⟩ = false) := hgb.frozen _
  clear h hgb hn hq hrl hown hlc
  go_enter Tryz.func27, Tryz.ntmps27
  have hi0' : (0 : Int) ≤ (n : Int) := Int.natCast_nonneg _
  have hi1' : (n : Int) < (n : Int) + 1 := by omega
  have HVG := Lib.hid hvg
  have HCF := Lib.hid cF
  have HCG := Lib.hid cg0
  have HVF := Lib.hid hvF
  clear hvg hvF
  go_wp2_with fail
  go_region_law
    ((refine step_append_lies _ (by rfl) _ _ _ (by rfl) K 5 i0 _ 1 1 Tryz.underlying25 hi0 hz0 hz1 hz2 rfl (by omega) (.slice la q lcap) q (u8s lit) (by rfl) ((HOWN.out.alloc _).drew)
        ⟨w.heap.size, 0, none⟩ 1 1 [.int .u8 b.toNat] (by rfl) (by rfl) (World.news_of_block (cs := #[.int .u8 b.toNat]) (t := 5) (fr := (0, 0)) (heap_alloc_new w _)) (by simp [Value.oneCell'])
        (by omega) (by unfold maxLen; omega) (by omega) (by simp; omega) (w.heap.size + 1) (by simp) ?_; intro gg cap2 w1 hown1 hgrow hat hlt; obtain ⟨cc1, cc2, cc3⟩ := put_facts hgrow hFlt hglt HVF.out HVG.out HCF.out HCG.out HFZ.out))
  all_goals go_wp2_with fail
  all_goals (go_end0; exact put_end H.out hB b HN.out HQ.out hown1 hgrow)
end Go.Proofs.YtppcjmbblkbkdaaGreatDoor
