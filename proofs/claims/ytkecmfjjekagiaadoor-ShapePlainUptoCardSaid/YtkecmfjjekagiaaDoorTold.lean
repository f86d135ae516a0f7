/- fill.Printf of constant bytes and one new string. Conditions as typed. -/
import Derived.Test.YtkecmfjjekagiaaDoorDig15
import Derived.Test.YtkecmfjjekagiaaDoorSame
namespace Go.Proofs.YtkecmfjjekagiaaDoor
open Go.RowKit Pg

theorem BelowA (w : World) (o : Obj) : Below w.heap.size w (w.alloc o) := (Below.refl _ _).alloc (Nat.le_refl _) o
theorem Told.down {W w : World} {r : Out} {e : Ending} {w' : World} (h : Told w r e w') (hb : Below W.heap.size W w) : Told W r e w' := by
  obtain ⟨oa, no, oc, ca, nc, cc, h1, h2, h3, h4, h5, h6, h7, h8⟩ := h
  exact ⟨oa, no, oc, ca, nc, cc, h1, h2, h3, h4, h5, hb.trans (h6.mono hb.size), ownsRow_base h7 hb.size, ownsRow_base h8 hb.size⟩
theorem told_const (W : World) (A : Nat → Addr) (hS : Sents0 W A) (c : List UInt8) (hc : c.length ≤ maxLen) (C : Array Value) (hC : (u8s c).toArray = C) (fr : Nat × Nat) (S : ByteArray) (r : Out) (hr : printf c [bl S] = .ok r) :
    Calls Tryd.prog 40 #[.slice (some ⟨W.heap.size, 0, none⟩) c.length c.length, .slice (some ⟨W.heap.size + 1, 0, none⟩) 1 1] ((W.alloc (.cells C 5 fr)).alloc (.cells #[.string S] 9)) (Told W r) := by
  subst hC
  have b1 := BelowA W (.cells (u8s c).toArray 5 fr)
  have hb := Bs.marked W 5 fr c hc
  have hz : (W.alloc (.cells (u8s c).toArray 5 fr)).heap.size = W.heap.size + 1 := by simp
  generalize W.alloc (.cells (u8s c).toArray 5 fr) = W1 at *
  have b2 := BelowA W1 (.cells #[.string S] 9)
  have hs : Ss (W1.alloc (.cells #[.string S] 9)) (some ⟨W.heap.size + 1, 0, none⟩) 1 [S] := hz ▸ Ss.new W1 [S] (by show 1 ≤ maxLen; decide)
  have hB := b1.trans (b2.mono b1.size)
  exact (fill_told _ A (hS.kept hB (Nat.le_refl _)) _ _ c (hb.below b2 (Nat.le_refl _)) _ _ [S] hs [bl S] rfl r hr).mono fun _ _ h => h.down hB
/-- What was told, laid into a block of its own. -/
theorem told_cells {w1 W : World} {oa ca : Option Addr} {no oc nc cc : Nat} {s : Bool} (hb : Below (w1.heap.size + 1) (w1.alloc (.cells #[.slice oa no oc, .slice ca nc cc, .bool s] 62)) W) :
    W.cell? ⟨w1.heap.size, 0, none⟩ = some (.slice oa no oc) ∧ W.cell? ⟨w1.heap.size, 1, none⟩ = some (.slice ca nc cc) ∧ W.cell? ⟨w1.heap.size, 2, none⟩ = some (.bool s) := by
  have hk := (Blk.new w1 62 #[.slice oa no oc, .slice ca nc cc, .bool s]).below hb (by omega)
  exact ⟨by rw [hk.cell 0]; rfl, by rw [hk.cell 1]; rfl, by rw [hk.cell 2]; rfl⟩
end Go.Proofs.YtkecmfjjekagiaaDoor
