/- Words on memory: byte slices cut, kept and read; errors of a code and a place; blocks that are known whole. No conditions. -/
import Derived.Test.YtppcjmbblkbkdaaGreatDoorLib
import Derived.Laws.OwnMore
import Derived.Deep.AppendLies
namespace Go.Proofs.YtppcjmbblkbkdaaGreatDoor
open Go.RowKit

theorem lt_of_cell {w : World} {a : Addr} {v : Value} (h : w.cell? a = some v) : a.block < w.heap.size := World.block_lt_of_cell? w a h

/-! ### Slices of bytes -/
theorem Bs.below {w w' : World} {a : Option Addr} {cap : Nat} {l : List UInt8} (h : Bs w a cap l) {B : Nat} (hb : Below B w w') (hB : w.heap.size ≤ B) : Bs w' a cap l :=
  ⟨h.1, h.2.1, fun i hi => by
    obtain ⟨b, off, ha, hc⟩ := h.2.2 i hi
    exact ⟨b, off, ha, by rw [hb.cell (p := ⟨b, off + i, none⟩) (Nat.lt_of_lt_of_le (lt_of_cell hc) hB)]; exact hc⟩⟩
theorem Bs.empty (w : World) : Bs w none 0 [] := ⟨Nat.le_refl _, by unfold maxLen; omega, fun i h => by simp at h⟩

/-- Where 'b[k:]' begins. -/
def cutA (a : Option Addr) (cap k : Nat) : Option Addr := if cap = k then a else a.map (·.add k)
theorem addr_add (b off k : Nat) : (⟨b, off, none⟩ : Addr).add k = ⟨b, off + k, none⟩ := by
  unfold Addr.add; split <;> simp_all

theorem Bs.cut {w : World} {a : Option Addr} {cap : Nat} {l : List UInt8} (h : Bs w a cap l) (k : Nat) (hk : k ≤ l.length) : Bs w (cutA a cap k) (cap - k) (l.drop k) := by
  refine ⟨by have := h.1; simp; omega, by have := h.2.1; omega, fun i hi => ?_⟩
  have hi' : i < l.length - k := by simpa using hi
  obtain ⟨b, off, ha, hc⟩ := h.2.2 (k + i) (by omega)
  subst ha
  refine ⟨b, off + k, ?_, ?_⟩
  · unfold cutA
    rw [if_neg (by have := h.1; omega)]
    simp [addr_add]
  · rw [Nat.add_assoc, hc]
    simp
theorem Bs.take {w : World} {a : Option Addr} {cap : Nat} {l : List UInt8} (h : Bs w a cap l) (n : Nat) : Bs w a cap (l.take n) := by
  refine ⟨Nat.le_trans (List.length_take_le' ..) h.1, h.2.1, fun i hi => ?_⟩
  have hi' : i < l.length := by simp at hi; omega
  obtain ⟨b, off, ha, hc⟩ := h.2.2 i hi'
  exact ⟨b, off, ha, by rw [hc]; simp⟩

/-- b[k:] as a run, its address behind a name. -/
theorem elem_is {P : Program} {t e : TypeId} (ht : P.underlying t = some (.slice e)) : P.elem t = e := by unfold Program.elem; rw [ht]
theorem run_cutFrom {P : Program} {t e : TypeId} (ht' : P.underlying t = some (.slice e)) (hs' : ∀ w, (sizeOf e).run P w = .ok 1 w) (a : Option Addr) (l : List UInt8) (cap k : Nat) (hk : k ≤ l.length) (z : Int) (hz : z = k) (w : World) :
    (Instr.slice t (.slice a l.length cap) (some (.int .i64 z)) none none).run P w = .ok (.slice (cutA a cap k) (l.length - k) (cap - k)) w := by
  subst hz
  have ht : P.underlying t = some (.slice (P.elem t)) := by rw [elem_is ht']; exact ht'
  have hs : ∀ w, (sizeOf (P.elem t)).run P w = .ok 1 w := by rw [elem_is ht']; exact hs'
  rw [run_slice_l w t a l.length cap ht .i64 k (by omega) (by omega), hs]
  simp [Result.andThen, sliced, cutA]
/-- b[:k] as a run. -/
theorem run_cutTo {P : Program} {t e : TypeId} (ht' : P.underlying t = some (.slice e)) (hs' : ∀ w, (sizeOf e).run P w = .ok 1 w) (a : Option Addr) (l : List UInt8) (cap k : Nat) (hk : k ≤ l.length) (hc : l.length ≤ cap) (z : Int) (hz : z = k) (w : World) :
    (Instr.slice t (.slice a l.length cap) none (some (.int .i64 z)) none).run P w = .ok (.slice a k cap) w := by
  subst hz
  have ht : P.underlying t = some (.slice (P.elem t)) := by rw [elem_is ht']; exact ht'
  have hs : ∀ w, (sizeOf (P.elem t)).run P w = .ok 1 w := by rw [elem_is ht']; exact hs'
  rw [run_slice_h w t a l.length cap ht .i64 k (by omega) (by omega), hs]
  simp only [Result.andThen, sliced, Int.toNat_natCast, Nat.sub_zero]
  congr 2
  split
  · rfl
  · cases a with
    | none => rfl
    | some a => simp [Addr.add]

/-! ### Blocks that are known whole -/
def Blk (w : World) (g : Nat) (t : TypeId) (cs : Array Value) : Prop := w.heap[g]? = some (.cells cs t (0, 0))
section
variable {w w' : World} {g : Nat} {t : TypeId} {cs : Array Value}
theorem Blk.lt (h : Blk w g t cs) : g < w.heap.size := by
  rcases Nat.lt_or_ge g w.heap.size with hlt | hge
  · exact hlt
  · unfold Blk at h; rw [Array.getElem?_eq_none hge] at h; cases h
theorem Blk.cell (h : Blk w g t cs) (i : Nat) : w.cell? ⟨g, i, none⟩ = cs[i]? := cell_of_row w g i cs t (0, 0) h
theorem Blk.frozen (h : Blk w g t cs) (i : Nat) : w.frozen? ⟨g, i, none⟩ = false := by
  unfold Blk at h
  simp [World.frozen?, h]
theorem Blk.new (w : World) (t : TypeId) (cs : Array Value) : Blk (w.alloc (.cells cs t)) w.heap.size t cs := heap_alloc_new w _
theorem Blk.drew (h : Blk w g t cs) : Blk w.drew g t cs := h
theorem Blk.alloc (h : Blk w g t cs) (o : Obj) : Blk (w.alloc o) g t cs := (Below.heap_alloc w o g h.lt).trans h
theorem Blk.set_ (h : Blk w g t cs) (i : Nat) (u : Value) : Blk (w.setCell ⟨g, i, none⟩ u) g t (cs.setIfInBounds i u) := by
  unfold Blk at h ⊢
  simp [World.setCell, Array.getElem?_modify, h]
theorem Blk.far (h : Blk w g t cs) {p : Addr} (hp : g ≠ p.block) (u : Value) : Blk (w.setCell p u) g t cs := (Below.heap_setCell w p u g hp).trans h
theorem Blk.below {B : Nat} (h : Blk w g t cs) (hb : Below B w w') (hg : g < B) : Blk w' g t cs := (hb.block g hg).trans h
theorem Blk.grown {row : Option Nat} (h : Blk w g t cs) (hb : w.grownBy w' row) (hg : some g ≠ row) : Blk w' g t cs := (hb.block g h.lt hg).trans h
theorem Blk.ne_ {g' : Nat} {t' : TypeId} {cs' : Array Value} (h : Blk w g t cs) (h' : Blk w g' t' cs') (hne : t ≠ t') : g ≠ g' := by
  rintro rfl
  unfold Blk at h h'
  rw [h] at h'
  injection h' with h'
  injection h' with _ ht
  exact hne ht
theorem own_blk_ne {base : Nat} {e : TypeId} {size n : Nat} {v : Value} {xs : List Value} (h : w.ownsRow base e size v n xs) (hg : Blk w g t cs) (hne : e ≠ t) : v.ownBlock ≠ some g := by
  rcases h.2 with ⟨rfl, _⟩ | ⟨g', cap, cur, rfl, _, hh, _⟩
  · simp [Value.ownBlock]
  · intro he
    have : g' = g := by simpa [Value.ownBlock] using he
    subst this
    exact Blk.ne_ (t := e) hh hg hne rfl
end
theorem size_setCell' (w : World) (a : Addr) (v : Value) : (w.setCell a v).heap.size = w.heap.size := by simp [World.setCell]
end Go.Proofs.YtppcjmbblkbkdaaGreatDoor
