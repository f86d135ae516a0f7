/- append of one byte to a row of bytes that a string was turned into. Conditions as typed. -/
import Derived.Test.YtkecmfjjekagiaaDoorPush
import Derived.Test.YtkecmfjjekagiaaDoorFill1
import Derived.Deep.AppendSrc
namespace Go.Proofs.YtkecmfjjekagiaaDoor
open Go.RowKit Pg

/-- v holds the bytes l in a row of its own from block B on; its mark, if it bears one, lies behind the row. -/
def RowM (B : Nat) (w : World) (v : Value) (l : List UInt8) : Prop :=
  ∃ g cap cur fz, v = .slice (some ⟨g, 0, none⟩) l.length cap ∧ B ≤ g ∧ g < w.heap.size ∧ w.heap[g]? = some (.cells cur 5 fz) ∧ (fz = (0, 0) ∨ fz = (cap, cap + 1)) ∧ l.length ≤ cap ∧ cap ≤ maxLen ∧ cur.size = cap ∧ cur.toList.take l.length = u8s l
theorem RowM.below {B B' : Nat} {w w' : World} {v : Value} {l : List UInt8} (h : RowM B w v l) (hb : Below B' w w') (hB : w.heap.size ≤ B') : RowM B w' v l := by
  obtain ⟨g, cap, cur, fz, h1, h2, h3, h4, h5⟩ := h
  exact ⟨g, cap, cur, fz, h1, h2, by have := hb.size; omega, (hb.block g (by omega)).trans h4, h5⟩
theorem RowM.slice {B : Nat} {w : World} {v : Value} {l : List UInt8} (h : RowM B w v l) : ∃ a cap, v = .slice a l.length cap ∧ Bs w a cap l := by
  obtain ⟨g, cap, cur, fz, h1, h2, h3, h4, h5, h6, h7, h8, h9⟩ := h
  refine ⟨_, cap, h1, h6, h7, fun i hi => ⟨g, 0, rfl, ?_⟩⟩
  rw [Nat.zero_add, cell_of_row w g i cur _ fz h4]
  have e : (cur.toList.take l.length)[i]? = (u8s l)[i]? := by rw [h9]
  rw [List.getElem?_take, if_pos hi] at e
  simpa [u8s, hi] using e
theorem grown_size (w : World) (S : ByteArray) : (Lib.bytesCells w 5 S).size = grownCap w S.size 0 5 := by
  have := grownCap_ge w S.size 0 5
  unfold Lib.bytesCells
  simp
  have h : S.data.size = S.size := rfl
  omega
theorem RowM.conv (w : World) (S : ByteArray) (hS : S.size ≤ maxLen) : RowM w.heap.size (Lib.bytesWorld w 5 S) (.slice (some ⟨w.heap.size, 0, none⟩) S.size (grownCap w S.size 0 5)) (bl S) := by
  have hsz := grown_size w S
  have hlen : (bl S).length = S.size := bl_length S
  refine ⟨w.heap.size, _, _, _, by rw [hlen], Nat.le_refl _, by rw [Lib.bytesWorld_size]; omega, Lib.bytesWorld_at_new w 5 S, .inr (by rw [hsz]), by rw [hlen]; exact grownCap_ge _ _ _ _, grownCap_le_maxLen _ _ _ _ hS, hsz, ?_⟩
  unfold Lib.bytesCells
  rw [Array.toList_append, hlen, List.take_append_of_le_length (by simp), List.take_of_length_le (by simp)]
  simp [u8s, bl]
theorem heap_set_any {w : World} {g i : Nat} {cur : Array Value} {t : TypeId} {fz : Nat × Nat} (h : w.heap[g]? = some (.cells cur t fz)) (u : Value) : (w.setCell ⟨g, i, none⟩ u).heap[g]? = some (.cells (cur.setIfInBounds i u) t fz) := by
  simp [World.setCell, Array.getElem?_modify, h]
theorem RowM.push {B : Nat} {w : World} {v : Value} {l : List UInt8} (h : RowM B w v l) (hB : B ≤ w.heap.size) (hl : l.length ≤ 100000) (c : UInt8) (ty : TypeId) :
    ∃ v' w', (Builtin.append_ #[44, 44] ty #[v, .slice (some ⟨w.heap.size, 0, none⟩) 1 1]).run Tryd.prog (w.alloc (.cells #[.int .u8 c.toNat] 5)) = .ok v' w' ∧ RowM B w' v' (l ++ [c]) ∧ Below B w w' := by
  obtain ⟨i0, hi0, hz0, hz1, hz2⟩ := info_parts Tryd.infoU8
  obtain ⟨g, cap, cur, fz, rfl, h2, h3, h4, h5, h6, h7, h8, h9⟩ := h
  have hg1 : (w.alloc (.cells #[.int .u8 c.toNat] 5)).heap[g]? = some (.cells cur 5 fz) := (Below.heap_alloc w _ g h3).trans h4
  have hll : (l ++ [c]).length = l.length + 1 := by simp
  have hnews : ∀ j u, ([.int .u8 c.toNat] : List Value)[j]? = some u → (w.alloc (.cells #[.int .u8 c.toNat] 5)).cell? ((⟨w.heap.size, 0, none⟩ : Addr).add j) = some u := news_at rfl #[.int .u8 c.toNat] 5
  have hb1 : Below B w (w.alloc (.cells #[.int .u8 c.toNat] 5)) := (Below.refl B w).alloc hB _
  by_cases hroom : l.length + 1 ≤ cap
  · have hsrc : Src Tryd.prog i0.size 44 (.slice (some ⟨w.heap.size, 0, none⟩) 1 1) 1 [.int .u8 c.toNat] (w.alloc (.cells #[.int .u8 c.toNat] 5)) := Src.ofSlice _ Tryd.underlying44 _ 1 1 _ (by rw [hz1]; rfl) hnews (by simp [Value.oneCell'])
    have hr := run_append_room_src (P := Tryd.prog) (w.alloc (.cells #[.int .u8 c.toNat] 5)) 44 44 ty 5 i0 Tryd.underlying44 hi0 g 0 l.length cap _ 1 _ hsrc hroom
      (fun j hj => by
        have hj0 : j = 0 := by simp at hj; omega
        subst hj0
        rw [hz1, cell_of_row _ g _ cur _ fz hg1, Nat.zero_add, Nat.mul_one, Nat.add_zero, Array.getElem?_eq_getElem (by omega)]
        rfl)
      (fun j hj => by
        have hj0 : j = 0 := by simp at hj; omega
        subst hj0
        rcases h5 with rfl | rfl
        · simp [World.frozen?, hg1]
        · simp [World.frozen?, hg1, hz1]; omega)
    refine ⟨_, _, hr, ?_, ?_⟩
    · simp only [World.setCells, hz1, Nat.mul_one, Nat.zero_add]
      refine ⟨g, cap, _, fz, by rw [hll], h2, ?_, heap_set_any hg1 _, h5, by rw [hll]; exact hroom, h7, by simpa using h8, ?_⟩
      · rw [size_setCell, World.size_alloc]; omega
      · rw [Array.toList_setIfInBounds, hll, List.take_succ_eq_append_getElem (by simp; omega), List.take_set_of_le (Nat.le_refl _), h9]
        simp [u8s]
    · simp only [World.setCells, hz1, Nat.mul_one, Nat.zero_add]
      exact hb1.setCell h2 _
  · have hcl : cap = l.length := by omega
    subst hcl
    have holds : ∀ j u, (u8s l)[j]? = some u → (w.alloc (.cells #[.int .u8 c.toNat] 5)).cell? ((⟨g, 0, none⟩ : Addr).add j) = some u := fun j u hu => by
      rw [addr_add, cell_of_row _ g _ cur _ fz hg1, Nat.zero_add, ← Array.getElem?_toList]
      rw [← h9] at hu
      rw [List.getElem?_take] at hu
      split at hu
      · exact hu
      · cases hu
    have hr := run_append_grow (P := Tryd.prog) (w.alloc (.cells #[.int .u8 c.toNat] 5)) 44 ty 5 i0 _ Tryd.underlying44 hi0 hz0 ⟨g, 0, none⟩ l.length l.length (u8s l) (by rw [u8s_length, hz1, Nat.mul_one]) holds ⟨w.heap.size, 0, none⟩ 1 1 [.int .u8 c.toNat] (by rw [hz1]; rfl) hnews (by omega) (by omega) (growslice_fits (by omega) (by rw [hz2]; omega))
    have hge := grownCap_ge (w.alloc (.cells #[.int .u8 c.toNat] 5)) (l.length + 1) l.length 5
    have hcm := grownCap_le_maxLen (w.alloc (.cells #[.int .u8 c.toNat] 5)) (l.length + 1) l.length 5 (by unfold maxLen; omega)
    refine ⟨_, _, hr, ⟨_, _, _, (0, 0), by rw [hll]; rfl, ?_, ?_, heap_alloc_new _ _, .inl rfl, by rw [hll]; exact hge, hcm, ?_, ?_⟩, ?_⟩
    · show B ≤ (w.alloc _).heap.size
      rw [World.size_alloc]; omega
    · rw [World.size_alloc]; exact Nat.lt_succ_self _
    · simp only [Array.size_append, List.size_toArray, size_zeroCells, u8s_length, List.length_cons, List.length_nil]
      show l.length + (0 + 1) + (_ * 1) = _
      omega
    · simp only [Array.toList_append]
      rw [List.append_assoc, hll, ← List.append_assoc, List.take_left' (by simp [u8s])]
      simp [u8s]
    · exact hb1.drew.alloc (by show B ≤ (w.alloc _).heap.size; rw [World.size_alloc]; omega) _
theorem wpList_pushM {wr : World} {ops : Array Oper} {rest : List Oper} {o : Oper} {a : Act} {Q : Exit → Act → World → Prop} (hgd : o.guard = none) (s x : Operand)
    (ho : o.op = .call { callee := .builtin .append, args := #[s, x], argTypes := #[44, 44] }) {B : Nat} {v : Value} {l : List UInt8} (c : UInt8) (h : RowM B wr v l) (hB : B ≤ wr.heap.size) (hl : l.length ≤ 100000)
    (hs : a.eval s = v) (hx : a.eval x = .slice (some ⟨wr.heap.size, 0, none⟩) 1 1)
    (hn : ∀ v' w', RowM B w' v' (l ++ [c]) → Below B wr w' → wpList Tryd.prog ops Q rest (a.put o.dst v') w') : wpList Tryd.prog ops Q (o :: rest) a (wr.alloc (.cells #[.int .u8 c.toNat] 5)) := by
  refine wpList_plain hgd fun K' hK => ?_
  obtain ⟨v', w', hr, h2, h3⟩ := h.push hB hl c o.type
  unfold Oper.wp execOp
  simp only [ho, resolve, invoke, builtin, Sem.run_bind, Sem.run_pure, Result.andThen_ok, List.map_toArray, List.map_cons, List.map_nil, hs, hx, hr]
  exact hK _ _ (hn v' w' h2 h3)
end Go.Proofs.YtkecmfjjekagiaaDoor
