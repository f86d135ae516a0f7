/- Formats in memory: parts in a row of nine cells each, their bytes in rows of their own; one part under way. No conditions. -/
import Derived.Test.YtppcjmbblkbkdaaGreatDoorWords
import Derived.Test.YtppcjmbblkbkdaaGreatDoorFillM
import Derived.Test.YtppcjmbblkbkdaaGreatDoorScan2
namespace Go.Proofs.YtppcjmbblkbkdaaGreatDoor
open Go.RowKit Pg

/-- A part's cells, its bytes as a value. -/
def partCells (v : Value) (p : Part) : Array Value := #[v, .int .u8 p.conv, .bool p.fl.minus, .bool p.fl.plus, .bool p.fl.space, .bool p.fl.zero, .bool p.fl.alt, .int .i64 p.width, .int .i64 p.prec]
def u8s (l : List UInt8) : List Value := l.map fun c => .int .u8 c.toNat
theorem u8s_length (l : List UInt8) : (u8s l).length = l.length := by simp [u8s]

/-- The value v holds the bytes l, in a row of bytes below block K. -/
def LitR (w : World) (K : Nat) (v : Value) (l : List UInt8) : Prop :=
  ∃ a cap, v = .slice a l.length cap ∧ l.length ≤ cap ∧ cap ≤ maxLen ∧
    (l = [] ∨ ∃ g cur, a = some ⟨g, 0, none⟩ ∧ g < K ∧ w.heap[g]? = some (.cells cur 5 (0, 0)) ∧ cur.toList.take l.length = u8s l)
theorem LitR.nil (w : World) (K : Nat) : LitR w K (.slice none 0 0) [] := ⟨none, 0, rfl, Nat.le_refl _, by unfold maxLen; omega, .inl rfl⟩
theorem LitR.more {w : World} {K K' : Nat} {v : Value} {l : List UInt8} (h : LitR w K v l) (hK : K ≤ K') : LitR w K' v l := by
  obtain ⟨a, cap, h1, h2, h3, h4⟩ := h
  refine ⟨a, cap, h1, h2, h3, ?_⟩
  rcases h4 with h4 | ⟨g, cur, h5, h6, h7⟩
  · exact .inl h4
  · exact .inr ⟨g, cur, h5, by omega, h7⟩
/-- Rows of bytes below K are as they were. -/
def U8Kept (K : Nat) (w w' : World) : Prop := ∀ g cur, g < K → w.heap[g]? = some (.cells cur 5 (0, 0)) → w'.heap[g]? = some (.cells cur 5 (0, 0))
theorem LitR.kept {w w' : World} {K : Nat} {v : Value} {l : List UInt8} (h : LitR w K v l) (hk : U8Kept K w w') : LitR w' K v l := by
  obtain ⟨a, cap, h1, h2, h3, h4⟩ := h
  refine ⟨a, cap, h1, h2, h3, ?_⟩
  rcases h4 with h4 | ⟨g, cur, h5, h6, h7, h8⟩
  · exact .inl h4
  · exact .inr ⟨g, cur, h5, h6, hk g cur h6 h7, h8⟩
theorem U8Kept.trans {K : Nat} {a b c : World} (h : U8Kept K a b) (h' : U8Kept K b c) : U8Kept K a c := fun g cur hg hh => h' g cur hg (h g cur hg hh)
theorem U8Kept.below {K B : Nat} {w w' : World} (hb : Below B w w') (hK : w.heap.size ≤ B) : U8Kept K w w' := fun g _ _ h => by
  rw [hb.block g (by have : g < w.heap.size := Blk.lt (t := 5) h; omega)]; exact h
theorem U8Kept.grown {K : Nat} {w w' : World} {row : Option Nat} (hg : w.grownBy w' row) (hr : ∀ k, row = some k → K ≤ k) : U8Kept K w w' := fun g _ hk h => by
  rw [hg.block g (Blk.lt (t := 5) h) (fun e => by have := hr g e.symm; omega)]; exact h
theorem U8Kept.grownOther {K : Nat} {w w' : World} {row : Option Nat} (hg : w.grownBy w' row) (hr : ∀ k cur, row = some k → w.heap[k]? ≠ some (.cells cur 5 (0, 0))) : U8Kept K w w' := fun g cur _ h => by
  rw [hg.block g (Blk.lt (t := 5) h) (fun e => hr g cur e.symm h)]; exact h
theorem U8Kept.setCell {K : Nat} {w : World} {a : Addr} {t : TypeId} {cs : Array Value} (hb : Blk w a.block t cs) (ht : t ≠ 5) (v : Value) : U8Kept K w (w.setCell a v) := fun g _ _ h => by
  rw [Below.heap_setCell _ _ _ _ (Ne.symm (hb.ne_ (g' := g) h ht))]; exact h
theorem U8Kept.alloc (K : Nat) (w : World) (o : Obj) : U8Kept K w (w.alloc o) := fun _ _ _ h => (Below.heap_alloc w o _ (Blk.lt (t := 5) h)).trans h
theorem U8Kept.drew (K : Nat) (w : World) : U8Kept K w w.drew := fun _ _ _ h => h

theorem LitR.bs {w : World} {K : Nat} {v : Value} {l : List UInt8} (h : LitR w K v l) : ∃ a cap, v = .slice a l.length cap ∧ Bs w a cap l := by
  obtain ⟨a, cap, h1, h2, h3, h4⟩ := h
  refine ⟨a, cap, h1, h2, h3, fun i hi => ?_⟩
  rcases h4 with h4 | ⟨g, cur, h5, h6, h7, h8⟩
  · subst h4; simp at hi
  · refine ⟨g, 0, h5, ?_⟩
    rw [Nat.zero_add, cell_of_row w g i cur _ (0, 0) h7]
    have e : (cur.toList.take l.length)[i]? = (u8s l)[i]? := by rw [h8]
    rw [List.getElem?_take, if_pos hi] at e
    simpa [u8s, hi] using e
/-- A row of bytes that is owned, read. -/
theorem LitR.own {w : World} {B : Nat} {v : Value} {l : List UInt8} (h : w.ownsRow B 5 1 v l.length (u8s l)) : LitR w w.heap.size v l := by
  rcases h.2 with ⟨rfl, h0⟩ | ⟨g, cap, cur, rfl, hb, hg, hn, hm, hs, ht⟩
  · have : l = [] := List.eq_nil_of_length_eq_zero h0
    subst this
    exact LitR.nil _ _
  · exact ⟨_, cap, rfl, hn, hm, .inr ⟨g, cur, rfl, Blk.lt (t := 5) hg, hg, by simpa using ht⟩⟩

/-- The cells of a row of parts. -/
def rowC : List Value → List Part → List Value
  | v :: vs, p :: L => (partCells v p).toList ++ rowC vs L
  | _, _ => []
theorem partCells_len (v : Value) (p : Part) : (partCells v p).toList.length = 9 := rfl
theorem rowC_length : ∀ (vs : List Value) (L : List Part), vs.length = L.length → (rowC vs L).length = L.length * 9
  | [], [], _ => rfl
  | v :: vs, p :: L, h => by
    unfold rowC
    rw [List.length_append, partCells_len, rowC_length vs L (by simpa using h), List.length_cons]
    omega
theorem rowC_append : ∀ (vs : List Value) (L : List Part) (v : Value) (p : Part), vs.length = L.length → rowC (vs ++ [v]) (L ++ [p]) = rowC vs L ++ (partCells v p).toList
  | [], [], v, p, _ => by simp [rowC]
  | u :: vs, q :: L, v, p, h => by
    have := rowC_append vs L v p (by simpa using h)
    simp [rowC, this]
theorem rowC_at : ∀ (vs : List Value) (L : List Part), vs.length = L.length → ∀ (i : Nat) (h : i < L.length) (h' : i < vs.length) (j : Nat), j < 9 → (rowC vs L)[i * 9 + j]? = (partCells vs[i] L[i]).toList[j]?
  | v :: vs, p :: L, hl, 0, _, _, j, hj => by
    simp only [rowC, Nat.zero_mul, Nat.zero_add, List.getElem_cons_zero]
    rw [List.getElem?_append_left (by rw [partCells_len]; omega)]
  | v :: vs, p :: L, hl, i + 1, h, h', j, hj => by
    have := rowC_at vs L (by simpa using hl) i (by simpa using h) (by simpa using h') j hj
    simp only [rowC, List.getElem_cons_succ]
    rw [List.getElem?_append_right (by rw [partCells_len]; omega), partCells_len, show (i + 1) * 9 + j - 9 = i * 9 + j by omega]
    exact this

/-- The slice v holds the parts L, in rows from block B on. -/
def PartsC (B : Nat) (w : World) (v : Value) (L : List Part) : Prop :=
  ∃ vs : List Value, vs.length = L.length ∧ (∀ (i : Nat) (h : i < L.length) (h' : i < vs.length), LitR w w.heap.size vs[i] L[i].lit) ∧ w.ownsRow B 59 9 v L.length (rowC vs L)
/-- The format at block F holds the parts L. -/
def FmtC (B : Nat) (w : World) (F : Nat) (L : List Part) : Prop := B ≤ F ∧ ∃ v, Blk w F 76 #[v] ∧ PartsC B w v L
/-- .. with the bytes lit under way behind them, which lie from block K on. -/
structure Mid (B : Nat) (w : World) (F : Nat) (L : List Part) (lit : List UInt8) (K g cap : Nat) (v : Value) (vs : List Value) : Prop where
  bF : B ≤ F
  bK : B ≤ K
  fm : Blk w F 76 #[.slice (some ⟨g, 0, none⟩) (L.length + 1) cap]
  len : vs.length = L.length
  row : w.ownsRow B 59 9 (.slice (some ⟨g, 0, none⟩) (L.length + 1) cap) (L.length + 1) (rowC vs L ++ (partCells v (litPart [])).toList)
  lits : ∀ (i : Nat) (h : i < L.length) (h' : i < vs.length), LitR w K vs[i] L[i].lit
  last : w.ownsRow K 5 1 v lit.length (u8s lit)
/-- The state of the parser. -/
def FmtW (B : Nat) (w : World) (F : Nat) (L : List Part) (lit : List UInt8) : Prop := (lit = [] ∧ FmtC B w F L) ∨ (lit ≠ [] ∧ ∃ K g cap v vs, Mid B w F L lit K g cap v vs)

theorem ownsRow_below {w w' : World} {B0 B e size n : Nat} {v : Value} {xs : List Value} (h : w.ownsRow B0 e size v n xs) (hb : Below B w w') (hB : w.heap.size ≤ B) : w'.ownsRow B0 e size v n xs := by
  refine ⟨h.1, ?_⟩
  rcases h.2 with h2 | ⟨g, cap, cur, hv, hb', hg, r⟩
  · exact .inl h2
  · exact .inr ⟨g, cap, cur, hv, hb', by rw [hb.block g (by have : g < w.heap.size := Blk.lt (t := e) hg; omega)]; exact hg, r⟩
theorem ownsRow_base {w : World} {B0 B1 e size n : Nat} {v : Value} {xs : List Value} (h : w.ownsRow B0 e size v n xs) (hB : B1 ≤ B0) : w.ownsRow B1 e size v n xs := by
  refine ⟨h.1, ?_⟩
  rcases h.2 with h2 | ⟨g, cap, cur, hv, hb', r⟩
  · exact .inl h2
  · exact .inr ⟨g, cap, cur, hv, by omega, r⟩
theorem PartsC.below {B0 B : Nat} {w w' : World} {v : Value} {L : List Part} (h : PartsC B0 w v L) (hb : Below B w w') (hB : w.heap.size ≤ B) : PartsC B0 w' v L := by
  obtain ⟨vs, h1, h2, h3⟩ := h
  exact ⟨vs, h1, fun i hi hi' => ((h2 i hi hi').kept (U8Kept.below hb hB)).more hb.size, ownsRow_below h3 hb hB⟩
theorem FmtC.below {B0 B : Nat} {w w' : World} {F : Nat} {L : List Part} (h : FmtC B0 w F L) (hb : Below B w w') (hB : w.heap.size ≤ B) : FmtC B0 w' F L := by
  obtain ⟨h0, v, h1, h2⟩ := h
  exact ⟨h0, v, h1.below hb (by have := h1.lt; omega), h2.below hb hB⟩
theorem ownsRow_form {w : World} {B e size n : Nat} {v : Value} {xs : List Value} (h : w.ownsRow B e size v n xs) : ∃ a cap, v = .slice a n cap ∧ n ≤ cap ∧ cap ≤ maxLen ∧ (0 < n → ∃ g, a = some ⟨g, 0, none⟩ ∧ g < w.heap.size ∧ B ≤ g) := by
  rcases h.2 with ⟨rfl, rfl⟩ | ⟨g, cap, cur, rfl, hb, hg, hn, hm, _⟩
  · exact ⟨none, 0, rfl, Nat.le_refl _, by unfold maxLen; omega, fun h => by omega⟩
  · exact ⟨_, cap, rfl, hn, hm, fun _ => ⟨g, rfl, Blk.lt (t := e) hg, hb⟩⟩

/-- Bytes under way, shut: a part of their own. -/
theorem Mid.shut {B : Nat} {w : World} {F : Nat} {L : List Part} {lit : List UInt8} {K g cap : Nat} {v : Value} {vs : List Value} (h : Mid B w F L lit K g cap v vs) : FmtC B w F (L ++ [litPart lit]) := by
  refine ⟨h.bF, _, h.fm, vs ++ [v], by simp [h.len], fun i hi hi' => ?_, ?_⟩
  · by_cases hil : i < L.length
    · have hiv : i < vs.length := by rw [h.len]; exact hil
      rw [List.getElem_append_left hil, List.getElem_append_left hiv]
      have hlt : K ≤ w.heap.size ∨ w.heap.size < K := by omega
      rcases hlt with hlt | hlt
      · exact (h.lits i hil hiv).more hlt
      · obtain ⟨a, c, e1, e2, e3, e4⟩ := h.lits i hil hiv
        refine ⟨a, c, e1, e2, e3, ?_⟩
        rcases e4 with e4 | ⟨g', cur, e5, e6, e7, e8⟩
        · exact .inl e4
        · exact .inr ⟨g', cur, e5, Blk.lt (t := 5) e7, e7, e8⟩
    · have e : i = L.length := by simp at hi; omega
      subst e
      rw [List.getElem_append_right (Nat.le_refl _), List.getElem_append_right (by rw [h.len]; exact Nat.le_refl _)]
      simp only [h.len, Nat.sub_self, List.getElem_cons_zero]
      exact LitR.own h.last
  · rw [rowC_append vs L v (litPart lit) h.len, List.length_append]
    exact h.row
theorem FmtW.shut {B : Nat} {w : World} {F : Nat} {L : List Part} {lit : List UInt8} (h : FmtW B w F L lit) : FmtC B w F (render L lit) := by
  rcases h with ⟨h1, h2⟩ | ⟨h1, K, g, cap, v, vs, h2⟩
  · unfold render; rw [if_pos (by rw [h1]; rfl)]; exact h2
  · unfold render; rw [if_neg (by simpa using h1)]; exact h2.shut

/-- What a write to the row of parts, or to the format, leaves of a row of bytes. -/
theorem ownsRow_setOther {w : World} {B size n : Nat} {v : Value} {xs : List Value} (h : w.ownsRow B 5 size v n xs) {a : Addr} {t : TypeId} {cs : Array Value} (hb : Blk w a.block t cs) (ht : t ≠ 5) (u : Value) : (w.setCell a u).ownsRow B 5 size v n xs := by
  refine ⟨h.1, ?_⟩
  rcases h.2 with h2 | ⟨g, cap, cur, hv, hb', hg, r⟩
  · exact .inl h2
  · exact .inr ⟨g, cap, cur, hv, hb', by rw [Below.heap_setCell _ _ _ _ (Ne.symm (hb.ne_ (g' := g) (t' := 5) hg ht))]; exact hg, r⟩
theorem ownsRow_setFmt {w : World} {B size n : Nat} {v : Value} {xs : List Value} (h : w.ownsRow B 59 size v n xs) {a : Addr} {cs : Array Value} (hb : Blk w a.block 76 cs) (u : Value) : (w.setCell a u).ownsRow B 59 size v n xs := by
  refine ⟨h.1, ?_⟩
  rcases h.2 with h2 | ⟨g, cap, cur, hv, hb', hg, r⟩
  · exact .inl h2
  · exact .inr ⟨g, cap, cur, hv, hb', by rw [Below.heap_setCell _ _ _ _ (Ne.symm (hb.ne_ (g' := g) (t' := 59) hg (by decide)))]; exact hg, r⟩
theorem ownsRow_blk {w : World} {B e size n cap g : Nat} {xs : List Value} (h : w.ownsRow B e size (.slice (some ⟨g, 0, none⟩) n cap) n xs) : ∃ cur, Blk w g e cur := by
  rcases h.2 with ⟨h', _⟩ | ⟨g', cap', cur, h', _, hg, _⟩
  · simp at h'
  · simp only [Value.slice.injEq, Option.some.injEq, Addr.mk.injEq, and_true, true_and] at h'
    obtain ⟨rfl, rfl⟩ := h'
    exact ⟨cur, hg⟩

/-- A new part of bytes is begun. -/
theorem Mid.start {B : Nat} {w w1 : World} {F : Nat} {L : List Part} {v : Value} {vs : List Value} {g cap : Nat} {X : Array Value} (hB : B ≤ F) (hf : Blk w F 76 #[v]) (hvs : vs.length = L.length)
    (hl : ∀ (i : Nat) (h : i < L.length) (h' : i < vs.length), LitR w w.heap.size vs[i] L[i].lit) (hrow : w.ownsRow B 59 9 v L.length (rowC vs L)) (hBw : B ≤ w.heap.size)
    (hown : w1.ownsRow B 59 9 (.slice (some ⟨g, 0, none⟩) (L.length + 1) cap) (L.length + 1) (rowC vs L ++ (partCells (.slice none 0 0) (litPart [])).toList)) (hg : (w.alloc (.cells X 59)).grownBy w1 v.ownBlock) :
    Mid B (w1.setCell ⟨F, 0, none⟩ (.slice (some ⟨g, 0, none⟩) (L.length + 1) cap)) F L [] w1.heap.size g cap (.slice none 0 0) vs ∧ Below B w (w1.setCell ⟨F, 0, none⟩ (.slice (some ⟨g, 0, none⟩) (L.length + 1) cap)) := by
  have hs := hg.size
  rw [World.size_alloc] at hs
  have hvF : v.ownBlock ≠ some F := own_blk_ne hrow hf (by decide)
  have hf1 : Blk w1 F 76 #[v] := (hf.alloc _).grown hg (Ne.symm hvF)
  have hr := hrow.lt
  have k1 : U8Kept w.heap.size w w1 := (U8Kept.alloc _ w _).trans (U8Kept.grownOther hg (fun k cur hk hh => by
    rcases hrow.2 with ⟨rfl, _⟩ | ⟨g', cap', cur', rfl, _, hg', _⟩
    · simp [Value.ownBlock] at hk
    · simp [Value.ownBlock] at hk
      subst hk
      have hlt := Blk.lt (t := 59) hg'
      rw [Below.heap_alloc w _ _ hlt, hg'] at hh
      simp at hh))
  refine ⟨⟨hB, by omega, by simpa using hf1.set_ 0 _, hvs, ownsRow_setFmt hown hf1 _, fun i h h' => ?_, World.ownsRow_nil _ _ _ _⟩, ?_⟩
  · exact ((hl i h h').kept (k1.trans (U8Kept.setCell (a := ⟨F, 0, none⟩) hf1 (by decide) _))).more (by omega)
  · exact (((Below.refl B w).alloc hBw _).grown hg (by simp; omega) (fun k hk => (hr k hk).1)).setCell hB _

/-- A byte is put behind the bytes under way. -/
theorem Mid.push {B : Nat} {w w1 : World} {F : Nat} {L : List Part} {lit : List UInt8} {K g cap g2 cap2 : Nat} {v : Value} {vs : List Value} {X : Array Value} (h : Mid B w F L lit K g cap v vs) (hBw : B ≤ w.heap.size) (b : UInt8)
    (hown : w1.ownsRow K 5 1 (.slice (some ⟨g2, 0, none⟩) (lit.length + 1) cap2) (lit.length + 1) (u8s lit ++ [.int .u8 b.toNat])) (hg : (w.alloc (.cells X 5)).drew.grownBy w1 v.ownBlock) :
    Mid B (w1.setCell ⟨g, L.length * 9, none⟩ (.slice (some ⟨g2, 0, none⟩) (lit.length + 1) cap2)) F L (lit ++ [b]) K g cap (.slice (some ⟨g2, 0, none⟩) (lit.length + 1) cap2) vs ∧
      Below B w (w1.setCell ⟨g, L.length * 9, none⟩ (.slice (some ⟨g2, 0, none⟩) (lit.length + 1) cap2)) := by
  obtain ⟨cur, hgb⟩ := ownsRow_blk h.row
  have hvF : v.ownBlock ≠ some F := own_blk_ne h.last h.fm (by decide)
  have hvg : v.ownBlock ≠ some g := own_blk_ne h.last hgb (by decide)
  have hf1 : Blk w1 F 76 _ := (h.fm.alloc (.cells X 5)).drew.grown hg (Ne.symm hvF)
  have hg1 : Blk w1 g 59 cur := (hgb.alloc (.cells X 5)).drew.grown hg (Ne.symm hvg)
  have hFg : F ≠ g := hf1.ne_ hg1 (by decide)
  have hrow1 : w1.ownsRow B 59 9 _ _ _ := ((h.row.alloc (.cells X 5)).drew).kept hg (.inr (by simpa [Value.ownBlock] using Ne.symm hvg))
  have hst := (hrow1.stored (L.length * 9) (.slice (some ⟨g2, 0, none⟩) (lit.length + 1) cap2)).1
  have hgB : B ≤ g := (h.row.lt g rfl).1
  have e1 : (rowC vs L ++ (partCells v (litPart [])).toList).set (L.length * 9) (.slice (some ⟨g2, 0, none⟩) (lit.length + 1) cap2) = rowC vs L ++ (partCells (.slice (some ⟨g2, 0, none⟩) (lit.length + 1) cap2) (litPart [])).toList := by
    have hl := rowC_length vs L h.len
    rw [List.set_append, if_neg (by omega), hl, Nat.sub_self]
    rfl
  rw [e1] at hst
  have e2 : u8s (lit ++ [b]) = u8s lit ++ [.int .u8 b.toNat] := by simp [u8s]
  refine ⟨⟨h.bF, h.bK, hf1.far hFg _, h.len, hst, fun i hi hi' => ?_, ?_⟩, ?_⟩
  · refine (h.lits i hi hi').kept (((U8Kept.alloc _ w _).trans (U8Kept.drew _ _)).trans ((U8Kept.grown hg ?_).trans (U8Kept.setCell (a := ⟨g, L.length * 9, none⟩) hg1 (by decide) _)))
    exact fun k hk => (h.last.lt k hk).1
  · rw [e2, List.length_append]
    exact ownsRow_setOther hown (a := ⟨g, L.length * 9, none⟩) hg1 (by decide) _
  · exact ((((Below.refl B w).alloc hBw _).drew).grown hg (by show B ≤ (w.alloc _).heap.size; simp; omega) (fun k hk => by have := (h.last.lt k hk).1; have := h.bK; omega)).setCell hgB _
end Go.Proofs.YtppcjmbblkbkdaaGreatDoor
