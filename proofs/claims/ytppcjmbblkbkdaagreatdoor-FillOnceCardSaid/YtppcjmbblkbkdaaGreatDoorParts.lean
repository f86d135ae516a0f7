/- The walks of (*shape.Format).Parts and Wants. Conditions as typed. -/
import Derived.Test.YtppcjmbblkbkdaaGreatDoorParse
namespace Go.Proofs.YtppcjmbblkbkdaaGreatDoor
open Go.RowKit Pg

/-- A part as Parts tells it. -/
def norm (p : Part) : Part := if p.conv = 0 then { p with prec := 0 } else p

/-- The parts of a slice, cell by cell. -/
theorem PartsC.cells {B : Nat} {w : World} {v : Value} {P : List Part} (h : PartsC B w v P) : ∃ a cap, v = .slice a P.length cap ∧ P.length ≤ cap ∧ cap ≤ maxLen ∧
    ∀ (k : Nat) (hk : k < P.length), ∃ g la lcap, a = some ⟨g, 0, none⟩ ∧ g < w.heap.size ∧ LitR w w.heap.size (.slice la P[k].lit.length lcap) P[k].lit ∧
      w.cell? ⟨g, k * 9, none⟩ = some (.slice la P[k].lit.length lcap) ∧ w.cell? ⟨g, k * 9 + 1, none⟩ = some (.int .u8 P[k].conv) ∧ w.cell? ⟨g, k * 9 + 2, none⟩ = some (.bool P[k].fl.minus) ∧ w.cell? ⟨g, k * 9 + 3, none⟩ = some (.bool P[k].fl.plus) ∧
      w.cell? ⟨g, k * 9 + 4, none⟩ = some (.bool P[k].fl.space) ∧ w.cell? ⟨g, k * 9 + 5, none⟩ = some (.bool P[k].fl.zero) ∧ w.cell? ⟨g, k * 9 + 6, none⟩ = some (.bool P[k].fl.alt) ∧ w.cell? ⟨g, k * 9 + 7, none⟩ = some (.int .i64 P[k].width) ∧ w.cell? ⟨g, k * 9 + 8, none⟩ = some (.int .i64 P[k].prec) := by
  obtain ⟨vs, hvs, hl, hrow⟩ := h
  obtain ⟨a, cap, rfl, hc, hm, hg⟩ := ownsRow_form hrow
  refine ⟨a, cap, rfl, hc, hm, fun k hk => ?_⟩
  obtain ⟨g, rfl, hglt, _⟩ := hg (by omega)
  have hkv : k < vs.length := by omega
  have hlk := hl k hk hkv
  obtain ⟨la, lcap, hv, _⟩ := hlk
  have hlk := hl k hk hkv
  have e : ∀ j, j < 9 → w.cell? ⟨g, k * 9 + j, none⟩ = (partCells vs[k] P[k]).toList[j]? := fun j hj => by
    rw [hrow.cellAt _ (by omega), rowC_at vs P hvs k hk hkv j hj]
  rw [hv] at hlk e
  exact ⟨g, la, lcap, rfl, hglt, hlk, e 0 (by omega), e 1 (by omega), e 2 (by omega), e 3 (by omega), e 4 (by omega), e 5 (by omega), e 6 (by omega), e 7 (by omega), e 8 (by omega)⟩

/-- append of bytes that are read to nil. -/
theorem run_append_lit {w : World} {K : Nat} {v : Value} {l : List UInt8} (h : LitR w K v l) (hl : l.length ≤ 100000000000) (ty : TypeId) :
    ∃ v' w', (Builtin.append_ #[25, 25] ty #[.slice none 0 0, v]).run Tryz.prog w = .ok v' w' ∧ w'.ownsRow w.heap.size 5 1 v' l.length (u8s l) ∧ w.grownBy w' none := by
  obtain ⟨i0, hi0, hz0, hz1, hz2⟩ := info_parts Tryz.infoU8
  obtain ⟨a, cap, rfl, hlc, hm, h4⟩ := h
  rcases h4 with rfl | ⟨g, cur, rfl, _, hg, ht⟩
  · cases a with
    | none =>
      refine ⟨.slice none 0 0, w, ?_, World.ownsRow_nil _ _ _ _, World.grownBy.refl w none⟩
      simp [Builtin.append_, run_underlying Tryz.underlying25, sizeOf, typeInfo, hi0, Builtin.lenOf, Builtin.firstCells]
    | some ad =>
      obtain ⟨v', w', h1, h2, h3, _⟩ := run_append_own (P := Tryz.prog) w w.heap.size 25 ty 5 i0 _ 1 1 Tryz.underlying25 hi0 hz0 hz1 hz2 rfl (by omega) (.slice none 0 0) 0 [] (World.ownsRow_nil _ _ _ _) ad 0 cap [] rfl (fun j u h => by simp at h) (fun u h => by simp at h) (by unfold maxLen; omega) (by omega) (Nat.le_refl _)
      exact ⟨v', w', h1, h2, h3⟩
  · have hc : ∀ j u, (u8s l)[j]? = some u → w.cell? ((⟨g, 0, none⟩ : Addr).add j) = some u := fun j u hu => by
      rw [addr_add, Nat.zero_add, cell_of_row w g j cur _ (0, 0) hg]
      rw [← ht, List.getElem?_take] at hu
      split at hu
      · simpa using hu
      · cases hu
    obtain ⟨v', w', h1, h2, h3, _⟩ := run_append_own (P := Tryz.prog) w w.heap.size 25 ty 5 i0 _ 1 1 Tryz.underlying25 hi0 hz0 hz1 hz2 rfl (by omega) (.slice none 0 0) 0 [] (World.ownsRow_nil _ _ _ _) ⟨g, 0, none⟩ l.length cap (u8s l) (by simp [u8s]) hc (by simp [u8s, Value.oneCell']) (by unfold maxLen; omega) (by omega) (Nat.le_refl _)
    refine ⟨v', w', h1, ?_, h3⟩
    simpa using h2
theorem wpList_append_lit {w : World} {ops : Array Oper} {rest : List Oper} {o : Oper} {a : Act} {Q : Exit → Act → World → Prop} (hgd : o.guard = none) (s x : Operand)
    (ho : o.op = .call { callee := .builtin .append, args := #[s, x], argTypes := #[25, 25] }) (hs : a.eval s = .slice none 0 0) {K : Nat} {v : Value} {l : List UInt8} (hx : a.eval x = v) (hv : LitR w K v l) (hl : l.length ≤ 100000000000)
    (h : ∀ v' w', w'.ownsRow w.heap.size 5 1 v' l.length (u8s l) → w.grownBy w' none → wpList Tryz.prog ops Q rest (a.put o.dst v') w') : wpList Tryz.prog ops Q (o :: rest) a w := by
  refine wpList_plain hgd fun K' hK => ?_
  obtain ⟨v', w', hr, h2, h3⟩ := run_append_lit hv hl o.type
  unfold Oper.wp execOp
  simp only [ho, resolve, invoke, builtin, Sem.run_bind, Sem.run_pure, Result.andThen_ok, List.map_toArray, List.map_cons, List.map_nil, hs, hx, hr]
  exact hK _ _ (h v' w' h2 h3)

theorem wants_take (P : List Part) (k : Nat) (hk : k < P.length) : wants (P.take (k + 1)) = wants (P.take k) + if P[k].conv ≠ 0 then 1 else 0 := by
  unfold wants
  rw [List.take_succ_eq_append_getElem hk, List.filter_append, List.length_append]
  congr 1
  by_cases h : P[k].conv = 0 <;> simp [h]
theorem wants_le (P : List Part) : wants P ≤ P.length := List.length_filter_le _ _

set_option maxHeartbeats 2000000 in
/-- (*shape.Format).Wants. -/
theorem shape_Wants (B : Nat) (w : World) (F : Nat) (P : List Part) (h : FmtC B w F P) (hP : P.length ≤ 5000) :
    Calls Tryz.prog 32 #[.pointer (some ⟨F, 0, none⟩)] w fun e w' => e = .returned (.int .i64 (wants P)) ∧ Below w.heap.size w w' := by
  obtain ⟨hBF, v, hf, hp⟩ := h
  obtain ⟨a, cap, rfl, hc, hm, hcell⟩ := hp.cells
  unfold maxLen at hm
  have cF : w.cell? ⟨F, 0, none⟩ = some (.slice a P.length cap) := by rw [hf.cell 0]; rfl
  have HC := Lib.hid hcell
  have hFlt := hf.lt
  clear hf hp hcell
  go_enter Tryz.func32, Tryz.ntmps32
  go_wp2
  go_loopw [3, 13] (fun t i wr => ∃ k : Nat, k ≤ P.length ∧ i = .int .i64 k ∧ t = .int .i64 (wants (P.take k)) ∧ Hid (Below w.heap.size w wr)) (fun _ i _ => P.length - (intOf i).toNat)
  case atStart => exact ⟨0, Nat.zero_le _, rfl, rfl, Below.refl _ _⟩
  case round =>
    obtain ⟨k, hk, rfl, rfl, HB⟩ := hrel
    by_cases hlt : k < P.length
    · obtain ⟨g, la, lcap, rfl, hg, _, c0, c1, c2, c3, c4, c5, c6, c7, c8⟩ := HC.out k hlt
      have hwt := Lib.hid (wants_take P k hlt)
      have hwl := wants_le (P.take k)
      rw [List.length_take] at hwl
      have hs := HB.out.size
      have d := fun (j : Nat) (u : Value) (hu : w.cell? ⟨g, j, none⟩ = some u) => (HB.out.cell (p := ⟨g, j, none⟩) hg).trans hu
      have d0 := d _ _ c0
      have d1 := d _ _ c1
      have d2 := d _ _ c2
      have d3 := d _ _ c3
      have d4 := d _ _ c4
      have d5 := d _ _ c5
      have d6 := d _ _ c6
      have d7 := d _ _ c7
      have d8 := d _ _ c8
      clear d c0 c1 c2 c3 c4 c5 c6 c7 c8
      generalize P[k] = p at *
      by_cases h0 : p.conv = 0
      · have e0 : ((p.conv : Int) != 0) = false := by rw [h0]; rfl
        have HW : Hid (wants (P.take (k + 1)) = wants (P.take k)) := by have := hwt.out; rw [if_neg (by omega)] at this; exact this
        clear h0
        go_wp2
        go_roundw
        case rel => exact ⟨k + 1, by omega, by go_num, by rw [HW.out], HB.out.alloc hs _⟩
        case measure => simp [intOf]; omega
      · have e0 : ((p.conv : Int) != 0) = true := bne_iff_ne.2 (by omega)
        have HW : Hid (wants (P.take (k + 1)) = wants (P.take k) + 1) := by have := hwt.out; rw [if_pos h0] at this; exact this
        clear h0
        go_wp2
        go_roundw
        case rel => exact ⟨k + 1, by omega, by go_num, by rw [HW.out]; go_num, HB.out.alloc hs _⟩
        case measure => simp [intOf]; omega
    · have hkl : k = P.length := by omega
      subst hkl
      go_wp2
      go_ret
      exact ⟨by show Ending.returned (Value.int .i64 ↑(wants (P.take P.length))) = _; rw [List.take_length], HB.out⟩

/-- A part is put behind parts. -/
theorem PartsC.push' {B : Nat} {w w1 : World} {v : Value} {Q : List Part} {u : Value} {p : Part} {g cap : Nat} {X : Array Value} (vs : List Value) (hvs : vs.length = Q.length) (hl : ∀ (i : Nat) (h : i < Q.length) (h' : i < vs.length), LitR w w.heap.size vs[i] Q[i].lit)
    (hrow : w.ownsRow B 59 9 v Q.length (rowC vs Q)) (hu : LitR w w.heap.size u p.lit)
    (hown : w1.ownsRow B 59 9 (.slice (some ⟨g, 0, none⟩) (Q.length + 1) cap) (Q.length + 1) (rowC vs Q ++ (partCells u p).toList)) (hg : (w.alloc (.cells X 59)).grownBy w1 v.ownBlock) :
    PartsC B w1 (.slice (some ⟨g, 0, none⟩) (Q.length + 1) cap) (Q ++ [p]) := by
  have hs := hg.size
  rw [World.size_alloc] at hs
  have k1 : U8Kept w.heap.size w w1 := (U8Kept.alloc _ w _).trans (U8Kept.grownOther hg (fun k cur hk hh => by
    rcases hrow.2 with ⟨rfl, _⟩ | ⟨g', cap', cur', rfl, _, hg', _⟩
    · simp [Value.ownBlock] at hk
    · simp [Value.ownBlock] at hk
      subst hk
      have hlt := Blk.lt (t := 59) hg'
      rw [Below.heap_alloc w _ _ hlt, hg'] at hh
      simp at hh))
  refine ⟨vs ++ [u], by simp [hvs], fun i hi hi' => ?_, ?_⟩
  · by_cases hil : i < Q.length
    · have hiv : i < vs.length := by rw [hvs]; exact hil
      rw [List.getElem_append_left hil, List.getElem_append_left hiv]
      exact ((hl i hil hiv).kept k1).more (by omega)
    · have e : i = Q.length := by simp at hi; omega
      subst e
      rw [List.getElem_append_right (Nat.le_refl _), List.getElem_append_right (by rw [hvs]; exact Nat.le_refl _)]
      simp only [hvs, Nat.sub_self, List.getElem_cons_zero]
      exact (hu.kept k1).more (by omega)
  · rw [rowC_append vs Q u p hvs, List.length_append]
    exact hown
theorem PartsC.nil (B : Nat) (w : World) : PartsC B w (.slice none 0 0) [] := ⟨[], rfl, fun i h => by simp at h, World.ownsRow_nil _ _ _ _⟩

/-- What the loop of Parts keeps. -/
def PartsRel (w : World) (P : List Part) (k : Nat) (vo : Value) (wr : World) : Prop := PartsC w.heap.size wr vo ((P.take k).map norm) ∧ Below w.heap.size w wr

theorem partsFacts {w w1 : World} {X : Array Value} (hg : (w.alloc (.cells X 59)).grownBy w1 none) : Blk w1 w.heap.size 59 X := (Blk.new w _ X).grown hg (by simp)

theorem news_at {W : World} {s : Nat} (hs : W.heap.size = s) (cs : Array Value) (t : TypeId) : ∀ j u, cs.toList[j]? = some u → (W.alloc (.cells cs t)).cell? ((⟨s, 0, none⟩ : Addr).add j) = some u := by
  subst hs; exact World.news_of_block (heap_alloc_new W _)
theorem partsBel {w w1 : World} {X : Array Value} (hg : (w.alloc (.cells X 59)).grownBy w1 none) : Below w.heap.size w w1 := ((Below.refl _ _).alloc (Nat.le_refl _) _).grown hg (by simp) (fun k h => by cases h)
/-- What a round of Parts leaves. -/
theorem PartsRel.next {w wr w1 W2 w3 : World} {P : List Part} {k gg cap1 : Nat} {vo v1 : Value} {p : Part} {X C : Array Value} {vs : List Value} (h : PartsRel w P k vo wr) (hk : ((P.take k).map norm).length = k) (htk : (P.take (k + 1)).map norm = (P.take k).map norm ++ [norm p])
    (hown1 : w1.ownsRow (wr.alloc (.cells X 59)).heap.size 5 1 v1 p.lit.length (u8s p.lit)) (hb2 : Below wr.heap.size wr W2) (hu : U8Kept w1.heap.size w1 W2) (hs : W2.heap.size = w1.heap.size)
    (hvs : vs.length = ((P.take k).map norm).length) (hl : ∀ (i : Nat) (h : i < ((P.take k).map norm).length) (h' : i < vs.length), LitR wr wr.heap.size vs[i] ((P.take k).map norm)[i].lit) (hrow : wr.ownsRow w.heap.size 59 9 vo ((P.take k).map norm).length (rowC vs ((P.take k).map norm)))
    (hown3 : w3.ownsRow w.heap.size 59 9 (.slice (some ⟨gg, 0, none⟩) (k + 1) cap1) (k + 1) (rowC vs ((P.take k).map norm) ++ (partCells v1 (norm p)).toList)) (hg3 : (W2.alloc (.cells C 59)).grownBy w3 vo.ownBlock) :
    PartsRel w P (k + 1) (.slice (some ⟨gg, 0, none⟩) (k + 1) cap1) w3 := by
  have hnl : (norm p).lit = p.lit := by unfold norm; split <;> rfl
  have hsz := h.2.size
  have hP : ∃ vs' : List Value, vs' = vs := ⟨_, rfl⟩
  constructor
  · rw [htk]
    have hlit : LitR W2 W2.heap.size v1 (norm p).lit := by
      rw [hnl, hs]
      exact (LitR.own hown1).kept hu
    have hpush := PartsC.push' (B := w.heap.size) (w := W2) (w1 := w3) (v := vo) (Q := (P.take k).map norm) (u := v1) (p := norm p) (g := gg) (cap := cap1) vs hvs (fun i hi hi' => ((hl i hi hi').kept (U8Kept.below hb2 (Nat.le_refl _))).more hb2.size) (ownsRow_below hrow hb2 (Nat.le_refl _)) hlit (by rw [hk]; exact hown3) hg3
    rw [hk] at hpush
    exact hpush
  · refine (h.2.trans (hb2.mono hsz)).trans ?_
    exact ((Below.refl w.heap.size W2).alloc (by have := hb2.size; omega) _).grown hg3 (by simp; have := hb2.size; omega) (fun j hj => (hrow.lt j hj).1)

set_option maxRecDepth 100000 in
set_option maxHeartbeats 8000000 in
/-- (*shape.Format).Parts. -/
theorem shape_Parts (B : Nat) (w : World) (F : Nat) (P : List Part) (h : FmtC B w F P) (hP : P.length ≤ 5000) (hlits : ∀ p ∈ P, p.lit.length ≤ 5000) :
    Calls Tryz.prog 30 #[.pointer (some ⟨F, 0, none⟩)] w fun e w' => ∃ v, e = .returned v ∧ PartsRel w P P.length v w' := by
  obtain ⟨i9, hi9, hy0, hy1, hy2⟩ := info_parts Tryz.infoPart
  obtain ⟨hBF, v, hf, hp⟩ := h
  obtain ⟨a, cap, rfl, hc, hm, hcell⟩ := hp.cells
  unfold maxLen at hm
  have cF : w.cell? ⟨F, 0, none⟩ = some (.slice a P.length cap) := by rw [hf.cell 0]; rfl
  have HC := Lib.hid hcell
  have HLIT := Lib.hid hlits
  have hFlt := hf.lt
  clear hf hp hcell hlits
  go_enter Tryz.func30, Tryz.ntmps30
  go_wp2
  go_loopw [3, 13] (fun t i wr => ∃ k : Nat, k ≤ P.length ∧ i = .int .i64 k ∧ Hid (PartsRel w P k t wr)) (fun _ i _ => P.length - (intOf i).toNat)
  case atStart => exact ⟨0, Nat.zero_le _, rfl, PartsC.nil _ _, Below.refl _ _⟩
  case round =>
    obtain ⟨k, hk, rfl, HR⟩ := hrel
    by_cases hlt : k < P.length
    · obtain ⟨g, la, lcap, rfl, hg, hlit, c0, c1, c2, c3, c4, c5, c6, c7, c8⟩ := HC.out k hlt
      have HB := Lib.hid HR.out.2
      have hs := HB.out.size
      have d := fun (j : Nat) (u : Value) (hu : w.cell? ⟨g, j, none⟩ = some u) => (HB.out.cell (p := ⟨g, j, none⟩) hg).trans hu
      have d0 := d _ _ c0
      have d1 := d _ _ c1
      have d2 := d _ _ c2
      have d3 := d _ _ c3
      have d4 := d _ _ c4
      have d5 := d _ _ c5
      have d6 := d _ _ c6
      have d7 := d _ _ c7
      have d8 := d _ _ c8
      have HTK : Hid ((P.take (k + 1)).map norm = (P.take k).map norm ++ [norm P[k]]) := by
        show (P.take (k + 1)).map norm = _
        rw [List.take_succ_eq_append_getElem hlt, List.map_append]; rfl
      have hll := HLIT.out P[k] (List.getElem_mem hlt)
      have HLR := Lib.hid ((hlit.kept (U8Kept.below HB.out (Nat.le_refl _))).more hs)
      have hqk : ((P.take k).map norm).length = k := by simp; omega
      have HQK := Lib.hid hqk
      obtain ⟨vsR, hvsR, hlR, hrowR⟩ := HR.out.1
      rw [hqk] at hrowR
      have HROWR := Lib.hid hrowR
      have HVSR := Lib.hid hvsR
      have HLR0 := Lib.hid hlR
      clear d c0 c1 c2 c3 c4 c5 c6 c7 c8 hlit hqk hvsR hlR hrowR
      generalize P[k] = p at *
      by_cases h0 : p.conv = 0
      · have e0 : ((p.conv : Int) == 0) = true := beq_iff_eq.2 (by omega)
        have HNP : Hid (norm p = ⟨p.lit, p.conv, p.fl, p.width, 0⟩) := by show norm p = _; unfold norm; rw [if_pos h0]
        clear h0
        go_wp2_with (first | (at_builtin; refine wpList_append_lies _ rfl (.tmp 25) (.tmp 27) _ rfl w.heap.size 59 i9 _ 9 48 Tryz.underlying33 hi9 hy0 hy1 hy2 rfl (by omega) _ k (rowC vsR ((P.take k).map norm)) rfl ((ownsRow_below HROWR.out ((HB1.out.setCell (p := ⟨wr.heap.size, 0, none⟩) (Nat.le_refl _) _).setCell (p := ⟨wr.heap.size, 8, none⟩) (Nat.le_refl _) _) (Nat.le_refl _)).alloc _) ⟨w1.heap.size, 0, none⟩ 1 1 (#[.slice a1 p.lit.length cp1, .int .u8 p.conv, .bool p.fl.minus, .bool p.fl.plus, .bool p.fl.space, .bool p.fl.zero, .bool p.fl.alt, .int .i64 p.width, .int .i64 0]).toList rfl rfl (news_at (by rw [size_setCell, size_setCell]) _ _) (by simp [Value.oneCell']) (by omega) (by unfold maxLen; omega) (by omega) (by simp; omega) (w1.heap.size + 1) (by simp) ?_; intro gg cap3 w3 hown3 hgrow3 hat3 hlt3; have HOWN3 := Lib.hid hown3; have HGROW3 := Lib.hid hgrow3; clear hown3 hgrow3) | (at_builtin; refine wpList_append_lit rfl (.const (.slice none 0 0)) (.tmp 18) rfl rfl rfl ((HLR.out.kept (U8Kept.alloc _ wr _)).more (Nat.le_refl _)) (by omega) ?_; intro v' w1 hown1 hgrow1; obtain ⟨a1, cp1, hv1, _, _, _⟩ := ownsRow_form hown1; subst hv1; have hb1 := partsFacts hgrow1; have x0 := hb1.cell 0; have x1 := hb1.cell 1; have x2 := hb1.cell 2; have x3 := hb1.cell 3; have x4 := hb1.cell 4; have x5 := hb1.cell 5; have x6 := hb1.cell 6; have x7 := hb1.cell 7; have x8 := hb1.cell 8; have y0 := hb1.frozen 0; have y8 := hb1.frozen 8; have HOWN1 := Lib.hid hown1; have HGROW1 := Lib.hid hgrow1; have HBK1 := Lib.hid hb1; have HB1 := Lib.hid (partsBel hgrow1); have hs1 := (partsBel hgrow1).size; clear hown1 hgrow1 hb1))
        go_roundw
        case rel =>
          refine ⟨k + 1, by omega, by go_num, ?_⟩
          exact PartsRel.next HR.out HQK.out HTK.out HOWN1.out ((HB1.out.setCell (p := ⟨wr.heap.size, 0, none⟩) (Nat.le_refl _) _).setCell (p := ⟨wr.heap.size, 8, none⟩) (Nat.le_refl _) _) ((U8Kept.setCell (a := ⟨wr.heap.size, 0, none⟩) HBK1.out (by decide) _).trans (U8Kept.setCell (a := ⟨wr.heap.size, 8, none⟩) (HBK1.out.set_ 0 _) (by decide) _)) (by rw [size_setCell, size_setCell]) HVSR.out HLR0.out (by rw [HQK.out]; exact HROWR.out) (by rw [HNP.out]; exact HOWN3.out) HGROW3.out
        case measure => simp [intOf]; omega
      · have e0 : ((p.conv : Int) == 0) = false := beq_eq_false_iff_ne.2 (by omega)
        have HNP : Hid (norm p = p) := by show norm p = _; unfold norm; rw [if_neg h0]
        clear h0
        go_wp2_with (first | (at_builtin; refine wpList_append_lies _ rfl (.tmp 25) (.tmp 27) _ rfl w.heap.size 59 i9 _ 9 48 Tryz.underlying33 hi9 hy0 hy1 hy2 rfl (by omega) _ k (rowC vsR ((P.take k).map norm)) rfl ((ownsRow_below HROWR.out (HB1.out.setCell (p := ⟨wr.heap.size, 0, none⟩) (Nat.le_refl _) _) (Nat.le_refl _)).alloc _) ⟨w1.heap.size, 0, none⟩ 1 1 (#[.slice a1 p.lit.length cp1, .int .u8 p.conv, .bool p.fl.minus, .bool p.fl.plus, .bool p.fl.space, .bool p.fl.zero, .bool p.fl.alt, .int .i64 p.width, .int .i64 p.prec]).toList rfl rfl (news_at (by rw [size_setCell]) _ _) (by simp [Value.oneCell']) (by omega) (by unfold maxLen; omega) (by omega) (by simp; omega) (w1.heap.size + 1) (by simp) ?_; intro gg cap3 w3 hown3 hgrow3 hat3 hlt3; have HOWN3 := Lib.hid hown3; have HGROW3 := Lib.hid hgrow3; clear hown3 hgrow3) | (at_builtin; refine wpList_append_lit rfl (.const (.slice none 0 0)) (.tmp 18) rfl rfl rfl ((HLR.out.kept (U8Kept.alloc _ wr _)).more (Nat.le_refl _)) (by omega) ?_; intro v' w1 hown1 hgrow1; obtain ⟨a1, cp1, hv1, _, _, _⟩ := ownsRow_form hown1; subst hv1; have hb1 := partsFacts hgrow1; have x0 := hb1.cell 0; have x1 := hb1.cell 1; have x2 := hb1.cell 2; have x3 := hb1.cell 3; have x4 := hb1.cell 4; have x5 := hb1.cell 5; have x6 := hb1.cell 6; have x7 := hb1.cell 7; have x8 := hb1.cell 8; have y0 := hb1.frozen 0; have y8 := hb1.frozen 8; have HOWN1 := Lib.hid hown1; have HGROW1 := Lib.hid hgrow1; have HBK1 := Lib.hid hb1; have HB1 := Lib.hid (partsBel hgrow1); have hs1 := (partsBel hgrow1).size; clear hown1 hgrow1 hb1))
        go_roundw
        case rel =>
          refine ⟨k + 1, by omega, by go_num, ?_⟩
          exact PartsRel.next HR.out HQK.out HTK.out HOWN1.out (HB1.out.setCell (p := ⟨wr.heap.size, 0, none⟩) (Nat.le_refl _) _) (U8Kept.setCell (a := ⟨wr.heap.size, 0, none⟩) HBK1.out (by decide) _) (by rw [size_setCell]) HVSR.out HLR0.out (by rw [HQK.out]; exact HROWR.out) (by rw [HNP.out]; exact HOWN3.out) HGROW3.out
        case measure => simp [intOf]; omega
    · have hkl : k = P.length := by omega
      subst hkl
      go_wp2
      go_ret
      exact ⟨_, rfl, HR.out⟩
end Go.Proofs.YtppcjmbblkbkdaaGreatDoor
