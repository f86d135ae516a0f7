/- The printer in memory; the walk of (*fill.printer).put. Conditions as typed. -/
import Derived.Test.YtppcjmbblkbkdaaGreatDoorFill1
import Derived.Test.YtppcjmbblkbkdaaGreatDoorPut
import Derived.Lib.AppendStr
namespace Go.Proofs.YtppcjmbblkbkdaaGreatDoor
open Go.RowKit Pg

/-- Numbers as cells. -/
def i64s (l : List Nat) : List Value := l.map fun (c : Nat) => Value.int .i64 (c : Int)
theorem i64s_length (l : List Nat) : (i64s l).length = l.length := by simp [i64s]
theorem strCells_bl (S : ByteArray) : Lib.strCells S = u8s (bl S) := rfl
theorem u8s_append (a b : List UInt8) : u8s (a ++ b) = u8s a ++ u8s b := by simp [u8s]

/-- The printer at block g has printed r. -/
structure PrW (B : Nat) (w : World) (g : Nat) (r : Out) : Prop where
  ex : ∃ vo vc, Blk w g 83 #[vo, vc, .bool r.stop, .int .i64 65536] ∧ w.ownsRow B 5 1 vo r.out.length (u8s r.out) ∧ w.ownsRow B 3 1 vc r.codes.length (i64s r.codes)

/-- Blocks below B, but for block g, are as they were. -/
structure BelowX (B g : Nat) (w w' : World) : Prop where
  os : w'.os = w.os
  tape : w'.tape = w.tape
  output : w'.output = w.output
  size : w.heap.size ≤ w'.heap.size
  block : ∀ k, k < B → k ≠ g → w'.heap[k]? = w.heap[k]?
theorem BelowX.of {B g K : Nat} {w w' : World} (h : Below K w w') (hK : B ≤ K) : BelowX B g w w' := ⟨h.os, h.tape, h.output, h.size, fun k hk _ => h.block k (by omega)⟩
theorem BelowX.refl (B g : Nat) (w : World) : BelowX B g w w := .of (Below.refl B w) (Nat.le_refl _)
theorem BelowX.trans {B g : Nat} {a b c : World} (h : BelowX B g a b) (k : BelowX B g b c) : BelowX B g a c :=
  ⟨k.os.trans h.os, k.tape.trans h.tape, k.output.trans h.output, Nat.le_trans h.size k.size, fun i hi hg => (k.block i hi hg).trans (h.block i hi hg)⟩
theorem BelowX.below {B g K : Nat} {w w' : World} (h : BelowX B g w w') (hB : K ≤ B) (hg : K ≤ g) : Below K w w' := ⟨h.os, h.tape, h.output, h.size, fun k hk => h.block k (by omega) (by omega)⟩
theorem BelowX.alloc {B g : Nat} {a w : World} (h : BelowX B g a w) (hB : B ≤ w.heap.size) (o : Obj) : BelowX B g a (w.alloc o) := h.trans (.of ((Below.refl B w).alloc hB o) (Nat.le_refl _))
theorem BelowX.drew {B g : Nat} {a w : World} (h : BelowX B g a w) : BelowX B g a w.drew := ⟨h.os, h.tape, h.output, h.size, h.block⟩
theorem BelowX.grown {B g : Nat} {a w w' : World} {row : Option Nat} (h : BelowX B g a w) (hg : w.grownBy w' row) (hB : B ≤ w.heap.size) (hr : ∀ k, row = some k → B ≤ k) : BelowX B g a w' := h.trans (.of ((Below.refl B w).grown hg hB hr) (Nat.le_refl _))
theorem BelowX.setCell {B g : Nat} {a w : World} (h : BelowX B g a w) (i : Nat) (u : Value) : BelowX B g a (w.setCell ⟨g, i, none⟩ u) :=
  h.trans ⟨rfl, rfl, rfl, by simp [World.setCell], fun k hk hg => Below.heap_setCell _ _ _ _ (by exact hg)⟩

section
variable {P : Program}
/-- append of a string at a step of a region that draws, the new value written out. -/
theorem step_append_str {w : World} {ops : Array Oper} {o : Oper} {a : Act} {K : Act → World → Prop} {Q : Exit → Act → World → Prop} {E : Prop} (hgd : o.guard = none) (sl x : Operand) (t u : TypeId)
    (ho : o.op = .call { callee := .builtin .append, args := #[sl, x], argTypes := #[t, u] })
    (base : Nat) (e : TypeId) (i : TypeInfo) (ht : P.underlying t = some (.slice e)) (hu : P.underlying u = some .string) (hi : P.info? e = some i) (hz : i.zero = some (.int .u8 0))
    (hsize : i.size = 1) (hby : i.bytes = 1)
    (v : Value) (n : Nat) (xs : List Value) (hs : a.eval sl = v) (hown : w.ownsRow base e 1 v n xs) (s : ByteArray) (hx : a.eval x = .string s)
    (h63 : n + s.size ≤ maxLen) (hbytes : n + s.size ≤ 140737488355328) (hbase : base ≤ w.heap.size)
    (h : ∀ ad cap w', w'.ownsRow base e 1 (.slice ad (n + s.size) cap) (n + s.size) (xs ++ Lib.strCells s) → w.grownBy w' v.ownBlock → K (a.put o.dst (.slice ad (n + s.size) cap)) w') :
    if Region.wanted o (yielded ops a.tmps) = true then Oper.wp P o a w K Q else E := by
  have hw : Region.wanted o (yielded ops a.tmps) = true := by simp [Region.wanted, hgd]
  rw [if_pos hw]
  obtain ⟨v', w', hr, h2, h3, h4⟩ := Lib.run_append_own_string (P := P) w base t u o.type e i ht hu hi hz hsize hby v n xs hown s h63 hbytes hbase
  unfold Oper.wp execOp
  simp only [ho, resolve, invoke, builtin, Sem.run_bind, Sem.run_pure, Result.andThen_ok, List.map_toArray, List.map_cons, List.map_nil, hs, hx, hr]
  obtain ⟨ad, cap, rfl, _⟩ := ownsRow_form h2
  exact h ad cap w' h2 h3
end

/-- What an append to a row of the printer leaves of its block. -/
theorem pr_facts {w w1 : World} {row : Option Nat} {g j : Nat} {x : Value} (hg : w.grownBy w1 row) (hgl : g < w.heap.size) (h2 : row ≠ some g) (hy : w.cell? ⟨g, j, none⟩ = some x) (hz : w.frozen? ⟨g, j, none⟩ = false) : w1.cell? ⟨g, j, none⟩ = some x ∧ w1.frozen? ⟨g, j, none⟩ = false :=
  ⟨(hg.cell_far ⟨g, j, none⟩ hgl (Ne.symm h2)).trans hy, (hg.frozen_far ⟨g, j, none⟩ hgl (Ne.symm h2)).trans hz⟩

theorem ownsRow_setNe {e : TypeId} {w : World} {B size n : Nat} {v : Value} {xs : List Value} (h : w.ownsRow B e size v n xs) {a : Addr} {t : TypeId} {cs : Array Value} (hb : Blk w a.block t cs) (ht : e ≠ t) (u : Value) : (w.setCell a u).ownsRow B e size v n xs := by
  refine ⟨h.1, ?_⟩
  rcases h.2 with h2 | ⟨g, cap, cur, hv, hb', hg, r⟩
  · exact .inl h2
  · exact .inr ⟨g, cap, cur, hv, hb', by rw [Below.heap_setCell _ _ _ _ (Ne.symm (hb.ne_ (g' := g) (t' := e) hg (Ne.symm ht)))]; exact hg, r⟩
theorem ownsRow_keptNe {e f : TypeId} {w w' : World} {B B' size size' n n' : Nat} {v v' : Value} {xs xs' : List Value} (h : w.ownsRow B e size v n xs) (h' : w.ownsRow B' f size' v' n' xs') (hg : w.grownBy w' v'.ownBlock) (hne : f ≠ e) : w'.ownsRow B e size v n xs := by
  refine h.kept hg ?_
  rcases h.2 with ⟨rfl, h0⟩ | ⟨g', cap', cur, rfl, _, hh, _⟩
  · exact .inl rfl
  · exact .inr (own_blk_ne h' (show Blk w g' e cur from hh) hne).symm

/-- The printer behind bytes. -/
theorem PrW.bytes {B : Nat} {w0 w w1 : World} {g q k : Nat} {r : Out} {vo vc : Value} {ad : Option Addr} {cap : Nat} {l : List UInt8} (hw : BelowX B g w0 w) (hb : Blk w g 83 #[vo, vc, .bool r.stop, .int .i64 65536]) (ho : w.ownsRow B 5 1 vo q (u8s r.out)) (hc : w.ownsRow B 3 1 vc r.codes.length (i64s r.codes)) (hBw : B ≤ w.heap.size)
    (hl : k = (r.out ++ l).length) (hown : w1.ownsRow B 5 1 (.slice ad k cap) k (u8s r.out ++ u8s l)) (hg : w.grownBy w1 vo.ownBlock) :
    PrW B (w1.setCell ⟨g, 0, none⟩ (.slice ad k cap)) g { r with out := r.out ++ l } ∧ BelowX B g w0 (w1.setCell ⟨g, 0, none⟩ (.slice ad k cap)) := by
  have hv : vo.ownBlock ≠ some g := own_blk_ne ho hb (by decide)
  have hb1 : Blk w1 g 83 _ := hb.grown hg (Ne.symm hv)
  have hr := ho.lt
  refine ⟨⟨_, vc, hb1.set_ 0 _, ?_, ownsRow_setNe (ownsRow_keptNe hc ho hg (by decide)) (a := ⟨g, 0, none⟩) hb1 (by decide) _⟩, ?_⟩
  · show (w1.setCell ⟨g, 0, none⟩ _).ownsRow B 5 1 _ (r.out ++ l).length (u8s (r.out ++ l))
    rw [← hl, u8s_append]
    exact ownsRow_setNe hown (a := ⟨g, 0, none⟩) hb1 (by decide) _
  · exact (hw.grown hg hBw (fun k hk => (hr k hk).1)).setCell _ _
/-- The printer behind a code. -/
theorem PrW.code {B : Nat} {w0 w w1 : World} {g q k : Nat} {r : Out} {vo vc : Value} {ad : Option Addr} {cap c : Nat} (hw : BelowX B g w0 w) (hb : Blk w g 83 #[vo, vc, .bool r.stop, .int .i64 65536]) (ho : w.ownsRow B 5 1 vo r.out.length (u8s r.out)) (hc : w.ownsRow B 3 1 vc q (i64s r.codes)) (hBw : B ≤ w.heap.size)
    (hl : k = (r.codes ++ [c]).length) (hown : w1.ownsRow B 3 1 (.slice ad k cap) k (i64s r.codes ++ [.int .i64 c])) (hg : w.grownBy w1 vc.ownBlock) :
    PrW B (w1.setCell ⟨g, 1, none⟩ (.slice ad k cap)) g { r with codes := r.codes ++ [c] } ∧ BelowX B g w0 (w1.setCell ⟨g, 1, none⟩ (.slice ad k cap)) := by
  have hv : vc.ownBlock ≠ some g := own_blk_ne hc hb (by decide)
  have hb1 : Blk w1 g 83 _ := hb.grown hg (Ne.symm hv)
  have hr := hc.lt
  refine ⟨⟨vo, _, hb1.set_ 1 _, ownsRow_setNe (ownsRow_keptNe ho hc hg (by decide)) (a := ⟨g, 1, none⟩) hb1 (by decide) _, ?_⟩, ?_⟩
  · show (w1.setCell ⟨g, 1, none⟩ _).ownsRow B 3 1 _ (r.codes ++ [c]).length (i64s (r.codes ++ [c]))
    rw [← hl, show i64s (r.codes ++ [c]) = i64s r.codes ++ [.int .i64 c] by simp [i64s]]
    exact ownsRow_setNe hown (a := ⟨g, 1, none⟩) hb1 (by decide) _
  · exact (hw.grown hg hBw (fun k hk => (hr k hk).1)).setCell _ _

set_option maxRecDepth 100000 in
set_option maxHeartbeats 4000000 in
/-- There is room. -/
theorem fill_put_room (B : Nat) (w : World) (g : Nat) (r : Out) (S : ByteArray) (h : PrW B w g r) (hf : r.out.length + S.size ≤ 65536) (hB : B ≤ w.heap.size) :
    Calls Tryz.prog 48 #[.pointer (some ⟨g, 0, none⟩), .string S] w fun e w' => e = .returned (.bool true) ∧ PrW B w' g { r with out := r.out ++ bl S } ∧ BelowX B g w w' := by
  obtain ⟨i0, hi0, hz0, hz1, hz2⟩ := info_parts Tryz.infoU8
  obtain ⟨vo, vc, hb, ho, hc⟩ := h
  obtain ⟨oa, ocap, rfl, hoc, hom, hol⟩ := ownsRow_form ho
  obtain ⟨q, hq⟩ : ∃ q, q = r.out.length := ⟨_, rfl⟩
  have HK : Hid (q + S.size = (r.out ++ bl S).length) := by show _ = _; rw [List.length_append, bl_length, hq]
  rw [← hq] at hf
  have HC := Lib.hid hc
  rw [← hq] at ho hb
  have HO := Lib.hid ho
  have hglt := hb.lt
  have c0 : w.cell? ⟨g, 0, none⟩ = some (.slice oa q ocap) := by rw [hb.cell 0]; rfl
  have c3 : w.cell? ⟨g, 3, none⟩ = some (.int .i64 65536) := by rw [hb.cell 3]; rfl
  have HFZ : Hid (w.frozen? ⟨g, 0, none⟩ = false) := hb.frozen _
  have HVG := Lib.hid (own_blk_ne ho hb (by decide))
  have HBL := Lib.hid hb
  have HC0 := Lib.hid c0
  obtain ⟨m, hm⟩ : ∃ m, m = 65536 - q := ⟨_, rfl⟩
  have hsub : (65536 : Int) - (q : Int) = (m : Int) := by omega
  have hmin : (if (m : Int) < (S.size : Int) then (m : Int) else (S.size : Int)) = (S.size : Int) := if_neg (by omega)
  have hmin2 : min (S.size : Int) (m : Int) = (S.size : Int) := by omega
  have rs : ∀ W, (Instr.slice 9 (.string S) none (some (.int .i64 (S.size : Int))) none).run Tryz.prog W = .ok (.string S) W := fun W => by
    rw [run_slice_string_to_if W 9 S .i64 _ Tryz.underlying9, if_pos (by omega), Int.toNat_natCast, extract_take, List.take_of_length_le (by rw [bl_length]; exact Nat.le_refl _), mk_bl]
  have HF := Lib.hid hf
  clear ho hc hq hb hoc hom hol hm hf
  go_enter Tryz.func48, Tryz.ntmps48
  go_wp2_with fail
  go_region
  all_goals go_wp2_with fail
  go_region_law
    ((refine step_append_str (by rfl) _ _ _ _ (by rfl) B 5 i0 Tryz.underlying25 Tryz.underlying9 hi0 hz0 hz1 hz2 (.slice oa q ocap) q (u8s r.out) (by rfl) HO.out S (by rfl)
        (by have := HF.out; unfold maxLen; omega) (by have := HF.out; omega) hB ?_; intro ad cap2 w1 hown1 hgrow; obtain ⟨cc1, cc2⟩ := pr_facts hgrow hglt HVG.out HC0.out HFZ.out))
  all_goals go_wp2_with fail
  go_ret
  exact ⟨rfl, PrW.bytes (w := w.drew.drew) (((BelowX.refl B g w).drew).drew) HBL.out.drew.drew HO.out HC.out hB HK.out hown1 hgrow⟩

theorem Tryz.infoInt : (Tryz.prog.info? 3).map (fun i => (i.zero, i.size, i.bytes)) = some (some (.int .i64 0), 1, 8) := by kernel_rfl

set_option maxRecDepth 100000 in
set_option maxHeartbeats 8000000 in
/-- There is no room. -/
theorem fill_put_full (B : Nat) (w : World) (g : Nat) (r : Out) (S : ByteArray) (h : PrW B w g r) (hr : r.out.length ≤ 65536) (hcl : r.codes.length ≤ 1000000) (hf : 65536 < r.out.length + S.size) (hB : B ≤ w.heap.size) :
    Calls Tryz.prog 48 #[.pointer (some ⟨g, 0, none⟩), .string S] w fun e w' => e = .returned (.bool false) ∧ PrW B w' g { r with out := r.out ++ (bl S).take (65536 - r.out.length), codes := r.codes ++ [19] } ∧ BelowX B g w w' := by
  obtain ⟨i0, hi0, hz0, hz1, hz2⟩ := info_parts Tryz.infoU8
  obtain ⟨i1, hi1, hy0, hy1, hy2⟩ := info_parts Tryz.infoInt
  obtain ⟨vo, vc, hb, ho, hc⟩ := h
  obtain ⟨oa, ocap, rfl, hoc, hom, hol⟩ := ownsRow_form ho
  obtain ⟨q, hq⟩ : ∃ q, q = r.out.length := ⟨_, rfl⟩
  obtain ⟨m, hm⟩ : ∃ m, m = 65536 - q := ⟨_, rfl⟩
  obtain ⟨T, hT⟩ : ∃ T, T = S.extract 0 m := ⟨_, rfl⟩
  have hTb : bl T = (bl S).take m := by rw [hT, extract_take]; simp [bl]
  have hTs : T.size = m := by rw [← bl_length, hTb, List.length_take, bl_length]; omega
  have HK : Hid (q + T.size = (r.out ++ bl T).length) := by show _ = _; rw [List.length_append, bl_length, hq]
  have HTB : Hid ({ r with out := r.out ++ (bl S).take (65536 - r.out.length), codes := r.codes ++ [19] } = ({ r with out := r.out ++ bl T, codes := r.codes ++ [19] } : Out)) := by show _ = _; rw [hTb, hm, hq]
  rw [HTB.out]
  rw [← hq] at hf hr
  have HC := Lib.hid hc
  rw [← hq] at ho hb
  have HO := Lib.hid ho
  have hglt := hb.lt
  have c0 : w.cell? ⟨g, 0, none⟩ = some (.slice oa q ocap) := by rw [hb.cell 0]; rfl
  have c3 : w.cell? ⟨g, 3, none⟩ = some (.int .i64 65536) := by rw [hb.cell 3]; rfl
  have HFZ : Hid (w.frozen? ⟨g, 0, none⟩ = false) := hb.frozen _
  have HVG := Lib.hid (own_blk_ne ho hb (by decide))
  have HBL := Lib.hid hb
  have HC0 := Lib.hid c0
  have hsub : (65536 : Int) - (q : Int) = (m : Int) := by omega
  have hmin : (if (m : Int) < (S.size : Int) then (m : Int) else (S.size : Int)) = (m : Int) := if_pos (by omega)
  have hmin2 : min (S.size : Int) (m : Int) = (m : Int) := by omega
  have hd1 : decide (m < S.size) = true := decide_eq_true (by omega)
  have hd2 : ((m : Int) == (S.size : Int)) = false := by rw [beq_eq_false_iff_ne]; omega
  have hd3 : (m == S.size) = false := by rw [beq_eq_false_iff_ne]; omega
  have rs : ∀ W, (Instr.slice 9 (.string S) none (some (.int .i64 (m : Int))) none).run Tryz.prog W = .ok (.string T) W := fun W => by
    rw [run_slice_string_to_if W 9 S .i64 _ Tryz.underlying9, if_pos (by omega), Int.toNat_natCast, hT]
  have HF : Hid (q + T.size ≤ 65536) := by show _ ≤ _; omega
  have HCL := Lib.hid hcl
  clear ho hc hq hb hoc hom hol hm hf hT hTb hTs hr hcl
  go_enter Tryz.func48, Tryz.ntmps48
  go_wp2_with fail
  go_region
  all_goals go_wp2_with fail
  go_region_law
    ((refine step_append_str (by rfl) _ _ _ _ (by rfl) B 5 i0 Tryz.underlying25 Tryz.underlying9 hi0 hz0 hz1 hz2 (.slice oa q ocap) q (u8s r.out) (by rfl) HO.out T (by rfl)
        (by have := HF.out; unfold maxLen; omega) (by have := HF.out; omega) hB ?_; intro ad cap2 w1 hown1 hgrow; obtain ⟨cc1, cc2⟩ := pr_facts hgrow hglt HVG.out HC0.out HFZ.out))
  obtain ⟨hp2, hbel⟩ := PrW.bytes (w := w.drew.drew) (((BelowX.refl B g w).drew).drew) HBL.out.drew.drew HO.out HC.out hB HK.out hown1 hgrow
  obtain ⟨vo2, vc2, hb2, ho2, hc2⟩ := hp2
  have HBB := Lib.hid hbel
  generalize hW : w1.setCell _ _ = W2 at *
  obtain ⟨ca, ccap, rfl, _⟩ := ownsRow_form hc2
  obtain ⟨n, hn⟩ : ∃ n, n = r.codes.length := ⟨_, rfl⟩
  have hglt2 := hb2.lt
  have hBW2 : B ≤ W2.heap.size := Nat.le_trans hB HBB.out.size
  have hc2' : W2.ownsRow B 3 1 (.slice ca n ccap) n (i64s r.codes) := by rw [hn]; exact hc2
  have hb2' : Blk W2 g 83 #[vo2, .slice ca n ccap, .bool r.stop, .int .i64 65536] := by rw [hn]; exact hb2
  have d1 : W2.cell? ⟨g, 1, none⟩ = some (.slice ca n ccap) := by rw [hb2'.cell 1]; rfl
  have HVG2 := Lib.hid (own_blk_ne hc2' hb2' (by decide))
  have HFZ2 : Hid (W2.frozen? ⟨g, 1, none⟩ = false) := hb2'.frozen _
  have HD1 := Lib.hid d1
  have HO2 := Lib.hid ho2
  have HBA := Lib.hid (hb2'.alloc (.cells #[.int .i64 19] 3))
  have HC2 := Lib.hid hc2'
  have HB2 := Lib.hid hb2'
  have HN := Lib.hid hn
  clear hown1 hgrow cc1 cc2 hbel hb2 ho2 hc2 hc2' hb2' hn HO HC HK HBL HVG HC0 HFZ c0 c3
  go_wp2_with (at_builtin; refine wpList_append_lies _ rfl (.tmp 42) (.tmp 43) _ rfl B 3 i1 _ 1 8 Tryz.underlying26 hi1 hy0 hy1 hy2 rfl (by omega) (.slice ca n ccap) n (i64s r.codes) rfl (HC2.out.alloc _) ⟨W2.heap.size, 0, none⟩ 1 1 [.int .i64 19] rfl rfl (World.news_of_block (cs := #[.int .i64 19]) (t := 3) (fr := (0, 0)) (heap_alloc_new W2 _)) (by simp [Value.oneCell']) (by omega) (by have := HN.out; have := HCL.out; unfold maxLen; omega) (by have := HN.out; have := HCL.out; omega) (by simp; omega) (W2.heap.size + 1) (by simp) ?_; intro gg cap3 w3 hown3 hgrow3 hat3 hlt3; obtain ⟨dd1, dd2⟩ := pr_facts hgrow3 HBA.out.lt HVG2.out (HBA.out.cell 1) (HBA.out.frozen 1); have HOWN3 := Lib.hid hown3; have HGROW3 := Lib.hid hgrow3; clear hown3 hgrow3)
  go_ret
  obtain ⟨h1, h2⟩ := PrW.code (c := 19) (r := { r with out := r.out ++ bl T }) (HBB.out.alloc hBW2 _) HBA.out (HO2.out.alloc _) (HC2.out.alloc _) (by simp; omega) (by rw [HN.out]; simp) HOWN3.out HGROW3.out
  exact ⟨rfl, h1, h2⟩

/-- (*printer).put. -/
theorem fill_put (B : Nat) (w : World) (g : Nat) (r : Out) (S : ByteArray) (h : PrW B w g r) (hr : r.out.length ≤ 65536) (hcl : r.codes.length ≤ 1000000) (hB : B ≤ w.heap.size) :
    Calls Tryz.prog 48 #[.pointer (some ⟨g, 0, none⟩), .string S] w fun e w' => e = .returned (.bool (put r (bl S)).2) ∧ PrW B w' g (put r (bl S)).1 ∧ BelowX B g w w' := by
  by_cases hf : r.out.length + S.size ≤ 65536
  · have e : put r (bl S) = ({ r with out := r.out ++ bl S }, true) := by unfold put room; rw [if_pos (by rw [bl_length]; exact hf)]
    rw [e]
    exact fill_put_room B w g r S h hf hB
  · have e : put r (bl S) = (⟨r.out ++ (bl S).take (65536 - r.out.length), r.codes ++ [19], r.stop⟩, false) := by unfold put room; rw [if_neg (by rw [bl_length]; exact hf)]
    rw [e]
    exact fill_put_full B w g r S h hr hcl (by omega) hB
end Go.Proofs.YtppcjmbblkbkdaaGreatDoor
