/- The walk of (*fill.printer).field. Conditions as typed. -/
import Derived.Test.YtppcjmbblkbkdaaGreatDoorUnesc
namespace Go.Proofs.YtppcjmbblkbkdaaGreatDoor
open Go.RowKit Pg

theorem PrW.below {B K : Nat} {w w' : World} {g : Nat} {r : Out} (h : PrW B w g r) (hb : Below K w w') (hK : w.heap.size ≤ K) : PrW B w' g r := by
  obtain ⟨vo, vc, h1, h2, h3⟩ := h
  have := h1.lt
  exact ⟨vo, vc, h1.below hb (by omega), ownsRow_below h2 hb hK, ownsRow_below h3 hb hK⟩
theorem PrW.lt {B : Nat} {w : World} {g : Nat} {r : Out} (h : PrW B w g r) : g < w.heap.size := by
  obtain ⟨vo, vc, h1, h2, h3⟩ := h
  exact h1.lt
theorem PrW.cells {B : Nat} {w : World} {g : Nat} {r : Out} (h : PrW B w g r) : (∃ x, w.cell? ⟨g, 2, none⟩ = some x) ∧ w.frozen? ⟨g, 2, none⟩ = false := by
  obtain ⟨vo, vc, h1, h2, h3⟩ := h
  exact ⟨⟨_, h1.cell 2⟩, h1.frozen 2⟩
theorem PrW.setStop {B : Nat} {w : World} {g : Nat} {r : Out} (h : PrW B w g r) (s : Bool) : PrW B (w.setCell ⟨g, 2, none⟩ (.bool s)) g { r with stop := s } ∧ BelowX B g w (w.setCell ⟨g, 2, none⟩ (.bool s)) := by
  obtain ⟨vo, vc, h1, h2, h3⟩ := h
  exact ⟨⟨vo, vc, h1.set_ 2 _, ownsRow_setNe h2 (a := ⟨g, 2, none⟩) h1 (by decide) _, ownsRow_setNe h3 (a := ⟨g, 2, none⟩) h1 (by decide) _⟩, (BelowX.refl _ _ _).setCell _ _⟩

/-- What field leaves. -/
def FieldPost (B : Nat) (w : World) (g : Nat) (r : Out) (p : Part) (l : List UInt8) (e : Ending) (w' : World) : Prop :=
  e = .returned (.bool ((put (if (one p l).2.2 = 0 then r else { r with codes := r.codes ++ [(one p l).2.2] }) (one p l).1).2 && !(one p l).2.1)) ∧
  PrW B w' g (if (put (if (one p l).2.2 = 0 then r else { r with codes := r.codes ++ [(one p l).2.2] }) (one p l).1).2 = true ∧ (one p l).2.1 = true then { (put (if (one p l).2.2 = 0 then r else { r with codes := r.codes ++ [(one p l).2.2] }) (one p l).1).1 with stop := true } else (put (if (one p l).2.2 = 0 then r else { r with codes := r.codes ++ [(one p l).2.2] }) (one p l).1).1) ∧ BelowX B g w w'
theorem FieldPost.plain {B : Nat} {w : World} {g : Nat} {r : Out} {p : Part} {l out : List UInt8} {e : Ending} {w' : World} (ho : one p l = (out, false, 0)) (h1 : e = .returned (.bool (put r out).2)) (h2 : PrW B w' g (put r out).1) (h3 : BelowX B g w w') : FieldPost B w g r p l e w' := by
  unfold FieldPost
  rw [ho]
  simpa using ⟨h1, h2, h3⟩

set_option maxRecDepth 100000 in
set_option maxHeartbeats 8000000 in
/-- %c -/
theorem field_c (B : Nat) (w : World) (g : Nat) (r : Out) (v : Value) (p : Part) (S : ByteArray) (h : PrW B w g r) (hr : r.out.length ≤ 65536) (hcl : r.codes.length ≤ 1000000) (hB : B ≤ w.heap.size) (hw : p.width ≤ 5000) (hS : S.size ≤ 140737488351232) (h99 : p.conv = 99) :
    Calls Tryz.prog 49 #[.pointer (some ⟨g, 0, none⟩), .agg #[v, .int .u8 p.conv, .bool p.fl.minus, .bool p.fl.plus, .bool p.fl.space, .bool p.fl.zero, .bool p.fl.alt, .int .i64 p.width, .int .i64 p.prec], .string S] w (FieldPost B w g r p (bl S)) := by
  have ho : one p (bl S) = (filled p [] ((bl S).take 1) false, false, 0) := by unfold one; rw [if_pos h99]
  have HO := Lib.hid ho
  have e99 := eqT h99
  simp only [Int.cast_ofNat_Int] at e99
  obtain ⟨m, hm⟩ : ∃ m, m = min 1 S.size := ⟨_, rfl⟩
  have hminA : (if (S.size : Int) < 1 then (S.size : Int) else 1) = (m : Int) := by split <;> omega
  have hminB : min 1 (S.size : Int) = (m : Int) := by omega
  obtain ⟨T, hT⟩ : ∃ T, T = S.extract 0 m := ⟨_, rfl⟩
  have hTb : bl T = (bl S).take 1 := by rw [hT, extract_take, bl_mk, hm, ← bl_length, ← List.take_take, List.take_length]
  have hTs : T.size ≤ 1 := by rw [← bl_length, hTb, List.length_take]; omega
  have rs : ∀ W, (Instr.slice 9 (.string S) none (some (.int .i64 (m : Int))) none).run Tryz.prog W = .ok (.string T) W := fun W => by
    rw [run_slice_string_to_if W 9 S .i64 _ Tryz.underlying9, if_pos (by omega), Int.toNat_natCast, hT]
  have HP := Lib.hid h
  have CF := Lib.hid (fun W => fill_filled v p ⟨#[]⟩ T false W hw (by decide) (by omega))
  have CP := Lib.hid (fun (W : World) (F : ByteArray) (hb : Below w.heap.size w W) => fill_put B W g r F (HP.out.below hb (Nat.le_refl _)) hr hcl (Nat.le_trans hB hb.size))
  have HB0 : Hid (Below w.heap.size w ((w.alloc (.cells #[v, .int .u8 p.conv, .bool p.fl.minus, .bool p.fl.plus, .bool p.fl.space, .bool p.fl.zero, .bool p.fl.alt, .int .i64 p.width, .int .i64 p.prec] 59)).drew)) := ((Below.refl _ _).alloc (Nat.le_refl _) _).drew
  have HTB := Lib.hid hTb
  clear h ho hT hTb hm h99
  go_enter Tryz.func49, Tryz.ntmps49
  go_wp2_with fail
  go_region_with (first
    | (go_at_call 62; refine (CF.out _).mono ?_; rintro e w2 ⟨rfl, hb2⟩; have HB2 := Lib.hid (HB0.out.trans (hb2.mono HB0.out.size)); clear hb2)
    | (go_at_call 48; refine (CP.out _ _ HB2.out).mono ?_; rintro e w3 ⟨rfl, hp3, hb3⟩; have HP3 := Lib.hid hp3; have HB3 := Lib.hid hb3; clear hp3 hb3))
  all_goals go_wp2_with fail
  all_goals (
    go_ret
    refine FieldPost.plain HO.out ?_ ?_ ((BelowX.of HB2.out hB).trans HB3.out)
    · rw [← HTB.out, ← bl_mk (filled p [] (bl T) false)]; rfl
    · rw [← HTB.out, ← bl_mk (filled p [] (bl T) false)]; exact HP3.out)
theorem unescF_len : ∀ (n : Nat) (b : List UInt8) (i : Nat) (acc : List UInt8), (unescF n b i acc).1.length ≤ acc.length + n
  | 0, b, i, acc => by unfold unescF; simp
  | n + 1, b, i, acc => by
    unfold unescF
    have h := unescF_len n b
    repeat' split
    all_goals first
      | (refine Nat.le_trans (h _ _) ?_; simp only [List.length_append, List.length_cons, List.length_nil]; omega)
      | (simp only []; omega)
theorem unesc_len (b : List UInt8) : (unesc b).1.length ≤ b.length := by
  have := unescF_len b.length b 0 []
  unfold unesc; simpa using this
theorem cut_len (p : Part) (l : List UInt8) : (cut p l).length ≤ l.length := by
  unfold cut; split
  · exact List.length_take_le' ..
  · exact Nat.le_refl _

set_option maxRecDepth 100000 in
set_option maxHeartbeats 8000000 in
/-- %s -/
theorem field_s (B : Nat) (w : World) (g : Nat) (r : Out) (v : Value) (p : Part) (S : ByteArray) (h : PrW B w g r) (hr : r.out.length ≤ 65536) (hcl : r.codes.length ≤ 1000000) (hB : B ≤ w.heap.size) (hw : p.width ≤ 5000) (hS : S.size ≤ 140737488351232) (h115 : p.conv = 115) :
    Calls Tryz.prog 49 #[.pointer (some ⟨g, 0, none⟩), .agg #[v, .int .u8 p.conv, .bool p.fl.minus, .bool p.fl.plus, .bool p.fl.space, .bool p.fl.zero, .bool p.fl.alt, .int .i64 p.width, .int .i64 p.prec], .string S] w (FieldPost B w g r p (bl S)) := by
  have ho : one p (bl S) = (filled p [] (cut p (bl S)) false, false, 0) := by unfold one; rw [if_neg (by omega), if_pos h115]
  have HO := Lib.hid ho
  have e99 := eqF (x := p.conv) (n := 99) (by omega)
  have e115 := eqT h115
  simp only [Int.cast_ofNat_Int] at e99 e115
  have HP := Lib.hid h
  have CC := Lib.hid (fun W => fill_cut v p S W)
  obtain ⟨T, hT⟩ : ∃ T : ByteArray, T = ⟨(cut p (bl S)).toArray⟩ := ⟨_, rfl⟩
  have hTb : bl T = cut p (bl S) := by rw [hT, bl_mk]
  have hTs : T.size ≤ 140737488351232 := by rw [← bl_length, hTb]; have := cut_len p (bl S); rw [bl_length] at this; omega
  rw [← hT] at CC
  have CF := Lib.hid (fun W => fill_filled v p ⟨#[]⟩ T false W hw (by decide) (by omega))
  have CP := Lib.hid (fun (W : World) (F : ByteArray) (hb : Below w.heap.size w W) => fill_put B W g r F (HP.out.below hb (Nat.le_refl _)) hr hcl (Nat.le_trans hB hb.size))
  have HB0 : Hid (Below w.heap.size w ((w.alloc (.cells #[v, .int .u8 p.conv, .bool p.fl.minus, .bool p.fl.plus, .bool p.fl.space, .bool p.fl.zero, .bool p.fl.alt, .int .i64 p.width, .int .i64 p.prec] 59)).drew)) := ((Below.refl _ _).alloc (Nat.le_refl _) _).drew
  have HK0 : Hid (Blk ((w.alloc (.cells #[v, .int .u8 p.conv, .bool p.fl.minus, .bool p.fl.plus, .bool p.fl.space, .bool p.fl.zero, .bool p.fl.alt, .int .i64 p.width, .int .i64 p.prec] 59)).drew) w.heap.size 59 (partCells v p)) := Blk.new w _ _
  have HTB := Lib.hid hTb
  clear h ho hT hTb h115
  go_enter Tryz.func49, Tryz.ntmps49
  go_wp2_with fail
  go_region_with (first
    | (go_at_call 63; refine (CC.out _).mono ?_; rintro e w2 ⟨rfl, hb2⟩; obtain ⟨x0, x1, x2, x3, x4, x5, x6, x7, x8⟩ := allCells (v := v) (p := p) (HK0.out.below hb2 (by simp [World.drew])); have HBC := Lib.hid (HB0.out.trans (hb2.mono HB0.out.size)); clear hb2)
    | (go_at_call 62; refine (CF.out _).mono ?_; rintro e w2 ⟨rfl, hb2⟩; have HB2 := Lib.hid (HBC.out.trans (hb2.mono HBC.out.size)); clear hb2)
    | (go_at_call 48; refine (CP.out _ _ HB2.out).mono ?_; rintro e w3 ⟨rfl, hp3, hb3⟩; have HP3 := Lib.hid hp3; have HB3 := Lib.hid hb3; clear hp3 hb3))
  all_goals go_wp2_with fail
  all_goals (
    go_ret
    refine FieldPost.plain HO.out ?_ ?_ ((BelowX.of HB2.out hB).trans HB3.out)
    · rw [← HTB.out, ← bl_mk (filled p [] (bl T) false)]; rfl
    · rw [← HTB.out, ← bl_mk (filled p [] (bl T) false)]; exact HP3.out)

theorem FieldPost.stop {B : Nat} {w : World} {g : Nat} {r : Out} {p : Part} {l out : List UInt8} {st : Bool} {e : Ending} {w1 : World} (ho : one p l = (out, st, 0)) (hr : r.stop = false) (h1 : e = .returned (.bool ((put r out).2 && !st))) (h2 : PrW B w1 g (put r out).1) (h3 : BelowX B g w w1) :
    FieldPost B w g r p l e (w1.setCell ⟨g, 2, none⟩ (.bool ((put r out).2 && st))) := by
  unfold FieldPost
  rw [ho]
  simp only [if_true]
  obtain ⟨k1, k2⟩ := h2.setStop ((put r out).2 && st)
  refine ⟨h1, ?_, h3.trans k2⟩
  have hps : (put r out).1.stop = r.stop := by unfold put; split <;> rfl
  split
  · rename_i hh
    rw [hh.1, hh.2] at k1
    rw [hh.1, hh.2]
    exact k1
  · rename_i hh
    have e : ((put r out).2 && st) = false := by cases h5 : (put r out).2 <;> cases st <;> simp_all
    rw [e] at k1 ⊢
    have e2 : ({ (put r out).1 with stop := false } : Out) = (put r out).1 := by rw [← hr, ← hps]
    rw [e2] at k1
    exact k1
theorem FieldPost.stop' {B : Nat} {w : World} {g : Nat} {r : Out} {p : Part} {l out : List UInt8} {st ok : Bool} {e : Ending} {w1 : World} (ho : one p l = (out, st, 0)) (hr : r.stop = false) (hok : (put r out).2 = ok) (h1 : e = .returned (.bool (ok && !st))) (h2 : PrW B w1 g (put r out).1) (h3 : BelowX B g w w1) :
    FieldPost B w g r p l e (w1.setCell ⟨g, 2, none⟩ (.bool (ok && st))) := by
  subst hok; exact FieldPost.stop ho hr h1 h2 h3

set_option maxRecDepth 100000 in
set_option maxHeartbeats 8000000 in
/-- %b -/
theorem field_b (B : Nat) (w : World) (g : Nat) (r : Out) (v : Value) (p : Part) (S : ByteArray) (h : PrW B w g r) (hr : r.out.length ≤ 65536) (hcl : r.codes.length ≤ 1000000) (hB : B ≤ w.heap.size) (hw : p.width ≤ 5000) (hS : S.size ≤ 140737488351232) (hst : r.stop = false) (h98 : p.conv = 98) :
    Calls Tryz.prog 49 #[.pointer (some ⟨g, 0, none⟩), .agg #[v, .int .u8 p.conv, .bool p.fl.minus, .bool p.fl.plus, .bool p.fl.space, .bool p.fl.zero, .bool p.fl.alt, .int .i64 p.width, .int .i64 p.prec], .string S] w (FieldPost B w g r p (bl S)) := by
  have hul := unesc_len (bl S)
  obtain ⟨ul, st, hu⟩ : ∃ ul st, unesc (bl S) = (ul, st) := ⟨_, _, rfl⟩
  have ho : one p (bl S) = (filled p [] (cut p ul) false, st, 0) := by unfold one; rw [if_neg (by omega), if_neg (by omega), if_pos h98, hu]
  have HO := Lib.hid ho
  have e99 := eqF (x := p.conv) (n := 99) (by omega)
  have e115 := eqF (x := p.conv) (n := 115) (by omega)
  have e98 := eqT h98
  simp only [Int.cast_ofNat_Int] at e99 e115 e98
  have HP := Lib.hid h
  have CU := fun W => fill_unescaped S W (by omega)
  rw [hu] at CU hul
  simp only [] at CU hul
  obtain ⟨S2, hS2⟩ : ∃ S2 : ByteArray, S2 = ⟨ul.toArray⟩ := ⟨_, rfl⟩
  have hSb : bl S2 = ul := by rw [hS2, bl_mk]
  rw [← hS2] at CU
  have CU := Lib.hid CU
  have CC := fun W => fill_cut v p S2 W
  obtain ⟨T, hT⟩ : ∃ T : ByteArray, T = ⟨(cut p (bl S2)).toArray⟩ := ⟨_, rfl⟩
  have hTb : bl T = cut p (bl S2) := by rw [hT, bl_mk]
  have hTs : T.size ≤ 140737488351232 := by rw [← bl_length, hTb]; have := cut_len p (bl S2); rw [hSb] at this ⊢; rw [bl_length] at hul; omega
  rw [← hT] at CC
  have CC := Lib.hid CC
  rw [hSb] at hTb
  have CF := Lib.hid (fun W => fill_filled v p ⟨#[]⟩ T false W hw (by decide) (by omega))
  have CP := Lib.hid (fun (W : World) (F : ByteArray) (hb : Below w.heap.size w W) => fill_put B W g r F (HP.out.below hb (Nat.le_refl _)) hr hcl (Nat.le_trans hB hb.size))
  have HB0 : Hid (Below w.heap.size w (w.alloc (.cells #[v, .int .u8 p.conv, .bool p.fl.minus, .bool p.fl.plus, .bool p.fl.space, .bool p.fl.zero, .bool p.fl.alt, .int .i64 p.width, .int .i64 p.prec] 59))) := ((Below.refl _ _).alloc (Nat.le_refl _) _)
  have HK0 : Hid (Blk (w.alloc (.cells #[v, .int .u8 p.conv, .bool p.fl.minus, .bool p.fl.plus, .bool p.fl.space, .bool p.fl.zero, .bool p.fl.alt, .int .i64 p.width, .int .i64 p.prec] 59)) w.heap.size 59 (partCells v p)) := Blk.new w _ _
  have HTB := Lib.hid hTb
  clear h ho hT hTb h98 hS2 hSb hu hul
  go_enter Tryz.func49, Tryz.ntmps49
  go_wp2_with (go_at_call 64; refine (CU.out _).mono ?_; rintro e w1 ⟨rfl, hb1⟩; have HB1 := Lib.hid (HB0.out.trans (hb1.mono HB0.out.size)); have HK1 := Lib.hid (HK0.out.below hb1 (by simp)); clear hb1)
  obtain ⟨x0, x1, x2, x3, x4, x5, x6, x7, x8⟩ := allCells HK1.out
  have HB1d := Lib.hid HB1.out.drew
  have HK1d := Lib.hid HK1.out.drew
  go_region_with (first
    | (go_at_call 63; refine (CC.out _).mono ?_; rintro e w2 ⟨rfl, hb2⟩; obtain ⟨x0, x1, x2, x3, x4, x5, x6, x7, x8⟩ := allCells (v := v) (p := p) (HK1d.out.below hb2 HK1d.out.lt); have HBC := Lib.hid (HB1d.out.trans (hb2.mono HB1d.out.size)); clear hb2)
    | (go_at_call 62; refine (CF.out _).mono ?_; rintro e w2 ⟨rfl, hb2⟩; have HB2 := Lib.hid (HBC.out.trans (hb2.mono HBC.out.size)); clear hb2)
    | (go_at_call 48; refine (CP.out _ _ HB2.out).mono ?_; rintro e w3 ⟨rfl, hp3, hb3⟩; obtain ⟨⟨z, hz⟩, hzf⟩ := hp3.cells; have HP3 := Lib.hid hp3; have HB3 := Lib.hid hb3; clear hp3 hb3))
  all_goals (obtain ⟨ok, hok⟩ : ∃ b, (put r (bl (⟨(filled p (bl (⟨#[]⟩ : ByteArray)) (bl T) false).toArray⟩ : ByteArray))).2 = b := ⟨_, rfl⟩; have HOK : Hid ((put r (filled p [] (cut p ul) false)).2 = ok) := (by show _ = _; rw [← HTB.out, ← bl_mk (filled p [] (bl T) false)]; exact hok); rw [hok]; clear hok)
  all_goals cases st
  all_goals cases ok
  all_goals go_wp2_with fail
  all_goals (
    go_ret
    refine FieldPost.stop' HO.out hst HOK.out ?_ ?_ ((BelowX.of HB2.out hB).trans HB3.out)
    · rfl
    · rw [← HTB.out, ← bl_mk (filled p [] (bl T) false)]; exact HP3.out)
end Go.Proofs.YtppcjmbblkbkdaaGreatDoor
