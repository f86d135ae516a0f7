/- The walk of (*fill.printer).field, whole. Conditions as typed. -/
import Derived.Test.YtppcjmbblkbkdaaGreatDoorField
namespace Go.Proofs.YtppcjmbblkbkdaaGreatDoor
open Go.RowKit Pg

theorem FieldPost.code {B : Nat} {w : World} {g : Nat} {r : Out} {p : Part} {l out : List UInt8} {c : Nat} {e : Ending} {w' : World} (ho : one p l = (out, false, c)) (hc : c ≠ 0) (h1 : e = .returned (.bool (put { r with codes := r.codes ++ [c] } out).2)) (h2 : PrW B w' g (put { r with codes := r.codes ++ [c] } out).1) (h3 : BelowX B g w w') : FieldPost B w g r p l e w' := by
  unfold FieldPost
  rw [ho]
  simp only [if_neg hc]
  simpa using ⟨h1, h2, h3⟩
theorem num_range (l : List UInt8) : -9223372036854775808 ≤ (num l).1 ∧ (num l).1 < 9223372036854775808 := by
  have h1 := (const_le l).1
  have h2 := (const_le (l.drop 1)).1
  have hb := (l.getD 1 0).toNat_lt
  unfold num
  repeat' split
  all_goals (simp only []; omega)

set_option maxRecDepth 100000 in
set_option maxHeartbeats 8000000 in
/-- A number. -/
theorem field_n (B : Nat) (w : World) (g : Nat) (r : Out) (v : Value) (p : Part) (S : ByteArray) (h : PrW B w g r) (hr : r.out.length ≤ 65536) (hcl : r.codes.length < 1000000) (hB : B ≤ w.heap.size) (hw : p.width ≤ 5000) (hS : S.size ≤ 140737488351232) (hc : p.conv < 256) (hpr : p.prec < 5000) (h99 : p.conv ≠ 99) (h115 : p.conv ≠ 115) (h98 : p.conv ≠ 98) :
    Calls Tryz.prog 49 #[.pointer (some ⟨g, 0, none⟩), .agg #[v, .int .u8 p.conv, .bool p.fl.minus, .bool p.fl.plus, .bool p.fl.space, .bool p.fl.zero, .bool p.fl.alt, .int .i64 p.width, .int .i64 p.prec], .string S] w (FieldPost B w g r p (bl S)) := by
  obtain ⟨i1, hi1, hy0, hy1, hy2⟩ := info_parts Tryz.infoInt
  have hnr := num_range (bl S)
  have CN := fun W => fill_Number S W (by unfold maxLen; omega)
  have ho : one p (bl S) = (integer p (num (bl S)).1, false, (num (bl S)).2) := by unfold one; rw [if_neg h99, if_neg h115, if_neg h98]
  obtain ⟨nn, c, hn⟩ : ∃ nn c, num (bl S) = (nn, c) := ⟨_, _, rfl⟩
  rw [hn] at hnr CN ho
  simp only [] at hnr CN ho
  have HO := Lib.hid ho
  have CN := Lib.hid CN
  have e99 := eqF h99
  have e115 := eqF h115
  have e98 := eqF h98
  simp only [Int.cast_ofNat_Int] at e99 e115 e98
  have HP := Lib.hid h
  have hglt := h.lt
  have CI := Lib.hid (fun W => fill_integer v p nn W hc hw hpr hnr.1 hnr.2)
  have HB0 : Hid (Below w.heap.size w (w.alloc (.cells #[v, .int .u8 p.conv, .bool p.fl.minus, .bool p.fl.plus, .bool p.fl.space, .bool p.fl.zero, .bool p.fl.alt, .int .i64 p.width, .int .i64 p.prec] 59))) := ((Below.refl _ _).alloc (Nat.le_refl _) _)
  have HK0 : Hid (Blk (w.alloc (.cells #[v, .int .u8 p.conv, .bool p.fl.minus, .bool p.fl.plus, .bool p.fl.space, .bool p.fl.zero, .bool p.fl.alt, .int .i64 p.width, .int .i64 p.prec] 59)) w.heap.size 59 (partCells v p)) := Blk.new w _ _
  clear h ho hn hnr h99 h115 h98
  go_enter Tryz.func49, Tryz.ntmps49
  go_wp2_with fail
  refine (CN.out _).mono ?_
  rintro e w1 ⟨rfl, hb1⟩
  have HB1 := Lib.hid (HB0.out.trans (hb1.mono HB0.out.size))
  have HK1 := Lib.hid (HK0.out.below hb1 HK0.out.lt)
  have HP1 := Lib.hid (HP.out.below HB1.out (Nat.le_refl _))
  have hB1 : B ≤ w1.heap.size := Nat.le_trans hB HB1.out.size
  clear hb1
  by_cases h0 : c = 0
  · subst h0
    obtain ⟨x0, x1, x2, x3, x4, x5, x6, x7, x8⟩ := allCells HK1.out
    have CP := Lib.hid (fun (W : World) (F : ByteArray) (hb : Below w1.heap.size w1 W) => fill_put B W g r F (HP1.out.below hb (Nat.le_refl _)) hr (Nat.le_of_lt hcl) (Nat.le_trans hB1 hb.size))
    go_wp2_with (first
      | (go_at_call 66; refine (CI.out _).mono ?_; rintro e w2 ⟨rfl, hb2⟩; have HB2 := Lib.hid hb2; clear hb2)
      | (go_at_call 48; refine (CP.out _ _ HB2.out).mono ?_; rintro e w3 ⟨rfl, hp3, hb3⟩; have HP3 := Lib.hid hp3; have HB3 := Lib.hid hb3; clear hp3 hb3))
    go_ret
    refine FieldPost.plain HO.out ?_ ?_ (((BelowX.of HB1.out hB).trans (BelowX.of HB2.out hB1)).trans HB3.out)
    · rw [← bl_mk (integer p nn)]; rfl
    · rw [← bl_mk (integer p nn)]; exact HP3.out
  · have e0 := eqF h0
    simp only [Int.cast_ofNat_Int] at e0
    obtain ⟨vo, vc, hb, hoo, hcc⟩ := HP1.out
    obtain ⟨ca, ccap, rfl, _⟩ := ownsRow_form hcc
    obtain ⟨n, hnn⟩ : ∃ n, n = r.codes.length := ⟨_, rfl⟩
    rw [← hnn] at hb hcc
    have hvb := own_blk_ne hcc HK1.out (by decide)
    have d1 : w1.cell? ⟨g, 1, none⟩ = some (.slice ca n ccap) := by rw [hb.cell 1]; rfl
    have hgk : w.heap.size ≠ g := HK1.out.ne_ hb (by decide)
    have HVG := Lib.hid (own_blk_ne hcc hb (by decide))
    have HBA := Lib.hid (hb.alloc (.cells #[.int .i64 c] 3))
    have HC2 := Lib.hid hcc
    have HO2 := Lib.hid hoo
    have HN := Lib.hid hnn
    have HVB := Lib.hid hvb
    have HGK := Lib.hid hgk
    have H0 := Lib.hid h0
    have HCL := Lib.hid hcl
    clear hb hcc hoo hnn hvb hgk h0 hcl
    go_upto_region 14 with (at_builtin; refine wpList_append_lies _ rfl (.tmp 73) (.tmp 75) _ rfl B 3 i1 _ 1 8 Tryz.underlying26 hi1 hy0 hy1 hy2 rfl (by omega) (.slice ca n ccap) n (i64s r.codes) rfl (HC2.out.alloc _) ⟨w1.heap.size, 0, none⟩ 1 1 [.int .i64 c] rfl rfl (World.news_of_block (cs := #[.int .i64 c]) (t := 3) (fr := (0, 0)) (heap_alloc_new w1 _)) (by simp [Value.oneCell']) (by omega) (by have := HN.out; have := HCL.out; unfold maxLen; omega) (by have := HN.out; have := HCL.out; omega) (by simp; omega) (w1.heap.size + 1) (by simp) ?_; intro gg cap3 w3 hown3 hgrow3 hat3 hlt3; obtain ⟨dd1, dd2⟩ := pr_facts hgrow3 HBA.out.lt HVG.out (HBA.out.cell 1) (HBA.out.frozen 1); have HOWN3 := Lib.hid hown3; have HGROW3 := Lib.hid hgrow3; clear hown3 hgrow3 hat3 hlt3)
    obtain ⟨hp5, hb5⟩ := PrW.code (c := c) (r := r) ((BelowX.refl B g w1).alloc hB1 _) HBA.out (HO2.out.alloc _) (HC2.out.alloc _) (by simp; omega) (by rw [HN.out]; simp) HOWN3.out HGROW3.out
    have hk5 := ((HK1.out.alloc (.cells #[.int .i64 c] 3)).grown HGROW3.out (Ne.symm HVB.out)).far (p := ⟨g, 1, none⟩) HGK.out (.slice (some ⟨gg, 0, none⟩) (n + 1) cap3)
    have hB5 : B ≤ (w3.setCell ⟨g, 1, none⟩ (.slice (some ⟨gg, 0, none⟩) (n + 1) cap3)).heap.size := Nat.le_trans hB1 hb5.size
    have hcl5 : (r.codes ++ [c]).length ≤ 1000000 := by have := HCL.out; simp; omega
    generalize w3.setCell ⟨g, 1, none⟩ (.slice (some ⟨gg, 0, none⟩) (n + 1) cap3) = w5 at *
    have HP5 := Lib.hid hp5
    have HB5 := Lib.hid hb5
    obtain ⟨x0, x1, x2, x3, x4, x5, x6, x7, x8⟩ := allCells hk5
    have CP := Lib.hid (fun (W : World) (F : ByteArray) (hb : Below w5.heap.size w5 W) => fill_put B W g { r with codes := r.codes ++ [c] } F (HP5.out.below hb (Nat.le_refl _)) hr hcl5 (Nat.le_trans hB5 hb.size))
    clear hp5 hb5 hk5
    go_wp2_with (first
      | (go_at_call 66; refine (CI.out _).mono ?_; rintro e w6 ⟨rfl, hb2⟩; have HB2 := Lib.hid hb2; clear hb2)
      | (go_at_call 48; refine (CP.out _ _ HB2.out).mono ?_; rintro e w7 ⟨rfl, hp3, hb3⟩; have HP3 := Lib.hid hp3; have HB3 := Lib.hid hb3; clear hp3 hb3))
    go_ret
    refine FieldPost.code HO.out H0.out ?_ ?_ ((((BelowX.of HB1.out hB).trans HB5.out).trans (BelowX.of HB2.out hB5)).trans HB3.out)
    · rw [← bl_mk (integer p nn)]; rfl
    · rw [← bl_mk (integer p nn)]; exact HP3.out

/-- (*printer).field. -/
theorem fill_field (B : Nat) (w : World) (g : Nat) (r : Out) (v : Value) (p : Part) (S : ByteArray) (h : PrW B w g r) (hr : r.out.length ≤ 65536) (hcl : r.codes.length < 1000000) (hB : B ≤ w.heap.size) (hw : p.width ≤ 5000) (hS : S.size ≤ 140737488351232) (hc : p.conv < 256) (hpr : p.prec < 5000) (hst : r.stop = false) :
    Calls Tryz.prog 49 #[.pointer (some ⟨g, 0, none⟩), .agg #[v, .int .u8 p.conv, .bool p.fl.minus, .bool p.fl.plus, .bool p.fl.space, .bool p.fl.zero, .bool p.fl.alt, .int .i64 p.width, .int .i64 p.prec], .string S] w (FieldPost B w g r p (bl S)) := by
  by_cases h99 : p.conv = 99
  · exact field_c B w g r v p S h hr (by omega) hB hw hS h99
  by_cases h115 : p.conv = 115
  · exact field_s B w g r v p S h hr (by omega) hB hw hS h115
  by_cases h98 : p.conv = 98
  · exact field_b B w g r v p S h hr (by omega) hB hw hS hst h98
  exact field_n B w g r v p S h hr hcl hB hw hS hc hpr h99 h115 h98
end Go.Proofs.YtppcjmbblkbkdaaGreatDoor
