/- The walk of pidginlaw15.FillSigns: it returns true. Conditions as typed. -/
import Derived.Test.YtkecmfjjekagiaaDoorTold
import Derived.OpenShut
namespace Go.Proofs.YtkecmfjjekagiaaDoor
open Go.RowKit Pg

def sgB (k : Nat) : ByteArray := ⟨(sgn k).toArray⟩
theorem idxS (k : Nat) (hk : k < 3) (W : World) : (Instr.index 67 (.agg #[.string ⟨#[]⟩, .string ⟨#[43]⟩, .string ⟨#[45]⟩]) (.int .i64 k)).run Tryd.prog W = .ok (.string (sgB k)) W := by
  rcases (show k = 0 ∨ k = 1 ∨ k = 2 by omega) with rfl | rfl | rfl
  · kernel_rfl
  · kernel_rfl
  · kernel_rfl
theorem ixm (z m : Int) (h0 : 0 < m) (h1 : m ≤ 5000) : ∃ k : Nat, (k : Int) < m ∧ (wrap64 (z.tmod m + m)).tmod m = (k : Int) := by
  have a := Int.lt_tmod_of_pos z h0
  have b := Int.tmod_lt_of_pos z h0
  have hw : wrap64 (z.tmod m + m) = z.tmod m + m := IntWalk.wrap64_in _ ⟨by omega, by omega⟩
  refine ⟨((z.tmod m + m) % m).toNat, ?_, ?_⟩
  · have := Int.emod_lt_of_pos (z.tmod m + m) h0
    have := Int.emod_nonneg (z.tmod m + m) (show m ≠ 0 by omega)
    omega
  · rw [hw, Int.tmod_eq_emod_of_nonneg (by omega)]
    have := Int.emod_nonneg (z.tmod m + m) (show m ≠ 0 by omega)
    omega

set_option maxRecDepth 100000 in
set_option maxHeartbeats 8000000 in
/-- FillSigns: it returns true. -/
theorem fillSigns_walk (n sg : Int) (w : World) (A : Nat → Addr) (hS : Sents0 w A) (hn : (Lit.int .u32 n).wf = true) (hs : (Lit.int .i64 sg).wf = true) :
    Calls Tryd.prog 14 #[.int .u32 n, .int .i64 sg] w fun e w' => e = .returned (.bool true) ∧ Below w.heap.size w w' := by
  have hbd := bounds_u32 hn
  have hbs := bounds_i64 hs
  obtain ⟨N, rfl⟩ : ∃ N : Nat, n = N := ⟨n.toNat, by omega⟩
  have hN : N < 4294967296 := by omega
  obtain ⟨k, hk3, hz⟩ := ixm sg 3 (by omega) (by omega)
  replace hk3 : k < 3 := by omega
  have hix := idxS k hk3
  have HS := Lib.hid hS
  have HNZ := Lib.hid (num_sz k N hN)
  have CD := Lib.hid (fun W => digits15 N hN W)
  have hdl := (digs_len 10 false N).2
  have HF : Hid (∀ j, j < 3 → ∃ (S : ByteArray) (o : List UInt8), (#[Value.string ⟨#[37, 100]⟩, .string ⟨#[48, 120, 37, 120]⟩, .string ⟨#[48, 37, 111]⟩] : Array Value)[j]? = some (.string S) ∧ S.size ≤ 10 ∧ o.length ≤ 100 ∧ printf (bl S) [dtx N] = .ok ⟨o, [], false⟩ ∧ num (sgn k ++ o) = (sv k N, 0)) := by
    intro j hj
    have hd := (digs_len 10 false N).2
    have hx := (digs_len 16 false N).2
    have ho := (digs_len 8 false N).2
    rcases (show j = 0 ∨ j = 1 ∨ j = 2 by omega) with rfl | rfl | rfl
    · exact ⟨⟨#[37, 100]⟩, dtx N, rfl, by decide, by unfold dtx; omega, printf_sd N hN, num_sd k N hN⟩
    · exact ⟨⟨#[48, 120, 37, 120]⟩, _, rfl, by decide, by simp; omega, printf_sx N hN, num_sx k N hN⟩
    · exact ⟨⟨#[48, 37, 111]⟩, _, rfl, by decide, by simp; omega, printf_so N hN, num_so k N hN⟩
  have hsk : (sgB k).size ≤ 1 := by unfold sgB sgn; split; decide; split <;> decide
  have HSK : Hid (bl (sgB k) = sgn k) := bl_mk _
  clear hS hn hs hbd
  generalize sgB k = T at *
  by_cases h2 : k = 2
  · have e2 : ((k : Int) == 2) = true := beq_iff_eq.2 (by omega)
    have HSV : Hid (sv k N = -(N : Int)) := by show _ = _; unfold sv; rw [if_neg (by omega)]
    clear h2
    go_enter Tryd.func14, Tryd.ntmps14
    go_wp2_with fail
    have b6 := BelowA w (.cells #[.string ⟨#[37, 100]⟩, .string ⟨#[48, 120, 37, 120]⟩, .string ⟨#[48, 37, 111]⟩] 9)
    have hk6 := Blk.new w 9 #[.string ⟨#[37, 100]⟩, .string ⟨#[48, 120, 37, 120]⟩, .string ⟨#[48, 37, 111]⟩]
    have hlt6 : w.heap.size < (w.alloc (.cells #[.string ⟨#[37, 100]⟩, .string ⟨#[48, 120, 37, 120]⟩, .string ⟨#[48, 37, 111]⟩] 9)).heap.size := by simp
    generalize hN5 : w.heap.size = N5 at *
    generalize hW6 : w.alloc (.cells #[.string ⟨#[37, 100]⟩, .string ⟨#[48, 120, 37, 120]⟩, .string ⟨#[48, 37, 111]⟩] 9) = w6 at *
    have HS6 := Lib.hid (HS.out.kept b6 (by omega))
    have B6 := Lib.hid b6
    have HK6 := Lib.hid hk6
    have HLT6 := Lib.hid hlt6
    have HN5 := Lib.hid hN5
    clear b6 hk6 hlt6 hW6 hN5
    go_loopw [31] (fun kv wr => ∃ j : Nat, j ≤ 3 ∧ kv = .int .i64 j ∧ Hid (Below w6.heap.size w6 wr)) (fun kv _ => 3 - (intOf kv).toNat)
    case atStart => exact ⟨0, by omega, rfl, Below.refl _ _⟩
    case round =>
      obtain ⟨j, hj, rfl, HB⟩ := hrel
      by_cases hlt : j < 3
      · obtain ⟨S, o, hSj, hSs, hol, hpf, hnm⟩ := HF.out j hlt
        have hk' := HK6.out.below HB.out HLT6.out
        have hcell : wr.cell? ⟨N5, j, none⟩ = some (.string S) := by rw [hk'.cell j]; exact hSj
        have rc := Lib.run_convert_string_bytes (P := Tryd.prog) wr 9 44 5 S Tryd.underlying9 Tryd.underlying44 Tryd.underlying5
        have hbw := bytes_below wr S
        have hbs : Bs (Lib.bytesWorld wr 5 S) (some ⟨wr.heap.size, 0, none⟩) (grownCap wr S.size 0 5) (bl S) := bytes_bs wr S (by unfold maxLen; omega)
        generalize hX : Lib.bytesWorld wr 5 S = X at *
        generalize grownCap wr S.size 0 5 = gc at *
        have hSX := (HS6.out.kept HB.out (Nat.le_refl _)).kept hbw (Nat.le_refl _)
        have HPF := Lib.hid hpf
        have HBS := Lib.hid hbs
        have HSX := Lib.hid hSX
        have HBX := Lib.hid (HB.out.trans (hbw.mono HB.out.size))
        have hTo : (T ++ (⟨o.toArray⟩ : ByteArray)).size ≤ 200 := by rw [ByteArray.size_append]; show T.size + o.toArray.size ≤ 200; rw [List.size_toArray]; omega
        have CN := Lib.hid (fun W => fill_Number (T ++ ⟨o.toArray⟩) W (by unfold maxLen; omega))
        have hnn : num (bl (T ++ ⟨o.toArray⟩)) = (-(N : Int), 0) := by rw [bl_app, HSK.out, bl_mk, hnm, HSV.out]
        rw [hnn] at CN
        have HBL := bl_length S
        clear hbs hbw hX hSX hk' hSj hpf hnm hnn hTo
        go_wp2_with fail
        refine (CD.out _).mono ?_
        rintro e x1 ⟨rfl, hb1⟩
        have hs1 : Ss (x1.alloc (.cells #[.string ⟨(dtx N).toArray⟩] 9)) (some ⟨x1.heap.size, 0, none⟩) 1 [⟨(dtx N).toArray⟩] := Ss.new x1 [⟨(dtx N).toArray⟩] (by show 1 ≤ maxLen; decide)
        have b1a := BelowA x1 (.cells #[.string ⟨(dtx N).toArray⟩] 9)
        have CP := fill_told (x1.alloc (.cells #[.string ⟨(dtx N).toArray⟩] 9)) A ((HSX.out.kept hb1 (Nat.le_refl _)).kept b1a (Nat.le_refl _)) _ _ (bl S) ((HBS.out.below hb1 (Nat.le_refl _)).below b1a (Nat.le_refl _)) _ _ _ hs1 [dtx N] (by simp [bl_mk]) _ HPF.out
        rw [bl_length] at CP
        have HCP := Lib.hid CP
        have HX1 := Lib.hid (HBX.out.trans ((hb1.trans (b1a.mono hb1.size)).mono HBX.out.size))
        clear hs1 b1a CP hb1
        go_wp2_with fail
        refine HCP.out.mono ?_
        rintro e x3 ⟨pa, mo, pc, qa, mc, qc, rfl, hmo, hmc, _, _, hx3, hpo, _⟩
        simp only []
        have ks := fun ob => ownStr hpo hmo (W := x3.alloc ob) (BelowA x3 ob) (Nat.le_refl _)
        have HX3 := Lib.hid (HX1.out.trans (hx3.mono HX1.out.size))
        try simp only [] at ks
        clear hmo hmc hx3 hpo
        go_wp2_with (go_at_call 37; refine (CN.out _).mono ?_; rintro e x5 ⟨rfl, hb5⟩; have HB5 := Lib.hid hb5; clear hb5)
        go_roundw
        case rel => exact ⟨j + 1, by omega, by go_num, HX3.out.trans (((BelowA x3 _).trans (HB5.out.mono (BelowA x3 _).size)).mono HX3.out.size)⟩
        case measure => simp [intOf]; omega
      · have hB := B6.out.trans (HB.out.mono (by rw [← HN5.out]; exact B6.out.size))
        have hTz : (T ++ (⟨(dtx N).toArray⟩ : ByteArray) ++ ⟨#[122]⟩).size ≤ 200 := by
          rw [ByteArray.size_append, ByteArray.size_append]
          show T.size + (dtx N).toArray.size + 1 ≤ 200
          rw [List.size_toArray]; unfold dtx; omega
        have CN := fun W => fill_Number (T ++ ⟨(dtx N).toArray⟩ ++ ⟨#[122]⟩) W (by unfold maxLen; omega)
        have hnn : (num (bl (T ++ ⟨(dtx N).toArray⟩ ++ ⟨#[122]⟩))).2 = 14 := by
          rw [bl_app, bl_app, HSK.out, bl_mk, List.append_assoc]
          exact HNZ.out
        simp only [hnn] at CN
        generalize (num (bl (T ++ ⟨(dtx N).toArray⟩ ++ ⟨#[122]⟩))).1 = q at *
        have CN := Lib.hid CN
        have CA := Lib.hid (fun W (h : Below wr.heap.size wr W) => fill_awake W A ((HS6.out.kept HB.out (Nat.le_refl _)).kept h (Nat.le_refl _)))
        have HBB := Lib.hid hB
        have hDs : (⟨(dtx N).toArray⟩ : ByteArray).size ≤ 64 := by show (dtx N).toArray.size ≤ 64; rw [List.size_toArray]; exact hdl
        have hTD : (T ++ (⟨(dtx N).toArray⟩ : ByteArray)).size ≤ 65 := by rw [ByteArray.size_append]; omega
        clear hnn hB
        generalize (⟨(dtx N).toArray⟩ : ByteArray) = D at *
        go_wp2_with fail
        refine (CD.out _).mono ?_
        rintro e x1 ⟨rfl, hb1⟩
        have HB1 := Lib.hid hb1
        clear hb1
        go_wp2_with fail
        refine (CN.out _).mono ?_
        rintro e x2 ⟨rfl, hb2⟩
        have HB2 := Lib.hid (HB1.out.trans (hb2.mono HB1.out.size))
        clear hb2
        go_wp2_with (go_at_call 39; refine (CA.out _ HB2.out).mono ?_; rintro e x3 ⟨rfl, hb3⟩; have HB3 := Lib.hid hb3; clear hb3)
        go_ret
        have h2 := HBB.out.trans (HB2.out.mono (by rw [← HN5.out]; exact HBB.out.size))
        have h3 := h2.trans (HB3.out.mono (by rw [← HN5.out]; exact h2.size))
        rw [← HN5.out] at h3
        exact ⟨rfl, h3⟩
  · have e2 : ((k : Int) == 2) = false := beq_eq_false_iff_ne.2 (by omega)
    have HSV : Hid (sv k N = (N : Int)) := by show _ = _; unfold sv; rw [if_pos (by omega)]
    clear h2
    go_enter Tryd.func14, Tryd.ntmps14
    go_wp2_with fail
    have b6 := BelowA w (.cells #[.string ⟨#[37, 100]⟩, .string ⟨#[48, 120, 37, 120]⟩, .string ⟨#[48, 37, 111]⟩] 9)
    have hk6 := Blk.new w 9 #[.string ⟨#[37, 100]⟩, .string ⟨#[48, 120, 37, 120]⟩, .string ⟨#[48, 37, 111]⟩]
    have hlt6 : w.heap.size < (w.alloc (.cells #[.string ⟨#[37, 100]⟩, .string ⟨#[48, 120, 37, 120]⟩, .string ⟨#[48, 37, 111]⟩] 9)).heap.size := by simp
    generalize hN5 : w.heap.size = N5 at *
    generalize hW6 : w.alloc (.cells #[.string ⟨#[37, 100]⟩, .string ⟨#[48, 120, 37, 120]⟩, .string ⟨#[48, 37, 111]⟩] 9) = w6 at *
    have HS6 := Lib.hid (HS.out.kept b6 (by omega))
    have B6 := Lib.hid b6
    have HK6 := Lib.hid hk6
    have HLT6 := Lib.hid hlt6
    have HN5 := Lib.hid hN5
    clear b6 hk6 hlt6 hW6 hN5
    go_loopw [31] (fun kv wr => ∃ j : Nat, j ≤ 3 ∧ kv = .int .i64 j ∧ Hid (Below w6.heap.size w6 wr)) (fun kv _ => 3 - (intOf kv).toNat)
    case atStart => exact ⟨0, by omega, rfl, Below.refl _ _⟩
    case round =>
      obtain ⟨j, hj, rfl, HB⟩ := hrel
      by_cases hlt : j < 3
      · obtain ⟨S, o, hSj, hSs, hol, hpf, hnm⟩ := HF.out j hlt
        have hk' := HK6.out.below HB.out HLT6.out
        have hcell : wr.cell? ⟨N5, j, none⟩ = some (.string S) := by rw [hk'.cell j]; exact hSj
        have rc := Lib.run_convert_string_bytes (P := Tryd.prog) wr 9 44 5 S Tryd.underlying9 Tryd.underlying44 Tryd.underlying5
        have hbw := bytes_below wr S
        have hbs : Bs (Lib.bytesWorld wr 5 S) (some ⟨wr.heap.size, 0, none⟩) (grownCap wr S.size 0 5) (bl S) := bytes_bs wr S (by unfold maxLen; omega)
        generalize hX : Lib.bytesWorld wr 5 S = X at *
        generalize grownCap wr S.size 0 5 = gc at *
        have hSX := (HS6.out.kept HB.out (Nat.le_refl _)).kept hbw (Nat.le_refl _)
        have HPF := Lib.hid hpf
        have HBS := Lib.hid hbs
        have HSX := Lib.hid hSX
        have HBX := Lib.hid (HB.out.trans (hbw.mono HB.out.size))
        have hTo : (T ++ (⟨o.toArray⟩ : ByteArray)).size ≤ 200 := by rw [ByteArray.size_append]; show T.size + o.toArray.size ≤ 200; rw [List.size_toArray]; omega
        have CN := Lib.hid (fun W => fill_Number (T ++ ⟨o.toArray⟩) W (by unfold maxLen; omega))
        have hnn : num (bl (T ++ ⟨o.toArray⟩)) = ((N : Int), 0) := by rw [bl_app, HSK.out, bl_mk, hnm, HSV.out]
        rw [hnn] at CN
        have HBL := bl_length S
        clear hbs hbw hX hSX hk' hSj hpf hnm hnn hTo
        go_wp2_with fail
        refine (CD.out _).mono ?_
        rintro e x1 ⟨rfl, hb1⟩
        have hs1 : Ss (x1.alloc (.cells #[.string ⟨(dtx N).toArray⟩] 9)) (some ⟨x1.heap.size, 0, none⟩) 1 [⟨(dtx N).toArray⟩] := Ss.new x1 [⟨(dtx N).toArray⟩] (by show 1 ≤ maxLen; decide)
        have b1a := BelowA x1 (.cells #[.string ⟨(dtx N).toArray⟩] 9)
        have CP := fill_told (x1.alloc (.cells #[.string ⟨(dtx N).toArray⟩] 9)) A ((HSX.out.kept hb1 (Nat.le_refl _)).kept b1a (Nat.le_refl _)) _ _ (bl S) ((HBS.out.below hb1 (Nat.le_refl _)).below b1a (Nat.le_refl _)) _ _ _ hs1 [dtx N] (by simp [bl_mk]) _ HPF.out
        rw [bl_length] at CP
        have HCP := Lib.hid CP
        have HX1 := Lib.hid (HBX.out.trans ((hb1.trans (b1a.mono hb1.size)).mono HBX.out.size))
        clear hs1 b1a CP hb1
        go_wp2_with fail
        refine HCP.out.mono ?_
        rintro e x3 ⟨pa, mo, pc, qa, mc, qc, rfl, hmo, hmc, _, _, hx3, hpo, _⟩
        simp only []
        have ks := fun ob => ownStr hpo hmo (W := x3.alloc ob) (BelowA x3 ob) (Nat.le_refl _)
        have HX3 := Lib.hid (HX1.out.trans (hx3.mono HX1.out.size))
        try simp only [] at ks
        clear hmo hmc hx3 hpo
        go_wp2_with (go_at_call 37; refine (CN.out _).mono ?_; rintro e x5 ⟨rfl, hb5⟩; have HB5 := Lib.hid hb5; clear hb5)
        go_roundw
        case rel => exact ⟨j + 1, by omega, by go_num, HX3.out.trans (((BelowA x3 _).trans (HB5.out.mono (BelowA x3 _).size)).mono HX3.out.size)⟩
        case measure => simp [intOf]; omega
      · have hB := B6.out.trans (HB.out.mono (by rw [← HN5.out]; exact B6.out.size))
        have hTz : (T ++ (⟨(dtx N).toArray⟩ : ByteArray) ++ ⟨#[122]⟩).size ≤ 200 := by
          rw [ByteArray.size_append, ByteArray.size_append]
          show T.size + (dtx N).toArray.size + 1 ≤ 200
          rw [List.size_toArray]; unfold dtx; omega
        have CN := fun W => fill_Number (T ++ ⟨(dtx N).toArray⟩ ++ ⟨#[122]⟩) W (by unfold maxLen; omega)
        have hnn : (num (bl (T ++ ⟨(dtx N).toArray⟩ ++ ⟨#[122]⟩))).2 = 14 := by
          rw [bl_app, bl_app, HSK.out, bl_mk, List.append_assoc]
          exact HNZ.out
        simp only [hnn] at CN
        generalize (num (bl (T ++ ⟨(dtx N).toArray⟩ ++ ⟨#[122]⟩))).1 = q at *
        have CN := Lib.hid CN
        have CA := Lib.hid (fun W (h : Below wr.heap.size wr W) => fill_awake W A ((HS6.out.kept HB.out (Nat.le_refl _)).kept h (Nat.le_refl _)))
        have HBB := Lib.hid hB
        have hDs : (⟨(dtx N).toArray⟩ : ByteArray).size ≤ 64 := by show (dtx N).toArray.size ≤ 64; rw [List.size_toArray]; exact hdl
        have hTD : (T ++ (⟨(dtx N).toArray⟩ : ByteArray)).size ≤ 65 := by rw [ByteArray.size_append]; omega
        clear hnn hB
        generalize (⟨(dtx N).toArray⟩ : ByteArray) = D at *
        go_wp2_with fail
        refine (CD.out _).mono ?_
        rintro e x1 ⟨rfl, hb1⟩
        have HB1 := Lib.hid hb1
        clear hb1
        go_wp2_with fail
        refine (CN.out _).mono ?_
        rintro e x2 ⟨rfl, hb2⟩
        have HB2 := Lib.hid (HB1.out.trans (hb2.mono HB1.out.size))
        clear hb2
        go_wp2_with (go_at_call 39; refine (CA.out _ HB2.out).mono ?_; rintro e x3 ⟨rfl, hb3⟩; have HB3 := Lib.hid hb3; clear hb3)
        go_ret
        have h2 := HBB.out.trans (HB2.out.mono (by rw [← HN5.out]; exact HBB.out.size))
        have h3 := h2.trans (HB3.out.mono (by rw [← HN5.out]; exact h2.size))
        rw [← HN5.out] at h3
        exact ⟨rfl, h3⟩
end Go.Proofs.YtkecmfjjekagiaaDoor
