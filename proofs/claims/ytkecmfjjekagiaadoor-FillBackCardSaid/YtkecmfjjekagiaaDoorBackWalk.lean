/- The walk of pidginlaw15.FillBack: it returns true. Conditions as typed. -/
import Derived.Test.YtkecmfjjekagiaaDoorPrintf
import Derived.Test.YtkecmfjjekagiaaDoorBaseT
import Derived.Test.YtkecmfjjekagiaaDoorTold
import Derived.Lib.QuietBelow
import Derived.BigQuiet
import Derived.OpenShut
namespace Go.Proofs.YtkecmfjjekagiaaDoor
open Go.RowKit Pg
open Go.Sort (grow)

theorem scan_Text (n : Int) (W : World) (h1 : -9223372036854775808 ≤ n) (h2 : n < 9223372036854775808) :
    Calls Tryd.prog 42 #[.int .i64 n] W fun e w' => e = .returned (.string ⟨(txt n).toArray⟩) ∧ Below W.heap.size W w' := by
  unfold txt
  by_cases h : n < 0
  · rw [if_pos h]
    have := scan_Text_neg (-n).toNat W (by omega) (by omega)
    rwa [show -((-n).toNat : Int) = n by omega] at this
  · rw [if_neg h]
    have := scan_Text_nat n.toNat W (by omega)
    rwa [show (n.toNat : Int) = n by omega] at this

theorem idxF0 (W : World) : (Instr.index 67 (.agg #[.string ⟨#[37, 120]⟩, .string ⟨#[37, 111]⟩, .string ⟨#[37, 117]⟩]) (.int .i64 0)).run Tryd.prog W = .ok (.string ⟨#[37, 120]⟩) W := by kernel_rfl
theorem idxF1 (W : World) : (Instr.index 67 (.agg #[.string ⟨#[37, 120]⟩, .string ⟨#[37, 111]⟩, .string ⟨#[37, 117]⟩]) (.int .i64 1)).run Tryd.prog W = .ok (.string ⟨#[37, 111]⟩) W := by kernel_rfl
theorem idxF2 (W : World) : (Instr.index 67 (.agg #[.string ⟨#[37, 120]⟩, .string ⟨#[37, 111]⟩, .string ⟨#[37, 117]⟩]) (.int .i64 2)).run Tryd.prog W = .ok (.string ⟨#[37, 117]⟩) W := by kernel_rfl

set_option maxRecDepth 100000 in
set_option maxHeartbeats 8000000 in
/-- FillBack: it returns true. -/
theorem fillBack_walk (n : Int) (w : World) (A : Nat → Addr) (hS : Sents0 w A) (hn : (Lit.int .i64 n).wf = true) :
    Calls Tryd.prog 15 #[.int .i64 n] w fun e w' => e = .returned (.bool true) ∧ Below w.heap.size w w' := by
  have hbd := bounds_i64 hn
  by_cases h0 : n = -9223372036854775808
  · have e0 : (n == -9223372036854775808) = true := beq_iff_eq.2 h0
    have C := Lib.hid (fill_awake w A hS)
    clear hS h0 hbd hn
    go_enter Tryd.func15, Tryd.ntmps15
    go_wp2_with (go_at_call 39; refine C.out.mono ?_; rintro e w' ⟨rfl, hb⟩; have HB := Lib.hid hb; clear hb)
    go_ret
    exact ⟨rfl, HB.out⟩
  · have e0 : (n == -9223372036854775808) = false := beq_eq_false_iff_ne.2 h0
    have HS := Lib.hid hS
    have CT := Lib.hid (fun W => scan_Text n W (by omega) (by omega))
    have HPD := Lib.hid (printf_d n (by omega) (by omega))
    have HPU := Lib.hid (fun c base hc => printf_u c base hc n (by omega) (by omega))
    have hts := txt_len n
    have HWU : Hid (IntKind.u64.wrap n = (u64 n : Int)) := by show _ = _; rw [IntKind.wrap_u64]; unfold u64; omega
    clear hS h0 hbd hn
    go_enter Tryd.func15, Tryd.ntmps15
    go_wp2_with fail
    refine (CT.out _).mono ?_
    rintro e w1 ⟨rfl, hb1⟩
    have HB1 := Lib.hid hb1
    have kc := Lib.run_convert_bytes_const (P := Tryd.prog) (w1.alloc (.cells #[.string ⟨(txt n).toArray⟩] 9)) 44 5 #[.int .u8 37, .int .u8 100] 2 2 Tryd.underlying44 Tryd.underlying5
    simp only [World.size_alloc] at kc
    have b2 : Below w1.heap.size w1 (w1.alloc (.cells #[.string ⟨(txt n).toArray⟩] 9)) := (Below.refl _ _).alloc (Nat.le_refl _) _
    have hs : Ss (w1.alloc (.cells #[.string ⟨(txt n).toArray⟩] 9)) (some ⟨w1.heap.size, 0, none⟩) 1 [⟨(txt n).toArray⟩] := Ss.new w1 [⟨(txt n).toArray⟩] (by show 1 ≤ maxLen; decide)
    have hS2 := HS.out.kept (hb1.trans (b2.mono hb1.size)) (Nat.le_refl _)
    have HB2 := Lib.hid (hb1.trans (b2.mono hb1.size))
    have hsz2 : (w1.alloc (.cells #[.string ⟨(txt n).toArray⟩] 9)).heap.size = w1.heap.size + 1 := by simp
    generalize hW2 : w1.alloc (.cells #[.string ⟨(txt n).toArray⟩] 9) = w2 at *
    have hbs : Bs (w2.alloc (.cells #[.int .u8 37, .int .u8 100] 5 (2, 3))) (some ⟨w1.heap.size + 1, 0, none⟩) 2 [37, 100] := hsz2 ▸ Bs.marked w2 5 (2, 3) [37, 100] (by decide)
    have CP := fill_told (w2.alloc (.cells #[.int .u8 37, .int .u8 100] 5 (2, 3))) A (hS2.kept (BelowA _ _) (Nat.le_refl _)) (some ⟨w1.heap.size + 1, 0, none⟩) 2 [37, 100] hbs (some ⟨w1.heap.size, 0, none⟩) 1 [⟨(txt n).toArray⟩] (hs.below (BelowA _ _) (Nat.le_refl _)) [txt n] (by simp [bl_mk]) _ HPD.out
    have HS2 := Lib.hid hS2
    have HSS := Lib.hid hs
    have HCP := Lib.hid CP
    clear hb1 b2 hs CP hbs hS2
    go_wp2_with fail
    try simp only [hW2]
    refine HCP.out.mono ?_
    rintro e w3 ⟨oa, no, oc, ca, nc, cc, rfl, hno, hnc, hoc, _, hb3, ho, hc⟩
    obtain rfl : nc = 0 := hnc
    simp only []
    have HO := Lib.hid ho
    have HB3 := Lib.hid (HB2.out.trans ((BelowA w2 _).trans (hb3.mono (BelowA w2 _).size) |>.mono HB2.out.size))
    have HNO := Lib.hid hno
    have HW3 : Hid (Below w2.heap.size w2 w3) := (BelowA w2 _).trans (hb3.mono (BelowA w2 _).size)
    clear hno ho hc hb3
    go_wp2_with fail
    have hblk := Blk.new w3 62 #[.slice oa no oc, .slice ca 0 cc, .bool false]
    have b4 := BelowA w3 (.cells #[.slice oa no oc, .slice ca 0 cc, .bool false] 62)
    generalize hW : w3.alloc (.cells #[.slice oa no oc, .slice ca 0 cc, .bool false] 62) = W at *
    have k0 := fun (p : Regrown) => cell_regrown (show W.cell? ⟨w3.heap.size, 0, none⟩ = some (.slice oa no oc) by rw [hblk.cell 0]; rfl) p.d p.os
    have k1 := fun (p : Regrown) => cell_regrown (show W.cell? ⟨w3.heap.size, 1, none⟩ = some (.slice ca 0 cc) by rw [hblk.cell 1]; rfl) p.d p.os
    have ks := fun (p : Regrown) => ownStr HO.out HNO.out (W := grow (redrawn W p.d) p.os) (b4.trans ((below_regrown W p.d p.os).mono b4.size)) (Nat.le_refl _)
    have CTR := Lib.hid fun p : Regrown => Calls.regrown_of (CT.out (grow (redrawn W p.d) p.os))
    have B4 := Lib.hid (HB3.out.trans (b4.mono HB3.out.size))
    have HW4 := Lib.hid (HW3.out.trans (b4.mono HW3.out.size))
    try simp only [] at ks
    clear hblk b4 hW
    generalize w3.heap.size = N3 at *
    refine wp_region_quiet_below (by kernel_rfl) (by kernel_rfl) ?_
    repeat (go_big_quiet_step (first | (go_at_call 42; exact CTR.out _)))
    refine wpQuiet_nil ?_
    intro _ hw'
    obtain ⟨⟨dq, osq⟩, hw''⟩ := hw'
    subst hw''
    have B5 := Lib.hid (B4.out.trans ((below_regrown W dq osq).mono B4.out.size))
    have HW5 := Lib.hid (HW4.out.trans ((below_regrown W dq osq).mono HW4.out.size))
    generalize grow (redrawn W dq) osq = w5 at *
    clear k0 k1 ks CTR
    go_wp2_with fail
    have b6 := BelowA w5 (.cells #[.int .i64 16, .int .i64 8, .int .i64 10] 3)
    have hk6 := Blk.new w5 3 #[.int .i64 16, .int .i64 8, .int .i64 10]
    have hlt6 : w5.heap.size < (w5.alloc (.cells #[.int .i64 16, .int .i64 8, .int .i64 10] 3)).heap.size := by simp
    generalize hN5 : w5.heap.size = N5 at *
    generalize hW6 : w5.alloc (.cells #[.int .i64 16, .int .i64 8, .int .i64 10] 3) = w6 at *
    have B6 := Lib.hid (B5.out.trans (b6.mono (by rw [← hN5]; exact B5.out.size)))
    have HW6 := Lib.hid (HW5.out.trans (b6.mono (by rw [← hN5]; exact HW5.out.size)))
    have HK6 := Lib.hid hk6
    have HLT6 := Lib.hid hlt6
    clear b6 hk6 hlt6 hW6 hN5
    go_loopw [37] (fun kv wr => ∃ k : Nat, k ≤ 3 ∧ kv = .int .i64 k ∧ Hid (Below w6.heap.size w6 wr)) (fun kv _ => 3 - (intOf kv).toNat)
    case atStart => exact ⟨0, by omega, rfl, Below.refl _ _⟩
    case round =>
      obtain ⟨k, hk, rfl, HB⟩ := hrel
      by_cases hlt : k < 3
      · obtain ⟨c, base, hc, hcell, hks⟩ : ∃ (c : UInt8) (base : Nat), (c = 120 ∧ base = 16 ∨ c = 111 ∧ base = 8 ∨ c = 117 ∧ base = 10) ∧ wr.cell? ⟨N5, k, none⟩ = some (.int .i64 base) ∧ (k = 0 ∧ c = 120 ∧ base = 16 ∨ k = 1 ∧ c = 111 ∧ base = 8 ∨ k = 2 ∧ c = 117 ∧ base = 10) := by
          have hk' := HK6.out.below HB.out HLT6.out
          rcases (show k = 0 ∨ k = 1 ∨ k = 2 by omega) with rfl | rfl | rfl
          · exact ⟨120, 16, .inl ⟨rfl, rfl⟩, by rw [hk'.cell 0]; rfl, .inl ⟨rfl, rfl, rfl⟩⟩
          · exact ⟨111, 8, .inr (.inl ⟨rfl, rfl⟩), by rw [hk'.cell 1]; rfl, .inr (.inl ⟨rfl, rfl, rfl⟩)⟩
          · exact ⟨117, 10, .inr (.inr ⟨rfl, rfl⟩), by rw [hk'.cell 2]; rfl, .inr (.inr ⟨rfl, rfl, rfl⟩)⟩
        have hbase : 2 ≤ base ∧ base ≤ 16 := by omega
        have CB := Lib.hid (fun W => scan_Base (u64 n) base false W (by unfold u64; omega) hbase.1 hbase.2)
        have hBR := B6.out.trans (HB.out.mono B6.out.size)
        have hWR := HW6.out.trans (HB.out.mono HW6.out.size)
        have rc := Lib.run_convert_string_bytes (P := Tryd.prog) wr 9 44 5 ⟨#[37, c]⟩ Tryd.underlying9 Tryd.underlying44 Tryd.underlying5
        have hbw := bytes_below wr ⟨#[37, c]⟩
        have hbs : Bs (Lib.bytesWorld wr 5 ⟨#[37, c]⟩) (some ⟨wr.heap.size, 0, none⟩) (grownCap wr (⟨#[37, c]⟩ : ByteArray).size 0 5) [37, c] := bytes_bs wr ⟨#[37, c]⟩ (by show 2 ≤ maxLen; decide)
        have hcp : (⟨#[37, c]⟩ : ByteArray).size = 2 := rfl
        rw [hcp] at hbs rc
        generalize hX : Lib.bytesWorld wr 5 ⟨#[37, c]⟩ = X at *
        generalize grownCap wr 2 0 5 = gc at *
        have CP := Lib.hid (fill_told X A ((HS.out.kept hBR (Nat.le_refl _)).kept hbw (Nat.le_refl _)) _ _ [37, c] hbs _ _ [⟨(txt n).toArray⟩] ((HSS.out.below hWR (Nat.le_refl _)).below hbw (Nat.le_refl _)) [txt n] (by simp [bl_mk]) _ (HPU.out c base hc))
        have HBX := Lib.hid (HB.out.trans (hbw.mono HB.out.size))
        clear hbs hbw hX hBR hWR hcp hc hbase
        have i0 := idxF0
        have i1 := idxF1
        have i2 := idxF2
        rcases hks with ⟨rfl, rfl, rfl⟩ | ⟨rfl, rfl, rfl⟩ | ⟨rfl, rfl, rfl⟩
        all_goals (
          go_wp2_with fail
          refine CP.out.mono ?_
          rintro e x1 ⟨pa, mo, pc, qa, mc, qc, rfl, hmo, hmc, _, _, hx1, hpo, _⟩
          simp only []
          have PO := Lib.hid hpo
          have MO := Lib.hid hmo
          have HX1 := Lib.hid (HBX.out.trans (hx1.mono HBX.out.size))
          clear hmo hmc hx1 hpo
          go_wp2_with fail
          have hblk := Blk.new x1 62 #[.slice pa mo pc, .slice qa mc qc, .bool false]
          have b7 := BelowA x1 (.cells #[.slice pa mo pc, .slice qa mc qc, .bool false] 62)
          generalize hY : x1.alloc (.cells #[.slice pa mo pc, .slice qa mc qc, .bool false] 62) = Y at *
          have j0 := fun (p : Regrown) => cell_regrown (show Y.cell? ⟨x1.heap.size, 0, none⟩ = some (.slice pa mo pc) by rw [hblk.cell 0]; rfl) p.d p.os
          have js := fun (p : Regrown) => ownStr PO.out MO.out (W := grow (redrawn Y p.d) p.os) (b7.trans ((below_regrown Y p.d p.os).mono b7.size)) (Nat.le_refl _)
          have CBR := Lib.hid fun p : Regrown => Calls.regrown_of (CB.out (grow (redrawn Y p.d) p.os))
          have HY := Lib.hid (HX1.out.trans (b7.mono HX1.out.size))
          have hwu := HWU.out
          try simp only [] at js
          clear hblk b7 hY
          generalize x1.heap.size = N7 at *
          refine wp_region_quiet_below (by kernel_rfl) (by kernel_rfl) ?_
          repeat (go_big_quiet_step (first | (go_at_call 43; exact CBR.out _)))
          refine wpQuiet_nil ?_
          intro _ hw'
          obtain ⟨⟨dr, osr⟩, hw''⟩ := hw'
          subst hw''
          have B7 := Lib.hid (HY.out.trans ((below_regrown Y dr osr).mono HY.out.size))
          generalize grow (redrawn Y dr) osr = y5 at *
          clear j0 js CBR hwu
          go_wp2_with fail
          go_roundw
          case rel => first | exact ⟨1, by omega, rfl, B7.out⟩ | exact ⟨2, by omega, rfl, B7.out⟩ | exact ⟨3, by omega, rfl, B7.out⟩
          case measure => simp [intOf])
      · have CA := Lib.hid (fill_awake wr A (HS.out.kept (B6.out.trans (HB.out.mono B6.out.size)) (Nat.le_refl _)))
        have hk3 : k = 3 := by omega
        subst hk3
        go_wp2_with (go_at_call 39; refine CA.out.mono ?_; rintro e w9 ⟨rfl, hb9⟩; have HB9 := Lib.hid hb9; clear hb9)
        go_ret
        exact ⟨rfl, (B6.out.trans (HB.out.mono B6.out.size)).trans (HB9.out.mono (B6.out.trans (HB.out.mono B6.out.size)).size)⟩
end Go.Proofs.YtkecmfjjekagiaaDoor
