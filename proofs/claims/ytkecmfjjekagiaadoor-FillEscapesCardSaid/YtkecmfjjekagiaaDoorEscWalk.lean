/- The walk of pidginlaw15.FillEscapes: it returns true. Conditions as typed. -/
import Derived.Test.YtkecmfjjekagiaaDoorPrintf
import Derived.Test.YtkecmfjjekagiaaDoorTold
namespace Go.Proofs.YtkecmfjjekagiaaDoor
open Go.RowKit Pg

theorem bl_at (S : ByteArray) (k : Nat) (h : k < S.size) : bl (S.extract k (k + 1)) = [S[k]] := by
  unfold bl
  rw [Lib.extract_data]
  have hk : k < S.data.toList.length := by rw [Array.length_toList]; exact h
  rw [show k + 1 - k = 1 by omega, List.drop_eq_getElem_cons hk]
  rfl
theorem bl_take (S : ByteArray) (k : Nat) (h : k < S.size) : (bl S).take (k + 1) = (bl S).take k ++ [S[k]] := by
  have hk : k < (bl S).length := by rw [bl_length]; exact h
  rw [List.take_succ_eq_append_getElem hk]
  rfl

set_option maxRecDepth 100000 in
set_option maxHeartbeats 8000000 in
/-- FillEscapes: it returns true. -/
theorem fillEscapes_walk (S : ByteArray) (w : World) (A : Nat → Addr) (hS : Sents0 w A) (_hs : S.size ≤ maxLen) :
    Calls Tryd.prog 13 #[.string S] w fun e w' => e = .returned (.bool true) ∧ Below w.heap.size w w' := by
  have HS := Lib.hid hS
  by_cases h4 : 400 < S.size
  · have e0 : decide (400 < (S.size : Int)) = true := decide_eq_true (by omega)
    have C := Lib.hid (fill_awake w A hS)
    clear hS
    go_enter Tryd.func13, Tryd.ntmps13
    go_wp2_with (go_at_call 39; refine C.out.mono ?_; rintro e w' ⟨rfl, hb⟩; have HB := Lib.hid hb; clear hb)
    go_ret
    exact ⟨rfl, HB.out⟩
  · have e0 : decide (400 < (S.size : Int)) = false := decide_eq_false (by omega)
    clear hS
    go_enter Tryd.func13, Tryd.ntmps13
    go_wp2_with fail
    go_loopw [3, 15] (fun tv kv wr => ∃ (k : Nat) (T : ByteArray), k ≤ S.size ∧ T.size ≤ 2 * k ∧ kv = .int .i64 k ∧ tv = .string T ∧ Hid (bl T = dbs ((bl S).take k)) ∧ w = wr) (fun _ kv _ => S.size - (intOf kv).toNat)
    case atStart => exact ⟨0, ⟨#[]⟩, by omega, by decide, rfl, rfl, rfl, rfl⟩
    case round =>
      obtain ⟨k, T, hk, hT, rfl, rfl, HT, rfl⟩ := hrel
      by_cases hlt : k < S.size
      · by_cases h92 : S[k].toNat = 92
        · have e1 : ((S[k].toNat : Int) == 92) = true := beq_iff_eq.2 (by omega)
          have h92' : S[k] = 92 := UInt8.toNat_inj.1 h92
          have HN : Hid (bl (T ++ ⟨#[92]⟩ ++ S.extract k (k + 1)) = dbs ((bl S).take (k + 1))) := by
            show _ = _
            rw [bl_app, bl_app, HT.out, bl_at S k hlt, bl_take S k hlt, dbs_append]
            show _ = _ ++ dbs [S[k]]
            rw [h92']
            simp [dbs, bl]
          have hsz : (T ++ (⟨#[92]⟩ : ByteArray) ++ S.extract k (k + 1)).size ≤ 2 * (k + 1) := by
            rw [ByteArray.size_append, ByteArray.size_append, ByteArray.size_extract]
            show T.size + 1 + _ ≤ _
            omega
          clear h92'
          go_wp2_with fail
          go_roundw
          case rel => exact ⟨k + 1, _, by omega, hsz, by go_num, rfl, HN, trivial⟩
          case measure => simp [intOf]; omega
        · have e1 : ((S[k].toNat : Int) == 92) = false := beq_eq_false_iff_ne.2 (by omega)
          have HN : Hid (bl (T ++ S.extract k (k + 1)) = dbs ((bl S).take (k + 1))) := by
            show _ = _
            rw [bl_app, HT.out, bl_at S k hlt, bl_take S k hlt, dbs_append]
            show _ = _ ++ dbs [S[k]]
            simp [dbs, h92]
          have hsz : (T ++ S.extract k (k + 1)).size ≤ 2 * (k + 1) := by
            rw [ByteArray.size_append, ByteArray.size_extract]
            omega
          go_wp2_with fail
          go_roundw
          case rel => exact ⟨k + 1, _, by omega, hsz, by go_num, rfl, HN, trivial⟩
          case measure => simp [intOf]; omega
      · have HT2 : Hid (bl T = dbs (bl S)) := by show _ = _; rw [HT.out, List.take_of_length_le (by rw [bl_length]; omega)]
        have kc1 := Lib.run_convert_bytes_const (P := Tryd.prog) w 44 5 #[.int .u8 37, .int .u8 98] 2 2 Tryd.underlying44 Tryd.underlying5
        have C1 := Lib.hid (told_const w A HS.out [37, 98] (by decide) #[.int .u8 37, .int .u8 98] rfl (2, 3) T ⟨bl S, [], false⟩ (by rw [HT2.out]; exact printf_b (bl S) (by rw [bl_length]; omega)))
        have HPS := Lib.hid (printf_s (bl S) (by rw [bl_length]; omega))
        go_wp2_with fail
        refine C1.out.mono ?_
        rintro e w1 ⟨oa, no, oc, ca, nc, cc, rfl, hno, hnc, hoc, _, hb1, ho, hc⟩
        obtain rfl : nc = 0 := hnc
        simp only []
        have b2 := BelowA w1 (.cells #[.slice oa no oc, .slice ca 0 cc, .bool false] 62)
        have hz2 : (w1.alloc (.cells #[.slice oa no oc, .slice ca 0 cc, .bool false] 62)).heap.size = w1.heap.size + 1 := by simp
        have hB2 := hb1.trans (b2.mono hb1.size)
        have C2 := told_const _ A (HS.out.kept hB2 (Nat.le_refl _)) [37, 115] (by decide) #[.int .u8 37, .int .u8 115] rfl (2, 3) S ⟨bl S, [], false⟩ HPS.out
        have kc2 := Lib.run_convert_bytes_const (P := Tryd.prog) (w1.alloc (.cells #[.slice oa no oc, .slice ca 0 cc, .bool false] 62)) 44 5 #[.int .u8 37, .int .u8 115] 2 2 Tryd.underlying44 Tryd.underlying5
        rw [hz2] at C2 kc2
        have HO := Lib.hid ho
        have HNO := Lib.hid hno
        have HB2 := Lib.hid hB2
        have HBB := Lib.hid b2
        have HC2 := Lib.hid C2
        clear ho hc hno hb1 b2 hB2 C2
        go_wp2_with fail
        refine HC2.out.mono ?_
        rintro e w3 ⟨oa3, no3, oc3, ca3, nc3, cc3, rfl, hno3, hnc3, hoc3, _, hb3, ho3, hc3⟩
        obtain rfl : nc3 = 0 := hnc3
        simp only []
        have kq := fun o => told_cells (W := w3.alloc o) (by rw [← hz2]; exact hb3.trans ((BelowA w3 o).mono hb3.size))
        have q0 := fun o => (kq o).1
        have q1 := fun o => (kq o).2.1
        have q2 := fun o => (kq o).2.2
        have ks1 := fun o => ownStr HO.out HNO.out (W := w3.alloc o) ((HBB.out.mono (Nat.le_refl _)).trans ((hb3.trans ((BelowA w3 o).mono hb3.size)).mono HBB.out.size)) (Nat.le_refl _)
        have ks2 := fun o => ownStr ho3 hno3 (W := w3.alloc o) (BelowA w3 o) (Nat.le_refl _)
        simp only [mk_bl] at ks1 ks2
        have HB3 := Lib.hid (HB2.out.trans (hb3.mono HB2.out.size))
        have CA := Lib.hid (fun o => fill_awake (w3.alloc o) A (HS.out.kept (HB3.out.trans ((BelowA w3 o).mono HB3.out.size)) (Nat.le_refl _)))
        clear hno3 hb3 ho3 hc3 kq
        go_wp2_with (go_at_call 39; refine (CA.out _).mono ?_; rintro e w5 ⟨rfl, hb5⟩; have HB5 := Lib.hid hb5; clear hb5)
        try go_ret
        exact ⟨rfl, HB3.out.trans (((BelowA w3 _).trans (HB5.out.mono (BelowA w3 _).size)).mono HB3.out.size)⟩
end Go.Proofs.YtkecmfjjekagiaaDoor
