/- The walk of pidginlaw15.FillAgain: it returns true. Conditions as typed. -/
import Derived.Test.YtkecmfjjekagiaaDoorTold
namespace Go.Proofs.YtkecmfjjekagiaaDoor
open Go.RowKit Pg

theorem lines_step (l : List ByteArray) (k : Nat) (hk : k < l.length) (V : ByteArray) (hV : bl V = lines ((l.take k).map bl)) : bl (V ++ (l[k] ++ ⟨#[10]⟩)) = lines ((l.take (k + 1)).map bl) := by
  rw [List.take_succ_eq_append_getElem hk, List.map_append, List.map_cons, List.map_nil, lines_append, bl_app, bl_app, hV]
  rfl

set_option maxRecDepth 100000 in
set_option maxHeartbeats 8000000 in
/-- FillAgain: it returns true. -/
theorem fillAgain_walk (a : Option Addr) (cap : Nat) (l : List ByteArray) (T : ByteArray) (w : World) (A : Nat → Addr) (hS : Sents0 w A) (hl : Ss w a cap l) (ht : T.size ≤ maxLen) :
    Calls Tryd.prog 12 #[.slice a l.length cap, .string T] w fun e w' => e = .returned (.bool true) ∧ Below w.heap.size w w' := by
  have HS := Lib.hid hS
  have HL := Lib.hid hl
  have hlc := hl.1
  have hcm := hl.2.1
  have HT := Lib.hid ht
  unfold maxLen at hcm ht
  have CA := Lib.hid (fun W (h : Below w.heap.size w W) => fill_awake W A (hS.kept h (Nat.le_refl _)))
  clear hS hl
  go_enter Tryd.func12, Tryd.ntmps12
  go_wp2_with fail
  go_loopw [5, 15] (fun tv kv wr => ∃ (k : Nat) (V : ByteArray), k ≤ l.length ∧ kv = .int .i64 k ∧ tv = .string V ∧ V.size ≤ 62000 ∧ Hid (bl V = lines ((l.take k).map bl)) ∧ Hid ((0 < k → l.length ≤ 64) ∧ ∀ s ∈ l.take k, s.size ≤ 1024) ∧ w = wr) (fun _ kv _ => l.length - (intOf kv).toNat)
  case atStart => exact ⟨0, ⟨#[]⟩, by omega, rfl, rfl, by decide, rfl, ⟨by omega, by simp⟩, rfl⟩
  case round =>
    obtain ⟨k, V, hk, rfl, rfl, hV, HV, HQ, rfl⟩ := hrel
    by_cases hlt : k < l.length
    · obtain ⟨b, off, rfl, hc⟩ := HL.out.2.2 k hlt
      have HN : Hid (bl (V ++ (l[k] ++ ⟨#[10]⟩)) = lines ((l.take (k + 1)).map bl)) := lines_step l k hlt V HV.out
      have HM : Hid (l.take (k + 1) = l.take k ++ [l[k]]) := List.take_succ_eq_append_getElem hlt
      obtain ⟨s, hs⟩ : ∃ s, l[k] = s := ⟨_, rfl⟩
      rw [hs] at hc HN HM
      clear hs
      by_cases h1 : 1024 < s.size
      · have d1 : decide (1024 < (s.size : Int)) = true := decide_eq_true (by omega)
        clear h1
        go_wp2_with (go_at_call 39; refine (CA.out _ (Below.refl _ _)).mono ?_; rintro e w' ⟨rfl, hb⟩; have HB := Lib.hid hb; clear hb)
        go_ret
        exact ⟨rfl, HB.out⟩
      · have d1 : decide (1024 < (s.size : Int)) = false := decide_eq_false (by omega)
        by_cases h2 : 64 < l.length
        · have d2 : decide (64 < (l.length : Int)) = true := decide_eq_true (by omega)
          clear h1 h2
          go_wp2_with (go_at_call 39; refine (CA.out _ (Below.refl _ _)).mono ?_; rintro e w' ⟨rfl, hb⟩; have HB := Lib.hid hb; clear hb)
          go_ret
          exact ⟨rfl, HB.out⟩
        · have d2 : decide (64 < (l.length : Int)) = false := decide_eq_false (by omega)
          by_cases h3 : 60000 < V.size
          · have d3 : decide (60000 < (V.size : Int)) = true := decide_eq_true (by omega)
            clear h1 h2 h3
            go_wp2_with (go_at_call 39; refine (CA.out _ (Below.refl _ _)).mono ?_; rintro e w' ⟨rfl, hb⟩; have HB := Lib.hid hb; clear hb)
            go_ret
            exact ⟨rfl, HB.out⟩
          · have d3 : decide (60000 < (V.size : Int)) = false := decide_eq_false (by omega)
            have HQ2 : Hid ((0 < k + 1 → l.length ≤ 64) ∧ ∀ s ∈ l.take (k + 1), s.size ≤ 1024) := by
              refine ⟨fun _ => by omega, fun z hz => ?_⟩
              rw [HM.out] at hz
              rcases List.mem_append.1 hz with hz | hz
              · exact HQ.out.2 z hz
              · rw [List.mem_singleton.1 hz]; omega
            have hz1 : s.size ≤ 1024 := by omega
            have hz2 : (s ++ (⟨#[10]⟩ : ByteArray)).size ≤ 1025 := by rw [ByteArray.size_append]; show s.size + 1 ≤ _; omega
            have hz3 : (V ++ (s ++ (⟨#[10]⟩ : ByteArray))).size ≤ 62000 := by rw [ByteArray.size_append]; omega
            go_wp2_with fail
            go_roundw
            case rel => exact ⟨k + 1, _, by omega, by go_num, rfl, hz3, HN, HQ2, trivial⟩
            case measure => simp [intOf]; omega
    · have hkl : k = l.length := by omega
      have hall : ∀ s ∈ l.map bl, s.length ≤ 1024 := by
        intro s hs
        obtain ⟨z, hz, rfl⟩ := List.mem_map.1 hs
        rw [bl_length]
        exact HQ.out.2 z (by rw [List.take_of_length_le (by omega)]; exact hz)
      have h64 : (l.map bl).length ≤ 64 := by
        rw [List.length_map]
        rcases Nat.eq_zero_or_pos k with h | h
        · omega
        · exact HQ.out.1 h
      have hVl : bl V = lines (l.map bl) := by have := HV.out; rwa [List.take_of_length_le (by omega)] at this
      have HP := Lib.hid (printf_lines (l.map bl) h64 hall (by rw [← hVl, bl_length]; omega))
      have HPP := Lib.hid (fun (s : List UInt8) h1 h2 => printf_plain s (l.map bl) h1 h2 h64 hall)
      have d0 : decide (65536 < (V.size : Int)) = false := decide_eq_false (by omega)
      have hmk : (⟨(if (l.map bl).length = 0 then [10] else lines (l.map bl)).toArray⟩ : ByteArray) = if l.length = 0 then ⟨#[10]⟩ else V := by
        rw [List.length_map]
        split
        · rfl
        · rw [← hVl, mk_bl]
      have kc := Lib.run_convert_bytes_const (P := Tryd.prog) w 44 5 #[.int .u8 37, .int .u8 115, .int .u8 92, .int .u8 110] 4 4 Tryd.underlying44 Tryd.underlying5
      have b1 := BelowA w (.cells #[.int .u8 37, .int .u8 115, .int .u8 92, .int .u8 110] 5 (4, 5))
      have hbs : Bs (w.alloc (.cells #[.int .u8 37, .int .u8 115, .int .u8 92, .int .u8 110] 5 (4, 5))) (some ⟨w.heap.size, 0, none⟩) 4 [37, 115, 92, 110] := Bs.marked w 5 (4, 5) [37, 115, 92, 110] (by decide)
      have C1 := fill_told (w.alloc (.cells #[.int .u8 37, .int .u8 115, .int .u8 92, .int .u8 110] 5 (4, 5))) A (HS.out.kept b1 (Nat.le_refl _)) _ _ _ hbs _ _ l (HL.out.below b1 (Nat.le_refl _)) _ rfl _ HP.out
      have HC1 := Lib.hid (C1.mono fun _ _ h => h.down b1)
      have HMK := Lib.hid hmk
      clear hVl hmk b1 hbs C1 hall h64
      obtain ⟨V2, hV2⟩ : ∃ V2 : ByteArray, V2 = if l.length = 0 then ⟨#[10]⟩ else V := ⟨_, rfl⟩
      have HV2 := Lib.hid hV2
      have hV2' : (l.length = 0 → V2 = ⟨#[10]⟩) ∧ (l.length ≠ 0 → V2 = V) := ⟨fun h => by rw [hV2, if_pos h], fun h => by rw [hV2, if_neg h]⟩
      have HV3 := Lib.hid hV2'
      clear hV2 hV2' hkl
      by_cases hl0 : l.length = 0
      · have el : ((l.length : Int) == 0) = true := beq_iff_eq.2 (by omega)
        have hv : V2 = ⟨#[10]⟩ := HV3.out.1 hl0
        clear hl0
        go_wp2_with fail
        refine HC1.out.mono ?_
        rintro e w1 ⟨oa, no, oc, ca, nc, cc, rfl, hno, hnc, hoc, _, hb1, ho, hc⟩
        obtain rfl : nc = 0 := hnc
        simp only []
        have ks : ∀ o, (convert 44 9 (.slice oa no oc)).run Tryd.prog (w1.alloc o) = .ok (.string ⟨#[10]⟩) (w1.alloc o) := fun o => by
          refine (ownStr ho hno (W := w1.alloc o) (BelowA w1 o) (Nat.le_refl _)).trans ?_
          show Result.ok (Value.string ⟨(if (l.map bl).length = 0 then [10] else lines (l.map bl)).toArray⟩) _ = _
          rw [HMK.out, ← HV2.out, hv]
        have HB1 := Lib.hid hb1
        clear hno hb1 ho hc
        go_wp2_with fail
        have b2 := BelowA w1 (.cells #[.slice oa no oc, .slice ca 0 cc, .bool false] 62)
        generalize w1.alloc (.cells #[.slice oa no oc, .slice ca 0 cc, .bool false] 62) = W at *
        have HW := Lib.hid (HB1.out.trans (b2.mono HB1.out.size))
        have CW := Lib.hid (CA.out W HW.out)
        clear b2 ks
        go_loopw [73] (fun kv wr => ∃ j : Nat, j ≤ T.size ∧ kv = .int .i64 j ∧ Hid ((0 < j → T.size ≤ 1024) ∧ ∀ i (h : i < T.size), i < j → T[i].toNat ≠ 37 ∧ T[i].toNat ≠ 92) ∧ W = wr) (fun kv _ => T.size - (intOf kv).toNat)
        case atStart => exact ⟨0, by omega, rfl, ⟨by omega, fun i _ h => by omega⟩, rfl⟩
        case round =>
          obtain ⟨j, hj, rfl, HJ, rfl⟩ := hrel
          by_cases hjt : j < T.size
          · by_cases h37 : T[j].toNat = 37
            · have x1 : ((T[j].toNat : Int) == 37) = true := beq_iff_eq.2 (by omega)
              clear h37
              go_wp2_with (go_at_call 39; refine CW.out.mono ?_; rintro e w' ⟨rfl, hb⟩; have HB := Lib.hid hb; clear hb)
              go_ret
              exact ⟨rfl, HW.out.trans (HB.out.mono HW.out.size)⟩
            · have x1 : ((T[j].toNat : Int) == 37) = false := beq_eq_false_iff_ne.2 (by omega)
              by_cases h92 : T[j].toNat = 92
              · have x2 : ((T[j].toNat : Int) == 92) = true := beq_iff_eq.2 (by omega)
                clear h37 h92
                go_wp2_with (go_at_call 39; refine CW.out.mono ?_; rintro e w' ⟨rfl, hb⟩; have HB := Lib.hid hb; clear hb)
                go_ret
                exact ⟨rfl, HW.out.trans (HB.out.mono HW.out.size)⟩
              · have x2 : ((T[j].toNat : Int) == 92) = false := beq_eq_false_iff_ne.2 (by omega)
                by_cases hbig : 1024 < T.size
                · have x3 : decide (1024 < (T.size : Int)) = true := decide_eq_true (by omega)
                  clear h37 h92 hbig
                  go_wp2_with (go_at_call 39; refine CW.out.mono ?_; rintro e w' ⟨rfl, hb⟩; have HB := Lib.hid hb; clear hb)
                  go_ret
                  exact ⟨rfl, HW.out.trans (HB.out.mono HW.out.size)⟩
                · have x3 : decide (1024 < (T.size : Int)) = false := decide_eq_false (by omega)
                  have HJ2 : Hid ((0 < j + 1 → T.size ≤ 1024) ∧ ∀ i (h : i < T.size), i < j + 1 → T[i].toNat ≠ 37 ∧ T[i].toNat ≠ 92) := by
                    refine ⟨fun _ => by omega, fun i h hi => ?_⟩
                    rcases Nat.lt_or_ge i j with h' | h'
                    · exact HJ.out.2 i h h'
                    · obtain rfl : i = j := by omega
                      exact ⟨h37, h92⟩
                  clear h37 h92 hbig
                  go_wp2_with fail
                  go_roundw
                  case rel => exact ⟨j + 1, by omega, by go_num, HJ2, trivial⟩
                  case measure => simp [intOf]; omega
          · have hT1 : (bl T).length ≤ 1024 := by
              rw [bl_length]
              rcases Nat.eq_zero_or_pos j with h | h
              · omega
              · exact HJ.out.1 h
            have hT2 : ∀ c ∈ bl T, c.toNat ≠ 37 ∧ c.toNat ≠ 92 := by
              intro c hc
              obtain ⟨i, hi, rfl⟩ := List.mem_iff_getElem.1 hc
              rw [bl_length] at hi
              exact HJ.out.2 i hi (by omega)
            have hP2 := HPP.out (bl T) hT2 hT1
            have rc := Lib.run_convert_string_bytes (P := Tryd.prog) W 9 44 5 T Tryd.underlying9 Tryd.underlying44 Tryd.underlying5
            have hbw := bytes_below W T
            have hbs := bytes_bs W T HT.out
            generalize Lib.bytesWorld W 5 T = X at *
            generalize grownCap W T.size 0 5 = gc at *
            have hX := HW.out.trans (hbw.mono HW.out.size)
            have CP := fill_told X A (HS.out.kept hX (Nat.le_refl _)) _ _ (bl T) hbs _ _ l (HL.out.below hX (Nat.le_refl _)) _ rfl _ hP2
            rw [bl_length] at CP
            have HCP := Lib.hid CP
            have HX := Lib.hid hX
            clear hP2 hbw hbs hX CP hT1 hT2
            go_wp2_with fail
            refine HCP.out.mono ?_
            rintro e x1 ⟨pa, mo, pc, qa, mc, qc, rfl, hmo, hmc, _, _, hx1, hpo, _⟩
            obtain rfl : mc = 0 := hmc
            simp only []
            have js : ∀ o, (convert 44 9 (.slice pa mo pc)).run Tryd.prog (x1.alloc o) = .ok (.string T) (x1.alloc o) := fun o => by
              refine (ownStr hpo hmo (W := x1.alloc o) (BelowA x1 o) (Nat.le_refl _)).trans ?_
              show Result.ok (Value.string ⟨(bl T).toArray⟩) _ = _
              rw [mk_bl]
            have HX1 := Lib.hid (HX.out.trans (hx1.mono HX.out.size))
            have CZ := Lib.hid (fun o => CA.out (x1.alloc o) (HX1.out.trans ((BelowA x1 o).mono HX1.out.size)))
            clear hmo hx1 hpo
            go_wp2_with (go_at_call 39; refine (CZ.out _).mono ?_; rintro e w' ⟨rfl, hb⟩; have HB := Lib.hid hb; clear hb)
            go_ret
            exact ⟨rfl, HX1.out.trans (((BelowA x1 _).trans (HB.out.mono (BelowA x1 _).size)).mono HX1.out.size)⟩
      · have el : ((l.length : Int) == 0) = false := beq_eq_false_iff_ne.2 (by omega)
        have hv : V2 = V := HV3.out.2 hl0
        clear hl0
        subst hv
        go_wp2_with fail
        refine HC1.out.mono ?_
        rintro e w1 ⟨oa, no, oc, ca, nc, cc, rfl, hno, hnc, hoc, _, hb1, ho, hc⟩
        obtain rfl : nc = 0 := hnc
        simp only []
        have ks : ∀ o, (convert 44 9 (.slice oa no oc)).run Tryd.prog (w1.alloc o) = .ok (.string V2) (w1.alloc o) := fun o => by
          refine (ownStr ho hno (W := w1.alloc o) (BelowA w1 o) (Nat.le_refl _)).trans ?_
          show Result.ok (Value.string ⟨(if (l.map bl).length = 0 then [10] else lines (l.map bl)).toArray⟩) _ = _
          rw [HMK.out, ← HV2.out]
        have HB1 := Lib.hid hb1
        clear hno hb1 ho hc
        go_wp2_with fail
        have b2 := BelowA w1 (.cells #[.slice oa no oc, .slice ca 0 cc, .bool false] 62)
        generalize w1.alloc (.cells #[.slice oa no oc, .slice ca 0 cc, .bool false] 62) = W at *
        have HW := Lib.hid (HB1.out.trans (b2.mono HB1.out.size))
        have CW := Lib.hid (CA.out W HW.out)
        clear b2 ks
        go_loopw [73] (fun kv wr => ∃ j : Nat, j ≤ T.size ∧ kv = .int .i64 j ∧ Hid ((0 < j → T.size ≤ 1024) ∧ ∀ i (h : i < T.size), i < j → T[i].toNat ≠ 37 ∧ T[i].toNat ≠ 92) ∧ W = wr) (fun kv _ => T.size - (intOf kv).toNat)
        case atStart => exact ⟨0, by omega, rfl, ⟨by omega, fun i _ h => by omega⟩, rfl⟩
        case round =>
          obtain ⟨j, hj, rfl, HJ, rfl⟩ := hrel
          by_cases hjt : j < T.size
          · by_cases h37 : T[j].toNat = 37
            · have x1 : ((T[j].toNat : Int) == 37) = true := beq_iff_eq.2 (by omega)
              clear h37
              go_wp2_with (go_at_call 39; refine CW.out.mono ?_; rintro e w' ⟨rfl, hb⟩; have HB := Lib.hid hb; clear hb)
              go_ret
              exact ⟨rfl, HW.out.trans (HB.out.mono HW.out.size)⟩
            · have x1 : ((T[j].toNat : Int) == 37) = false := beq_eq_false_iff_ne.2 (by omega)
              by_cases h92 : T[j].toNat = 92
              · have x2 : ((T[j].toNat : Int) == 92) = true := beq_iff_eq.2 (by omega)
                clear h37 h92
                go_wp2_with (go_at_call 39; refine CW.out.mono ?_; rintro e w' ⟨rfl, hb⟩; have HB := Lib.hid hb; clear hb)
                go_ret
                exact ⟨rfl, HW.out.trans (HB.out.mono HW.out.size)⟩
              · have x2 : ((T[j].toNat : Int) == 92) = false := beq_eq_false_iff_ne.2 (by omega)
                by_cases hbig : 1024 < T.size
                · have x3 : decide (1024 < (T.size : Int)) = true := decide_eq_true (by omega)
                  clear h37 h92 hbig
                  go_wp2_with (go_at_call 39; refine CW.out.mono ?_; rintro e w' ⟨rfl, hb⟩; have HB := Lib.hid hb; clear hb)
                  go_ret
                  exact ⟨rfl, HW.out.trans (HB.out.mono HW.out.size)⟩
                · have x3 : decide (1024 < (T.size : Int)) = false := decide_eq_false (by omega)
                  have HJ2 : Hid ((0 < j + 1 → T.size ≤ 1024) ∧ ∀ i (h : i < T.size), i < j + 1 → T[i].toNat ≠ 37 ∧ T[i].toNat ≠ 92) := by
                    refine ⟨fun _ => by omega, fun i h hi => ?_⟩
                    rcases Nat.lt_or_ge i j with h' | h'
                    · exact HJ.out.2 i h h'
                    · obtain rfl : i = j := by omega
                      exact ⟨h37, h92⟩
                  clear h37 h92 hbig
                  go_wp2_with fail
                  go_roundw
                  case rel => exact ⟨j + 1, by omega, by go_num, HJ2, trivial⟩
                  case measure => simp [intOf]; omega
          · have hT1 : (bl T).length ≤ 1024 := by
              rw [bl_length]
              rcases Nat.eq_zero_or_pos j with h | h
              · omega
              · exact HJ.out.1 h
            have hT2 : ∀ c ∈ bl T, c.toNat ≠ 37 ∧ c.toNat ≠ 92 := by
              intro c hc
              obtain ⟨i, hi, rfl⟩ := List.mem_iff_getElem.1 hc
              rw [bl_length] at hi
              exact HJ.out.2 i hi (by omega)
            have hP2 := HPP.out (bl T) hT2 hT1
            have rc := Lib.run_convert_string_bytes (P := Tryd.prog) W 9 44 5 T Tryd.underlying9 Tryd.underlying44 Tryd.underlying5
            have hbw := bytes_below W T
            have hbs := bytes_bs W T HT.out
            generalize Lib.bytesWorld W 5 T = X at *
            generalize grownCap W T.size 0 5 = gc at *
            have hX := HW.out.trans (hbw.mono HW.out.size)
            have CP := fill_told X A (HS.out.kept hX (Nat.le_refl _)) _ _ (bl T) hbs _ _ l (HL.out.below hX (Nat.le_refl _)) _ rfl _ hP2
            rw [bl_length] at CP
            have HCP := Lib.hid CP
            have HX := Lib.hid hX
            clear hP2 hbw hbs hX CP hT1 hT2
            go_wp2_with fail
            refine HCP.out.mono ?_
            rintro e x1 ⟨pa, mo, pc, qa, mc, qc, rfl, hmo, hmc, _, _, hx1, hpo, _⟩
            obtain rfl : mc = 0 := hmc
            simp only []
            have js : ∀ o, (convert 44 9 (.slice pa mo pc)).run Tryd.prog (x1.alloc o) = .ok (.string T) (x1.alloc o) := fun o => by
              refine (ownStr hpo hmo (W := x1.alloc o) (BelowA x1 o) (Nat.le_refl _)).trans ?_
              show Result.ok (Value.string ⟨(bl T).toArray⟩) _ = _
              rw [mk_bl]
            have HX1 := Lib.hid (HX.out.trans (hx1.mono HX.out.size))
            have CZ := Lib.hid (fun o => CA.out (x1.alloc o) (HX1.out.trans ((BelowA x1 o).mono HX1.out.size)))
            clear hmo hx1 hpo
            go_wp2_with (go_at_call 39; refine (CZ.out _).mono ?_; rintro e w' ⟨rfl, hb⟩; have HB := Lib.hid hb; clear hb)
            go_ret
            exact ⟨rfl, HX1.out.trans (((BelowA x1 _).trans (HB.out.mono (BelowA x1 _).size)).mono HX1.out.size)⟩
end Go.Proofs.YtkecmfjjekagiaaDoor
