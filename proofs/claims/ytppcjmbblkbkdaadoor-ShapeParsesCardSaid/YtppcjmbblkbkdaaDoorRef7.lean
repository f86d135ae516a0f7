/- The walk of pidginref14.conversion. Conditions as typed. -/
import Derived.Test.YtppcjmbblkbkdaaDoorRef5
import Derived.Deep.CutRange
namespace Go.Proofs.YtppcjmbblkbkdaaDoor
open Go.RowKit Pg

theorem ref_F (c p g : Int) (w : World) : Calls Tryd.prog 42 #[.int .i64 c, .int .i64 p, .int .i64 g] w fun e w' => e = .returned (.agg #[.int .i64 c, .int .i64 p, .int .i64 g]) ∧ w' = w.alloc (.cells #[.int .i64 c, .int .i64 p, .int .i64 g] 23) := by
  go_enter Tryd.func42, Tryd.ntmps42
  go_wp2_with fail
  try rw [Exit.noGoto_ret]
  refine bodyPost_ret (v := .agg #[.int .i64 c, .int .i64 p, .int .i64 g]) (by simp [results, Tryd.results42, go_sem]) rfl ?_
  exact ⟨rfl, rfl⟩
/-- pidginref14.fault. -/
theorem ref_fault (c p : Int) (w : World) : Calls Tryd.prog 26 #[.int .i64 c, .int .i64 p] w fun e w' => e = .returned (.agg #[.int .i64 c, .int .i64 p, .int .i64 5]) ∧ w' = (w.alloc (.cells #[.int .i64 c, .int .i64 p, .int .i64 5] 23)).alloc (.cells #[.int .i64 c, .int .i64 p, .int .i64 5] 23) := by
  have C := Lib.hid (fun W => ref_F c p 5 W)
  go_enter Tryd.func26, Tryd.ntmps26
  go_wp2_with (go_at_call 42; refine (C.out _).mono ?_; rintro e w' ⟨rfl, rfl⟩)
  try rw [Exit.noGoto_ret]
  refine bodyPost_ret (v := .agg #[.int .i64 c, .int .i64 p, .int .i64 5]) (by simp [results, Tryd.results26, go_sem]) rfl ?_
  exact ⟨rfl, rfl⟩
theorem ref_In_fl (x : Nat) (W : World) : Calls Tryd.prog 44 #[.int .u8 x, .string ⟨#[45, 43, 32, 48, 35]⟩] W fun e w' => e = .returned (.bool (isFl x)) ∧ W = w' := by
  have h := ref_In x ⟨#[45, 43, 32, 48, 35]⟩ (by decide) W
  rwa [show bl ⟨#[45, 43, 32, 48, 35]⟩ = [45, 43, 32, 48, 35] from rfl, inFl] at h
theorem ref_In_conv (x : Nat) (W : World) : Calls Tryd.prog 44 #[.int .u8 x, .string ⟨#[99, 115, 98, 100, 105, 111, 117, 120, 88]⟩] W fun e w' => e = .returned (.bool (isIn x [99, 115, 98, 100, 105, 111, 117, 120, 88])) ∧ W = w' :=
  ref_In x ⟨#[99, 115, 98, 100, 105, 111, 117, 120, 88]⟩ (by decide) W
theorem ref_Digits_c7 (a : Option Addr) (cap : Nat) (l : List UInt8) (w : World) (hl : Bs w a cap l) (k : Nat) (hk : k ≤ l.length) :
    Calls Tryd.prog 43 #[.slice (cutA a cap k) (l.length - k) (cap - k), .int .i64 10] w fun e w' => e = .returned (.tuple #[.int .i64 (digits 10 (l.drop k)).1, .int .i64 (digits 10 (l.drop k)).2.1, .bool (digits 10 (l.drop k)).2.2]) ∧ w = w' := by
  have := ref_Digits (cutA a cap k) (cap - k) (l.drop k) 10 (by omega) (by omega) w (hl.cut k hk)
  rwa [List.length_drop] at this
theorem number_big {l : List UInt8} (h : 1000 < (digits 10 l).1) : number l = none := by rw [number_iff, if_pos h]
theorem number_fit {l : List UInt8} (h : ¬ 1000 < (digits 10 l).1) : number l = some ((digits 10 l).1, (digits 10 l).2.1) := by rw [number_iff, if_neg h]

set_option maxRecDepth 100000 in
set_option maxHeartbeats 4000000 in
/-- pidginref14.conversion, where no percent stands. -/
theorem ref_conversion (a : Option Addr) (cap : Nat) (l : List UInt8) (w : World) (hl : Bs w a cap l) (i : Nat) (hi : i ≤ l.length) (h37 : ¬ (i < l.length ∧ (l.getD i 0).toNat = 37)) :
    Calls Tryd.prog 28 #[.slice a l.length cap, .int .i64 i] w (RConvPost w (conv l i)) := by
  have HL := Lib.hid hl
  have hlc := hl.1
  have hcm := hl.2.1
  unfold maxLen at hcm
  have H37 := Lib.hid h37
  have CF := Lib.hid ref_fault
  clear hl h37
  go_enter Tryd.func28, Tryd.ntmps28
  go_wp2_with fail
  go_loopw [1] (fun t wr => ∃ (kk : Nat) (f : Fl), i + kk ≤ l.length ∧ t = .int .i64 ↑(i + kk) ∧ Hid (flags (l.drop (i + kk)) f kk = flags (l.drop i) fl0 0) ∧ wr = ((w.alloc (.cells #[.slice none 0 0, .int .u8 0, .bool false, .bool false, .bool false, .bool false, .bool false, .int .i64 0, .int .i64 0] 57)).alloc (.cells #[.int .i64 0, .int .i64 0, .int .i64 0] 23)).alloc (.cells #[.slice none 0 0, .int .u8 0, .bool f.minus, .bool f.plus, .bool f.space, .bool f.zero, .bool f.alt, .int .i64 0, .int .i64 (-1)] 57)) (fun t _ => l.length - (intOf t).toNat)
  case atStart => exact ⟨0, fl0, by omega, rfl, rfl, rfl⟩
  case round =>
    obtain ⟨kk, f, hk, rfl, HR, rfl⟩ := hrel
    obtain ⟨j, hj⟩ : ∃ j, j = i + kk := ⟨_, rfl⟩
    rw [← hj] at hk HR ⊢
    have hij : i ≤ j := by omega
    have HJ := Lib.hid hj
    clear hj
    have bW : Below w.heap.size w (((w.alloc (.cells #[.slice none 0 0, .int .u8 0, .bool false, .bool false, .bool false, .bool false, .bool false, .int .i64 0, .int .i64 0] 57)).alloc (.cells #[.int .i64 0, .int .i64 0, .int .i64 0] 23)).alloc (.cells #[.slice none 0 0, .int .u8 0, .bool f.minus, .bool f.plus, .bool f.space, .bool f.zero, .bool f.alt, .int .i64 0, .int .i64 (-1)] 57)) := (((Below.refl _ _).alloc (Nat.le_refl _) _).alloc (by simp) _).alloc (by simp; omega) _
    have HLW := Lib.hid (HL.out.below bW (Nat.le_refl _))
    clear bW
    go_upto_region 2 with (fail)
    go_cut [22] from 12 to 41 (fun t wx => ∃ D : Bool, Hid (D = (decide (j < l.length) && isFl (l.getD j 0).toNat)) ∧ t = .bool D ∧ wx = ((w.alloc (.cells #[.slice none 0 0, .int .u8 0, .bool false, .bool false, .bool false, .bool false, .bool false, .int .i64 0, .int .i64 0] 57)).alloc (.cells #[.int .i64 0, .int .i64 0, .int .i64 0] 23)).alloc (.cells #[.slice none 0 0, .int .u8 0, .bool f.minus, .bool f.plus, .bool f.space, .bool f.zero, .bool f.alt, .int .i64 0, .int .i64 (-1)] 57))
    case first =>
      by_cases hlt : j < l.length
      · obtain ⟨b, off, rfl, hc0⟩ := HLW.out.head j hlt
        obtain ⟨x, hx⟩ : ∃ x, (l.getD j 0).toNat = x := ⟨_, rfl⟩
        rw [hx] at hc0
        have C := Lib.hid (fun W => ref_In_fl x W)
        have HD : Hid (isFl x = (decide (j < l.length) && isFl (l.getD j 0).toNat)) := by
          show _ = _
          rw [hx, decide_eq_true hlt, Bool.true_and]
        clear hx
        generalize isFl x = D at *
        go_wp2_with (go_at_call 44; refine (C.out _).mono ?_; rintro e w' ⟨rfl, rfl⟩)
        go_meet
        exact ⟨D, HD.out, rfl, rfl⟩
      · have HD : Hid (false = (decide (j < l.length) && isFl (l.getD j 0).toNat)) := by
          show _ = _
          rw [decide_eq_false hlt, Bool.false_and]
        go_wp2_with fail
        go_meet
        exact ⟨false, HD.out, rfl, rfl⟩
    case rest =>
      obtain ⟨D, HD, rfl, rfl⟩ := hcut
      cases D
      · have HCW : Hid (conv l i = convWidth l i f j) := by
          show _ = _
          have hd := HD.out.symm
          rw [HJ.out]
          refine conv_flags (HR.out.symm.trans ?_)
          by_cases hlt : j < l.length
          · rw [decide_eq_true hlt, Bool.true_and] at hd
            exact flags_no' hlt rfl hd
          · exact flags_end l f kk j (by omega)
        clear HD HR HJ
        have hcut1 := run_cutFrom (P := Tryd.prog) Tryd.underlying27 u8_size a l cap j hk (j : Int) rfl
        have C1 := Lib.hid (ref_Digits_c7 a cap l _ HLW.out j hk)
        have hdl := (digits_le 10 (by omega) (l.drop j)).2
        rw [List.length_drop] at hdl
        have hbig := @number_big (l.drop j)
        have hfit := @number_fit (l.drop j)
        generalize digits 10 (l.drop j) = d at *
        obtain ⟨n, k, ov⟩ := d
        simp only [] at hdl hbig hfit C1
        by_cases hb : 1000 < n
        · have e1 : decide (1000 < (n : Int)) = true := decide_eq_true (by omega)
          have HN := Lib.hid (HCW.out.trans (convWidth_no (hbig hb)))
          clear hbig hfit hb
          go_upto_region 16 with (go_at_call 43; refine C1.out.mono ?_; rintro e w' ⟨rfl, rfl⟩)
          go_region_with (go_at_call 26; refine (CF.out _ _ _).mono ?_; rintro e w' ⟨rfl, rfl⟩)
          all_goals go_wp2_with fail
          all_goals try rw [Exit.noGoto_ret]
          all_goals refine bodyPost_ret (v := .tuple #[.agg (partCells (.slice none 0 0) ⟨[], 0, f, 0, -1⟩), .int .i64 0, .agg #[.int .i64 6, .int .i64 j, .int .i64 5]]) (by simp [results, Tryd.results28, go_sem, partCells]) rfl ?_
          all_goals exact rconv_err HN.out (by repeat' first | exact Below.refl _ _ | (refine Below.drew ?_) | (refine Below.alloc ?_ (by simp <;> omega) _)) _ rfl
        · have e1 : decide (1000 < (n : Int)) = false := decide_eq_false (by omega)
          obtain ⟨j1, hj1⟩ : ∃ j1, j1 = j + k := ⟨_, rfl⟩
          have ej : ((j : Int) + (k : Int)) = (j1 : Int) := by omega
          have HN : Hid (conv l i = convPrec l i f n j1) := by rw [hj1]; exact HCW.out.trans (convWidth_ok (hfit hb))
          have hj1l : j1 ≤ l.length := by omega
          have hij1 : i ≤ j1 := by omega
          have hn1 : n ≤ 1000 := by omega
          have bW : Below w.heap.size w (((w.alloc (.cells #[.slice none 0 0, .int .u8 0, .bool false, .bool false, .bool false, .bool false, .bool false, .int .i64 0, .int .i64 0] 57)).alloc (.cells #[.int .i64 0, .int .i64 0, .int .i64 0] 23)).alloc (.cells #[.slice none 0 0, .int .u8 0, .bool f.minus, .bool f.plus, .bool f.space, .bool f.zero, .bool f.alt, .int .i64 n, .int .i64 (-1)] 57)) := (((Below.refl _ _).alloc (Nat.le_refl _) _).alloc (by simp) _).alloc (by simp; omega) _
          have HLW1 := Lib.hid (HL.out.below bW (Nat.le_refl _))
          clear hbig hfit hb hj1 hdl bW HCW
          go_upto_region 19 with (go_at_call 43; refine C1.out.mono ?_; rintro e w' ⟨rfl, rfl⟩)
          clear C1 hcut1 ej e1
          go_cut [70] (fun t wx => ∃ D : Bool, Hid (D = decide (j1 < l.length ∧ (l.getD j1 0).toNat = 46)) ∧ t = .bool D ∧ wx = ((w.alloc (.cells #[.slice none 0 0, .int .u8 0, .bool false, .bool false, .bool false, .bool false, .bool false, .int .i64 0, .int .i64 0] 57)).alloc (.cells #[.int .i64 0, .int .i64 0, .int .i64 0] 23)).alloc (.cells #[.slice none 0 0, .int .u8 0, .bool f.minus, .bool f.plus, .bool f.space, .bool f.zero, .bool f.alt, .int .i64 n, .int .i64 (-1)] 57))
          case first =>
            by_cases hlt : j1 < l.length
            · obtain ⟨b, off, rfl, hc0⟩ := HLW1.out.head j1 hlt
              obtain ⟨x, hx⟩ : ∃ x, (l.getD j1 0).toNat = x := ⟨_, rfl⟩
              rw [hx] at hc0
              have HX := Lib.hid hx
              clear hx
              by_cases h46 : x = 46
              · have e46 := beqT h46
                have HD : Hid (true = decide (j1 < l.length ∧ (l.getD j1 0).toNat = 46)) := (decide_eq_true ⟨hlt, HX.out.trans h46⟩).symm
                simp only [Int.cast_ofNat_Int] at e46
                clear h46
                go_wp2_with fail
                go_meet
                exact ⟨true, HD, rfl, rfl⟩
              · have e46 := beqF h46
                have HD : Hid (false = decide (j1 < l.length ∧ (l.getD j1 0).toNat = 46)) := (decide_eq_false fun h => h46 (HX.out.symm.trans h.2)).symm
                simp only [Int.cast_ofNat_Int] at e46
                clear h46
                go_wp2_with fail
                go_meet
                exact ⟨false, HD, rfl, rfl⟩
            · have HD : Hid (false = decide (j1 < l.length ∧ (l.getD j1 0).toNat = 46)) := (decide_eq_false fun h => hlt h.1).symm
              go_wp2_with fail
              go_meet
              exact ⟨false, HD, rfl, rfl⟩
          case rest =>
            obtain ⟨D, HD, rfl, rfl⟩ := hcut
            go_upto_if 70 with (fail)
            go_cut [1] (fun t wx => ∃ (j2 : Nat) (pr : Int), i ≤ j2 ∧ j2 ≤ l.length ∧ Hid (conv l i = convEnd l i f n pr j2) ∧ t = .int .i64 j2 ∧ wx = ((w.alloc (.cells #[.slice none 0 0, .int .u8 0, .bool false, .bool false, .bool false, .bool false, .bool false, .int .i64 0, .int .i64 0] 57)).alloc (.cells #[.int .i64 0, .int .i64 0, .int .i64 0] 23)).alloc (.cells #[.slice none 0 0, .int .u8 0, .bool f.minus, .bool f.plus, .bool f.space, .bool f.zero, .bool f.alt, .int .i64 n, .int .i64 pr] 57))
            case first =>
              cases D
              · go_wp2_with fail
                go_meet
                exact ⟨j1, -1, by omega, by omega, HN.out.trans (convPrec_nil (of_decide_eq_false HD.out.symm)), rfl, rfl⟩
              · have hd := of_decide_eq_true HD.out.symm
                have hlt := hd.1
                have H46 := Lib.hid hd.2
                clear hd HD
                have hcut2 := run_cutFrom (P := Tryd.prog) Tryd.underlying27 u8_size a l cap (j1 + 1) (by omega) ((j1 : Int) + 1) (by omega)
                have C2 := Lib.hid (ref_Digits_c7 a cap l _ HLW1.out (j1 + 1) (by omega))
                have hdl := (digits_le 10 (by omega) (l.drop (j1 + 1))).2
                rw [List.length_drop] at hdl
                have hbig := @number_big (l.drop (j1 + 1))
                have hfit := @number_fit (l.drop (j1 + 1))
                generalize digits 10 (l.drop (j1 + 1)) = d at *
                obtain ⟨m, k2, ov2⟩ := d
                simp only [] at hdl hbig hfit C2
                by_cases hb : 1000 < m
                · have e1 : decide (1000 < (m : Int)) = true := decide_eq_true (by omega)
                  have HE := Lib.hid (HN.out.trans (convPrec_no hlt H46.out (hbig hb)))
                  clear hbig hfit hb
                  go_upto_region 23 with (go_at_call 43; refine C2.out.mono ?_; rintro e w' ⟨rfl, rfl⟩)
                  go_region_with (go_at_call 26; refine (CF.out _ _ _).mono ?_; rintro e w' ⟨rfl, rfl⟩)
                  all_goals go_wp2_with fail
                  all_goals try rw [Exit.noGoto_ret]
                  all_goals refine bodyPost_ret (v := .tuple #[.agg (partCells (.slice none 0 0) ⟨[], 0, f, n, -1⟩), .int .i64 0, .agg #[.int .i64 6, .int .i64 (j1 + 1), .int .i64 5]]) (by simp [results, Tryd.results28, go_sem, partCells]) rfl ?_
                  all_goals exact rconv_err HE.out (by repeat' first | exact Below.refl _ _ | (refine Below.drew ?_) | (refine Below.alloc ?_ (by simp <;> omega) _)) _ rfl
                · have e1 : decide (1000 < (m : Int)) = false := decide_eq_false (by omega)
                  obtain ⟨j2, hj2⟩ : ∃ j2, j2 = j1 + 1 + k2 := ⟨_, rfl⟩
                  have ej : ((j1 : Int) + 1 + (k2 : Int)) = (j2 : Int) := by omega
                  have HE : Hid (conv l i = convEnd l i f n m j2) := by rw [hj2]; exact HN.out.trans (convPrec_ok hlt H46.out (hfit hb))
                  have hj2l : j2 ≤ l.length := by omega
                  have hij2 : i ≤ j2 := by omega
                  have hm1 : m ≤ 1000 := by omega
                  clear hbig hfit hb hj2 hdl
                  go_wp2_with fail
                  refine C2.out.mono ?_
                  rintro e w' ⟨rfl, rfl⟩
                  go_wp2_with fail
                  go_meet
                  exact ⟨j2, m, by omega, by omega, HE.out, rfl, rfl⟩
            case rest =>
              obtain ⟨j2, pr, hij2, hj2, HE, rfl, rfl⟩ := hcut
              have bW : Below w.heap.size w (((w.alloc (.cells #[.slice none 0 0, .int .u8 0, .bool false, .bool false, .bool false, .bool false, .bool false, .int .i64 0, .int .i64 0] 57)).alloc (.cells #[.int .i64 0, .int .i64 0, .int .i64 0] 23)).alloc (.cells #[.slice none 0 0, .int .u8 0, .bool f.minus, .bool f.plus, .bool f.space, .bool f.zero, .bool f.alt, .int .i64 n, .int .i64 pr] 57)) := (((Below.refl _ _).alloc (Nat.le_refl _) _).alloc (by simp) _).alloc (by simp; omega) _
              have HLW2 := Lib.hid (HL.out.below bW (Nat.le_refl _))
              clear bW
              by_cases hlt : j2 < l.length
              · obtain ⟨b, off, rfl, hc0⟩ := HLW2.out.head j2 hlt
                have hb := lt_of_cell hc0
                obtain ⟨x, hx⟩ : ∃ x, (l.getD j2 0).toNat = x := ⟨_, rfl⟩
                rw [hx] at hc0
                have C := Lib.hid (fun W => ref_In_conv x W)
                have hce := convEnd_in (l := l) (i := i) (j := j2) (x := x) (f := f) (n := n) (pr := pr) hlt hx (fun h => by
                  rcases Nat.lt_or_ge i j2 with h2 | h2
                  · exact h2
                  · exact absurd ⟨by omega, by rw [show i = j2 by omega, hx]; exact h⟩ H37.out)
                have e0 : decide ((l.length : Int) ≤ (j2 : Int)) = false := decide_eq_false (by omega)
                clear hx
                cases hin : isIn x [99, 115, 98, 100, 105, 111, 117, 120, 88]
                · rw [hin] at hce C
                  have HC : Hid (conv l i = .error (3, j2)) := HE.out.trans (hce.trans (if_neg (by simp)))
                  clear hin hce
                  go_upto_region 27 with (go_at_call 44; refine (C.out _).mono ?_; rintro e w' ⟨rfl, rfl⟩)
                  go_region_with (go_at_call 26; refine (CF.out _ _ _).mono ?_; rintro e w' ⟨rfl, rfl⟩)
                  all_goals go_wp2_with fail
                  all_goals try rw [Exit.noGoto_ret]
                  all_goals refine bodyPost_ret (v := .tuple #[.agg (partCells (.slice none 0 0) ⟨[], 0, f, n, pr⟩), .int .i64 0, .agg #[.int .i64 3, .int .i64 j2, .int .i64 5]]) (by simp [results, Tryd.results28, go_sem, partCells]) rfl ?_
                  all_goals exact rconv_err HC.out (by repeat' first | exact Below.refl _ _ | (refine Below.drew ?_) | (refine Below.alloc ?_ (by simp <;> omega) _)) _ rfl
                · rw [hin] at hce C
                  have HC : Hid (conv l i = .ok (⟨[], if x = 105 then 100 else x, f, n, pr⟩, j2 + 1)) := HE.out.trans (hce.trans (if_pos rfl))
                  clear hin hce
                  by_cases h105 : x = 105
                  · have e105 := beqT h105
                    simp only [Int.cast_ofNat_Int] at e105
                    have HC2 : Hid (conv l i = .ok (⟨[], 100, f, n, pr⟩, j2 + 1)) := by have := HC.out; rw [if_pos h105] at this; exact this
                    clear h105
                    go_wp2_with (go_at_call 44; refine (C.out _).mono ?_; rintro e w' ⟨rfl, rfl⟩)
                    try rw [Exit.noGoto_ret]
                    refine bodyPost_ret (v := .tuple #[.agg (partCells (.slice none 0 0) ⟨[], 100, f, n, pr⟩), .int .i64 (j2 + 1), .agg #[.int .i64 0, .int .i64 0, .int .i64 0]]) (by simp [results, Tryd.results28, go_sem, partCells]) rfl ?_
                    exact rconv_ok HC2.out (by repeat' first | exact Below.refl _ _ | (refine Below.drew ?_) | (refine Below.alloc ?_ (by simp <;> omega) _)) rfl
                  · have e105 := beqF h105
                    simp only [Int.cast_ofNat_Int] at e105
                    have HC2 : Hid (conv l i = .ok (⟨[], x, f, n, pr⟩, j2 + 1)) := by have := HC.out; rw [if_neg h105] at this; exact this
                    clear h105
                    go_wp2_with (go_at_call 44; refine (C.out _).mono ?_; rintro e w' ⟨rfl, rfl⟩)
                    try rw [Exit.noGoto_ret]
                    refine bodyPost_ret (v := .tuple #[.agg (partCells (.slice none 0 0) ⟨[], x, f, n, pr⟩), .int .i64 (j2 + 1), .agg #[.int .i64 0, .int .i64 0, .int .i64 0]]) (by simp [results, Tryd.results28, go_sem, partCells]) rfl ?_
                    exact rconv_ok HC2.out (by repeat' first | exact Below.refl _ _ | (refine Below.drew ?_) | (refine Below.alloc ?_ (by simp <;> omega) _)) rfl
              · have hj : j2 = l.length := by omega
                subst hj
                have HC := Lib.hid (HE.out.trans (convEnd_end (f := f) (n := n) (pr := pr) (i := i) (Nat.le_refl _)))
                have e0 : decide ((l.length : Int) ≤ (l.length : Int)) = true := decide_eq_true (by omega)
                go_upto_region 27 with (fail)
                go_region_with (go_at_call 26; refine (CF.out _ _ _).mono ?_; rintro e w' ⟨rfl, rfl⟩)
                all_goals go_wp2_with fail
                all_goals try rw [Exit.noGoto_ret]
                all_goals refine bodyPost_ret (v := .tuple #[.agg (partCells (.slice none 0 0) ⟨[], 0, f, n, pr⟩), .int .i64 0, .agg #[.int .i64 3, .int .i64 l.length, .int .i64 5]]) (by simp [results, Tryd.results28, go_sem, partCells]) rfl ?_
                all_goals exact rconv_err HC.out (by repeat' first | exact Below.refl _ _ | (refine Below.drew ?_) | (refine Below.alloc ?_ (by simp <;> omega) _)) _ rfl
      · have hd := HD.out.symm
        rw [Bool.and_eq_true, decide_eq_true_eq] at hd
        have hlt := hd.1
        obtain ⟨b, off, rfl, hc0⟩ := HLW.out.head j hlt
        have hb := lt_of_cell hc0
        obtain ⟨x, hx⟩ : ∃ x, (l.getD j 0).toNat = x := ⟨_, rfl⟩
        rw [hx] at hc0 hd
        have HX := Lib.hid hx
        have hfl := hd.2
        clear hx hd HD
        rcases fl_cases x with ⟨hx, hfl, hset⟩ | ⟨hx, hfl, hset⟩ | ⟨hx, hfl, hset⟩ | ⟨hx, hfl, hset⟩ | ⟨hx, hfl, hset⟩ | ⟨⟨h1, h2, h3, h4, h5⟩, hno⟩
        · have HF := Lib.hid (flags_yes' (k := kk) hlt HX.out hfl (hset f))
          have e45 := beqT (x := x) (n := 45) hx
          clear hfl hset hx
          simp only [Int.cast_ofNat_Int] at e45
          go_wp2_with fail
          go_roundw
          case rel => have hj := HJ.out; exact ⟨kk + 1, { f with minus := true }, by omega, by go_num, (by rw [show i + (kk + 1) = j + 1 by have := HJ.out; omega]; exact HF.out.trans HR.out), rfl⟩
          case measure => simp [intOf]; omega
        · have HF := Lib.hid (flags_yes' (k := kk) hlt HX.out hfl (hset f))
          have e45 := beqF (x := x) (n := 45) (by omega)
          have e43 := beqT (x := x) (n := 43) hx
          clear hfl hset hx
          simp only [Int.cast_ofNat_Int] at e45 e43
          go_wp2_with fail
          go_roundw
          case rel => have hj := HJ.out; exact ⟨kk + 1, { f with plus := true }, by omega, by go_num, (by rw [show i + (kk + 1) = j + 1 by have := HJ.out; omega]; exact HF.out.trans HR.out), rfl⟩
          case measure => simp [intOf]; omega
        · have HF := Lib.hid (flags_yes' (k := kk) hlt HX.out hfl (hset f))
          have e45 := beqF (x := x) (n := 45) (by omega)
          have e43 := beqF (x := x) (n := 43) (by omega)
          have e32 := beqT (x := x) (n := 32) hx
          clear hfl hset hx
          simp only [Int.cast_ofNat_Int] at e45 e43 e32
          go_wp2_with fail
          go_roundw
          case rel => have hj := HJ.out; exact ⟨kk + 1, { f with space := true }, by omega, by go_num, (by rw [show i + (kk + 1) = j + 1 by have := HJ.out; omega]; exact HF.out.trans HR.out), rfl⟩
          case measure => simp [intOf]; omega
        · have HF := Lib.hid (flags_yes' (k := kk) hlt HX.out hfl (hset f))
          have e45 := beqF (x := x) (n := 45) (by omega)
          have e43 := beqF (x := x) (n := 43) (by omega)
          have e32 := beqF (x := x) (n := 32) (by omega)
          have e48 := beqT (x := x) (n := 48) hx
          clear hfl hset hx
          simp only [Int.cast_ofNat_Int] at e45 e43 e32 e48
          go_wp2_with fail
          go_roundw
          case rel => have hj := HJ.out; exact ⟨kk + 1, { f with zero := true }, by omega, by go_num, (by rw [show i + (kk + 1) = j + 1 by have := HJ.out; omega]; exact HF.out.trans HR.out), rfl⟩
          case measure => simp [intOf]; omega
        · have HF := Lib.hid (flags_yes' (k := kk) hlt HX.out hfl (hset f))
          have e45 := beqF (x := x) (n := 45) (by omega)
          have e43 := beqF (x := x) (n := 43) (by omega)
          have e32 := beqF (x := x) (n := 32) (by omega)
          have e48 := beqF (x := x) (n := 48) (by omega)
          clear hfl hset hx
          simp only [Int.cast_ofNat_Int] at e45 e43 e32 e48
          go_wp2_with fail
          go_roundw
          case rel => have hj := HJ.out; exact ⟨kk + 1, { f with alt := true }, by omega, by go_num, (by rw [show i + (kk + 1) = j + 1 by have := HJ.out; omega]; exact HF.out.trans HR.out), rfl⟩
          case measure => simp [intOf]; omega
        · rw [hno] at hfl
          cases hfl
end Go.Proofs.YtppcjmbblkbkdaaDoor
