/- The walk of pidginref14.Escape. Conditions as typed. -/
import Derived.Test.YtppcjmbblkbkdaaDoorRef2
import Derived.Test.YtppcjmbblkbkdaaDoorShape1
import Derived.Laws.Bits64
namespace Go.Proofs.YtppcjmbblkbkdaaDoor
open Go.RowKit Pg

theorem and255 (n : Nat) (hn : n ≤ 9223372036854775807) : bits .and .i64 (n : Int) 255 = ((n % 256 : Nat) : Int) := by
  have h := bits_mask .i64 63 (by decide) (fun n h0 h1 => by rw [IntKind.wrap_i64]; omega) 8 (by decide) (n : Int) (by omega) (by omega)
  have e : ((2 : Int) ^ 8 - 1) = 255 := by decide
  have e2 : ((2 : Int) ^ 8) = 256 := by decide
  rw [e, e2] at h
  rw [h]
  omega

set_option maxRecDepth 100000 in
set_option maxHeartbeats 4000000 in
/-- pidginref14.Escape of a backslash at a place: what shape.Escape tells of the bytes behind it, one more byte. -/
theorem ref_Escape (a : Option Addr) (cap : Nat) (l : List UInt8) (i : Nat) (hi : i < l.length) (hn : l.length ≤ 2000000) (w : World) (hl : Bs w a cap l) :
    Calls Tryd.prog 27 #[.slice a l.length cap, .int .i64 i] w fun e w' => e = .returned (.tuple #[.int .u8 (if (esc (l.drop (i + 1))).2 = 0 then 0 else (esc (l.drop (i + 1))).1.toNat), .int .i64 (if (esc (l.drop (i + 1))).2 = 0 then 0 else (esc (l.drop (i + 1))).2 + 1 : Nat)]) ∧ w = w' := by
  have HL := Lib.hid hl
  have hlc := hl.1
  have hcm := hl.2.1
  unfold maxLen at hcm
  clear hl
  by_cases h0 : l.length ≤ i + 1
  · have hc : esc (l.drop (i + 1)) = (0, 0) := by unfold esc; rw [if_pos (by rw [List.length_drop]; omega)]
    rw [hc]
    clear hc
    go_enter Tryd.func27, Tryd.ntmps27
    go_wp2_with fail
    go_ret2
    exact ⟨rfl, rfl⟩
  · have hi1 : i + 1 < l.length := by omega
    obtain ⟨b, off, rfl, hc0⟩ := HL.out.2.2 (i + 1) hi1
    have hg : (l.drop (i + 1)).getD 0 0 = l[i + 1] := by simp [List.getD_eq_getElem?_getD, hi1]
    have hdl : (l.drop (i + 1)).length ≠ 0 := by rw [List.length_drop]; omega
    have hxl := (l[i + 1]).toNat_lt
    obtain ⟨x, hx⟩ : ∃ x : Nat, x = (l[i + 1]).toNat := ⟨_, rfl⟩
    rw [← hx] at hc0 hxl
    by_cases h1 : escOf x = 0
    · have hc : esc (l.drop (i + 1)) = (UInt8.ofNat (digits 8 ((l.drop (i + 1)).take 3)).1, (digits 8 ((l.drop (i + 1)).take 3)).2.1) := by unfold esc; rw [if_neg hdl, hg, ← hx, if_pos h1]
      have hne : x ≠ 92 ∧ x ≠ 97 ∧ x ≠ 98 ∧ x ≠ 102 ∧ x ≠ 110 ∧ x ≠ 114 ∧ x ≠ 116 ∧ x ≠ 118 := by
        refine ⟨?_, ?_, ?_, ?_, ?_, ?_, ?_, ?_⟩ <;> (rintro rfl; exact absurd h1 (by decide))
      have f1 : ((x : Int) == 92) = false := beq_eq_false_iff_ne.2 (by omega)
      have f2 : ((x : Int) == 97) = false := beq_eq_false_iff_ne.2 (by omega)
      have f3 : ((x : Int) == 98) = false := beq_eq_false_iff_ne.2 (by omega)
      have f4 : ((x : Int) == 102) = false := beq_eq_false_iff_ne.2 (by omega)
      have f5 : ((x : Int) == 110) = false := beq_eq_false_iff_ne.2 (by omega)
      have f6 : ((x : Int) == 114) = false := beq_eq_false_iff_ne.2 (by omega)
      have f7 : ((x : Int) == 116) = false := beq_eq_false_iff_ne.2 (by omega)
      have f8 : ((x : Int) == 118) = false := beq_eq_false_iff_ne.2 (by omega)
      obtain ⟨m, hm⟩ : ∃ m, m = min l.length (i + 4) := ⟨_, rfl⟩
      have hmin : min (l.length : Int) ((i : Int) + 4) = (m : Int) := by omega
      have hm1 : i + 1 ≤ m := by omega
      have hm2 : m ≤ l.length := by omega
      have hcut : ∀ W, (Instr.slice 27 (.slice (some ⟨b, off, none⟩) l.length cap) (some (.int .i64 ((i : Int) + 1))) (some (.int .i64 (m : Int))) none).run Tryd.prog W = .ok (.slice (cutA (some ⟨b, off, none⟩) cap (i + 1)) (m - (i + 1)) (cap - (i + 1))) W := fun W => by
        have ht : Tryd.prog.underlying 27 = some (.slice (Tryd.prog.elem 27)) := by rw [elem_is Tryd.underlying27]; exact Tryd.underlying27
        have hs : ∀ w, (sizeOf (Tryd.prog.elem 27)).run Tryd.prog w = .ok 1 w := by rw [elem_is Tryd.underlying27]; exact u8_size
        rw [run_slice_lh W 27 (some ⟨b, off, none⟩) l.length cap ht .i64 .i64 ((i : Int) + 1) m (by omega) (by omega) (by omega), hs]
        have e1 : ((i : Int) + 1).toNat = i + 1 := by omega
        simp [Result.andThen, sliced, cutA, e1]
      have hbs := (HL.out.cut (i + 1) (by omega)).take (m - (i + 1))
      have htk : (l.drop (i + 1)).take (m - (i + 1)) = (l.drop (i + 1)).take 3 := by
        rcases Nat.le_total l.length (i + 4) with h | h
        · rw [List.take_of_length_le (by rw [List.length_drop]; omega), List.take_of_length_le (by rw [List.length_drop]; omega)]
        · rw [show m - (i + 1) = 3 by omega]
      rw [htk] at hbs
      have hln : ((l.drop (i + 1)).take 3).length = m - (i + 1) := by rw [← htk, List.length_take, List.length_drop]; omega
      have CD := ref_Digits (cutA (some ⟨b, off, none⟩) cap (i + 1)) (cap - (i + 1)) ((l.drop (i + 1)).take 3) 8 (by omega) (by omega) w hbs
      rw [hln] at CD
      have hdm := (digits_le 8 (by omega) ((l.drop (i + 1)).take 3))
      rw [hc]
      generalize digits 8 ((l.drop (i + 1)).take 3) = d at *
      generalize cutA (some ⟨b, off, none⟩) cap (i + 1) = ca at *
      generalize m - (i + 1) = lm at *
      generalize cap - (i + 1) = cc at *
      have CD := Lib.hid CD
      clear hc hne h1 hx hg hdl h0 htk hbs hln hm
      by_cases hd0 : d.2.1 = 0
      · have g0 : ((d.2.1 : Int) == 0) = true := beq_iff_eq.2 (by omega)
        rw [if_pos hd0, if_pos hd0]
        go_enter Tryd.func27, Tryd.ntmps27
        go_wp2_with fail
        refine CD.out.mono ?_
        rintro e w' ⟨rfl, rfl⟩
        go_wp2_with fail
        go_ret2
        exact ⟨rfl, rfl⟩
      · have g0 : ((d.2.1 : Int) == 0) = false := beq_eq_false_iff_ne.2 (by omega)
        have hd3 : d.2.1 ≤ 3 := by
          have := hdm.2
          rw [List.length_take] at this
          omega
        have hwr : wrap64 ((d.2.1 : Int) + 1) = (d.2.1 : Int) + 1 := by unfold wrap64; omega
        have hbt : bits .and .i64 (d.1 : Int) 255 = ((d.1 % 256 : Nat) : Int) := and255 d.1 (by omega)
        rw [if_neg hd0, if_neg hd0, ofNat_u8]
        go_enter Tryd.func27, Tryd.ntmps27
        go_wp2_with fail
        refine CD.out.mono ?_
        rintro e w' ⟨rfl, rfl⟩
        go_wp2_with fail
        go_ret2
        refine ⟨?_, rfl⟩
        simp
    · have hc : esc (l.drop (i + 1)) = (UInt8.ofNat (escOf x), 1) := by unfold esc; rw [if_neg hdl, hg, ← hx, if_neg h1]
      have hlet := esc_letters x hxl h1
      rw [hc]
      clear hc hx hg hdl h0 h1
      rcases hlet with rfl | rfl | rfl | rfl | rfl | rfl | rfl | rfl
      all_goals (
        go_enter Tryd.func27, Tryd.ntmps27
        go_wp2_with fail
        go_ret2
        exact ⟨rfl, rfl⟩)
end Go.Proofs.YtppcjmbblkbkdaaDoor
