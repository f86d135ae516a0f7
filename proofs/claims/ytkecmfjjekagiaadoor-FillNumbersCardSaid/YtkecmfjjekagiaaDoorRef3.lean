/- The walks of pidginref2.Const and pidginref14.Number. Conditions as typed. -/
import Derived.Test.YtkecmfjjekagiaaDoorRef2
import Derived.Test.YtkecmfjjekagiaaDoorFill1
import Derived.Deep.QuietTactic
import Derived.BigQuiet
namespace Go.Proofs.YtkecmfjjekagiaaDoor
open Go.RowKit Pg

theorem ref_Digits_cut (a : Option Addr) (cap : Nat) (l : List UInt8) (base : Nat) (h0 : 2 ≤ base) (h1 : base ≤ 16) (w : World) (hl : Bs w a cap l) (k : Nat) (hk : k ≤ l.length) :
    Calls Tryd.prog 83 #[.slice (cutA a cap k) (l.length - k) (cap - k), .int .i64 base] w fun e w' => e = .returned (.tuple #[.int .i64 (digits base (l.drop k)).1, .int .i64 (digits base (l.drop k)).2.1, .bool (digits base (l.drop k)).2.2]) ∧ w = w' := by
  have := ref_Digits (cutA a cap k) (cap - k) (l.drop k) base h0 h1 w (hl.cut k hk)
  rwa [List.length_drop] at this
theorem digits_first {base : Nat} {l : List UInt8} (h : 0 < l.length) (hd : base ≤ dig (l.getD 0 0)) : digits base l = (0, 0, false) := by
  cases l with
  | nil => simp at h
  | cons c t => unfold digits; rw [digitsL, if_neg (by have : dig c = dig ((c :: t).getD 0 0) := rfl; omega)]
theorem digits_some {base : Nat} {l : List UInt8} (h : 0 < l.length) (hb : 0 < base) (hd : dig (l.getD 0 0) < base) : 0 < (digits base l).2.1 := by
  cases l with
  | nil => simp at h
  | cons c t =>
    have hc : dig c < base := hd
    unfold digits
    rw [digitsL, if_pos hc]
    split
    · have := (digitsL_le base hb t maxI (0 + 1) true (by unfold maxI; omega)).2.1; omega
    · rename_i h2
      have := (digitsL_le base hb t (0 * base + dig c) (0 + 1) false (by have := dig_le c; omega)).2.1; omega
theorem const_not0 {l : List UInt8} (h : 0 < l.length) (hx : (l.getD 0 0).toNat ≠ 48) : const l = digits 10 l := by
  unfold const
  rw [if_neg (by omega)]
  split
  · rename_i h1
    rw [digits_first h (by have := dig_cases (l.getD 0 0); omega)]
  · first | rfl | rw [if_pos hx]
theorem const_0 {l : List UInt8} (h : 0 < l.length) (hx : (l.getD 0 0).toNat = 48) (hn : ¬ (1 < l.length ∧ ((l.getD 1 0).toNat = 120 ∨ (l.getD 1 0).toNat = 88) ∧ 0 < (digits 16 (l.drop 2)).2.1)) : const l = digits 8 l := by
  unfold const
  rw [if_neg (by omega), if_neg (by omega), if_neg (by omega), if_neg hn]
theorem const_x {l : List UInt8} (hx : (l.getD 0 0).toNat = 48) (hn : 1 < l.length ∧ ((l.getD 1 0).toNat = 120 ∨ (l.getD 1 0).toNat = 88) ∧ 0 < (digits 16 (l.drop 2)).2.1) : const l = ((digits 16 (l.drop 2)).1, (digits 16 (l.drop 2)).2.1 + 2, (digits 16 (l.drop 2)).2.2) := by
  unfold const
  rw [if_neg (by omega), if_neg (by omega), if_neg (by omega), if_pos hn]

set_option maxRecDepth 100000 in
set_option maxHeartbeats 4000000 in
/-- pidginref2.Const. -/
theorem ref_Const (a : Option Addr) (cap : Nat) (l : List UInt8) (w : World) (hl : Bs w a cap l) :
    Calls Tryd.prog 63 #[.slice a l.length cap] w fun e w' => e = .returned (.tuple #[.int .i64 (const l).1, .int .i64 (const l).2.1, .bool (const l).2.2]) ∧ w = w' := by
  have HL := Lib.hid hl
  have hlc := hl.1
  have hcm := hl.2.1
  unfold maxLen at hcm
  have C10 := Lib.hid (ref_Digits a cap l 10 (by omega) (by omega) w hl)
  have C8 := Lib.hid (ref_Digits a cap l 8 (by omega) (by omega) w hl)
  clear hl
  by_cases h0 : l.length = 0
  · obtain rfl := List.eq_nil_of_length_eq_zero h0
    have C : Calls Tryd.prog 83 #[.slice a 0 cap, .int .i64 10] w fun e w' => e = .returned (.tuple #[.int .i64 0, .int .i64 0, .bool false]) ∧ w = w' := ref_Digits a cap [] 10 (by omega) (by omega) w HL.out
    show Calls Tryd.prog 63 #[.slice a 0 cap] w fun e w' => e = .returned (.tuple #[.int .i64 0, .int .i64 0, .bool false]) ∧ w = w'
    have CC := Lib.hid C
    clear C C10 C8 h0 HL hlc
    go_enter Tryd.func63, Tryd.ntmps63
    go_wp2_with (go_at_call 83; refine CC.out.mono ?_; rintro e w' ⟨rfl, rfl⟩)
    go_ret3
    exact ⟨rfl, rfl⟩
  have hp0 : 0 < l.length := by omega
  have e1 : decide (0 < (l.length : Int)) = true := decide_eq_true (by omega)
  obtain ⟨b, off, rfl, hc0⟩ := HL.out.head 0 hp0
  rw [Nat.add_zero] at hc0
  obtain ⟨x, hx⟩ : ∃ x, x = l.getD 0 0 := ⟨_, rfl⟩
  rw [← hx] at hc0
  have hxl := x.toNat_lt
  by_cases h2 : 2 < l.length
  · have e0 : decide (2 < (l.length : Int)) = true := decide_eq_true (by omega)
    obtain ⟨b', off', hb', hc1⟩ := HL.out.head 1 (by omega)
    simp only [Option.some.injEq, Addr.mk.injEq] at hb'
    obtain ⟨rfl, rfl, _⟩ := hb'
    obtain ⟨b', off', hb', hc2⟩ := HL.out.head 2 (by omega)
    simp only [Option.some.injEq, Addr.mk.injEq] at hb'
    obtain ⟨rfl, rfl, _⟩ := hb'
    obtain ⟨y, hy⟩ : ∃ y, y = l.getD 1 0 := ⟨_, rfl⟩
    obtain ⟨z, hz⟩ : ∃ z, z = l.getD 2 0 := ⟨_, rfl⟩
    rw [← hy] at hc1
    rw [← hz] at hc2
    by_cases h48 : x.toNat = 48
    · have ex : ((x.toNat : Int) == 48) = true := beq_iff_eq.2 (by omega)
      have hpz : 0 < (l.drop 2).length := by rw [List.length_drop]; omega
      have hgz : (l.drop 2).getD 0 0 = z := by rw [hz]; simp [List.getD_eq_getElem?_getD]
      have CV := Lib.hid (ref_value z w)
      by_cases hyx : y.toNat = 120 ∨ y.toNat = 88
      · have hY : (((y.toNat : Int) == 120) = true ∧ ((y.toNat : Int) == 88) = false) ∨ (((y.toNat : Int) == 120) = false ∧ ((y.toNat : Int) == 88) = true) := by
          rcases hyx with h7 | h7
          · exact .inl ⟨beq_iff_eq.2 (by omega), beq_eq_false_iff_ne.2 (by omega)⟩
          · exact .inr ⟨beq_eq_false_iff_ne.2 (by omega), beq_iff_eq.2 (by omega)⟩
        by_cases hd : dig z < 16
        · have er : decide ((rv z : Int) < 16) = true := decide_eq_true (by unfold rv; rw [if_neg (by omega)]; omega)
          have hc := const_x (l := l) (by rw [← hx]; exact h48) ⟨by omega, by rw [← hy]; exact hyx, digits_some hpz (by omega) (by rw [hgz]; exact hd)⟩
          have C16 := Lib.hid (ref_Digits_cut (some ⟨b, off, none⟩) cap l 16 (by omega) (by omega) w HL.out 2 (by omega))
          have hcut := run_cutFrom (P := Tryd.prog) Tryd.underlying44 u8_size (some ⟨b, off, none⟩) l cap 2 (by omega) 2 rfl
          have hle := (digits_le 16 (by omega) (l.drop 2)).2
          simp only [List.length_drop] at hle
          rw [hc]
          generalize digits 16 (l.drop 2) = d at *
          generalize rv z = r at *
          clear hc hx hy hz hyx hd h48 hgz hpz
          rcases hY with ⟨h7a, h7b⟩ | ⟨h7a, h7b⟩
          all_goals
            go_enter Tryd.func63, Tryd.ntmps63
            go_wp2_with (first | (go_at_call 85; refine CV.out.mono ?_; rintro e w' ⟨rfl, rfl⟩) | (go_at_call 83; refine C16.out.mono ?_; rintro e w' ⟨rfl, rfl⟩))
            go_ret3
            exact ⟨rfl, rfl⟩
        · have er : decide ((rv z : Int) < 16) = false := decide_eq_false (by unfold rv; rw [if_pos (by have := dig_le z; omega)]; omega)
          have hc := const_0 (l := l) hp0 (by rw [← hx]; exact h48) (fun h => by rw [digits_first hpz (by rw [hgz]; omega)] at h; exact absurd h.2.2 (by simp))
          rw [hc]
          generalize rv z = r at *
          clear hc hx hy hz hyx hd h48 hgz hpz
          rcases hY with ⟨h7a, h7b⟩ | ⟨h7a, h7b⟩
          all_goals
            go_enter Tryd.func63, Tryd.ntmps63
            go_wp2_with (first | (go_at_call 85; refine CV.out.mono ?_; rintro e w' ⟨rfl, rfl⟩) | (go_at_call 83; refine C8.out.mono ?_; rintro e w' ⟨rfl, rfl⟩))
            go_ret3
            exact ⟨rfl, rfl⟩
      · have h7a : ((y.toNat : Int) == 120) = false := beq_eq_false_iff_ne.2 (by omega)
        have h7b : ((y.toNat : Int) == 88) = false := beq_eq_false_iff_ne.2 (by omega)
        have hc := const_0 (l := l) hp0 (by rw [← hx]; exact h48) (fun h => hyx (by rw [hy]; exact h.2.1))
        rw [hc]
        clear hc hx hy hz hyx h48 hgz hpz
        go_enter Tryd.func63, Tryd.ntmps63
        go_wp2_with (go_at_call 83; refine C8.out.mono ?_; rintro e w' ⟨rfl, rfl⟩)
        go_ret3
        exact ⟨rfl, rfl⟩
    · have ex : ((x.toNat : Int) == 48) = false := beq_eq_false_iff_ne.2 (by omega)
      have hc := const_not0 (l := l) hp0 (by rw [← hx]; exact h48)
      rw [hc]
      clear hc hx hy hz h48
      go_enter Tryd.func63, Tryd.ntmps63
      go_wp2_with (go_at_call 83; refine C10.out.mono ?_; rintro e w' ⟨rfl, rfl⟩)
      go_ret3
      exact ⟨rfl, rfl⟩
  · have e0 : decide (2 < (l.length : Int)) = false := decide_eq_false (by omega)
    by_cases h48 : x.toNat = 48
    · have ex : ((x.toNat : Int) == 48) = true := beq_iff_eq.2 (by omega)
      have hc := const_0 (l := l) hp0 (by rw [← hx]; exact h48) (fun h => by
        have := (digits_le 16 (by omega) (l.drop 2)).2
        rw [List.length_drop] at this
        omega)
      rw [hc]
      clear hc hx h48
      go_enter Tryd.func63, Tryd.ntmps63
      go_wp2_with (go_at_call 83; refine C8.out.mono ?_; rintro e w' ⟨rfl, rfl⟩)
      go_ret3
      exact ⟨rfl, rfl⟩
    · have ex : ((x.toNat : Int) == 48) = false := beq_eq_false_iff_ne.2 (by omega)
      have hc := const_not0 (l := l) hp0 (by rw [← hx]; exact h48)
      rw [hc]
      clear hc hx h48
      go_enter Tryd.func63, Tryd.ntmps63
      go_wp2_with (go_at_call 83; refine C10.out.mono ?_; rintro e w' ⟨rfl, rfl⟩)
      go_ret3
      exact ⟨rfl, rfl⟩
end Go.Proofs.YtkecmfjjekagiaaDoor
