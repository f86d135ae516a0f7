/- The walks of pidginref2.value, Digits, Const. Conditions as typed. -/
import Derived.Test.YtppcjmbblkbkdaaGreatDoorScan2
import Derived.Test.YtppcjmbblkbkdaaGreatDoorFill1
import Derived.Deep.QuietTactic
import Derived.BigQuiet
import Derived.WalkSmall
import Derived.Test.YtppcjmbblkbkdaaGreatDoorShape1
import Derived.Laws.Bits64
namespace Go.Proofs.YtppcjmbblkbkdaaGreatDoor
open Go.RowKit Pg

/-- A byte's value as a digit; 99: none. -/
def rv (x : UInt8) : Nat := if dig x = 16 then 99 else dig x
theorem rv_cases (x : UInt8) : (65 ≤ x.toNat ∧ x.toNat ≤ 70 ∧ rv x = x.toNat - 55) ∨ (97 ≤ x.toNat ∧ x.toNat ≤ 102 ∧ rv x = x.toNat - 87) ∨ (48 ≤ x.toNat ∧ x.toNat ≤ 57 ∧ rv x = x.toNat - 48) ∨
    ((x.toNat < 48 ∨ (57 < x.toNat ∧ x.toNat < 65) ∨ (70 < x.toNat ∧ x.toNat < 97) ∨ 102 < x.toNat) ∧ rv x = 99) := by
  unfold rv
  have := dig_cases x
  split <;> omega
theorem ref_value (x : UInt8) (w : World) :
    Calls Tryz.prog 50 #[.int .u8 x.toNat] w fun e w' => e = .returned (.int .i64 (rv x)) ∧ w = w' := by
  have hx := x.toNat_lt
  rcases (show (65 ≤ x.toNat ∧ x.toNat ≤ 70) ∨ (97 ≤ x.toNat ∧ x.toNat ≤ 102) ∨ (48 ≤ x.toNat ∧ x.toNat ≤ 57) ∨ x.toNat < 48 ∨ (57 < x.toNat ∧ x.toNat < 65) ∨ (70 < x.toNat ∧ x.toNat < 97) ∨ 102 < x.toNat by omega) with h | h | h | h | h | h | h
  all_goals
    go_enter Tryz.func50, Tryz.ntmps50
    go_wp2
    go_ret
    exact ⟨ret_i (by have := rv_cases x; omega), rfl⟩

set_option maxHeartbeats 140737488355328 in
theorem ref_Digits (a : Option Addr) (cap : Nat) (l : List UInt8) (base : Nat) (h0 : 2 ≤ base) (h1 : base ≤ 16) (w : World) (hl : Bs w a cap l) :
    Calls Tryz.prog 34 #[.slice a l.length cap, .int .i64 base] w fun e w' => e = .returned (.tuple #[.int .i64 (digits base l).1, .int .i64 (digits base l).2.1, .bool (digits base l).2.2]) ∧ w = w' := by
  obtain ⟨hlc, hcm, hcell⟩ := hl
  unfold maxLen at hcm
  have hwb : IntKind.u64.wrap (base : Int) = (base : Int) := by rw [IntKind.wrap_u64]; omega
  go_enter Tryz.func34, Tryz.ntmps34
  go_wp2
  go_loop [7, 8, 9, 21] (fun n o u k => ∃ (kk nn : Nat) (oo : Bool), kk ≤ l.length ∧ nn ≤ 9223372036854775807 ∧ n = .int .u64 nn ∧ o = .bool oo ∧ u = .int .i64 kk ∧ k = .int .i64 kk ∧ Hid (digitsL base (l.drop kk) (if oo = true then maxI else nn) kk oo = digits base l)) (fun _ _ _ k => l.length - (intOf k).toNat)
  case atStart => exact ⟨0, 0, false, Nat.zero_le _, Nat.zero_le _, rfl, rfl, rfl, rfl, rfl⟩
  case round =>
    obtain ⟨kk, nn, oo, hk, hn, rfl, rfl, rfl, rfl, HR⟩ := hrel
    by_cases hlt : kk < l.length
    · obtain ⟨b, off, rfl, hc⟩ := hcell kk hlt
      have hd := dig_le l[kk]
      clear hcell
      by_cases hdb : dig l[kk] < base
      · have hr : rv l[kk] = dig l[kk] := by unfold rv; rw [if_neg (by omega)]
        cases oo
        · have hwd : IntKind.u64.wrap (dig l[kk] : Int) = (dig l[kk] : Int) := by rw [IntKind.wrap_u64]; omega
          have hws : IntKind.u64.wrap (9223372036854775807 - (dig l[kk] : Int)) = 9223372036854775807 - (dig l[kk] : Int) := by rw [IntKind.wrap_u64]; omega
          go_wp2_with (go_at_call 50; refine (ref_value _ _).mono ?_; rw [hr]; rintro e w' ⟨rfl, rfl⟩)
          all_goals go_round
          case rel =>
            have hov : (9223372036854775807 - (dig l[kk] : Int)) / (base : Int) < (nn : Int) := by assumption
            exact ⟨kk + 1, nn, true, by omega, hn, rfl, rfl, rfl, rfl, (digitsL_over base l kk nn false hlt hdb (.inr (over_of hd hov))).symm.trans HR.out⟩
          case measure => simp [intOf]; omega
          case rel =>
            have hov : (nn : Int) ≤ (9223372036854775807 - (dig l[kk] : Int)) / (base : Int) := by assumption
            have hov' := on_of hd hov
            have hle := on_le hd (by omega) hov'
            have hz : 0 ≤ (nn : Int) * (base : Int) := by rw [← Int.natCast_mul]; omega
            refine ⟨kk + 1, nn * base + dig l[kk], false, by omega, hle, val_i ?_, rfl, rfl, rfl, (digitsL_on base l kk nn hlt hdb hov').symm.trans HR.out⟩
            have e1 : IntKind.u64.wrap ((nn : Int) * (base : Int)) = ((nn * base : Nat) : Int) := by rw [IntKind.wrap_u64, ← Int.natCast_mul]; omega
            rw [e1, IntKind.wrap_u64]; omega
          case measure => simp [intOf]; omega
        · go_wp2_with (go_at_call 50; refine (ref_value _ _).mono ?_; rw [hr]; rintro e w' ⟨rfl, rfl⟩)
          go_round
          case rel => exact ⟨kk + 1, nn, true, by omega, hn, rfl, rfl, rfl, rfl, (digitsL_over base l kk maxI true hlt hdb (.inl rfl)).symm.trans HR.out⟩
          case measure => simp [intOf]; omega
      · have hr : base ≤ rv l[kk] := by unfold rv; split <;> omega
        generalize hrv : rv l[kk] = r at *
        cases oo
        · go_wp2_with (go_at_call 50; refine (ref_value _ _).mono ?_; rw [hrv]; rintro e w' ⟨rfl, rfl⟩)
          go_ret3
          rw [← (digitsL_no base l kk nn false hlt hdb).symm.trans HR.out]
          exact ⟨rfl, rfl⟩
        · go_wp2_with (go_at_call 50; refine (ref_value _ _).mono ?_; rw [hrv]; rintro e w' ⟨rfl, rfl⟩)
          go_ret3
          rw [← (digitsL_no base l kk maxI true hlt hdb).symm.trans HR.out]
          exact ⟨rfl, rfl⟩
    · cases oo
      · go_wp2
        go_ret3
        rw [← (digitsL_end base l kk nn false (by omega)).symm.trans HR.out]
        exact ⟨rfl, rfl⟩
      · go_wp2
        go_ret3
        rw [← (digitsL_end base l kk maxI true (by omega)).symm.trans HR.out]
        exact ⟨rfl, rfl⟩
end Go.Proofs.YtppcjmbblkbkdaaGreatDoor

/- The walks of pidginref2.Const and pidginref14.Number. Conditions as typed. -/
namespace Go.Proofs.YtppcjmbblkbkdaaGreatDoor
open Go.RowKit Pg

theorem ref_Digits_cut (a : Option Addr) (cap : Nat) (l : List UInt8) (base : Nat) (h0 : 2 ≤ base) (h1 : base ≤ 16) (w : World) (hl : Bs w a cap l) (k : Nat) (hk : k ≤ l.length) :
    Calls Tryz.prog 34 #[.slice (cutA a cap k) (l.length - k) (cap - k), .int .i64 base] w fun e w' => e = .returned (.tuple #[.int .i64 (digits base (l.drop k)).1, .int .i64 (digits base (l.drop k)).2.1, .bool (digits base (l.drop k)).2.2]) ∧ w = w' := by
  have := ref_Digits (cutA a cap k) (cap - k) (l.drop k) base h0 h1 w (hl.cut k hk)
  rwa [List.length_drop] at this
theorem digits_first {base : Nat} {l : List UInt8} (h : 0 < l.length) (hd : base ≤ dig (l.getD 0 0)) : digits base l = (0, 0, false) := by
  cases l with
  | nil => simp at h
  | cons c t => unfold digits; rw [digitsL, if_neg (by have : dig c = dig ((c :: t).getD 0 0) := rfl; omega)]
theorem digits_some {base : Nat} {l : List UInt8} (h : 0 < l.length) (hb : 0 < base) (hd : dig (l.getD 0 0) < base) : 0 < (digits base l).2.1 := by
  cases l with
  | nil => simp at h
  | cons c t =>
    have hc : dig c < base := hd
    unfold digits
    rw [digitsL, if_pos hc]
    split
    · have := (digitsL_le base hb t maxI (0 + 1) true (by unfold maxI; omega)).2.1; omega
    · rename_i h2
      have := (digitsL_le base hb t (0 * base + dig c) (0 + 1) false (by have := dig_le c; omega)).2.1; omega
theorem const_not0 {l : List UInt8} (h : 0 < l.length) (hx : (l.getD 0 0).toNat ≠ 48) : const l = digits 10 l := by
  unfold const
  rw [if_neg (by omega)]
  split
  · rename_i h1
    rw [digits_first h (by have := dig_cases (l.getD 0 0); omega)]
  · first | rfl | rw [if_pos hx]
theorem const_0 {l : List UInt8} (h : 0 < l.length) (hx : (l.getD 0 0).toNat = 48) (hn : ¬ (1 < l.length ∧ ((l.getD 1 0).toNat = 120 ∨ (l.getD 1 0).toNat = 88) ∧ 0 < (digits 16 (l.drop 2)).2.1)) : const l = digits 8 l := by
  unfold const
  rw [if_neg (by omega), if_neg (by omega), if_neg (by omega), if_neg hn]
theorem const_x {l : List UInt8} (hx : (l.getD 0 0).toNat = 48) (hn : 1 < l.length ∧ ((l.getD 1 0).toNat = 120 ∨ (l.getD 1 0).toNat = 88) ∧ 0 < (digits 16 (l.drop 2)).2.1) : const l = ((digits 16 (l.drop 2)).1, (digits 16 (l.drop 2)).2.1 + 2, (digits 16 (l.drop 2)).2.2) := by
  unfold const
  rw [if_neg (by omega), if_neg (by omega), if_neg (by omega), if_pos hn]

set_option maxRecDepth 100000 in
set_option maxHeartbeats 4000000 in
/-- pidginref2.Const. -/
theorem ref_Const (a : Option Addr) (cap : Nat) (l : List UInt8) (w : World) (hl : Bs w a cap l) :
    Calls Tryz.prog 68 #[.slice a l.length cap] w fun e w' => e = .returned (.tuple #[.int .i64 (const l).1, .int .i64 (const l).2.1, .bool (const l).2.2]) ∧ w = w' := by
  have HL := Lib.hid hl
  have hlc := hl.1
  have hcm := hl.2.1
  unfold maxLen at hcm
  have C10 := Lib.hid (ref_Digits a cap l 10 (by omega) (by omega) w hl)
  have C8 := Lib.hid (ref_Digits a cap l 8 (by omega) (by omega) w hl)
  clear hl
  by_cases h0 : l.length = 0
  · obtain rfl := List.eq_nil_of_length_eq_zero h0
    have C : Calls Tryz.prog 34 #[.slice a 0 cap, .int .i64 10] w fun e w' => e = .returned (.tuple #[.int .i64 0, .int .i64 0, .bool false]) ∧ w = w' := ref_Digits a cap [] 10 (by omega) (by omega) w HL.out
    show Calls Tryz.prog 68 #[.slice a 0 cap] w fun e w' => e = .returned (.tuple #[.int .i64 0, .int .i64 0, .bool false]) ∧ w = w'
    have CC := Lib.hid C
    clear C C10 C8 h0 HL hlc
    go_enter Tryz.func68, Tryz.ntmps68
    go_wp2_with (go_at_call 34; refine CC.out.mono ?_; rintro e w' ⟨rfl, rfl⟩)
    go_ret3
    exact ⟨rfl, rfl⟩
  have hp0 : 0 < l.length := by omega
  have e1 : decide (0 < (l.length : Int)) = true := decide_eq_true (by omega)
  obtain ⟨b, off, rfl, hc0⟩ := HL.out.head 0 hp0
  rw [Nat.add_zero] at hc0
  obtain ⟨x, hx⟩ : ∃ x, x = l.getD 0 0 := ⟨_, rfl⟩
  rw [← hx] at hc0
  have hxl := x.toNat_lt
  by_cases h2 : 2 < l.length
  · have e0 : decide (2 < (l.length : Int)) = true := decide_eq_true (by omega)
    obtain ⟨b', off', hb', hc1⟩ := HL.out.head 1 (by omega)
    simp only [Option.some.injEq, Addr.mk.injEq] at hb'
    obtain ⟨rfl, rfl, _⟩ := hb'
    obtain ⟨b', off', hb', hc2⟩ := HL.out.head 2 (by omega)
    simp only [Option.some.injEq, Addr.mk.injEq] at hb'
    obtain ⟨rfl, rfl, _⟩ := hb'
    obtain ⟨y, hy⟩ : ∃ y, y = l.getD 1 0 := ⟨_, rfl⟩
    obtain ⟨z, hz⟩ : ∃ z, z = l.getD 2 0 := ⟨_, rfl⟩
    rw [← hy] at hc1
    rw [← hz] at hc2
    by_cases h48 : x.toNat = 48
    · have ex : ((x.toNat : Int) == 48) = true := beq_iff_eq.2 (by omega)
      have hpz : 0 < (l.drop 2).length := by rw [List.length_drop]; omega
      have hgz : (l.drop 2).getD 0 0 = z := by rw [hz]; simp [List.getD_eq_getElem?_getD]
      have CV := Lib.hid (ref_value z w)
      by_cases hyx : y.toNat = 120 ∨ y.toNat = 88
      · have hY : (((y.toNat : Int) == 120) = true ∧ ((y.toNat : Int) == 88) = false) ∨ (((y.toNat : Int) == 120) = false ∧ ((y.toNat : Int) == 88) = true) := by
          rcases hyx with h7 | h7
          · exact .inl ⟨beq_iff_eq.2 (by omega), beq_eq_false_iff_ne.2 (by omega)⟩
          · exact .inr ⟨beq_eq_false_iff_ne.2 (by omega), beq_iff_eq.2 (by omega)⟩
        by_cases hd : dig z < 16
        · have er : decide ((rv z : Int) < 16) = true := decide_eq_true (by unfold rv; rw [if_neg (by omega)]; omega)
          have hc := const_x (l := l) (by rw [← hx]; exact h48) ⟨by omega, by rw [← hy]; exact hyx, digits_some hpz (by omega) (by rw [hgz]; exact hd)⟩
          have C16 := Lib.hid (ref_Digits_cut (some ⟨b, off, none⟩) cap l 16 (by omega) (by omega) w HL.out 2 (by omega))
          have hcut := run_cutFrom (P := Tryz.prog) Tryz.underlying25 u8_size (some ⟨b, off, none⟩) l cap 2 (by omega) 2 rfl
          have hle := (digits_le 16 (by omega) (l.drop 2)).2
          simp only [List.length_drop] at hle
          rw [hc]
          generalize digits 16 (l.drop 2) = d at *
          generalize rv z = r at *
          clear hc hx hy hz hyx hd h48 hgz hpz
          rcases hY with ⟨h7a, h7b⟩ | ⟨h7a, h7b⟩
          all_goals
            go_enter Tryz.func68, Tryz.ntmps68
            go_wp2_with (first | (go_at_call 50; refine CV.out.mono ?_; rintro e w' ⟨rfl, rfl⟩) | (go_at_call 34; refine C16.out.mono ?_; rintro e w' ⟨rfl, rfl⟩))
            go_ret3
            exact ⟨rfl, rfl⟩
        · have er : decide ((rv z : Int) < 16) = false := decide_eq_false (by unfold rv; rw [if_pos (by have := dig_le z; omega)]; omega)
          have hc := const_0 (l := l) hp0 (by rw [← hx]; exact h48) (fun h => by rw [digits_first hpz (by rw [hgz]; omega)] at h; exact absurd h.2.2 (by simp))
          rw [hc]
          generalize rv z = r at *
          clear hc hx hy hz hyx hd h48 hgz hpz
          rcases hY with ⟨h7a, h7b⟩ | ⟨h7a, h7b⟩
          all_goals
            go_enter Tryz.func68, Tryz.ntmps68
            go_wp2_with (first | (go_at_call 50; refine CV.out.mono ?_; rintro e w' ⟨rfl, rfl⟩) | (go_at_call 34; refine C8.out.mono ?_; rintro e w' ⟨rfl, rfl⟩))
            go_ret3
            exact ⟨rfl, rfl⟩
      · have h7a : ((y.toNat : Int) == 120) = false := beq_eq_false_iff_ne.2 (by omega)
        have h7b : ((y.toNat : Int) == 88) = false := beq_eq_false_iff_ne.2 (by omega)
        have hc := const_0 (l := l) hp0 (by rw [← hx]; exact h48) (fun h => hyx (by rw [hy]; exact h.2.1))
        rw [hc]
        clear hc hx hy hz hyx h48 hgz hpz
        go_enter Tryz.func68, Tryz.ntmps68
        go_wp2_with (go_at_call 34; refine C8.out.mono ?_; rintro e w' ⟨rfl, rfl⟩)
        go_ret3
        exact ⟨rfl, rfl⟩
    · have ex : ((x.toNat : Int) == 48) = false := beq_eq_false_iff_ne.2 (by omega)
      have hc := const_not0 (l := l) hp0 (by rw [← hx]; exact h48)
      rw [hc]
      clear hc hx hy hz h48
      go_enter Tryz.func68, Tryz.ntmps68
      go_wp2_with (go_at_call 34; refine C10.out.mono ?_; rintro e w' ⟨rfl, rfl⟩)
      go_ret3
      exact ⟨rfl, rfl⟩
  · have e0 : decide (2 < (l.length : Int)) = false := decide_eq_false (by omega)
    by_cases h48 : x.toNat = 48
    · have ex : ((x.toNat : Int) == 48) = true := beq_iff_eq.2 (by omega)
      have hc := const_0 (l := l) hp0 (by rw [← hx]; exact h48) (fun h => by
        have := (digits_le 16 (by omega) (l.drop 2)).2
        rw [List.length_drop] at this
        omega)
      rw [hc]
      clear hc hx h48
      go_enter Tryz.func68, Tryz.ntmps68
      go_wp2_with (go_at_call 34; refine C8.out.mono ?_; rintro e w' ⟨rfl, rfl⟩)
      go_ret3
      exact ⟨rfl, rfl⟩
    · have ex : ((x.toNat : Int) == 48) = false := beq_eq_false_iff_ne.2 (by omega)
      have hc := const_not0 (l := l) hp0 (by rw [← hx]; exact h48)
      rw [hc]
      clear hc hx h48
      go_enter Tryz.func68, Tryz.ntmps68
      go_wp2_with (go_at_call 34; refine C10.out.mono ?_; rintro e w' ⟨rfl, rfl⟩)
      go_ret3
      exact ⟨rfl, rfl⟩
end Go.Proofs.YtppcjmbblkbkdaaGreatDoor

/- The walk of pidginref14.Number. Conditions as typed. -/
namespace Go.Proofs.YtppcjmbblkbkdaaGreatDoor
open Go.RowKit Pg

theorem const_zero (l : List UInt8) (h : (const l).2.1 = 0) : (const l).1 = 0 ∧ (const l).2.2 = false := by
  have hd : ∀ base, 0 < base → ∀ l : List UInt8, (digits base l).2.1 = 0 → (digits base l).1 = 0 ∧ (digits base l).2.2 = false := by
    intro base hb l hz
    cases l with
    | nil => exact ⟨rfl, rfl⟩
    | cons c t =>
      by_cases hc : dig c < base
      · have := digits_some (base := base) (l := c :: t) (by simp) hb hc; omega
      · rw [digits_first (by simp) (Nat.le_of_not_lt hc)]; exact ⟨rfl, rfl⟩
  unfold const at h ⊢
  split
  · exact ⟨rfl, rfl⟩
  · rename_i h1
    rw [if_neg h1] at h
    split
    · exact ⟨rfl, rfl⟩
    · rename_i h2
      rw [if_neg h2] at h
      split
      · rename_i h3; rw [if_pos h3] at h; exact hd 10 (by omega) l h
      · rename_i h3
        rw [if_neg h3] at h
        split
        · rename_i h4; rw [if_pos h4] at h; simp at h
        · rename_i h4; rw [if_neg h4] at h; exact hd 8 (by omega) l h
/-- An operand's number, by what its sign leaves. -/
def numT (ng : Bool) (x : Nat × Nat × Bool) (len : Nat) : Int × Nat :=
  if x.2.1 = 0 then (0, 14) else if x.2.2 = true then (if ng = true then -9223372036854775808 else (x.1 : Int), 6) else (if ng = true then -(x.1 : Int) else (x.1 : Int), if x.2.1 < len then 14 else 0)
theorem numT_is (l : List UInt8) (len : Nat) : (((const l).1 : Int), if (const l).2.2 = true then 6 else if (const l).2.1 = 0 ∨ (const l).2.1 < len then 14 else 0) = numT false (const l) len := by
  have hz := const_zero l
  generalize const l = x at *
  obtain ⟨n, k, o⟩ := x
  unfold numT
  simp only [] at hz ⊢
  by_cases hk : k = 0
  · obtain ⟨rfl, rfl⟩ := hz hk
    simp [hk]
  · cases o <;> simp [hk]
theorem numT_neg (l : List UInt8) (len : Nat) : (if (const l).2.2 = true then ((-9223372036854775808 : Int), 6) else (-((const l).1 : Int), if (const l).2.1 = 0 ∨ (const l).2.1 < len then 14 else 0)) = numT true (const l) len := by
  have hz := const_zero l
  generalize const l = x at *
  obtain ⟨n, k, o⟩ := x
  unfold numT
  simp only [] at hz ⊢
  by_cases hk : k = 0
  · obtain ⟨rfl, rfl⟩ := hz hk
    simp [hk]
  · cases o <;> simp [hk]

theorem numT_val (ng : Bool) (n k : Nat) (o : Bool) (len : Nat) : numT ng (n, k, o) len = if ((k : Int) == 0) = true then (0, 14) else if o = true then (if ng = true then -9223372036854775808 else (n : Int), 6) else (if ng = true then -(n : Int) else (n : Int), if decide ((k : Int) < (len : Int)) = true then 14 else 0) := by
  unfold numT
  by_cases hk : k = 0
  · have e : ((k : Int) == 0) = true := beq_iff_eq.2 (by omega)
    rw [e]
    simp [hk]
  · have e : ((k : Int) == 0) = false := beq_eq_false_iff_ne.2 (by omega)
    rw [e]
    by_cases hs : k < len
    · rw [decide_eq_true (show (k : Int) < (len : Int) by omega)]
      cases o <;> cases ng <;> simp [hk, hs]
    · rw [decide_eq_false (show ¬ (k : Int) < (len : Int) by omega)]
      cases o <;> cases ng <;> simp [hk, hs]

set_option maxRecDepth 100000 in
set_option maxHeartbeats 8000000 in
/-- pidginref14.Number, with no quote, no sign ahead. -/
theorem ref_Number_plain (T : ByteArray) (w : World) (hp0 : 0 < T.size) (hTm : T.size ≤ maxLen) (h1 : ((T[0].toNat : Int) == 39) = false) (h2 : ((T[0].toNat : Int) == 34) = false) (h3 : ((T[0].toNat : Int) == 45) = false) (h4 : ((T[0].toNat : Int) == 43) = false)
    (HN : num (bl T) = numT false (const (bl T)) T.size) :
    Calls Tryz.prog 53 #[.string T] w fun e w' => e = .returned (.tuple #[.int .i64 (num (bl T)).1, .int .i64 (num (bl T)).2]) ∧ Below w.heap.size w w' := by
  have e0 : T.toList.isEmpty = false := isEmpty_F (by omega)
  have hTs : (bl T).length = T.size := bl_length T
  have rc := fun W => Lib.run_convert_string_bytes (P := Tryz.prog) W 9 25 5 T Tryz.underlying9 Tryz.underlying25 Tryz.underlying5
  have RS := fun W => ref_Const _ _ (bl T) _ (bytes_bs W T hTm)
  simp only [hTs] at RS
  have HB : Hid (∀ q, Below w.heap.size w (Lib.bytesWorld (w.drewN q) 5 T)) := fun q => (show Below w.heap.size w (w.drewN q) from ⟨rfl, rfl, rfl, Nat.le_refl _, fun _ _ => rfl⟩).trans (bytes_below (w.drewN q) T)
  have hle := (const_le (bl T)).1
  have hz := const_zero (bl T)
  rw [HN]
  generalize const (bl T) = x at *
  obtain ⟨n, k, o⟩ := x
  have hw1 : wrap64 (-(n : Int)) = -(n : Int) := by unfold wrap64; simp only at hle; omega
  have RS := Lib.hid RS
  have HV := Lib.hid (numT_val false n k o T.size)
  generalize numT false (n, k, o) T.size = R at *
  obtain ⟨b0, hb0⟩ : ∃ b, ((k : Int) == 0) = b := ⟨_, rfl⟩
  obtain ⟨b1, hb1⟩ : ∃ b, decide ((k : Int) < (T.size : Int)) = b := ⟨_, rfl⟩
  have hbs : (b1 = true → k < T.size) ∧ (b1 = false → ¬ k < T.size) := ⟨fun h => by rw [h] at hb1; have := of_decide_eq_true hb1; omega, fun h => by rw [h] at hb1; have := of_decide_eq_false hb1; omega⟩
  rw [hb0, hb1] at HV
  clear hb1
  clear HN hle hTs hz
  cases b0 <;> cases o <;> cases b1
  all_goals (
    first | (have hs := hbs.1 rfl; clear hbs) | (have hs := hbs.2 rfl; clear hbs)
    go_enter Tryz.func53, Tryz.ntmps53
    go_wp2_with fail
    go_quiet (fail)
    go_wp2_with fail
    refine (RS.out (w.drewN nq)).mono ?_
    rintro e w1 ⟨rfl, rfl⟩
    go_wp2_with fail
    go_ret2
    exact ⟨by rw [HV.out]; first | rfl | exact congrArg (fun x => Ending.returned (Value.tuple #[.int .i64 x, .int .i64 _])) hw1, HB.out _⟩)
set_option maxRecDepth 100000 in
set_option maxHeartbeats 8000000 in
/-- pidginref14.Number, behind a plus. -/
theorem ref_Number_plus (S T : ByteArray) (w : World) (hp0 : 0 < S.size) (hTm : T.size ≤ maxLen) (h1 : ((S[0].toNat : Int) == 39) = false) (h2 : ((S[0].toNat : Int) == 34) = false) (h3 : ((S[0].toNat : Int) == 45) = false) (h4 : ((S[0].toNat : Int) == 43) = true)
    (hT : T = S.extract 1 S.size) (HN : num (bl S) = numT false (const (bl T)) T.size) :
    Calls Tryz.prog 53 #[.string S] w fun e w' => e = .returned (.tuple #[.int .i64 (num (bl S)).1, .int .i64 (num (bl S)).2]) ∧ Below w.heap.size w w' := by
  have e0 : S.toList.isEmpty = false := isEmpty_F (by omega)
  have hTs : (bl T).length = T.size := bl_length T
  have rc := fun W => Lib.run_convert_string_bytes (P := Tryz.prog) W 9 25 5 T Tryz.underlying9 Tryz.underlying25 Tryz.underlying5
  have RS := fun W => ref_Const _ _ (bl T) _ (bytes_bs W T hTm)
  simp only [hTs] at RS
  have HB : Hid (∀ q, Below w.heap.size w (Lib.bytesWorld (w.drewN q) 5 T)) := fun q => (show Below w.heap.size w (w.drewN q) from ⟨rfl, rfl, rfl, Nat.le_refl _, fun _ _ => rfl⟩).trans (bytes_below (w.drewN q) T)
  have hle := (const_le (bl T)).1
  have hz := const_zero (bl T)
  have rs : ∀ W, (Instr.slice 9 (.string S) (some (.int .i64 1)) none none).run Tryz.prog W = .ok (.string T) W := fun W => by
    rw [run_slice_string_from_if W 9 S .i64 1 Tryz.underlying9, if_pos (by omega), hT]; rfl
  rw [HN]
  generalize const (bl T) = x at *
  obtain ⟨n, k, o⟩ := x
  have hw1 : wrap64 (-(n : Int)) = -(n : Int) := by unfold wrap64; simp only at hle; omega
  have RS := Lib.hid RS
  have HV := Lib.hid (numT_val false n k o T.size)
  generalize numT false (n, k, o) T.size = R at *
  obtain ⟨b0, hb0⟩ : ∃ b, ((k : Int) == 0) = b := ⟨_, rfl⟩
  obtain ⟨b1, hb1⟩ : ∃ b, decide ((k : Int) < (T.size : Int)) = b := ⟨_, rfl⟩
  have hbs : (b1 = true → k < T.size) ∧ (b1 = false → ¬ k < T.size) := ⟨fun h => by rw [h] at hb1; have := of_decide_eq_true hb1; omega, fun h => by rw [h] at hb1; have := of_decide_eq_false hb1; omega⟩
  rw [hb0, hb1] at HV
  clear hb1
  clear hT HN hle hTs hz
  cases b0 <;> cases o <;> cases b1
  all_goals (
    first | (have hs := hbs.1 rfl; clear hbs) | (have hs := hbs.2 rfl; clear hbs)
    go_enter Tryz.func53, Tryz.ntmps53
    go_wp2_with fail
    go_quiet (fail)
    go_wp2_with fail
    refine (RS.out (w.drewN nq)).mono ?_
    rintro e w1 ⟨rfl, rfl⟩
    go_wp2_with fail
    go_ret2
    exact ⟨by rw [HV.out]; first | rfl | exact congrArg (fun x => Ending.returned (Value.tuple #[.int .i64 x, .int .i64 _])) hw1, HB.out _⟩)
set_option maxRecDepth 100000 in
set_option maxHeartbeats 8000000 in
/-- pidginref14.Number, behind a minus. -/
theorem ref_Number_minus (S T : ByteArray) (w : World) (hp0 : 0 < S.size) (hTm : T.size ≤ maxLen) (h1 : ((S[0].toNat : Int) == 39) = false) (h2 : ((S[0].toNat : Int) == 34) = false) (h3 : ((S[0].toNat : Int) == 45) = true)
    (hT : T = S.extract 1 S.size) (HN : num (bl S) = numT true (const (bl T)) T.size) :
    Calls Tryz.prog 53 #[.string S] w fun e w' => e = .returned (.tuple #[.int .i64 (num (bl S)).1, .int .i64 (num (bl S)).2]) ∧ Below w.heap.size w w' := by
  have e0 : S.toList.isEmpty = false := isEmpty_F (by omega)
  have hTs : (bl T).length = T.size := bl_length T
  have rc := fun W => Lib.run_convert_string_bytes (P := Tryz.prog) W 9 25 5 T Tryz.underlying9 Tryz.underlying25 Tryz.underlying5
  have RS := fun W => ref_Const _ _ (bl T) _ (bytes_bs W T hTm)
  simp only [hTs] at RS
  have HB : Hid (∀ q, Below w.heap.size w (Lib.bytesWorld (w.drewN q) 5 T)) := fun q => (show Below w.heap.size w (w.drewN q) from ⟨rfl, rfl, rfl, Nat.le_refl _, fun _ _ => rfl⟩).trans (bytes_below (w.drewN q) T)
  have hle := (const_le (bl T)).1
  have hz := const_zero (bl T)
  have rs : ∀ W, (Instr.slice 9 (.string S) (some (.int .i64 1)) none none).run Tryz.prog W = .ok (.string T) W := fun W => by
    rw [run_slice_string_from_if W 9 S .i64 1 Tryz.underlying9, if_pos (by omega), hT]; rfl
  rw [HN]
  generalize const (bl T) = x at *
  obtain ⟨n, k, o⟩ := x
  have hw1 : wrap64 (-(n : Int)) = -(n : Int) := by unfold wrap64; simp only at hle; omega
  have RS := Lib.hid RS
  have HV := Lib.hid (numT_val true n k o T.size)
  generalize numT true (n, k, o) T.size = R at *
  obtain ⟨b0, hb0⟩ : ∃ b, ((k : Int) == 0) = b := ⟨_, rfl⟩
  obtain ⟨b1, hb1⟩ : ∃ b, decide ((k : Int) < (T.size : Int)) = b := ⟨_, rfl⟩
  have hbs : (b1 = true → k < T.size) ∧ (b1 = false → ¬ k < T.size) := ⟨fun h => by rw [h] at hb1; have := of_decide_eq_true hb1; omega, fun h => by rw [h] at hb1; have := of_decide_eq_false hb1; omega⟩
  rw [hb0, hb1] at HV
  clear hb1
  clear hT HN hle hTs hz
  cases b0 <;> cases o <;> cases b1
  all_goals (
    first | (have hs := hbs.1 rfl; clear hbs) | (have hs := hbs.2 rfl; clear hbs)
    go_enter Tryz.func53, Tryz.ntmps53
    go_wp2_with fail
    go_quiet (fail)
    go_wp2_with fail
    refine (RS.out (w.drewN nq)).mono ?_
    rintro e w1 ⟨rfl, rfl⟩
    go_wp2_with fail
    go_ret2
    exact ⟨by rw [HV.out]; first | rfl | exact congrArg (fun x => Ending.returned (Value.tuple #[.int .i64 x, .int .i64 _])) hw1, HB.out _⟩)

set_option maxRecDepth 100000 in
set_option maxHeartbeats 8000000 in
/-- pidginref14.Number of a quote and more. -/
theorem ref_Number_quote (S : ByteArray) (w : World) (hp0 : 0 < S.size) (a1 a2 : Bool) (h1 : ((S[0].toNat : Int) == 39) = a1) (h2 : ((S[0].toNat : Int) == 34) = a2) (h12 : a1 = true ∨ a2 = true) :
    Calls Tryz.prog 53 #[.string S] w fun e w' => e = .returned (.tuple #[.int .i64 (num (bl S)).1, .int .i64 (num (bl S)).2]) ∧ Below w.heap.size w w' := by
  have hl := bl_length S
  have g0 := bl_get S 0 hp0
  have e0 : S.toList.isEmpty = false := isEmpty_F (by omega)
  have hq : S[0].toNat = 39 ∨ S[0].toNat = 34 := by
    rcases h12 with rfl | rfl
    · left; have := eq_of_beq h1; omega
    · right; have := eq_of_beq h2; omega
  rw [← g0] at hq
  by_cases hs1 : S.size = 1
  · have HN : Hid (num (bl S) = (0, 0)) := by show num _ = _; unfold num; rw [if_neg (by omega), if_pos hq, if_pos (by omega)]
    have t1 : ((S.size : Int) == 1) = true := by rw [hs1]; rfl
    clear hl g0 hq hs1
    cases a1
    all_goals cases a2
    any_goals (exfalso; revert h12; decide)
    all_goals clear h12
    all_goals (
      go_enter Tryz.func53, Tryz.ntmps53
      go_wp2_with fail
      go_ret2
      exact ⟨by rw [HN.out]; rfl, Below.refl _ _⟩)
  have t1 : ((S.size : Int) == 1) = false := by rw [beq_eq_false_iff_ne]; omega
  have hp1 : 1 < S.size := by omega
  have g1 := bl_get S 1 hp1
  have hw1 : wrap64 (S[1].toNat : Int) = (S[1].toNat : Int) := wrap64_byte _
  by_cases hs2 : S.size = 2
  · have HN : Hid (num (bl S) = ((S[1].toNat : Int), 0)) := by show num _ = _; unfold num; rw [if_neg (by omega), if_pos hq, if_neg (by omega), if_neg (by omega), g1]
    have t2 : ((S.size : Int) == 2) = true := by rw [hs2]; rfl
    clear hl g0 hq hs1 g1 hs2
    cases a1
    all_goals cases a2
    any_goals (exfalso; revert h12; decide)
    all_goals clear h12
    all_goals (
      go_enter Tryz.func53, Tryz.ntmps53
      go_wp2_with fail
      go_ret2
      exact ⟨by rw [HN.out]; first | rfl | exact congrArg (fun x => Ending.returned (Value.tuple #[.int .i64 x, .int .i64 _])) hw1, Below.refl _ _⟩)
  · have HN : Hid (num (bl S) = ((S[1].toNat : Int), 14)) := by show num _ = _; unfold num; rw [if_neg (by omega), if_pos hq, if_neg (by omega), if_pos (by omega), g1]
    have t2 : ((S.size : Int) == 2) = false := by rw [beq_eq_false_iff_ne]; omega
    clear hl g0 hq hs1 g1 hs2
    cases a1
    all_goals cases a2
    any_goals (exfalso; revert h12; decide)
    all_goals clear h12
    all_goals (
      go_enter Tryz.func53, Tryz.ntmps53
      go_wp2_with fail
      go_ret2
      exact ⟨by rw [HN.out]; first | rfl | exact congrArg (fun x => Ending.returned (Value.tuple #[.int .i64 x, .int .i64 _])) hw1, Below.refl _ _⟩)

/-- pidginref14.Number. -/
theorem ref_Number (S : ByteArray) (w : World) (hS : S.size ≤ maxLen) :
    Calls Tryz.prog 53 #[.string S] w fun e w' => e = .returned (.tuple #[.int .i64 (num (bl S)).1, .int .i64 (num (bl S)).2]) ∧ Below w.heap.size w w' := by
  by_cases h0 : S.size = 0
  · have HN : Hid (num (bl S) = (0, 0)) := by show num _ = _; unfold num; rw [if_pos (by rw [bl_length]; exact h0)]
    have e0 := isEmpty_T h0
    clear h0
    go_enter Tryz.func53, Tryz.ntmps53
    go_wp2_with fail
    go_ret2
    exact ⟨by rw [HN.out]; rfl, Below.refl _ _⟩
  have hp0 : 0 < S.size := by omega
  have hl := bl_length S
  have g0 := bl_get S 0 hp0
  have hTl : (bl S).drop 1 = bl (S.extract 1 S.size) := (bl_tail S).symm
  have hTs : (bl (S.extract 1 S.size)).length = (S.extract 1 S.size).size := bl_length _
  have hTm : (S.extract 1 S.size).size ≤ maxLen := by rw [← hTs, ← hTl, List.length_drop]; omega
  cases h1 : ((S[0].toNat : Int) == 39)
  · cases h2 : ((S[0].toNat : Int) == 34)
    · cases h3 : ((S[0].toNat : Int) == 45)
      · cases h4 : ((S[0].toNat : Int) == 43)
        · refine ref_Number_plain S w hp0 hS h1 h2 h3 h4 ?_
          rw [← numT_is]
          unfold num
          rw [beq_eq_false_iff_ne] at h1 h2 h3 h4
          rw [if_neg (by omega), if_neg (by omega), if_neg (by omega), if_neg (by omega), hl]
        · refine ref_Number_plus S _ w hp0 hTm h1 h2 h3 h4 rfl ?_
          rw [← numT_is]
          unfold num
          rw [beq_eq_false_iff_ne] at h1 h2 h3
          have h4 := eq_of_beq h4
          rw [if_neg (by omega), if_neg (by omega), if_neg (by omega), if_pos (by omega), hTl, hTs]
      · refine ref_Number_minus S _ w hp0 hTm h1 h2 h3 rfl ?_
        rw [← numT_neg]
        unfold num
        rw [beq_eq_false_iff_ne] at h1 h2
        have h3 := eq_of_beq h3
        rw [if_neg (by omega), if_neg (by omega), if_pos (by omega), hTl, hTs]
    · exact ref_Number_quote S w hp0 _ _ h1 h2 (Or.inr rfl)
  · exact ref_Number_quote S w hp0 true ((S[0].toNat : Int) == 34) h1 rfl (Or.inl rfl)
end Go.Proofs.YtppcjmbblkbkdaaGreatDoor

/- The walk of pidginref14.Escape. Conditions as typed. -/
namespace Go.Proofs.YtppcjmbblkbkdaaGreatDoor
open Go.RowKit Pg

theorem and255 (n : Nat) (hn : n ≤ 9223372036854775807) : bits .and .i64 (n : Int) 255 = ((n % 256 : Nat) : Int) := by
  have h := bits_mask .i64 63 (by decide) (fun n h0 h1 => by rw [IntKind.wrap_i64]; omega) 8 (by decide) (n : Int) (by omega) (by omega)
  have e : ((2 : Int) ^ 8 - 1) = 255 := by decide
  have e2 : ((2 : Int) ^ 8) = 256 := by decide
  rw [e, e2] at h
  rw [h]
  omega

set_option maxRecDepth 100000 in
set_option maxHeartbeats 4000000 in
/-- pidginref14.Escape of a backslash at a place: what shape.Escape tells of the bytes behind it, one more byte. -/
theorem ref_Escape (a : Option Addr) (cap : Nat) (l : List UInt8) (i : Nat) (hi : i < l.length) (hn : l.length ≤ 140737488355328) (w : World) (hl : Bs w a cap l) :
    Calls Tryz.prog 19 #[.slice a l.length cap, .int .i64 i] w fun e w' => e = .returned (.tuple #[.int .u8 (if (esc (l.drop (i + 1))).2 = 0 then 0 else (esc (l.drop (i + 1))).1.toNat), .int .i64 (if (esc (l.drop (i + 1))).2 = 0 then 0 else (esc (l.drop (i + 1))).2 + 1 : Nat)]) ∧ w = w' := by
  have HL := Lib.hid hl
  have hlc := hl.1
  have hcm := hl.2.1
  unfold maxLen at hcm
  clear hl
  by_cases h0 : l.length ≤ i + 1
  · have hc : esc (l.drop (i + 1)) = (0, 0) := by unfold esc; rw [if_pos (by rw [List.length_drop]; omega)]
    rw [hc]
    clear hc
    go_enter Tryz.func19, Tryz.ntmps19
    go_wp2_with fail
    go_ret2
    exact ⟨rfl, rfl⟩
  · have hi1 : i + 1 < l.length := by omega
    obtain ⟨b, off, rfl, hc0⟩ := HL.out.2.2 (i + 1) hi1
    have hg : (l.drop (i + 1)).getD 0 0 = l[i + 1] := by simp [List.getD_eq_getElem?_getD, hi1]
    have hdl : (l.drop (i + 1)).length ≠ 0 := by rw [List.length_drop]; omega
    have hxl := (l[i + 1]).toNat_lt
    obtain ⟨x, hx⟩ : ∃ x : Nat, x = (l[i + 1]).toNat := ⟨_, rfl⟩
    rw [← hx] at hc0 hxl
    by_cases h1 : escOf x = 0
    · have hc : esc (l.drop (i + 1)) = (UInt8.ofNat (digits 8 ((l.drop (i + 1)).take 3)).1, (digits 8 ((l.drop (i + 1)).take 3)).2.1) := by unfold esc; rw [if_neg hdl, hg, ← hx, if_pos h1]
      have hne : x ≠ 92 ∧ x ≠ 97 ∧ x ≠ 98 ∧ x ≠ 102 ∧ x ≠ 110 ∧ x ≠ 114 ∧ x ≠ 116 ∧ x ≠ 118 := by
        refine ⟨?_, ?_, ?_, ?_, ?_, ?_, ?_, ?_⟩ <;> (rintro rfl; exact absurd h1 (by decide))
      have f1 : ((x : Int) == 92) = false := beq_eq_false_iff_ne.2 (by omega)
      have f2 : ((x : Int) == 97) = false := beq_eq_false_iff_ne.2 (by omega)
      have f3 : ((x : Int) == 98) = false := beq_eq_false_iff_ne.2 (by omega)
      have f4 : ((x : Int) == 102) = false := beq_eq_false_iff_ne.2 (by omega)
      have f5 : ((x : Int) == 110) = false := beq_eq_false_iff_ne.2 (by omega)
      have f6 : ((x : Int) == 114) = false := beq_eq_false_iff_ne.2 (by omega)
      have f7 : ((x : Int) == 116) = false := beq_eq_false_iff_ne.2 (by omega)
      have f8 : ((x : Int) == 118) = false := beq_eq_false_iff_ne.2 (by omega)
      obtain ⟨m, hm⟩ : ∃ m, m = min l.length (i + 4) := ⟨_, rfl⟩
      have hmin : min (l.length : Int) ((i : Int) + 4) = (m : Int) := by omega
      have hm1 : i + 1 ≤ m := by omega
      have hm2 : m ≤ l.length := by omega
      have hcut : ∀ W, (Instr.slice 25 (.slice (some ⟨b, off, none⟩) l.length cap) (some (.int .i64 ((i : Int) + 1))) (some (.int .i64 (m : Int))) none).run Tryz.prog W = .ok (.slice (cutA (some ⟨b, off, none⟩) cap (i + 1)) (m - (i + 1)) (cap - (i + 1))) W := fun W => by
        have ht : Tryz.prog.underlying 25 = some (.slice (Tryz.prog.elem 25)) := by rw [elem_is Tryz.underlying25]; exact Tryz.underlying25
        have hs : ∀ w, (sizeOf (Tryz.prog.elem 25)).run Tryz.prog w = .ok 1 w := by rw [elem_is Tryz.underlying25]; exact u8_size
        rw [run_slice_lh W 25 (some ⟨b, off, none⟩) l.length cap ht .i64 .i64 ((i : Int) + 1) m (by omega) (by omega) (by omega), hs]
        have e1 : ((i : Int) + 1).toNat = i + 1 := by omega
        simp [Result.andThen, sliced, cutA, e1]
      have hbs := (HL.out.cut (i + 1) (by omega)).take (m - (i + 1))
      have htk : (l.drop (i + 1)).take (m - (i + 1)) = (l.drop (i + 1)).take 3 := by
        rcases Nat.le_total l.length (i + 4) with h | h
        · rw [List.take_of_length_le (by rw [List.length_drop]; omega), List.take_of_length_le (by rw [List.length_drop]; omega)]
        · rw [show m - (i + 1) = 3 by omega]
      rw [htk] at hbs
      have hln : ((l.drop (i + 1)).take 3).length = m - (i + 1) := by rw [← htk, List.length_take, List.length_drop]; omega
      have CD := ref_Digits (cutA (some ⟨b, off, none⟩) cap (i + 1)) (cap - (i + 1)) ((l.drop (i + 1)).take 3) 8 (by omega) (by omega) w hbs
      rw [hln] at CD
      have hdm := (digits_le 8 (by omega) ((l.drop (i + 1)).take 3))
      rw [hc]
      generalize digits 8 ((l.drop (i + 1)).take 3) = d at *
      generalize cutA (some ⟨b, off, none⟩) cap (i + 1) = ca at *
      generalize m - (i + 1) = lm at *
      generalize cap - (i + 1) = cc at *
      have CD := Lib.hid CD
      clear hc hne h1 hx hg hdl h0 htk hbs hln hm
      by_cases hd0 : d.2.1 = 0
      · have g0 : ((d.2.1 : Int) == 0) = true := beq_iff_eq.2 (by omega)
        rw [if_pos hd0, if_pos hd0]
        go_enter Tryz.func19, Tryz.ntmps19
        go_wp2_with fail
        refine CD.out.mono ?_
        rintro e w' ⟨rfl, rfl⟩
        go_wp2_with fail
        go_ret2
        exact ⟨rfl, rfl⟩
      · have g0 : ((d.2.1 : Int) == 0) = false := beq_eq_false_iff_ne.2 (by omega)
        have hd3 : d.2.1 ≤ 3 := by
          have := hdm.2
          rw [List.length_take] at this
          omega
        have hwr : wrap64 ((d.2.1 : Int) + 1) = (d.2.1 : Int) + 1 := by unfold wrap64; omega
        have hbt : bits .and .i64 (d.1 : Int) 255 = ((d.1 % 256 : Nat) : Int) := and255 d.1 (by omega)
        rw [if_neg hd0, if_neg hd0, ofNat_u8]
        go_enter Tryz.func19, Tryz.ntmps19
        go_wp2_with fail
        refine CD.out.mono ?_
        rintro e w' ⟨rfl, rfl⟩
        go_wp2_with fail
        go_ret2
        refine ⟨?_, rfl⟩
        simp
    · have hc : esc (l.drop (i + 1)) = (UInt8.ofNat (escOf x), 1) := by unfold esc; rw [if_neg hdl, hg, ← hx, if_neg h1]
      have hlet := esc_letters x hxl h1
      rw [hc]
      clear hc hx hg hdl h0 h1
      rcases hlet with rfl | rfl | rfl | rfl | rfl | rfl | rfl | rfl
      all_goals (
        go_enter Tryz.func19, Tryz.ntmps19
        go_wp2_with fail
        go_ret2
        exact ⟨rfl, rfl⟩)
end Go.Proofs.YtppcjmbblkbkdaaGreatDoor

/- The walk of pidginref2.In. Conditions as typed. -/
namespace Go.Proofs.YtppcjmbblkbkdaaGreatDoor
open Go.RowKit Pg

/-- Is a byte one of those? -/
def isIn (c : Nat) (l : List UInt8) : Bool := l.any fun b => b.toNat == c
set_option maxRecDepth 100000 in
set_option maxHeartbeats 4000000 in
/-- pidginref2.In. -/
theorem ref_In (c : Nat) (S : ByteArray) (hS : S.size ≤ 1000) (w : World) :
    Calls Tryz.prog 35 #[.int .u8 c, .string S] w fun e w' => e = .returned (.bool (isIn c (bl S))) ∧ w = w' := by
  go_enter Tryz.func35, Tryz.ntmps35
  go_wp2_with fail
  go_loopw [8] (fun kv wr => ∃ k : Nat, k ≤ S.size ∧ kv = .int .i64 k ∧ Hid (isIn c ((bl S).take k) = false) ∧ w = wr) (fun kv _ => S.size - (intOf kv).toNat)
  case atStart => exact ⟨0, by omega, rfl, rfl, rfl⟩
  case round =>
    obtain ⟨k, hk, rfl, HQ, rfl⟩ := hrel
    by_cases hlt : k < S.size
    · have hkl : k < (bl S).length := by rw [bl_length]; exact hlt
      have hg : (bl S)[k] = S[k] := rfl
      have ht : (bl S).take (k + 1) = (bl S).take k ++ [S[k]] := by rw [List.take_succ_eq_append_getElem hkl]; rfl
      by_cases he : S[k].toNat = c
      · have e1 : ((S[k].toNat : Int) == (c : Int)) = true := beq_iff_eq.2 (by omega)
        have HD : Hid (isIn c (bl S) = true) := by
          show _ = _
          unfold isIn
          rw [List.any_eq_true]
          exact ⟨S[k], by rw [← hg]; exact List.getElem_mem hkl, beq_iff_eq.2 he⟩
        clear ht hg he
        go_wp2_with fail
        go_ret
        rw [HD.out]
        exact ⟨rfl, rfl⟩
      · have e1 : ((S[k].toNat : Int) == (c : Int)) = false := beq_eq_false_iff_ne.2 (by omega)
        have HN : Hid (isIn c ((bl S).take (k + 1)) = false) := by
          show _ = _
          have h := HQ.out
          unfold isIn at h ⊢
          rw [ht, List.any_append, h]
          simp [he]
        clear ht hg he
        go_wp2_with fail
        go_roundw
        case rel => exact ⟨k + 1, by omega, by go_num, HN, trivial⟩
        case measure => simp [intOf]; omega
    · have HD : Hid (isIn c (bl S) = false) := by have := HQ.out; rwa [List.take_of_length_le (by rw [bl_length]; omega)] at this
      go_wp2_with fail
      go_ret
      rw [HD.out]
      exact ⟨rfl, rfl⟩
end Go.Proofs.YtppcjmbblkbkdaaGreatDoor
