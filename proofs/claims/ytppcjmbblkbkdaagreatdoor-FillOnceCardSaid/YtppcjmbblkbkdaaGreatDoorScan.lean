/- The walks of package scan's functions on digits: what they return. Conditions as typed. -/
import Derived.Test.YtppcjmbblkbkdaaGreatDoorProg
import Derived.Test.YtppcjmbblkbkdaaGreatDoorLib
namespace Go.Proofs.YtppcjmbblkbkdaaGreatDoor
open Go.RowKit Pg

theorem scan_digit (x : UInt8) (w : World) :
    Calls Tryz.prog 61 #[.int .u8 x.toNat] w fun e w' => e = .returned (.int .i64 (dig x)) ∧ w = w' := by
  have hx := x.toNat_lt
  rcases (show (65 ≤ x.toNat ∧ x.toNat ≤ 70) ∨ (97 ≤ x.toNat ∧ x.toNat ≤ 102) ∨ (48 ≤ x.toNat ∧ x.toNat ≤ 57) ∨ x.toNat < 48 ∨ (57 < x.toNat ∧ x.toNat < 65) ∨ (70 < x.toNat ∧ x.toNat < 97) ∨ 102 < x.toNat by omega) with h | h | h | h | h | h | h
  all_goals
    go_enter Tryz.func61, Tryz.ntmps61
    go_wp2
    go_ret
    exact ⟨ret_i (by have := dig_cases x; omega), rfl⟩

theorem scan_Digits (a : Option Addr) (cap : Nat) (l : List UInt8) (base : Nat) (h0 : 2 ≤ base) (h1 : base ≤ 16) (w : World) (hl : Bs w a cap l) :
    Calls Tryz.prog 46 #[.slice a l.length cap, .int .i64 base] w fun e w' => e = .returned (.tuple #[.int .i64 (digits base l).1, .int .i64 (digits base l).2.1, .bool (digits base l).2.2]) ∧ w = w' := by
  obtain ⟨hlc, hcm, hcell⟩ := hl
  unfold maxLen at hcm
  go_enter Tryz.func46, Tryz.ntmps46
  go_wp2
  go_loop [7, 8, 9] (fun n k o => ∃ (kk nn : Nat) (oo : Bool), kk ≤ l.length ∧ nn ≤ 9223372036854775807 ∧ n = .int .i64 nn ∧ k = .int .i64 kk ∧ o = .bool oo ∧ Hid (digitsL base (l.drop kk) nn kk oo = digits base l)) (fun _ k _ => l.length - (intOf k).toNat)
  case atStart => exact ⟨0, 0, false, Nat.zero_le _, Nat.zero_le _, rfl, rfl, rfl, rfl⟩
  case round =>
    obtain ⟨kk, nn, oo, hk, hn, rfl, rfl, rfl, HR⟩ := hrel
    by_cases hlt : kk < l.length
    · obtain ⟨b, off, rfl, hc⟩ := hcell kk hlt
      have hd := dig_le l[kk]
      by_cases hdb : dig l[kk] < base
      · have hb0 : (1 : Int) ≤ (base : Int) := by omega
        clear hcell
        cases oo
        · go_wp2_with (go_at_call 61; refine (scan_digit _ _).mono ?_; rintro e w' ⟨rfl, rfl⟩)
          all_goals go_round
          case rel =>
            have hov : (9223372036854775807 - (dig l[kk] : Int)) / (base : Int) < (nn : Int) := by assumption
            exact ⟨kk + 1, 9223372036854775807, true, by omega, by omega, rfl, rfl, rfl, (digitsL_over base l kk nn false hlt hdb (.inr (over_of hd hov))).symm.trans HR.out⟩
          case measure => simp [intOf]; omega
          case rel =>
            have hov : (nn : Int) ≤ (9223372036854775807 - (dig l[kk] : Int)) / (base : Int) := by assumption
            have hov' := on_of hd hov
            have hle := on_le hd (by omega) hov'
            have hle' : nn * base ≤ 9223372036854775807 := by omega
            have hz : 0 ≤ (nn : Int) * (base : Int) := by rw [← Int.natCast_mul]; omega
            refine ⟨kk + 1, nn * base + dig l[kk], false, by omega, hle, val_i ?_, rfl, rfl, (digitsL_on base l kk nn hlt hdb hov').symm.trans HR.out⟩
            have e1 : wrap64 ((nn : Int) * (base : Int)) = ((nn * base : Nat) : Int) := by rw [Int.natCast_mul]; exact IntWalk.wrap64_in _ ⟨by omega, by rw [← Int.natCast_mul]; omega⟩
            rw [e1, IntWalk.wrap64_in _ ⟨by omega, by omega⟩]; omega
          case measure => simp [intOf]; omega
        · go_wp2_with (go_at_call 61; refine (scan_digit _ _).mono ?_; rintro e w' ⟨rfl, rfl⟩)
          go_round
          case rel => exact ⟨kk + 1, 9223372036854775807, true, by omega, by omega, rfl, rfl, rfl, (digitsL_over base l kk nn true hlt hdb (.inl rfl)).symm.trans HR.out⟩
          case measure => simp [intOf]; omega
      · go_wp2_with (go_at_call 61; refine (scan_digit _ _).mono ?_; rintro e w' ⟨rfl, rfl⟩)
        go_ret3
        rw [← (digitsL_no base l kk nn oo hlt hdb).symm.trans HR.out]
        exact ⟨rfl, rfl⟩
    · go_wp2
      go_ret3
      rw [← (digitsL_end base l kk nn oo (by omega)).symm.trans HR.out]
      exact ⟨rfl, rfl⟩
end Go.Proofs.YtppcjmbblkbkdaaGreatDoor
