/- The walks of pidginref2.value, Digits, Const. Conditions as typed. -/
import Derived.Test.YtppcjmbblkbkdaaDoorScan2
namespace Go.Proofs.YtppcjmbblkbkdaaDoor
open Go.RowKit Pg

/-- A byte's value as a digit; 99: none. -/
def rv (x : UInt8) : Nat := if dig x = 16 then 99 else dig x
theorem rv_cases (x : UInt8) : (65 ≤ x.toNat ∧ x.toNat ≤ 70 ∧ rv x = x.toNat - 55) ∨ (97 ≤ x.toNat ∧ x.toNat ≤ 102 ∧ rv x = x.toNat - 87) ∨ (48 ≤ x.toNat ∧ x.toNat ≤ 57 ∧ rv x = x.toNat - 48) ∨
    ((x.toNat < 48 ∨ (57 < x.toNat ∧ x.toNat < 65) ∨ (70 < x.toNat ∧ x.toNat < 97) ∨ 102 < x.toNat) ∧ rv x = 99) := by
  unfold rv
  have := dig_cases x
  split <;> omega
theorem ref_value (x : UInt8) (w : World) :
    Calls Tryd.prog 58 #[.int .u8 x.toNat] w fun e w' => e = .returned (.int .i64 (rv x)) ∧ w = w' := by
  have hx := x.toNat_lt
  rcases (show (65 ≤ x.toNat ∧ x.toNat ≤ 70) ∨ (97 ≤ x.toNat ∧ x.toNat ≤ 102) ∨ (48 ≤ x.toNat ∧ x.toNat ≤ 57) ∨ x.toNat < 48 ∨ (57 < x.toNat ∧ x.toNat < 65) ∨ (70 < x.toNat ∧ x.toNat < 97) ∨ 102 < x.toNat by omega) with h | h | h | h | h | h | h
  all_goals
    go_enter Tryd.func58, Tryd.ntmps58
    go_wp2
    go_ret
    exact ⟨ret_i (by have := rv_cases x; omega), rfl⟩

set_option maxHeartbeats 2000000 in
theorem ref_Digits (a : Option Addr) (cap : Nat) (l : List UInt8) (base : Nat) (h0 : 2 ≤ base) (h1 : base ≤ 16) (w : World) (hl : Bs w a cap l) :
    Calls Tryd.prog 43 #[.slice a l.length cap, .int .i64 base] w fun e w' => e = .returned (.tuple #[.int .i64 (digits base l).1, .int .i64 (digits base l).2.1, .bool (digits base l).2.2]) ∧ w = w' := by
  obtain ⟨hlc, hcm, hcell⟩ := hl
  unfold maxLen at hcm
  have hwb : IntKind.u64.wrap (base : Int) = (base : Int) := by rw [IntKind.wrap_u64]; omega
  go_enter Tryd.func43, Tryd.ntmps43
  go_wp2
  go_loop [7, 8, 9, 21] (fun n o u k => ∃ (kk nn : Nat) (oo : Bool), kk ≤ l.length ∧ nn ≤ 9223372036854775807 ∧ n = .int .u64 nn ∧ o = .bool oo ∧ u = .int .i64 kk ∧ k = .int .i64 kk ∧ Hid (digitsL base (l.drop kk) (if oo = true then maxI else nn) kk oo = digits base l)) (fun _ _ _ k => l.length - (intOf k).toNat)
  case atStart => exact ⟨0, 0, false, Nat.zero_le _, Nat.zero_le _, rfl, rfl, rfl, rfl, rfl⟩
  case round =>
    obtain ⟨kk, nn, oo, hk, hn, rfl, rfl, rfl, rfl, HR⟩ := hrel
    by_cases hlt : kk < l.length
    · obtain ⟨b, off, rfl, hc⟩ := hcell kk hlt
      have hd := dig_le l[kk]
      clear hcell
      by_cases hdb : dig l[kk] < base
      · have hr : rv l[kk] = dig l[kk] := by unfold rv; rw [if_neg (by omega)]
        cases oo
        · have hwd : IntKind.u64.wrap (dig l[kk] : Int) = (dig l[kk] : Int) := by rw [IntKind.wrap_u64]; omega
          have hws : IntKind.u64.wrap (9223372036854775807 - (dig l[kk] : Int)) = 9223372036854775807 - (dig l[kk] : Int) := by rw [IntKind.wrap_u64]; omega
          go_wp2_with (go_at_call 58; refine (ref_value _ _).mono ?_; rw [hr]; rintro e w' ⟨rfl, rfl⟩)
          all_goals go_round
          case rel =>
            have hov : (9223372036854775807 - (dig l[kk] : Int)) / (base : Int) < (nn : Int) := by assumption
            exact ⟨kk + 1, nn, true, by omega, hn, rfl, rfl, rfl, rfl, (digitsL_over base l kk nn false hlt hdb (.inr (over_of hd hov))).symm.trans HR.out⟩
          case measure => simp [intOf]; omega
          case rel =>
            have hov : (nn : Int) ≤ (9223372036854775807 - (dig l[kk] : Int)) / (base : Int) := by assumption
            have hov' := on_of hd hov
            have hle := on_le hd (by omega) hov'
            have hz : 0 ≤ (nn : Int) * (base : Int) := by rw [← Int.natCast_mul]; omega
            refine ⟨kk + 1, nn * base + dig l[kk], false, by omega, hle, val_i ?_, rfl, rfl, rfl, (digitsL_on base l kk nn hlt hdb hov').symm.trans HR.out⟩
            have e1 : IntKind.u64.wrap ((nn : Int) * (base : Int)) = ((nn * base : Nat) : Int) := by rw [IntKind.wrap_u64, ← Int.natCast_mul]; omega
            rw [e1, IntKind.wrap_u64]; omega
          case measure => simp [intOf]; omega
        · go_wp2_with (go_at_call 58; refine (ref_value _ _).mono ?_; rw [hr]; rintro e w' ⟨rfl, rfl⟩)
          go_round
          case rel => exact ⟨kk + 1, nn, true, by omega, hn, rfl, rfl, rfl, rfl, (digitsL_over base l kk maxI true hlt hdb (.inl rfl)).symm.trans HR.out⟩
          case measure => simp [intOf]; omega
      · have hr : base ≤ rv l[kk] := by unfold rv; split <;> omega
        generalize hrv : rv l[kk] = r at *
        cases oo
        · go_wp2_with (go_at_call 58; refine (ref_value _ _).mono ?_; rw [hrv]; rintro e w' ⟨rfl, rfl⟩)
          go_ret3
          rw [← (digitsL_no base l kk nn false hlt hdb).symm.trans HR.out]
          exact ⟨rfl, rfl⟩
        · go_wp2_with (go_at_call 58; refine (ref_value _ _).mono ?_; rw [hrv]; rintro e w' ⟨rfl, rfl⟩)
          go_ret3
          rw [← (digitsL_no base l kk maxI true hlt hdb).symm.trans HR.out]
          exact ⟨rfl, rfl⟩
    · cases oo
      · go_wp2
        go_ret3
        rw [← (digitsL_end base l kk nn false (by omega)).symm.trans HR.out]
        exact ⟨rfl, rfl⟩
      · go_wp2
        go_ret3
        rw [← (digitsL_end base l kk maxI true (by omega)).symm.trans HR.out]
        exact ⟨rfl, rfl⟩
end Go.Proofs.YtppcjmbblkbkdaaDoor
