/- The walks of scan.Const, shape.Escape. Conditions as typed. -/
import Derived.Test.YtppcjmbblkbkdaaGreatDoorScan
import Derived.Test.YtppcjmbblkbkdaaGreatDoorWords
import Derived.Test.YtppcjmbblkbkdaaGreatDoorFillM
import Derived.Test.YtppcjmbblkbkdaaGreatDoorShelf
namespace Go.Proofs.YtppcjmbblkbkdaaGreatDoor
open Go.RowKit Pg

theorem u8_size (w : World) : (sizeOf 5).run Tryz.prog w = .ok 1 w := by kernel_rfl
theorem Bs.head {w : World} {a : Option Addr} {cap : Nat} {l : List UInt8} (h : Bs w a cap l) (i : Nat) (hi : i < l.length) : ∃ b off, a = some ⟨b, off, none⟩ ∧ w.cell? ⟨b, off + i, none⟩ = some (.int .u8 (l.getD i 0).toNat) := by
  obtain ⟨b, off, ha, hc⟩ := h.2.2 i hi
  exact ⟨b, off, ha, by rw [hc]; simp [hi]⟩

/-- scan.Digits of what is left behind a place; of the first bytes. -/
theorem scan_Digits_cut (a : Option Addr) (cap : Nat) (l : List UInt8) (base : Nat) (h0 : 2 ≤ base) (h1 : base ≤ 16) (w : World) (hl : Bs w a cap l) (k : Nat) (hk : k ≤ l.length) :
    Calls Tryz.prog 46 #[.slice (cutA a cap k) (l.length - k) (cap - k), .int .i64 base] w fun e w' => e = .returned (.tuple #[.int .i64 (digits base (l.drop k)).1, .int .i64 (digits base (l.drop k)).2.1, .bool (digits base (l.drop k)).2.2]) ∧ w = w' := by
  have := scan_Digits (cutA a cap k) (cap - k) (l.drop k) base h0 h1 w (hl.cut k hk)
  rwa [List.length_drop] at this
theorem scan_Digits_take (a : Option Addr) (cap : Nat) (l : List UInt8) (base : Nat) (h0 : 2 ≤ base) (h1 : base ≤ 16) (w : World) (hl : Bs w a cap l) (k : Nat) (hk : k ≤ l.length) :
    Calls Tryz.prog 46 #[.slice a k cap, .int .i64 base] w fun e w' => e = .returned (.tuple #[.int .i64 (digits base (l.take k)).1, .int .i64 (digits base (l.take k)).2.1, .bool (digits base (l.take k)).2.2]) ∧ w = w' := by
  have := scan_Digits a cap (l.take k) base h0 h1 w (hl.take k)
  rwa [List.length_take, Nat.min_eq_left hk] at this
set_option maxHeartbeats 2000000 in
/-- scan.Const. -/
theorem scan_Const (a : Option Addr) (cap : Nat) (l : List UInt8) (w : World) (hl : Bs w a cap l) :
    Calls Tryz.prog 71 #[.slice a l.length cap] w fun e w' => e = .returned (.tuple #[.int .i64 (const l).1, .int .i64 (const l).2.1, .bool (const l).2.2]) ∧ w = w' := by
  have HL := Lib.hid hl
  have hlc := hl.1
  have hcm := hl.2.1
  unfold maxLen at hcm
  clear hl
  by_cases h0 : l.length = 0
  · have hc : const l = (0, 0, false) := by unfold const; rw [if_pos h0]
    rw [hc]
    have e0 : ((l.length : Int) == 0) = true := by simp [h0]
    clear hc
    go_enter Tryz.func71, Tryz.ntmps71
    go_wp2
    go_ret3
    exact ⟨rfl, rfl⟩
  have e0 : ((l.length : Int) == 0) = false := beq_eq_false_iff_ne.2 (by omega)
  obtain ⟨b, off, rfl, hc0⟩ := HL.out.head 0 (by omega)
  rw [Nat.add_zero] at hc0
  have C10 := Lib.hid (scan_Digits (some ⟨b, off, none⟩) cap l 10 (by omega) (by omega) w HL.out)
  have C8 := Lib.hid (scan_Digits (some ⟨b, off, none⟩) cap l 8 (by omega) (by omega) w HL.out)
  have HX : Hid (∃ x, x = l.getD 0 0) := ⟨_, rfl⟩
  obtain ⟨x, hx⟩ := HX.out
  rw [← hx] at hc0
  have hxl := x.toNat_lt
  have HXE := Lib.hid hx
  clear hx HX
  by_cases h1 : x.toNat < 48 ∨ 57 < x.toNat
  · have hc : const l = (0, 0, false) := by unfold const; rw [if_neg h0, ← HXE.out, if_pos h1]
    rw [hc]
    clear hc
    rcases h1 with h1 | h1
    all_goals
      go_enter Tryz.func71, Tryz.ntmps71
      go_wp2
      go_ret3
      exact ⟨rfl, rfl⟩
  have h2 : 48 ≤ x.toNat := by omega
  have h3 : x.toNat ≤ 57 := by omega
  by_cases h4 : 48 < x.toNat
  · have hc : const l = digits 10 l := by unfold const; rw [if_neg h0, ← HXE.out, if_neg h1, if_pos (by omega)]
    rw [hc]
    clear hc h1
    go_enter Tryz.func71, Tryz.ntmps71
    go_wp2_with (go_at_call 46; refine C10.out.mono ?_; rintro e w' ⟨rfl, rfl⟩)
    go_ret3
    exact ⟨rfl, rfl⟩
  have h5 : x.toNat ≤ 48 := by omega
  by_cases h6 : 1 < l.length
  · obtain ⟨b', off', hb', hc1⟩ := HL.out.head 1 h6
    simp only [Option.some.injEq, Addr.mk.injEq] at hb'
    obtain ⟨rfl, rfl, _⟩ := hb'
    have HY : Hid (∃ y, y = l.getD 1 0) := ⟨_, rfl⟩
    obtain ⟨y, hy⟩ := HY.out
    rw [← hy] at hc1
    have hyl := y.toNat_lt
    have HYE := Lib.hid hy
    clear hy HY
    by_cases h7 : y.toNat = 120 ∨ y.toNat = 88
    · have hcut := run_cutFrom (P := Tryz.prog) Tryz.underlying25 u8_size (some ⟨b, off, none⟩) l cap 2 (by omega) 2 rfl
      have C16 := Lib.hid (scan_Digits_cut (some ⟨b, off, none⟩) cap l 16 (by omega) (by omega) w HL.out 2 (by omega))
      have hle := (digits_le 16 (by omega) (l.drop 2)).2
      simp only [List.length_drop] at hle
      by_cases h8 : 0 < (digits 16 (l.drop 2)).2.1
      · have hc : const l = ((digits 16 (l.drop 2)).1, (digits 16 (l.drop 2)).2.1 + 2, (digits 16 (l.drop 2)).2.2) := by
          unfold const; rw [if_neg h0, ← HXE.out, if_neg h1, if_neg (by omega), ← HYE.out, if_pos ⟨h6, h7, h8⟩]
        rw [hc]
        generalize digits 16 (l.drop 2) = d at *
        clear hc h1
        have hY : (((y.toNat : Int) == 120) = true ∧ ((y.toNat : Int) == 88) = false) ∨ (((y.toNat : Int) == 120) = false ∧ ((y.toNat : Int) == 88) = true) := by
          rcases h7 with h7 | h7
          · exact .inl ⟨beq_iff_eq.2 (by omega), beq_eq_false_iff_ne.2 (by omega)⟩
          · exact .inr ⟨beq_eq_false_iff_ne.2 (by omega), beq_iff_eq.2 (by omega)⟩
        clear h7
        rcases hY with ⟨h7a, h7b⟩ | ⟨h7a, h7b⟩
        all_goals
          go_enter Tryz.func71, Tryz.ntmps71
          go_wp2_with (go_at_call 46; refine C16.out.mono ?_; rintro e w' ⟨rfl, rfl⟩)
          go_ret3
          exact ⟨rfl, rfl⟩
      · have hc : const l = digits 8 l := by
          unfold const; rw [if_neg h0, ← HXE.out, if_neg h1, if_neg (by omega), ← HYE.out, if_neg (by omega)]
        rw [hc]
        generalize digits 16 (l.drop 2) = d at *
        clear hc h1
        have hY : (((y.toNat : Int) == 120) = true ∧ ((y.toNat : Int) == 88) = false) ∨ (((y.toNat : Int) == 120) = false ∧ ((y.toNat : Int) == 88) = true) := by
          rcases h7 with h7 | h7
          · exact .inl ⟨beq_iff_eq.2 (by omega), beq_eq_false_iff_ne.2 (by omega)⟩
          · exact .inr ⟨beq_eq_false_iff_ne.2 (by omega), beq_iff_eq.2 (by omega)⟩
        clear h7
        rcases hY with ⟨h7a, h7b⟩ | ⟨h7a, h7b⟩
        all_goals
          go_enter Tryz.func71, Tryz.ntmps71
          go_wp2_with fail
          refine C16.out.mono ?_
          rintro e w' ⟨rfl, rfl⟩
          go_wp2_with fail
          refine C8.out.mono ?_
          rintro e w' ⟨rfl, rfl⟩
          go_wp2_with fail
          go_ret3
          exact ⟨rfl, rfl⟩
    · have hc : const l = digits 8 l := by
        unfold const; rw [if_neg h0, ← HXE.out, if_neg h1, if_neg (by omega), ← HYE.out, if_neg (by omega)]
      rw [hc]
      clear hc h1
      have h7a : ((y.toNat : Int) == 120) = false := by rw [beq_eq_false_iff_ne]; omega
      have h7b : ((y.toNat : Int) == 88) = false := by rw [beq_eq_false_iff_ne]; omega
      clear h7
      go_enter Tryz.func71, Tryz.ntmps71
      go_wp2_with (go_at_call 46; refine C8.out.mono ?_; rintro e w' ⟨rfl, rfl⟩)
      go_ret3
      exact ⟨rfl, rfl⟩
  · have hc : const l = digits 8 l := by
      unfold const; rw [if_neg h0, ← HXE.out, if_neg h1, if_neg (by omega), if_neg (by omega)]
    rw [hc]
    clear hc h1
    go_enter Tryz.func71, Tryz.ntmps71
    go_wp2_with (go_at_call 46; refine C8.out.mono ?_; rintro e w' ⟨rfl, rfl⟩)
    go_ret3
    exact ⟨rfl, rfl⟩
end Go.Proofs.YtppcjmbblkbkdaaGreatDoor
