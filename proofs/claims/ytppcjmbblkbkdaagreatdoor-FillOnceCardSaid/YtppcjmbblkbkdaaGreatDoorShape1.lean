/- The walks of shape.fail, fill.fail, shape.Escape, shape.number. Conditions as typed. -/
import Derived.Test.YtppcjmbblkbkdaaGreatDoorScan2
import Derived.Test.YtppcjmbblkbkdaaGreatDoorBuild
namespace Go.Proofs.YtppcjmbblkbkdaaGreatDoor
open Go.RowKit Pg

theorem bottom_of0 (w : World) (A : Nat → Addr) (hS : Sents0 w A) (K : Nat) (h1 : 1 ≤ K) (h2 : K ≤ 21) : Bottom w A (A K) K :=
  ⟨hS.plain K h1 h2, h1, by omega, fun c c1 c2 => ⟨fun h => (hS.inj K c h1 h2 c1 c2 h).symm, fun h => by rw [h]⟩⟩

/-- The world behind an error of a code at a place. -/
def failW (w : World) (a : Addr) (pos : Int) : World :=
  (w.alloc (.cells #[.iface 162 (.pointer (some a)), .int .i64 pos] 68)).alloc (.cells #[.iface 64 (.pointer (some ⟨w.heap.size, 0, none⟩)), .int .i64 5] 72)
/-- An error of a code at a place, in a format. -/
def ErrAt (w : World) (A : Nat → Addr) (v : Value) (code : Nat) (pos : Int) : Prop := ∃ b, Chain w b [(true, 5), (false, pos)] v ∧ Bottom w A b code
theorem ErrAt.kept {w w' : World} {A : Nat → Addr} {v : Value} {c : Nat} {p : Int} {B : Nat} (h : ErrAt w A v c p) (hb : Below B w w') (hB : w.heap.size ≤ B) : ErrAt w' A v c p := by
  obtain ⟨b, h1, h2⟩ := h
  exact ⟨b, h1.kept hb hB, h2.kept hb hB⟩
theorem below_failW (w : World) (a : Addr) (pos : Int) : Below w.heap.size w (failW w a pos) := ((Below.refl _ _).alloc (Nat.le_refl _) _).alloc (by simp) _
theorem size_failW (w : World) (a : Addr) (pos : Int) : (failW w a pos).heap.size = w.heap.size + 2 := by simp [failW]
theorem failW_err (w : World) (A : Nat → Addr) (hS : Sents0 w A) (k : Nat) (h1 : 1 ≤ k) (h2 : k ≤ 21) (pos : Int) :
    ErrAt (failW w (A k) pos) A (.iface 69 (.pointer (some ⟨w.heap.size + 1, 0, none⟩))) k pos := by
  refine ⟨A k, ⟨w.heap.size + 1, _, rfl, ?_, ⟨w.heap.size, _, rfl, ?_, rfl⟩⟩, bottom_of0 _ A (hS.kept (below_failW w (A k) pos) (Nat.le_refl _)) k h1 h2⟩
  · exact heap_alloc2_new _ _ _
  · exact heap_alloc2_old _ _ _

theorem shape_fail (w : World) (A : Nat → Addr) (hS : Sents0 w A) (k : Nat) (h1 : 1 ≤ k) (h2 : k ≤ 21) (pos : Int) :
    Calls Tryz.prog 25 #[.int .i64 k, .int .i64 pos] w fun e w' => e = .returned (.iface 69 (.pointer (some ⟨w.heap.size + 1, 0, none⟩))) ∧ failW w (A k) pos = w' := by
  have HO := Lib.hid (fault_Of_hit w A hS k h1 h2)
  have HA := Lib.hid (fault_At (.iface 162 (.pointer (some (A k)))) pos w _ _ rfl)
  have HI := Lib.hid (fault_In (.iface 64 (.pointer (some ⟨w.heap.size, 0, none⟩))) 5 (w.alloc (.cells #[.iface 162 (.pointer (some (A k))), .int .i64 pos] 68)) _ _ rfl)
  clear hS
  go_enter Tryz.func25, Tryz.ntmps25
  go_wp2_with (first | (go_at_call 37; refine HO.out.mono ?_; rintro e w' ⟨rfl, rfl⟩) | (go_at_call 44; refine HA.out.mono ?_; rintro e w' ⟨rfl, rfl⟩) | (go_at_call 43; refine HI.out.mono ?_; rintro e w' ⟨rfl, rfl⟩))
  go_ret
  exact ⟨by simp, rfl⟩
theorem fill_fail (w : World) (A : Nat → Addr) (hS : Sents0 w A) (k : Nat) (h1 : 1 ≤ k) (h2 : k ≤ 21) (pos : Int) :
    Calls Tryz.prog 31 #[.int .i64 k, .int .i64 pos] w fun e w' => e = .returned (.iface 69 (.pointer (some ⟨w.heap.size + 1, 0, none⟩))) ∧ failW w (A k) pos = w' := by
  have HO := Lib.hid (fault_Of_hit w A hS k h1 h2)
  have HA := Lib.hid (fault_At (.iface 162 (.pointer (some (A k)))) pos w _ _ rfl)
  have HI := Lib.hid (fault_In (.iface 64 (.pointer (some ⟨w.heap.size, 0, none⟩))) 5 (w.alloc (.cells #[.iface 162 (.pointer (some (A k))), .int .i64 pos] 68)) _ _ rfl)
  clear hS
  go_enter Tryz.func31, Tryz.ntmps31
  go_wp2_with (first | (go_at_call 37; refine HO.out.mono ?_; rintro e w' ⟨rfl, rfl⟩) | (go_at_call 44; refine HA.out.mono ?_; rintro e w' ⟨rfl, rfl⟩) | (go_at_call 43; refine HI.out.mono ?_; rintro e w' ⟨rfl, rfl⟩))
  go_ret
  exact ⟨by simp, rfl⟩

/-- Which letter of an escape. -/
def escAt (n : Nat) : Int := Lib.indexByte [92, 97, 98, 102, 110, 114, 116, 118] n.toUInt8
theorem escAt_no : ∀ n, n < 256 → escOf n = 0 → escAt n = -1 := by
  have h : ((List.range 256).all fun n => escOf n != 0 || escAt n == -1) = true := by kernel_rfl
  intro n hn h0
  have := List.all_eq_true.1 h n (List.mem_range.2 hn)
  simpa [h0] using this
theorem esc_letters : ∀ n, n < 256 → escOf n ≠ 0 → n = 92 ∨ n = 97 ∨ n = 98 ∨ n = 102 ∨ n = 110 ∨ n = 114 ∨ n = 116 ∨ n = 118 := by
  intro n _ h
  unfold escOf at h
  repeat' split at h
  all_goals omega
theorem ofNat_u8 (n : Nat) : ((UInt8.ofNat n).toNat : Int) = (n : Int) % 256 := by simp
theorem escAt_vals : escAt 92 = 0 ∧ escAt 97 = 1 ∧ escAt 98 = 2 ∧ escAt 102 = 3 ∧ escAt 110 = 4 ∧ escAt 114 = 5 ∧ escAt 116 = 6 ∧ escAt 118 = 7 := by decide
theorem idx_esc (n : Nat) (w : World) :
    Calls Tryz.prog 45 #[.string ⟨#[92, 97, 98, 102, 110, 114, 116, 118]⟩, .int .u8 n] w fun e w' => e = .returned (.int .i64 (escAt n)) ∧ w = w' :=
  (Tryz.strings_IndexByte ⟨#[92, 97, 98, 102, 110, 114, 116, 118]⟩ n w).mono fun _ _ ⟨h1, h2⟩ => ⟨h1, h2.symm⟩

set_option maxHeartbeats 2000000 in
/-- shape.Escape. -/
theorem shape_Escape (a : Option Addr) (cap : Nat) (l : List UInt8) (w : World) (hl : Bs w a cap l) :
    Calls Tryz.prog 26 #[.slice a l.length cap] w fun e w' => e = .returned (.tuple #[.int .u8 (esc l).1.toNat, .int .i64 (esc l).2]) ∧ w = w' := by
  have HL := Lib.hid hl
  have hlc := hl.1
  have hcm := hl.2.1
  unfold maxLen at hcm
  clear hl
  by_cases h0 : l.length = 0
  · have hc : esc l = (0, 0) := by unfold esc; rw [if_pos h0]
    rw [hc]
    have e0 : ((l.length : Int) == 0) = true := beq_iff_eq.2 (by omega)
    clear hc
    go_enter Tryz.func26, Tryz.ntmps26
    go_wp2
    go_ret2
    exact ⟨rfl, rfl⟩
  have e0 : ((l.length : Int) == 0) = false := beq_eq_false_iff_ne.2 (by omega)
  have hpos : 0 < l.length := by omega
  obtain ⟨b, off, rfl, hc0⟩ := HL.out.head 0 hpos
  rw [Nat.add_zero] at hc0
  have HX : Hid (∃ x, x = (l.getD 0 0).toNat) := ⟨_, rfl⟩
  obtain ⟨x, hx⟩ := HX.out
  have hxl : x < 256 := by rw [hx]; exact (l.getD 0 0).toNat_lt
  rw [← hx] at hc0
  have CX := Lib.hid (idx_esc x w)
  have HXE := Lib.hid hx
  clear hx HX
  by_cases h1 : escOf x = 0
  · have hc : esc l = (UInt8.ofNat (digits 8 (l.take 3)).1, (digits 8 (l.take 3)).2.1) := by unfold esc; rw [if_neg h0, ← HXE.out, if_pos h1]
    rw [hc]
    simp only [ofNat_u8]
    rw [escAt_no x hxl h1] at CX
    have hcut := run_cutTo (P := Tryz.prog) Tryz.underlying25 u8_size (some ⟨b, off, none⟩) l cap (min 3 l.length) (by omega) (by omega) (min 3 (l.length : Int)) (by omega)
    have C8 := Lib.hid (scan_Digits_take (some ⟨b, off, none⟩) cap l 8 (by omega) (by omega) w HL.out (min 3 l.length) (by omega))
    rw [show l.take (min 3 l.length) = l.take 3 by rw [← List.take_take, List.take_length]] at C8
    generalize digits 8 (l.take 3) = d at *
    clear hc h1 h0
    go_enter Tryz.func26, Tryz.ntmps26
    go_wp2_with fail
    refine CX.out.mono ?_
    rintro e w' ⟨rfl, rfl⟩
    go_wp2_with fail
    refine C8.out.mono ?_
    rintro e w' ⟨rfl, rfl⟩
    go_wp2_with fail
    go_ret2
    exact ⟨rfl, rfl⟩
  · have hc : esc l = (UInt8.ofNat (escOf x), 1) := by unfold esc; rw [if_neg h0, ← HXE.out, if_neg h1]
    rw [hc]
    have h3 := esc_letters x hxl h1
    clear hc h1 h0 HXE
    rcases h3 with rfl | rfl | rfl | rfl | rfl | rfl | rfl | rfl
    all_goals
      simp only [escAt_vals] at CX
      simp only [Int.cast_ofNat_Int] at hc0 CX
      go_enter Tryz.func26, Tryz.ntmps26
      go_wp2_with (go_at_call 45; refine CX.out.mono ?_; rintro e w' ⟨rfl, rfl⟩)
      go_ret2
      exact ⟨rfl, rfl⟩

theorem number_none {l : List UInt8} (h : number l = none) : (digits 10 l).2.2 = true ∨ 1000 < (digits 10 l).1 := by
  unfold number at h
  split at h
  · assumption
  · cases h
theorem number_some {l : List UInt8} {n k : Nat} (h : number l = some (n, k)) : (digits 10 l).2.2 = false ∧ (digits 10 l).1 ≤ 1000 ∧ (digits 10 l).1 = n ∧ (digits 10 l).2.1 = k := by
  unfold number at h
  split at h
  · cases h
  · next h1 =>
    simp only [Option.some.injEq, Prod.mk.injEq] at h
    refine ⟨?_, by omega, h.1, h.2⟩
    cases hd : (digits 10 l).2.2 <;> simp_all

set_option maxHeartbeats 1000000 in
/-- shape.number: there is one. -/
theorem shape_number_ok (a : Option Addr) (cap : Nat) (l : List UInt8) (w : World) (hl : Bs w a cap l) (k : Nat) (hk : k ≤ l.length) (n j : Nat) (hn : number (l.drop k) = some (n, j)) :
    Calls Tryz.prog 47 #[.slice a l.length cap, .int .i64 k] w fun e w' => e = .returned (.tuple #[.int .i64 n, .int .i64 (k + j), .nilIface]) ∧ w = w' := by
  obtain ⟨h1, h2, h3, h4⟩ := number_some hn
  have hj := (number_le hn).2
  have hlc := hl.1
  have hcm := hl.2.1
  unfold maxLen at hcm
  have hcut := run_cutFrom (P := Tryz.prog) Tryz.underlying25 u8_size a l cap k hk k rfl
  have C := Lib.hid (scan_Digits_cut a cap l 10 (by omega) (by omega) w hl k hk)
  rw [h1, h3, h4] at C
  rw [h3] at h2
  rw [List.length_drop] at hj
  have h2' : decide (1000 < (n : Int)) = false := decide_eq_false (by omega)
  clear hn h1 h3 h4 hl
  go_enter Tryz.func47, Tryz.ntmps47
  go_wp2_with (go_at_call 46; refine C.out.mono ?_; rintro e w' ⟨rfl, rfl⟩)
  go_ret3
  exact ⟨rfl, rfl⟩
set_option maxHeartbeats 1000000 in
/-- shape.number: a number that is too great. -/
theorem shape_number_no (a : Option Addr) (cap : Nat) (l : List UInt8) (w : World) (hl : Bs w a cap l) (A : Nat → Addr) (hS : Sents0 w A) (k : Nat) (hk : k ≤ l.length) (hn : number (l.drop k) = none) :
    Calls Tryz.prog 47 #[.slice a l.length cap, .int .i64 k] w fun e w' => e = .returned (.tuple #[.int .i64 0, .int .i64 k, .iface 69 (.pointer (some ⟨w.heap.size + 1, 0, none⟩))]) ∧ failW w (A 6) k = w' := by
  have h1 := number_none hn
  have hlc := hl.1
  have hcm := hl.2.1
  unfold maxLen at hcm
  have hcut := run_cutFrom (P := Tryz.prog) Tryz.underlying25 u8_size a l cap k hk k rfl
  have C := Lib.hid (scan_Digits_cut a cap l 10 (by omega) (by omega) w hl k hk)
  have F := Lib.hid (shape_fail w A hS 6 (by omega) (by omega) k)
  generalize digits 10 (l.drop k) = d at *
  obtain ⟨d1, d2, d3⟩ := d
  simp only [] at h1 C
  clear hn hl hS
  cases d3
  · have h3 : 1000 < d1 := by
      rcases h1 with h1 | h1
      · cases h1
      · exact h1
    have h2 : decide (1000 < (d1 : Int)) = true := decide_eq_true (by omega)
    clear h1
    go_enter Tryz.func47, Tryz.ntmps47
    go_wp2_with (first | (go_at_call 46; refine C.out.mono ?_; rintro e w' ⟨rfl, rfl⟩) | (go_at_call 25; refine F.out.mono ?_; rintro e w' ⟨rfl, rfl⟩))
    go_ret3
    exact ⟨rfl, rfl⟩
  · clear h1
    go_enter Tryz.func47, Tryz.ntmps47
    go_wp2_with (first | (go_at_call 46; refine C.out.mono ?_; rintro e w' ⟨rfl, rfl⟩) | (go_at_call 25; refine F.out.mono ?_; rintro e w' ⟨rfl, rfl⟩))
    go_ret3
    exact ⟨rfl, rfl⟩
end Go.Proofs.YtppcjmbblkbkdaaGreatDoor
