/- Package fault: Of, Is and Tell of a chain of wraps, in a world that holds the sentinels. Conditions as typed. -/
import Derived.Test.YtppcjmbblkbkdaaGreatDoorErrsAsP
import Derived.Test.YtppcjmbblkbkdaaGreatDoorErrsAsS
namespace Go.Proofs.YtppcjmbblkbkdaaGreatDoor
open Go.RowKit

/-- Which package-level variable holds a code's error. -/
def gl (c : Nat) : Nat := if c = 1 then 1 else if c = 2 then 2 else if c = 3 then 3 else if c = 4 then 4 else if c = 5 then 5 else if c = 6 then 6 else if c = 7 then 7 else if c = 8 then 8 else if c = 9 then 9 else if c = 10 then 10 else if c = 11 then 11 else if c = 12 then 12 else if c = 13 then 13 else if c = 14 then 14 else if c = 15 then 15 else if c = 16 then 16 else if c = 17 then 17 else if c = 18 then 18 else if c = 19 then 19 else if c = 20 then 20 else 21

/-- The world holds the sentinels, each an errorString of its own at A c. -/
structure Sents0 (w : World) (A : Nat → Addr) : Prop where
  cell : ∀ c, 1 ≤ c → c ≤ 21 → w.cell? ⟨gl c, 0, none⟩ = some (.iface 162 (.pointer (some (A c))))
  plain : ∀ c, 1 ≤ c → c ≤ 21 → Plain w (A c)
  inj : ∀ c d, 1 ≤ c → c ≤ 21 → 1 ≤ d → d ≤ 21 → A c = A d → c = d
/-- .. and errors.errorType lies in it, too. -/
structure Sents (w : World) (A : Nat → Addr) : Prop extends Sents0 w A where
  et : w.cell? ⟨0, 0, none⟩ = some (.iface 124 (.agg #[.pointer (some ⟨23, 30, none⟩)]))

theorem Plain.lt {w : World} {a : Addr} (h : Plain w a) : a.block < w.heap.size := by
  obtain ⟨c, t, h⟩ := h; exact lt_of_heap h

theorem Sents0.kept {w w' : World} {A : Nat → Addr} {B : Nat} (h : Sents0 w A) (hb : Below B w w') (hB : w.heap.size ≤ B) : Sents0 w' A :=
  ⟨fun c h1 h2 => by
    have hl := World.block_lt_of_cell? w _ (h.cell c h1 h2)
    rw [hb.cell (p := ⟨gl c, 0, none⟩) (Nat.lt_of_lt_of_le hl hB)]; exact h.cell c h1 h2,
   fun c h1 h2 => (h.plain c h1 h2).kept hb hB, h.inj⟩
theorem Sents.kept {w w' : World} {A : Nat → Addr} {B : Nat} (h : Sents w A) (hb : Below B w w') (hB : w.heap.size ≤ B) : Sents w' A :=
  ⟨h.toSents0.kept hb hB, by
    have hl := World.block_lt_of_cell? w _ h.et
    rw [hb.cell (p := ⟨0, 0, none⟩) (Nat.lt_of_lt_of_le hl hB)]; exact h.et⟩

theorem fault_more_hit (w : World) (A : Nat → Addr) (hS : Sents0 w A) (k : Nat) (h1 : 11 ≤ k) (h2 : k ≤ 21) :
    Calls Tryz.prog 55 #[.int .i64 k] w fun e w' => e = .returned (.iface 162 (.pointer (some (A k)))) ∧ w = w' := by
  have h := hS.cell k (by omega) h2
  clear hS
  rcases (show k = 11 ∨ k = 12 ∨ k = 13 ∨ k = 14 ∨ k = 15 ∨ k = 16 ∨ k = 17 ∨ k = 18 ∨ k = 19 ∨ k = 20 ∨ k = 21 by omega) with rfl | rfl | rfl | rfl | rfl | rfl | rfl | rfl | rfl | rfl | rfl
  all_goals
    simp [gl] at h
    go_enter Tryz.func55, Tryz.ntmps55
    go_wp2
    go_ret
    exact ⟨rfl, rfl⟩
theorem fault_more_no (w : World) (k : Int) (h : k < 11 ∨ 21 < k) :
    Calls Tryz.prog 55 #[.int .i64 k] w fun e w' => e = .returned .nilIface ∧ w = w' := by
  rcases h with h | h
  all_goals
    go_enter Tryz.func55, Tryz.ntmps55
    go_wp2
    go_ret
    exact ⟨rfl, rfl⟩
theorem fault_Of_hit (w : World) (A : Nat → Addr) (hS : Sents0 w A) (k : Nat) (h1 : 1 ≤ k) (h2 : k ≤ 21) :
    Calls Tryz.prog 37 #[.int .i64 k] w fun e w' => e = .returned (.iface 162 (.pointer (some (A k)))) ∧ w = w' := by
  by_cases h3 : k < 11
  · have h := hS.cell k (by omega) h2
    clear hS
    rcases (show k = 1 ∨ k = 2 ∨ k = 3 ∨ k = 4 ∨ k = 5 ∨ k = 6 ∨ k = 7 ∨ k = 8 ∨ k = 9 ∨ k = 10 by omega) with rfl | rfl | rfl | rfl | rfl | rfl | rfl | rfl | rfl | rfl
    all_goals
      simp [gl] at h
      go_enter Tryz.func37, Tryz.ntmps37
      go_wp2
      go_ret
      exact ⟨rfl, rfl⟩
  · have h4 : 11 ≤ k := by omega
    clear h3
    have HM := Lib.hid (fault_more_hit w A hS k h4 h2)
    clear hS
    go_enter Tryz.func37, Tryz.ntmps37
    go_wp2_with (go_at_call 55; refine HM.out.mono ?_; rintro e w' ⟨rfl, rfl⟩)
    go_ret
    exact ⟨rfl, rfl⟩
theorem fault_Of_no (w : World) (k : Int) (h : k < 1 ∨ 21 < k) :
    Calls Tryz.prog 37 #[.int .i64 k] w fun e w' => e = .returned .nilIface ∧ w = w' := by
  rcases h with h | h
  all_goals
    go_enter Tryz.func37, Tryz.ntmps37
    go_wp2_with (go_at_call 55; refine (fault_more_no _ _ (by omega)).mono ?_; rintro e w' ⟨rfl, rfl⟩)
    go_ret
    exact ⟨rfl, rfl⟩

/-- fault.Is of a chain: only the bottom's own code. -/
theorem fault_Is_hit (w : World) (A : Nat → Addr) (hS : Sents0 w A) (b : Addr) (hb : Plain w b) (l : List (Bool × Int)) (v : Value) (hc : Chain w b l v) (k : Nat) (h1 : 1 ≤ k) (h2 : k ≤ 21) :
    Calls Tryz.prog 22 #[v, .int .i64 k] w fun e w' => e = .returned (.bool (decide (b = A k))) ∧ w = w' := by
  have HO := Lib.hid (fault_Of_hit w A hS k h1 h2)
  have HI := Lib.hid (errs_Is (A k) b w (hS.plain k h1 h2) hb l v hc)
  obtain ⟨t, x, rfl⟩ := hc.iface
  clear hS hb hc
  go_enter Tryz.func22, Tryz.ntmps22
  go_wp2_with (first | (go_at_call 37; refine HO.out.mono ?_; rintro e w' ⟨rfl, rfl⟩) | (go_at_call 38; refine HI.out.mono ?_; rintro e w' ⟨rfl, rfl⟩))
  go_ret
  exact ⟨rfl, rfl⟩
theorem fault_Is_nil (w : World) (A : Nat → Addr) (hS : Sents0 w A) (k : Int) :
    Calls Tryz.prog 22 #[.nilIface, .int .i64 k] w fun e w' => e = .returned (.bool false) ∧ w = w' := by
  by_cases h : 1 ≤ k ∧ k ≤ 21
  · obtain ⟨h1, h2⟩ := h
    obtain ⟨k, rfl⟩ := Int.eq_ofNat_of_zero_le (show 0 ≤ k by omega)
    have HO := Lib.hid (fault_Of_hit w A hS k (by omega) (by omega))
    clear hS
    go_enter Tryz.func22, Tryz.ntmps22
    go_wp2_with (go_at_call 37; refine HO.out.mono ?_; rintro e w' ⟨rfl, rfl⟩)
    go_ret
    exact ⟨rfl, rfl⟩
  · have HO := Lib.hid (fault_Of_no w k (by omega))
    clear hS
    go_enter Tryz.func22, Tryz.ntmps22
    go_wp2_with (go_at_call 37; refine HO.out.mono ?_; rintro e w' ⟨rfl, rfl⟩)
    go_ret
    exact ⟨rfl, rfl⟩
theorem fault_Is_no (w : World) (v : Value) (hv : v = .nilIface ∨ ∃ t x, v = .iface t x) (k : Int) (h : k < 1 ∨ 21 < k) :
    Calls Tryz.prog 22 #[v, .int .i64 k] w fun e w' => e = .returned (.bool false) ∧ w = w' := by
  have HO := Lib.hid (fault_Of_no w k h)
  rcases hv with rfl | ⟨t, x, rfl⟩
  all_goals
    go_enter Tryz.func22, Tryz.ntmps22
    go_wp2_with (go_at_call 37; refine HO.out.mono ?_; rintro e w' ⟨rfl, rfl⟩)
    go_ret
    exact ⟨rfl, rfl⟩
end Go.Proofs.YtppcjmbblkbkdaaGreatDoor
