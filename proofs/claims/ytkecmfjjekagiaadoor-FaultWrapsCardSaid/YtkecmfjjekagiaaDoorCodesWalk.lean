/- The walk of FaultCodes: it returns true. Conditions as typed. -/
import Derived.Test.YtkecmfjjekagiaaDoorTellsWalk
namespace Go.Proofs.YtkecmfjjekagiaaDoor
open Go.RowKit

theorem faultCodes_nil (a : Option Addr) (cap : Nat) (l : List (Bool × Int)) (w : World) (A : Nat → Addr) (hS : Sents w A) (c o : Int) (hc : c = 0 ∨ c = 22) :
    Calls Tryd.prog 4 #[.int .i64 c, .int .i64 o, .slice a l.length cap] w fun e w' => e = .returned (.bool true) ∧ Below w.heap.size w w' := by
  have HB := Lib.hid (build_nil a cap l w c hc)
  have HO := Lib.hid (fault_Of_no w c (by omega))
  have HS := Lib.hid hS
  clear hS
  rcases hc with rfl | rfl
  all_goals
    go_enter Tryd.func4, Tryd.ntmps4
    go_wp2_with (go_at_call 23; refine HO.out.mono ?_; rintro e w' ⟨rfl, rfl⟩)
    refine HB.out.mono ?_
    rintro e w1 ⟨rfl, hb1⟩
    have b2 : Below w.heap.size w (w1.alloc (.cells #[.int .i64 0, .int .i64 0, .int .i64 0] 26)) := hb1.alloc hb1.size _
    have HN := Lib.hid (fault_Is_nil (w1.alloc (.cells #[.int .i64 0, .int .i64 0, .int .i64 0] 26)) A (HS.out.kept b2 (Nat.le_refl _)).toSents0 o)
    have HA := Lib.hid (fault_awake (w1.alloc (.cells #[.int .i64 0, .int .i64 0, .int .i64 0] 26)) A (HS.out.kept b2 (Nat.le_refl _)))
    have B2 := Lib.hid b2
    clear hb1 b2
    simp only [fv]
    go_wp2_with (first | (go_at_call 25; refine HN.out.mono ?_; rintro e w' ⟨rfl, rfl⟩) | (go_at_call 24; refine HA.out.mono ?_; rintro e w' ⟨rfl, hb⟩; have HBB := Lib.hid hb; clear hb))
    go_ret
    exact ⟨rfl, B2.out.trans (HBB.out.mono B2.out.size)⟩

set_option maxHeartbeats 1000000 in
/-- The other codes. 'isb': what fault.Is answers; it is what the statement wants. -/
theorem faultCodes_some (l : List (Bool × Int)) (w : World) (A : Nat → Addr) (hS : Sents w A) (K : Nat) (c o : Int) (s ofv : Value) (isb : Bool)
    (hof : Calls Tryd.prog 23 #[.int .i64 c] w fun e w' => e = .returned ofv ∧ w = w')
    (hsome : (1 ≤ c ∧ c ≤ 21 ∧ ∃ t x, ofv = .iface t x) ∨ ((c < 1 ∨ 21 < c) ∧ ofv = .nilIface))
    (his : ∀ (w' : World) v b, Sents0 w' A → Bottom w' A b K → Chain w' b (wraps l) v → Calls Tryd.prog 25 #[v, .int .i64 o] w' fun e w'' => e = .returned (.bool isb) ∧ w' = w'')
    (hw : (isb = true ∧ ((K : Int) == o) = true ∧ 1 ≤ o ∧ o ≤ 21) ∨ (isb = false ∧ ((K : Int) == o) = false) ∨ (isb = false ∧ ((K : Int) == o) = true ∧ 21 < o ∧ decide (o ≤ 21) = false))
    (hb : Calls Tryd.prog 21 #[.int .i64 c, s] w (BuildPost w A l K)) :
    Calls Tryd.prog 4 #[.int .i64 c, .int .i64 o, s] w fun e w' => e = .returned (.bool true) ∧ Below w.heap.size w w' := by
  have HB := Lib.hid hb
  have HO := Lib.hid hof
  have HS := Lib.hid hS
  have HIS := Lib.hid his
  clear hS hb hof his
  rcases hsome with ⟨c1, c2, t, x, rfl⟩ | ⟨c1 | c1, rfl⟩
  all_goals
    rcases hw with ⟨rfl, hk, o1, o2⟩ | ⟨rfl, hk⟩ | ⟨rfl, hk, o1, o2⟩
    all_goals
      go_enter Tryd.func4, Tryd.ntmps4
      go_wp2_with (go_at_call 23; refine HO.out.mono ?_; rintro e w' ⟨rfl, rfl⟩)
      refine HB.out.mono ?_
      rintro e w1 ⟨v, b, rfl, hc, hbo, hb1⟩
      obtain ⟨tv, xv, hv⟩ := hc.iface
      generalize (findW false (wraps l)).getD 0 = P at *
      generalize (findW true (wraps l)).getD 0 = L at *
      have b3 : Below w1.heap.size w1 (w1.alloc (.cells #[.int .i64 K, .int .i64 P, .int .i64 L] 26)) := (Below.refl _ _).alloc (Nat.le_refl _) _
      have b2 : Below w.heap.size w (w1.alloc (.cells #[.int .i64 K, .int .i64 P, .int .i64 L] 26)) := hb1.trans (b3.mono hb1.size)
      have HN := Lib.hid (HIS.out _ v b (HS.out.kept b2 (Nat.le_refl _)).toSents0 (hbo.kept b3 (Nat.le_refl _)) (hc.kept b3 (Nat.le_refl _)))
      have HNN := Lib.hid (fault_Is_nil _ A (HS.out.kept b2 (Nat.le_refl _)).toSents0 o)
      have HA := Lib.hid (fault_awake _ A (HS.out.kept b2 (Nat.le_refl _)))
      have B2 := Lib.hid b2
      subst hv
      clear hc hbo hb1 b2 b3
      simp only [fv]
      go_wp2_with (first | (go_at_call 25; (with_reducible refine HN.out.mono ?_); rintro e w' ⟨rfl, rfl⟩) | (go_at_call 25; (with_reducible refine HNN.out.mono ?_); rintro e w' ⟨rfl, rfl⟩) | (go_at_call 24; refine HA.out.mono ?_; rintro e w' ⟨rfl, hb⟩; have HBB := Lib.hid hb; clear hb))
      go_ret
      exact ⟨rfl, B2.out.trans (HBB.out.mono B2.out.size)⟩

theorem is_any (w' : World) (A : Nat → Addr) (hS : Sents0 w' A) (b : Addr) (K : Nat) (hb : Bottom w' A b K) (l : List (Bool × Int)) (v : Value) (hc : Chain w' b l v) (o : Int) :
    Calls Tryd.prog 25 #[v, .int .i64 o] w' fun e w'' => e = .returned (.bool (decide ((K : Int) = o ∧ o ≤ 21))) ∧ w' = w'' := by
  obtain ⟨hp, h1, h2, h3⟩ := hb
  by_cases h : 1 ≤ o ∧ o ≤ 21
  · obtain ⟨o, rfl⟩ := Int.eq_ofNat_of_zero_le (show 0 ≤ o by omega)
    have := fault_Is_hit w' A hS b hp l v hc o (by omega) (by omega)
    have e : decide (b = A o) = decide ((K : Int) = ((o : Nat) : Int) ∧ ((o : Nat) : Int) ≤ 21) := by
      have := h3 o (by omega) (by omega)
      by_cases hbA : b = A o
      · have := this.1 hbA; simp [hbA]; omega
      · have hne : ¬ o = K := fun e => hbA (this.2 e)
        simp [hbA]; omega
    rw [← e]; exact this
  · have e : decide ((K : Int) = o ∧ o ≤ 21) = false := decide_eq_false (by omega)
    rw [e]
    obtain ⟨t, x, hv⟩ := hc.iface
    exact fault_Is_no w' v (.inr ⟨t, x, hv⟩) o (by omega)

/-- FaultCodes: it returns true. -/
theorem faultCodes_walk (c o : Int) (a : Option Addr) (cap : Nat) (l : List (Bool × Int)) (w : World) (A : Nat → Addr) (hS : Sents w A) (_hc : (Lit.int .i64 c).wf = true) (_ho : (Lit.int .i64 o).wf = true) (hl : Ws w a cap l) :
    Calls Tryd.prog 4 #[.int .i64 c, .int .i64 o, .slice a l.length cap] w fun e w' => e = .returned (.bool true) ∧ Below w.heap.size w w' := by
  have hw : ∀ K : Nat, 1 ≤ K → K ≤ 22 → (decide ((K : Int) = o ∧ o ≤ 21) = true ∧ ((K : Int) == o) = true ∧ 1 ≤ o ∧ o ≤ 21) ∨ (decide ((K : Int) = o ∧ o ≤ 21) = false ∧ ((K : Int) == o) = false) ∨ (decide ((K : Int) = o ∧ o ≤ 21) = false ∧ ((K : Int) == o) = true ∧ 21 < o ∧ decide (o ≤ 21) = false) := by
    intro K k1 k2
    by_cases h : (K : Int) = o
    · by_cases h2 : o ≤ 21
      · exact .inl ⟨decide_eq_true ⟨h, h2⟩, by simpa using h, by omega, h2⟩
      · exact .inr (.inr ⟨decide_eq_false (by omega), by simpa using h, by omega, decide_eq_false h2⟩)
    · exact .inr (.inl ⟨decide_eq_false (by omega), by simpa using h⟩)
  by_cases h0 : c = 0 ∨ c = 22
  · exact faultCodes_nil a cap l w A hS c o h0
  · by_cases h1 : 1 ≤ c ∧ c ≤ 21
    · obtain ⟨k, rfl⟩ := Int.eq_ofNat_of_zero_le (show 0 ≤ c by omega)
      exact faultCodes_some l w A hS k k o _ _ _ (fault_Of_hit w A hS.toSents0 k (by omega) (by omega)) (.inl ⟨h1.1, h1.2, _, _, rfl⟩)
        (fun w' v b hs hbo hc => is_any w' A hs b k hbo (wraps l) v hc o) (hw k (by omega) (by omega)) (build_hit a cap l w A hS hl k (by omega) (by omega))
    · exact faultCodes_some l w A hS 22 c o _ _ _ (fault_Of_no w c (by omega)) (.inr ⟨by omega, rfl⟩)
        (fun w' v b hs hbo hc => is_any w' A hs b 22 hbo (wraps l) v hc o) (hw 22 (by omega) (by omega)) (build_else a cap l w A hS hl c (by omega))
end Go.Proofs.YtkecmfjjekagiaaDoor
