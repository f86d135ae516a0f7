/- The walk of FaultTells: it returns true. Conditions as typed. -/
import Derived.Test.YtkecmfjjekagiaaDoorBuild
import Derived.BigQuiet
import Derived.Lib.QuietBelow
namespace Go.Proofs.YtkecmfjjekagiaaDoor
open Go.RowKit Go.Sort

theorem Sents.regrown {w : World} {A : Nat → Addr} (h : Sents w A) (p : Regrown) : Sents (grow (redrawn w p.d) p.os) A := h.kept (below_regrown w p.d p.os) (Nat.le_refl _)
theorem Chain.regrown {w : World} {b : Addr} {l : List (Bool × Int)} {v : Value} (h : Chain w b l v) (p : Regrown) : Chain (grow (redrawn w p.d) p.os) b l v := h.kept (below_regrown w p.d p.os) (Nat.le_refl _)
theorem Bottom.regrown {w : World} {A : Nat → Addr} {b : Addr} {K : Nat} (h : Bottom w A b K) (p : Regrown) : Bottom (grow (redrawn w p.d) p.os) A b K := h.kept (below_regrown w p.d p.os) (Nat.le_refl _)
theorem same_regrown {P : Program} {f : FuncId} {args : Array Value} {w : World} {v : Value} (p : Regrown)
    (h : Calls P f args (grow (redrawn w p.d) p.os) fun e w' => e = .returned v ∧ grow (redrawn w p.d) p.os = w') : Calls P f args (grow (redrawn w p.d) p.os) fun e w'' => e = .returned v ∧ ∃ p : Regrown, w'' = grow (redrawn w p.d) p.os :=
  h.mono fun _ _ ⟨he, hw⟩ => ⟨he, p, hw.symm⟩

theorem faultTells_nil (a : Option Addr) (cap : Nat) (l : List (Bool × Int)) (w : World) (A : Nat → Addr) (hS : Sents w A) (c : Int) (hc : c = 0 ∨ c = 22) :
    Calls Tryd.prog 3 #[.int .i64 c, .slice a l.length cap] w fun e w' => e = .returned (.bool true) ∧ Below w.heap.size w w' := by
  have HB := Lib.hid (build_nil a cap l w c hc)
  have HS := Lib.hid hS
  have HC := Lib.hid hc
  clear hS hc
  go_enter Tryd.func3, Tryd.ntmps3
  go_wp2_with (go_at_call 21; refine HB.out.mono ?_; rintro e w1 ⟨rfl, hb1⟩; have HB1 := Lib.hid hb1; clear hb1; simp only [fv])
  have b2 : Below w.heap.size w (w1.alloc (.cells #[.int .i64 0, .int .i64 0, .int .i64 0] 26)) := HB1.out.alloc HB1.out.size _
  have hcell : (w1.alloc (.cells #[.int .i64 0, .int .i64 0, .int .i64 0] 26)).heap[w1.heap.size]? = some (.cells #[.int .i64 0, .int .i64 0, .int .i64 0] 26 (0, 0)) := heap_alloc_new _ _
  generalize w1.alloc (.cells #[.int .i64 0, .int .i64 0, .int .i64 0] 26) = W at *
  generalize w1.heap.size = N at *
  obtain ⟨q0, q1, q2, _, _, _⟩ := cells3 hcell
  have k0 := fun (p : Regrown) => cell_regrown q0 p.d p.os
  have k1 := fun (p : Regrown) => cell_regrown q1 p.d p.os
  have k2 := fun (p : Regrown) => cell_regrown q2 p.d p.os
  have HSW : Hid (Sents W A) := HS.out.kept b2 (Nat.le_refl _)
  have B2 := Lib.hid b2
  clear b2 hcell q0 q1 q2
  have CO := Lib.hid fun p : Regrown => same_regrown p (fault_Of_no (grow (redrawn W p.d) p.os) c (by have := HC.out; omega))
  have ct := fun p : Regrown => Calls.regrown_of (fault_Tell_nil (grow (redrawn W p.d) p.os))
  simp only [fv] at ct
  have CT := Lib.hid ct
  clear ct
  have CA := Lib.hid fun p : Regrown => Calls.regrown_of (fault_awake _ A (HSW.out.regrown p))
  refine wp_region_quiet_below (by kernel_rfl) (by kernel_rfl) ?_
  repeat (go_big_quiet_step (first | (go_at_call 23; exact CO.out _) | (go_at_call 22; exact CT.out _) | (go_at_call 24; exact CA.out _)))
  refine wpQuiet_nil ?_
  intro _ hw'
  obtain ⟨⟨dq, osq⟩, hw''⟩ := hw'
  subst hw''
  go_wp2
  go_ret
  exact ⟨rfl, B2.out.trans ((below_regrown W dq osq).mono B2.out.size)⟩

/-- The other codes: what build makes is told. -/
theorem faultTells_some (l : List (Bool × Int)) (w : World) (A : Nat → Addr) (hS : Sents w A) (K : Nat) (c : Int) (s : Value) (hK : K ≠ 0)
    (hb : Calls Tryd.prog 21 #[.int .i64 c, s] w (BuildPost w A l K)) :
    Calls Tryd.prog 3 #[.int .i64 c, s] w fun e w' => e = .returned (.bool true) ∧ Below w.heap.size w w' := by
  have HB := Lib.hid hb
  have HS := Lib.hid hS
  have e0 : ((K : Int) == 0) = false := by simp; omega
  clear hS hb hK
  go_enter Tryd.func3, Tryd.ntmps3
  go_wp2_with fail
  refine HB.out.mono ?_
  rintro e w1 ⟨v, b, rfl, hc, hbo, hb1⟩
  obtain ⟨tv, xv, hv⟩ := hc.iface
  have HCH := Lib.hid hc
  have HBO := Lib.hid hbo
  have HB1 := Lib.hid hb1
  clear hc hbo hb1
  subst hv
  generalize hP : (findW false (wraps l)).getD 0 = P at *
  generalize hL : (findW true (wraps l)).getD 0 = L at *
  have HP := Lib.hid hP
  have HL := Lib.hid hL
  clear hP hL
  simp only [fv]
  go_wp2_with fail
  have b2 : Below w1.heap.size w1 (w1.alloc (.cells #[.int .i64 K, .int .i64 P, .int .i64 L] 26)) := (Below.refl _ _).alloc (Nat.le_refl _) _
  have hcell : (w1.alloc (.cells #[.int .i64 K, .int .i64 P, .int .i64 L] 26)).heap[w1.heap.size]? = some (.cells #[.int .i64 K, .int .i64 P, .int .i64 L] 26 (0, 0)) := heap_alloc_new _ _
  generalize w1.alloc (.cells #[.int .i64 K, .int .i64 P, .int .i64 L] 26) = W at *
  have HSW : Hid (Sents W A) := (HS.out.kept HB1.out (Nat.le_refl _)).kept b2 (Nat.le_refl _)
  have HCW : Hid (Chain W b (wraps l) (.iface tv xv)) := HCH.out.kept b2 (Nat.le_refl _)
  have HBW : Hid (Bottom W A b K) := HBO.out.kept b2 (Nat.le_refl _)
  have B2 : Hid (Below w.heap.size w W) := HB1.out.trans (b2.mono HB1.out.size)
  generalize w1.heap.size = N at *
  obtain ⟨q0, q1, q2, _, _, _⟩ := cells3 hcell
  have k0 := fun (p : Regrown) => cell_regrown q0 p.d p.os
  have k1 := fun (p : Regrown) => cell_regrown q1 p.d p.os
  have k2 := fun (p : Regrown) => cell_regrown q2 p.d p.os
  clear b2 hcell q0 q1 q2
  have ct := fun p : Regrown => Calls.regrown_of (fault_Tell (grow (redrawn W p.d) p.os) A (HSW.out.regrown p) b K (HBW.out.regrown p) (wraps l) _ (HCW.out.regrown p))
  rw [HP.out, HL.out] at ct
  simp only [fv] at ct
  have CT := Lib.hid ct
  clear ct
  have CA := Lib.hid fun p : Regrown => Calls.regrown_of (fault_awake _ A (HSW.out.regrown p))
  refine wp_region_quiet_below (by kernel_rfl) (by kernel_rfl) ?_
  repeat (go_big_quiet_step (first | (go_at_call 22; exact CT.out _) | (go_at_call 24; exact CA.out _)))
  refine wpQuiet_nil ?_
  intro _ hw'
  obtain ⟨⟨dq, osq⟩, hw''⟩ := hw'
  subst hw''
  go_wp2
  go_ret
  exact ⟨rfl, B2.out.trans ((below_regrown W dq osq).mono B2.out.size)⟩

/-- FaultTells: it returns true. -/
theorem faultTells_walk (c : Int) (a : Option Addr) (cap : Nat) (l : List (Bool × Int)) (w : World) (A : Nat → Addr) (hS : Sents w A) (_hc : (Lit.int .i64 c).wf = true) (hl : Ws w a cap l) :
    Calls Tryd.prog 3 #[.int .i64 c, .slice a l.length cap] w fun e w' => e = .returned (.bool true) ∧ Below w.heap.size w w' := by
  by_cases h0 : c = 0 ∨ c = 22
  · exact faultTells_nil a cap l w A hS c h0
  · by_cases h1 : 1 ≤ c ∧ c ≤ 21
    · obtain ⟨k, rfl⟩ := Int.eq_ofNat_of_zero_le (show 0 ≤ c by omega)
      exact faultTells_some l w A hS k k _ (by omega) (build_hit a cap l w A hS hl k (by omega) (by omega))
    · exact faultTells_some l w A hS 22 c _ (by omega) (build_else a cap l w A hS hl c (by omega))
end Go.Proofs.YtkecmfjjekagiaaDoor
