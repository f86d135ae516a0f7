/- The walk of FaultWraps: it returns true. Conditions as typed. -/
import Derived.Test.YtkecmfjjekagiaaDoorCodesWalk
import Derived.Deep.RegionHeld3
namespace Go.Proofs.YtkecmfjjekagiaaDoor
open Go.RowKit

theorem faultWraps_nil (a : Option Addr) (cap : Nat) (l : List (Bool × Int)) (w : World) (A : Nat → Addr) (hS : Sents w A) (c p q : Int) (hc : c = 0 ∨ c = 22) :
    Calls Tryd.prog 5 #[.int .i64 c, .slice a l.length cap, .int .i64 p, .int .i64 q] w fun e w' => e = .returned (.bool true) ∧ Below w.heap.size w w' := by
  have HB := Lib.hid (build_nil a cap l w c hc)
  have HS := Lib.hid hS
  clear hS hc
  go_enter Tryd.func5, Tryd.ntmps5
  go_wp2_with fail
  refine HB.out.mono ?_
  rintro e w1 ⟨rfl, hb1⟩
  have b2 : Below w.heap.size w (w1.alloc (.cells #[.int .i64 0, .int .i64 0, .int .i64 0] 26)) := hb1.alloc hb1.size _
  have HA := Lib.hid (fault_awake (w1.alloc (.cells #[.int .i64 0, .int .i64 0, .int .i64 0] 26)) A (HS.out.kept b2 (Nat.le_refl _)))
  have B2 := Lib.hid b2
  clear hb1 b2
  simp only [fv]
  go_wp2_with (first | (go_at_call 26; refine (fault_At_nil _ _).mono ?_; rintro e w' ⟨rfl, rfl⟩) | (go_at_call 27; refine (fault_In_nil _ _).mono ?_; rintro e w' ⟨rfl, rfl⟩) | (go_at_call 24; refine HA.out.mono ?_; rintro e w' ⟨rfl, hb⟩; have HBB := Lib.hid hb; clear hb))
  go_ret
  exact ⟨rfl, B2.out.trans (HBB.out.mono B2.out.size)⟩

/-- A world that came out of another by laying blocks: what holds on. -/
structure Held (w0 w : World) (A : Nat → Addr) (b : Addr) (K : Nat) (L : List (Bool × Int)) (v : Value) : Prop where
  bel : Below w0.heap.size w0 w
  s : Sents w A
  bo : Bottom w A b K
  ch : Chain w b L v

theorem Held.on {w0 w w' : World} {A : Nat → Addr} {b : Addr} {K : Nat} {L : List (Bool × Int)} {v : Value} (h : Held w0 w A b K L v) (hb : Below w.heap.size w w') : Held w0 w' A b K L v :=
  ⟨h.bel.trans (hb.mono h.bel.size), h.s.kept hb (Nat.le_refl _), h.bo.kept hb (Nat.le_refl _), h.ch.kept hb (Nat.le_refl _)⟩
theorem Held.alloc {w0 w : World} {A : Nat → Addr} {b : Addr} {K : Nat} {L : List (Bool × Int)} {v : Value} (h : Held w0 w A b K L v) (o : Obj) : Held w0 (w.alloc o) A b K L v :=
  h.on ((Below.refl _ _).alloc (Nat.le_refl _) _)
/-- One wrap more. -/
theorem Held.wrap {w0 w : World} {A : Nat → Addr} {b : Addr} {K : Nat} {L : List (Bool × Int)} {v : Value} (h : Held w0 w A b K L v) (s : Bool) (n : Int) :
    Held w0 (w.alloc (.cells #[v, .int .i64 n] (wS s))) A b K ((s, n) :: L) (.iface (wT s) (.pointer (some ⟨w.heap.size, 0, none⟩))) :=
  ⟨(h.alloc _).bel, (h.alloc _).s, (h.alloc _).bo, ⟨w.heap.size, v, rfl, heap_alloc_new _ _, (h.alloc _).ch⟩⟩
theorem Held.tell {w0 w : World} {A : Nat → Addr} {b : Addr} {K : Nat} {L : List (Bool × Int)} {v : Value} (h : Held w0 w A b K L v) :
    Calls Tryd.prog 22 #[v] w fun e w' => e = .returned (.agg #[.int .i64 K, .int .i64 ((findW false L).getD 0), .int .i64 ((findW true L).getD 0)]) ∧ Below w.heap.size w w' :=
  fault_Tell w A h.s b K h.bo L v h.ch

/-- A Fault that lies in memory. -/
def FC (w : World) (n : Nat) (x y z : Int) : Prop := w.heap[n]? = some (.cells #[.int .i64 x, .int .i64 y, .int .i64 z] 26)
theorem FC.kept {w w' : World} {n : Nat} {x y z : Int} (h : FC w n x y z) (hb : Below w.heap.size w w') : FC w' n x y z := by
  obtain ⟨hl, _⟩ := Array.getElem?_eq_some_iff.mp h
  exact (hb.block n hl).trans h
theorem FC.new (w : World) (x y z : Int) : FC (w.alloc (.cells #[.int .i64 x, .int .i64 y, .int .i64 z] 26)) w.heap.size x y z := heap_alloc_new _ _
theorem FC.alloc {w : World} {n : Nat} {x y z : Int} (h : FC w n x y z) (o : Obj) : FC (w.alloc o) n x y z := h.kept ((Below.refl _ _).alloc (Nat.le_refl _) _)
theorem FC.c0 {w : World} {n : Nat} {x y z : Int} (h : FC w n x y z) : w.cell? ⟨n, 0, none⟩ = some (.int .i64 x) := by
  unfold FC at h; simp [World.cell?, h]
theorem FC.c1 {w : World} {n : Nat} {x y z : Int} (h : FC w n x y z) : w.cell? ⟨n, 1, none⟩ = some (.int .i64 y) := by
  unfold FC at h; simp [World.cell?, h]
theorem FC.c2 {w : World} {n : Nat} {x y z : Int} (h : FC w n x y z) : w.cell? ⟨n, 2, none⟩ = some (.int .i64 z) := by
  unfold FC at h; simp [World.cell?, h]

theorem Held.at_call {w0 w : World} {A : Nat → Addr} {b : Addr} {K : Nat} {L : List (Bool × Int)} {v : Value} (h : Held w0 w A b K L v) (p : Int) :
    Calls Tryd.prog 26 #[v, .int .i64 p] w fun e w' => ∃ n, e = .returned (.iface 87 (.pointer (some ⟨n, 0, none⟩))) ∧ Held w0 w' A b K ((false, p) :: L) (.iface 87 (.pointer (some ⟨n, 0, none⟩))) ∧ Below w.heap.size w w' := by
  obtain ⟨tv, xv, hv⟩ := h.ch.iface
  refine (fault_At v p w tv xv hv).mono ?_
  rintro e w' ⟨rfl, rfl⟩
  exact ⟨_, rfl, h.wrap false p, (Below.refl _ _).alloc (Nat.le_refl _) _⟩
theorem Held.in_call {w0 w : World} {A : Nat → Addr} {b : Addr} {K : Nat} {L : List (Bool × Int)} {v : Value} (h : Held w0 w A b K L v) (p : Int) :
    Calls Tryd.prog 27 #[v, .int .i64 p] w fun e w' => ∃ n, e = .returned (.iface 92 (.pointer (some ⟨n, 0, none⟩))) ∧ Held w0 w' A b K ((true, p) :: L) (.iface 92 (.pointer (some ⟨n, 0, none⟩))) ∧ Below w.heap.size w w' := by
  obtain ⟨tv, xv, hv⟩ := h.ch.iface
  refine (fault_In v p w tv xv hv).mono ?_
  rintro e w' ⟨rfl, rfl⟩
  exact ⟨_, rfl, h.wrap true p, (Below.refl _ _).alloc (Nat.le_refl _) _⟩

theorem Held.is_call {w0 w : World} {A : Nat → Addr} {b : Addr} {K : Nat} {L : List (Bool × Int)} {v : Value} (h : Held w0 w A b K L v) (hk : K ≠ 22) :
    Calls Tryd.prog 25 #[v, .int .i64 K] w fun e w' => e = .returned (.bool true) ∧ w = w' := by
  obtain ⟨hp, h1, h2, h3⟩ := h.bo
  refine (fault_Is_hit w A h.s.toSents0 b hp L v h.ch K (by omega) (by omega)).mono ?_
  rintro e w' ⟨rfl, rfl⟩
  refine ⟨?_, rfl⟩
  rw [(h3 K (by omega) (by omega)).2 rfl]
  simp

set_option maxHeartbeats 4000000 in
theorem faultWraps_some (l : List (Bool × Int)) (w : World) (A : Nat → Addr) (hS : Sents w A) (K : Nat) (c p q : Int) (s : Value) (hK : K ≠ 0)
    (hb : Calls Tryd.prog 21 #[.int .i64 c, s] w (BuildPost w A l K)) :
    Calls Tryd.prog 5 #[.int .i64 c, s, .int .i64 p, .int .i64 q] w fun e w' => e = .returned (.bool true) ∧ Below w.heap.size w w' := by
  have HB := Lib.hid hb
  have HS := Lib.hid hS
  clear hS hb
  go_enter Tryd.func5, Tryd.ntmps5
  go_wp2_with fail
  refine HB.out.mono ?_
  rintro e w1 ⟨v, b, rfl, hc, hbo, hb1⟩
  obtain ⟨tv, xv, hv⟩ := hc.iface
  have H1 : Held w w1 A b K (wraps l) v := ⟨hb1, HS.out.kept hb1 (Nat.le_refl _), hbo, hc⟩
  generalize hP : (findW false (wraps l)).getD 0 = P at *
  generalize hL : (findW true (wraps l)).getD 0 = L at *
  have HP := Lib.hid hP
  have HL := Lib.hid hL
  have ct := (H1.alloc (.cells #[.int .i64 K, .int .i64 P, .int .i64 L] 26)).tell
  rw [hP, hL] at ct
  have CT := Lib.hid ct
  have HH := Lib.hid (H1.alloc (.cells #[.int .i64 K, .int .i64 P, .int .i64 L] 26))
  have HP := Lib.hid hP
  have HL := Lib.hid hL
  clear hP hL hc hbo hb1 H1 ct
  subst hv
  simp only [fv]
  go_wp2_with fail
  refine CT.out.mono ?_
  rintro e w2 ⟨rfl, hb2⟩
  have h3 := (HH.out.on hb2).alloc (.cells #[.int .i64 K, .int .i64 P, .int .i64 L] 26)
  have F3 := Lib.hid (FC.new w2 K P L)
  have H3 := Lib.hid h3
  clear hb2 h3 CT
  go_wp2_with fail
  generalize w2.alloc (.cells #[.int .i64 K, .int .i64 P, .int .i64 L] 26) = w3 at *
  refine (H3.out.at_call p).mono ?_
  rintro e w4 ⟨n4, rfl, h4, hb4⟩
  have F4 := Lib.hid (F3.out.kept hb4)
  have ct := h4.tell
  rw [show (findW false ((false, p) :: wraps l)).getD 0 = p from rfl, show (findW true ((false, p) :: wraps l)).getD 0 = (findW true (wraps l)).getD 0 from rfl, HL.out] at ct
  have CT := Lib.hid ct
  have H4 := Lib.hid (H3.out.on hb4)
  clear h4 ct hb4
  go_wp2_with fail
  refine CT.out.mono ?_
  rintro e w5 ⟨rfl, hb5⟩
  have F5 := Lib.hid (F4.out.kept hb5)
  have H5 := Lib.hid (H4.out.on hb5)
  clear hb5 CT
  go_wp2_with fail
  refine (H5.out.in_call q).mono ?_
  rintro e w6 ⟨n6, rfl, h6, hb6⟩
  have F6 := Lib.hid (F5.out.kept hb6)
  have ct := h6.tell
  rw [show (findW true ((true, q) :: wraps l)).getD 0 = q from rfl, show (findW false ((true, q) :: wraps l)).getD 0 = (findW false (wraps l)).getD 0 from rfl, HP.out] at ct
  have CT := Lib.hid ct
  have H6 := Lib.hid (H5.out.on hb6)
  clear h6 ct hb6
  go_wp2_with fail
  refine CT.out.mono ?_
  rintro e w7 ⟨rfl, hb7⟩
  have F7 := Lib.hid (F6.out.kept hb7)
  have H7 := Lib.hid (H6.out.on hb7)
  clear hb7 CT
  go_wp2_with fail
  have F8 := Lib.hid ((F7.out.alloc (.cells #[.int .i64 K, .int .i64 p, .int .i64 L] 26)).alloc (.cells #[.int .i64 K, .int .i64 P, .int .i64 q] 26))
  have H8 := Lib.hid ((H7.out.alloc (.cells #[.int .i64 K, .int .i64 p, .int .i64 L] 26)).alloc (.cells #[.int .i64 K, .int .i64 P, .int .i64 q] 26))
  have A8 := Lib.hid ((FC.new w7 K p L).alloc (.cells #[.int .i64 K, .int .i64 P, .int .i64 q] 26))
  have b8 := FC.new (w7.alloc (.cells #[.int .i64 K, .int .i64 p, .int .i64 L] 26)) K P q
  rw [World.size_alloc] at b8
  have B8 := Lib.hid b8
  clear b8
  generalize (w7.alloc (.cells #[.int .i64 K, .int .i64 p, .int .i64 L] 26)).alloc (.cells #[.int .i64 K, .int .i64 P, .int .i64 q] 26) = w8 at *
  refine (H8.out.at_call p).mono ?_
  rintro e w9 ⟨n9, rfl, h9, hb9⟩
  have F9 := Lib.hid (F8.out.kept hb9)
  have A9 := Lib.hid (A8.out.kept hb9)
  have B9 := Lib.hid (B8.out.kept hb9)
  have H9 := Lib.hid (H8.out.on hb9)
  have W9 := Lib.hid h9
  clear hb9 h9
  go_wp2_with fail
  refine (W9.out.in_call q).mono ?_
  rintro e w10 ⟨n10, rfl, h10, hb10⟩
  have F10 := Lib.hid (F9.out.kept hb10)
  have A10 := Lib.hid (A9.out.kept hb10)
  have B10 := Lib.hid (B9.out.kept hb10)
  have ct := h10.tell
  rw [show (findW true ((true, q) :: (false, p) :: wraps l)).getD 0 = q from rfl, show (findW false ((true, q) :: (false, p) :: wraps l)).getD 0 = p from rfl] at ct
  have CT := Lib.hid ct
  have H10 := Lib.hid (H9.out.on hb10)
  clear h10 ct hb10
  go_wp2_with fail
  refine CT.out.mono ?_
  rintro e w11 ⟨rfl, hb11⟩
  have F12 := Lib.hid ((F10.out.kept hb11).alloc (.cells #[.int .i64 K, .int .i64 p, .int .i64 q] 26))
  have A12 := Lib.hid ((A10.out.kept hb11).alloc (.cells #[.int .i64 K, .int .i64 p, .int .i64 q] 26))
  have B12 := Lib.hid ((B10.out.kept hb11).alloc (.cells #[.int .i64 K, .int .i64 p, .int .i64 q] 26))
  have C12 := Lib.hid (FC.new w11 K p q)
  have H12 := Lib.hid ((H10.out.on hb11).alloc (.cells #[.int .i64 K, .int .i64 p, .int .i64 q] 26))
  clear hb11 CT
  go_wp2_with fail
  generalize w11.alloc (.cells #[.int .i64 K, .int .i64 p, .int .i64 q] 26) = w12 at *
  refine (H12.out.in_call q).mono ?_
  rintro e w13 ⟨n13, rfl, h13, hb13⟩
  have F13 := Lib.hid (F12.out.kept hb13)
  have A13 := Lib.hid (A12.out.kept hb13)
  have B13 := Lib.hid (B12.out.kept hb13)
  have C13 := Lib.hid (C12.out.kept hb13)
  have H13 := Lib.hid (H12.out.on hb13)
  have W13 := Lib.hid h13
  clear hb13 h13
  go_wp2_with fail
  refine (W13.out.at_call p).mono ?_
  rintro e w14 ⟨n14, rfl, h14, hb14⟩
  have F14 := Lib.hid (F13.out.kept hb14)
  have A14 := Lib.hid (A13.out.kept hb14)
  have B14 := Lib.hid (B13.out.kept hb14)
  have C14 := Lib.hid (C13.out.kept hb14)
  have ct := h14.tell
  rw [show (findW true ((false, p) :: (true, q) :: wraps l)).getD 0 = q from rfl, show (findW false ((false, p) :: (true, q) :: wraps l)).getD 0 = p from rfl] at ct
  have CT := Lib.hid ct
  have H14 := Lib.hid (H13.out.on hb14)
  clear h14 ct hb14
  go_wp2_with fail
  refine CT.out.mono ?_
  rintro e w15 ⟨rfl, hb15⟩
  have f16 := ((F14.out.kept hb15).alloc (.cells #[.int .i64 K, .int .i64 p, .int .i64 q] 26))
  have a16 := ((A14.out.kept hb15).alloc (.cells #[.int .i64 K, .int .i64 p, .int .i64 q] 26))
  have b16 := ((B14.out.kept hb15).alloc (.cells #[.int .i64 K, .int .i64 p, .int .i64 q] 26))
  have c16 := ((C14.out.kept hb15).alloc (.cells #[.int .i64 K, .int .i64 p, .int .i64 q] 26))
  have d16 := FC.new w15 K p q
  have H16 := Lib.hid ((H14.out.on hb15).alloc (.cells #[.int .i64 K, .int .i64 p, .int .i64 q] 26))
  clear hb15 CT
  have F16 := Lib.hid f16
  have cf0 := f16.c0
  have cf1 := f16.c1
  have cf2 := f16.c2
  have ca0 := a16.c0
  have ca1 := a16.c1
  have ca2 := a16.c2
  have cb0 := b16.c0
  have cb1 := b16.c1
  have cb2 := b16.c2
  have cc0 := c16.c0
  have cc1 := c16.c1
  have cc2 := c16.c2
  have cd0 := d16.c0
  have cd1 := d16.c1
  have cd2 := d16.c2
  clear f16 a16 b16 c16 d16
  go_wp2_with fail
  clear ca0 ca1 ca2 cb0 cb1 cb2 cc0 cc1 cc2 cd0 cd1 cd2 cf1 cf2 F3 F4 F5 F6 F7 F8 F9 F10 F12 F13 F14 A8 A9 A10 A12 A13 A14 B8 B9 B10 B12 B13 B14 C12 C13 C14 W9 W13 H3 H4 H5 H6 H7 H8 H9 H10 H12 H13 H14
  generalize w15.alloc (.cells #[.int .i64 K, .int .i64 p, .int .i64 q] 26) = w16 at *
  have HD := Lib.hid (H16.out.on (Below.refl w16.heap.size w16).drew)
  have FD := Lib.hid (F16.out.kept (Below.refl w16.heap.size w16).drew)
  have cfd := FD.out.c0
  by_cases hk : K = 22
  · subst hk
    rw [show ((22 : Nat) : Int) = 22 from rfl] at cf0 ⊢
    have kf := fun (p : Regrown) => cell_regrown cf0 p.d p.os
    have CA := Lib.hid fun p : Regrown => Calls.regrown_of (fault_awake _ A (H16.out.s.regrown p))
    have HB16 := Lib.hid H16.out.bel
    clear cf0 cfd FD HD F16 H16
    refine wp_region_quiet_below (by kernel_rfl) (by kernel_rfl) ?_
    repeat (go_big_quiet_step (first | (go_at_call 24; exact CA.out _)))
    refine wpQuiet_nil ?_
    intro _ hw'
    obtain ⟨⟨dq, osq⟩, hw''⟩ := hw'
    subst hw''
    go_wp2_with fail
    go_ret
    exact ⟨rfl, HB16.out.trans ((below_regrown w16 dq osq).mono HB16.out.size)⟩
  have hk' : decide ((K : Int) = 22) = false := by simp; omega
  have hk2 : ((K : Int) == 22) = false := by simp; omega
  have hk3 : decide (K = 22) = false := by simp; omega
  have HISQ := Lib.hid hk
  clear hk
  go_region_with (first
    | (go_at_call 26; refine (HD.out.at_call p).mono ?_; rintro e w17 ⟨n17, rfl, h17, hb17⟩; have F17 := Lib.hid (FD.out.kept hb17); have cf17 := F17.out.c0; have H17 := Lib.hid (HD.out.on hb17); have W17 := Lib.hid h17; clear h17 hb17)
    | (go_at_call 27; refine (W17.out.in_call q).mono ?_; rintro e w18 ⟨n18, rfl, h18, hb18⟩; have cf18 := (F17.out.kept hb18).c0; have W18 := Lib.hid h18; clear h18 hb18)
    | (go_at_call 25; refine (W18.out.is_call HISQ.out).mono ?_; rintro e w19 ⟨rfl, rfl⟩)
    | (go_at_call 24; refine (fault_awake _ A W18.out.s).mono ?_; rintro e w20 ⟨rfl, hb20⟩))
  all_goals (go_wp2_with fail)
  all_goals (go_ret)
  all_goals exact ⟨rfl, (W18.out.on hb20).bel⟩

/-- FaultWraps: it returns true. -/
theorem faultWraps_walk (c : Int) (a : Option Addr) (cap : Nat) (l : List (Bool × Int)) (p q : Int) (w : World) (A : Nat → Addr) (hS : Sents w A) (_hc : (Lit.int .i64 c).wf = true) (hl : Ws w a cap l) (_hp : (Lit.int .i64 p).wf = true) (_hq : (Lit.int .i64 q).wf = true) :
    Calls Tryd.prog 5 #[.int .i64 c, .slice a l.length cap, .int .i64 p, .int .i64 q] w fun e w' => e = .returned (.bool true) ∧ Below w.heap.size w w' := by
  by_cases h0 : c = 0 ∨ c = 22
  · exact faultWraps_nil a cap l w A hS c p q h0
  · by_cases h1 : 1 ≤ c ∧ c ≤ 21
    · obtain ⟨k, rfl⟩ := Int.eq_ofNat_of_zero_le (show 0 ≤ c by omega)
      exact faultWraps_some l w A hS k k p q _ (by omega) (build_hit a cap l w A hS hl k (by omega) (by omega))
    · exact faultWraps_some l w A hS 22 c p q _ (by omega) (build_else a cap l w A hS hl c (by omega))
end Go.Proofs.YtkecmfjjekagiaaDoor
