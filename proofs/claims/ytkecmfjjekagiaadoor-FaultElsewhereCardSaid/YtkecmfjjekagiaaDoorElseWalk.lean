/- The walk of FaultElsewhere: it returns true. Conditions as typed. -/
import Derived.Test.YtkecmfjjekagiaaDoorTellsWalk
namespace Go.Proofs.YtkecmfjjekagiaaDoor
open Go.RowKit

theorem bottom_new (w : World) (A : Nat → Addr) (hS : Sents0 w A) (o : Array Value) (t : TypeId) : Bottom (w.alloc (.cells o t)) A ⟨w.heap.size, 0, none⟩ 22 :=
  ⟨⟨o, t, heap_alloc_new _ _⟩, by omega, by omega, fun k k1 k2 => ⟨fun h => by
    have := (hS.plain k k1 k2).lt
    rw [← h] at this
    simp at this, fun h => by omega⟩⟩

theorem faultElsewhere_walk (p q : Int) (w : World) (A : Nat → Addr) (hS : Sents w A) (_hp : (Lit.int .i64 p).wf = true) (_hq : (Lit.int .i64 q).wf = true) :
    Calls Tryd.prog 6 #[.int .i64 p, .int .i64 q] w fun e w' => e = .returned (.bool true) ∧ Below w.heap.size w w' := by
  have HN := Lib.hid (errs_New ⟨#[101, 108, 115, 101, 119, 104, 101, 114, 101]⟩ w)
  have b1 : Below w.heap.size w (w.alloc (.cells #[.string ⟨#[101, 108, 115, 101, 119, 104, 101, 114, 101]⟩] 99)) := (Below.refl _ _).alloc (Nat.le_refl _) _
  have S1 := Lib.hid (hS.kept b1 (Nat.le_refl _))
  have BO1 := Lib.hid (bottom_new w A hS.toSents0 #[.string ⟨#[101, 108, 115, 101, 119, 104, 101, 114, 101]⟩] 99)
  have ct := fault_Tell _ A S1.out _ 22 BO1.out [] _ rfl
  simp only [fv, findW, Option.getD_none] at ct
  have CT := Lib.hid ct
  have B1 := Lib.hid b1
  clear hS b1 ct
  go_enter Tryd.func6, Tryd.ntmps6
  go_wp2_with (go_at_call 28; refine HN.out.mono ?_; rintro e w' ⟨rfl, rfl⟩)
  refine CT.out.mono ?_
  rintro e w2 ⟨rfl, hb2⟩
  have B2 := Lib.hid hb2
  clear hb2
  generalize w.alloc (.cells #[.string ⟨#[101, 108, 115, 101, 119, 104, 101, 114, 101]⟩] 99) = w1 at *
  have HA := Lib.hid (fault_At (.iface 97 (.pointer (some ⟨w.heap.size, 0, none⟩))) p w2 _ _ rfl)
  go_wp2_with (go_at_call 26; refine HA.out.mono ?_; rintro e w' ⟨rfl, rfl⟩)
  have b3 : Below w2.heap.size w2 (w2.alloc (.cells #[.iface 97 (.pointer (some ⟨w.heap.size, 0, none⟩)), .int .i64 p] 91)) := (Below.refl _ _).alloc (Nat.le_refl _) _
  have C3 : Chain (w2.alloc (.cells #[.iface 97 (.pointer (some ⟨w.heap.size, 0, none⟩)), .int .i64 p] 91)) ⟨w.heap.size, 0, none⟩ [(false, p)] (.iface 87 (.pointer (some ⟨w2.heap.size, 0, none⟩))) := ⟨w2.heap.size, _, rfl, heap_alloc_new _ _, rfl⟩
  have CC3 := Lib.hid C3
  have B3 := Lib.hid b3
  clear b3 C3
  generalize hw3 : w2.alloc (.cells #[.iface 97 (.pointer (some ⟨w.heap.size, 0, none⟩)), .int .i64 p] 91) = w3 at *
  clear hw3 HA
  have HI := Lib.hid (fault_In (.iface 87 (.pointer (some ⟨w2.heap.size, 0, none⟩))) q w3 _ _ rfl)
  refine HI.out.mono ?_
  rintro e w' ⟨rfl, rfl⟩
  have b4 : Below w3.heap.size w3 (w3.alloc (.cells #[.iface 87 (.pointer (some ⟨w2.heap.size, 0, none⟩)), .int .i64 q] 95)) := (Below.refl _ _).alloc (Nat.le_refl _) _
  have s4 := ((S1.out.kept B2.out (Nat.le_refl _)).kept B3.out (Nat.le_refl _)).kept b4 (Nat.le_refl _)
  have ct := fault_Tell _ A s4 _ 22 (((BO1.out.kept B2.out (Nat.le_refl _)).kept B3.out (Nat.le_refl _)).kept b4 (Nat.le_refl _)) [(true, q), (false, p)] (.iface 92 (.pointer (some ⟨w3.heap.size, 0, none⟩))) ⟨w3.heap.size, _, rfl, heap_alloc_new _ _, CC3.out.kept b4 (Nat.le_refl _)⟩
  rw [show (findW false [(true, q), (false, p)]).getD 0 = p from rfl, show (findW true [(true, q), (false, p)]).getD 0 = q from rfl] at ct
  simp only [fv] at ct
  have S4 := Lib.hid s4
  have CT2 := Lib.hid ct
  have B4 := Lib.hid b4
  clear ct b4 s4 HI
  generalize w3.alloc (.cells #[.iface 87 (.pointer (some ⟨w2.heap.size, 0, none⟩)), .int .i64 q] 95) = w4 at *
  go_wp2_with fail
  refine CT2.out.mono ?_
  rintro e w5 ⟨rfl, hb5⟩
  have HAW := Lib.hid (fault_awake w5 A (S4.out.kept hb5 (Nat.le_refl _)))
  have B5 := Lib.hid hb5
  clear hb5
  go_wp2_with fail
  refine HAW.out.mono ?_
  rintro e w6 ⟨rfl, hb6⟩
  have B6 := Lib.hid hb6
  clear hb6
  go_wp2_with fail
  go_ret
  have m1 := B1.out.size
  have m2 := B2.out.size
  have m3 := B3.out.size
  have m4 := B4.out.size
  have m5 := B5.out.size
  exact ⟨rfl, ((((B1.out.trans (B2.out.mono m1)).trans (B3.out.mono (by omega))).trans (B4.out.mono (by omega))).trans (B5.out.mono (by omega))).trans (B6.out.mono (by omega))⟩
end Go.Proofs.YtkecmfjjekagiaaDoor
