/- Errors in memory: a chain of wraps round one of errors.New's; errors.Is of such a chain. Conditions as typed. -/
import Derived.Test.YtppcjmbblkbkdaaGreatDoorProg
import Derived.Test.YtppcjmbblkbkdaaGreatDoorLib
import Derived.LaidEql
import Derived.Stop.Asserts
import Derived.RowKitTokens
import Derived.Deep.LoopGhost
namespace Go.Proofs.YtppcjmbblkbkdaaGreatDoor
open Go.RowKit Go.Extern.Stop Go.Stop Go.Extern

/-- One wrap's dynamic type and its struct: a language (true), a place (false). -/
def wT : Bool → TypeId | true => 69 | false => 64
def wS : Bool → TypeId | true => 72 | false => 68

/-- A chain of wraps, the outermost first, round the errorString at b. -/
def Chain (w : World) (b : Addr) : List (Bool × Int) → Value → Prop
  | [], v => v = .iface 162 (.pointer (some b))
  | (s, n) :: l, v => ∃ k u, v = .iface (wT s) (.pointer (some ⟨k, 0, none⟩)) ∧ w.heap[k]? = some (.cells #[u, .int .i64 n] (wS s) (0, 0)) ∧ Chain w b l u

/-- The block of an address is plain memory, none of it frozen. -/
def Plain (w : World) (a : Addr) : Prop := ∃ c t, w.heap[a.block]? = some (.cells c t (0, 0))

theorem Chain.iface {w : World} {b : Addr} : ∀ {l : List (Bool × Int)} {v : Value}, Chain w b l v → ∃ t x, v = .iface t x
  | [], _, h => ⟨_, _, h⟩
  | (_, _) :: _, _, ⟨_, _, h, _⟩ => ⟨_, _, h⟩

theorem cell0_of {w : World} {k : Nat} {u x : Value} {t : TypeId} (h : w.heap[k]? = some (.cells #[u, x] t (0, 0))) : w.cell? ⟨k, 0, none⟩ = some u := by
  simp [World.cell?, h]
theorem cell1_of {w : World} {k : Nat} {u x : Value} {t : TypeId} (h : w.heap[k]? = some (.cells #[u, x] t (0, 0))) : w.cell? ⟨k, 1, none⟩ = some x := by
  simp [World.cell?, h]

theorem Chain.kept {w w' : World} {b : Addr} {B : Nat} (hb : Below B w w') : ∀ {l : List (Bool × Int)} {v : Value}, Chain w b l v → w.heap.size ≤ B → Chain w' b l v
  | [], _, h, _ => h
  | (_, _) :: _, _, ⟨k, u, h1, h2, h3⟩, hB => ⟨k, u, h1, by
      have hk : k < w.heap.size := by
        rcases Nat.lt_or_ge k w.heap.size with h | h
        · exact h
        · rw [Array.getElem?_eq_none h] at h2; cases h2
      rw [hb.block k (by omega)]; exact h2, h3.kept hb hB⟩

theorem Plain.kept {w w' : World} {a : Addr} {B : Nat} (hb : Below B w w') (h : Plain w a) (hB : w.heap.size ≤ B) : Plain w' a := by
  obtain ⟨c, t, h2⟩ := h
  have hk : a.block < w.heap.size := by
    rcases Nat.lt_or_ge a.block w.heap.size with h | h
    · exact h
    · rw [Array.getElem?_eq_none h] at h2; cases h2
  exact ⟨c, t, by rw [hb.block _ (by omega)]; exact h2⟩

/-! ### Closed facts -/
theorem Tryz.isTypeOf (v : Value) (w : World) : (Extern.ReflectliteType.typeOf #[.iface 162 v]).run Tryz.prog w = .ok (.iface 124 (.agg #[.pointer (some ⟨23, 162, none⟩)])) w := by kernel_rfl
def cmpF : Array Value → Sem Value := Extern.ReflectliteType.method fun t => do Extern.Rtype.noPackHeld "Comparable" t; pure (.bool (← typeInfo t).comparable)
theorem Tryz.isComparable (w : World) : (cmpF #[.agg #[.pointer (some ⟨23, 162, none⟩)]]).run Tryz.prog w = .ok (.bool true) w := by kernel_rfl
theorem Tryz.isMethodComparable (v : Value) (w : World) : (Go.method 292 124 v "Comparable").run Tryz.prog w = .ok (113, v) w := by kernel_rfl
theorem Tryz.isComp : (Tryz.prog.info? 162).map (·.comparable) = some true := by kernel_rfl
theorem Tryz.isSize : (Tryz.prog.info? 180).map (·.size) = some 1 := by kernel_rfl
theorem Tryz.noIsE (v : Value) (xT : TypeId) (w : World) : (Instr.typeAssert (.iface 162 v) xT 139 true).run Tryz.prog w = .ok (.tuple #[.nilIface, .bool false]) w := run_typeAssert_lacksB Tryz.underlying139 (by kernel_rfl) (by kernel_rfl) v xT w
theorem Tryz.noUnwrapE (v : Value) (xT : TypeId) (w : World) : (Instr.typeAssert (.iface 162 v) xT 131 true).run Tryz.prog w = .ok (.tuple #[.nilIface, .bool false]) w := run_typeAssert_lacksB Tryz.underlying131 (by kernel_rfl) (by kernel_rfl) v xT w
theorem Tryz.noUnwrapsE (v : Value) (xT : TypeId) (w : World) : (Instr.typeAssert (.iface 162 v) xT 133 true).run Tryz.prog w = .ok (.tuple #[.nilIface, .bool false]) w := run_typeAssert_lacksB Tryz.underlying133 (by kernel_rfl) (by kernel_rfl) v xT w
theorem Tryz.noIsP (v : Value) (xT : TypeId) (w : World) : (Instr.typeAssert (.iface 64 v) xT 139 true).run Tryz.prog w = .ok (.tuple #[.nilIface, .bool false]) w := run_typeAssert_lacksB Tryz.underlying139 (by kernel_rfl) (by kernel_rfl) v xT w
theorem Tryz.noIsS (v : Value) (xT : TypeId) (w : World) : (Instr.typeAssert (.iface 69 v) xT 139 true).run Tryz.prog w = .ok (.tuple #[.nilIface, .bool false]) w := run_typeAssert_lacksB Tryz.underlying139 (by kernel_rfl) (by kernel_rfl) v xT w
theorem Tryz.hasUnwrapP (v : Value) (xT : TypeId) (w : World) : (Instr.typeAssert (.iface 64 v) xT 131 true).run Tryz.prog w = .ok (.tuple #[.iface 64 v, .bool true]) w := run_typeAssert_hasB Tryz.underlying131 (by kernel_rfl) v xT w
theorem Tryz.hasUnwrapS (v : Value) (xT : TypeId) (w : World) : (Instr.typeAssert (.iface 69 v) xT 131 true).run Tryz.prog w = .ok (.tuple #[.iface 69 v, .bool true]) w := run_typeAssert_hasB Tryz.underlying131 (by kernel_rfl) v xT w
theorem Tryz.methodUnwrapP (v : Value) (w : World) : (Go.method 292 64 v "Unwrap").run Tryz.prog w = .ok (105, v) w := by kernel_rfl
theorem Tryz.methodUnwrapS (v : Value) (w : World) : (Go.method 292 69 v "Unwrap").run Tryz.prog w = .ok (107, v) w := by kernel_rfl

/-- errors.is of a chain, the target an errorString. -/
theorem errs_is (t b : Addr) (w : World) (ht : Plain w t) (hb : Plain w b) (l0 : List (Bool × Int)) (v0 : Value) (hc : Chain w b l0 v0) :
    Calls Tryz.prog 57 #[v0, .iface 162 (.pointer (some t)), .bool true] w fun e w' => e = .returned (.bool (decide (b = t))) ∧ w = w' := by
  obtain ⟨i, hi, hcmp⟩ := Option.map_eq_some_iff.1 Tryz.isComp
  obtain ⟨j, hj, hjs⟩ := Option.map_eq_some_iff.1 Tryz.isSize
  obtain ⟨ct, tt, ht⟩ := ht
  obtain ⟨cb, tb, hb⟩ := hb
  have nE := Tryz.noIsE
  have uE := Tryz.noUnwrapE
  have vE := Tryz.noUnwrapsE
  have nP := Tryz.noIsP
  have nS := Tryz.noIsS
  have uP := Tryz.hasUnwrapP
  have uS := Tryz.hasUnwrapS
  have mP := Tryz.methodUnwrapP
  have mS := Tryz.methodUnwrapS
  have HC := Lib.hid hc
  clear hc
  go_enter Tryz.func57, Tryz.ntmps57
  go_wp2_with fail
  go_loopg [0] l0.length (fun k v wr => w = wr ∧ ∃ l, l.length = k ∧ Hid (Chain w b l v))
  case atStart => exact ⟨rfl, l0, rfl, HC⟩
  case round =>
    obtain ⟨rfl, l, rfl, HC'⟩ := hrel
    have hc' := HC'.out
    rcases l with _ | ⟨⟨s, n⟩, l⟩
    · have hv : u0 = .iface 162 (.pointer (some b)) := hc'
      subst hv
      by_cases hbt : b = t
      · subst hbt
        have heq := run_eql_iface_ptr_same (P := Tryz.prog) w b Tryz.underlying30 Tryz.underlying162 hi hcmp hj
        clear hc'
        go_wp2_with fail
        go_ret
        exact ⟨by simp, rfl⟩
      · have heq := run_eql_iface_ptr_other (P := Tryz.prog) w Tryz.underlying30 Tryz.underlying162 hi hcmp hj (by rw [hjs]; decide) hbt hb ht
        clear hc'
        go_wp2_with fail
        go_ret
        exact ⟨by simp [hbt], rfl⟩
    · obtain ⟨k, u, hv, hk, hcu⟩ := hc'
      have hcu' := Lib.hid hcu
      obtain ⟨tu, xu, hu⟩ := hcu.iface
      have c0 := cell0_of hk
      clear hk
      subst hv
      cases s
      · have hty := run_eql_iface_types (P := Tryz.prog) 64 162 (.pointer (some ⟨k, 0, none⟩)) (.pointer (some t)) Tryz.underlying30 (by decide) w
        subst hu
        simp only [wT]
        clear hcu
        go_wp2
        go_roundg l.length
        case measure => simp
        case rel => exact ⟨rfl, l, rfl, hcu'⟩
      · have hty := run_eql_iface_types (P := Tryz.prog) 69 162 (.pointer (some ⟨k, 0, none⟩)) (.pointer (some t)) Tryz.underlying30 (by decide) w
        subst hu
        simp only [wT]
        clear hcu
        go_wp2
        go_roundg l.length
        case measure => simp
        case rel => exact ⟨rfl, l, rfl, hcu'⟩

/-- errors.Is of a chain, the target an errorString. -/
theorem errs_Is (t b : Addr) (w : World) (ht : Plain w t) (hb : Plain w b) (l0 : List (Bool × Int)) (v0 : Value) (hc : Chain w b l0 v0) :
    Calls Tryz.prog 38 #[v0, .iface 162 (.pointer (some t))] w fun e w' => e = .returned (.bool (decide (b = t))) ∧ w = w' := by
  have h8 := @run_callFunc_extern Tryz.prog 56 _ Extern.ReflectliteType.typeOf Tryz.func56 (by kernel_rfl) (by kernel_rfl) (by kernel_rfl) (by kernel_rfl)
  have h32 := @run_callFunc_extern Tryz.prog 113 _ cmpF Tryz.func113 (by kernel_rfl) (by kernel_rfl) (by kernel_rfl) (by kernel_rfl)
  have tT := Tryz.isTypeOf
  have cT := Tryz.isComparable
  have mR := Tryz.isMethodComparable
  obtain ⟨tu, xu, hu⟩ := hc.iface
  have his := errs_is t b w ht hb l0 v0 hc
  have HIS := Lib.hid his
  subst hu
  clear hc ht hb his
  go_enter Tryz.func38, Tryz.ntmps38
  go_wp2_with (go_at_call 57; refine HIS.out.mono ?_; rintro e w' ⟨rfl, rfl⟩)
  go_ret
  exact ⟨rfl, rfl⟩

/-- The wraps. -/
theorem fault_At (v : Value) (n : Int) (w : World) (t : TypeId) (x : Value) (hv : v = .iface t x) :
    Calls Tryz.prog 44 #[v, .int .i64 n] w fun e w' => e = .returned (.iface 64 (.pointer (some ⟨w.heap.size, 0, none⟩))) ∧ w' = w.alloc (.cells #[v, .int .i64 n] 68) := by
  subst hv
  go_enter Tryz.func44, Tryz.ntmps44
  go_wp2
  go_ret
  exact ⟨rfl, rfl⟩
theorem fault_In (v : Value) (n : Int) (w : World) (t : TypeId) (x : Value) (hv : v = .iface t x) :
    Calls Tryz.prog 43 #[v, .int .i64 n] w fun e w' => e = .returned (.iface 69 (.pointer (some ⟨w.heap.size, 0, none⟩))) ∧ w' = w.alloc (.cells #[v, .int .i64 n] 72) := by
  subst hv
  go_enter Tryz.func43, Tryz.ntmps43
  go_wp2
  go_ret
  exact ⟨rfl, rfl⟩
theorem fault_At_nil (n : Int) (w : World) :
    Calls Tryz.prog 44 #[.nilIface, .int .i64 n] w fun e w' => e = .returned .nilIface ∧ w = w' := by
  go_enter Tryz.func44, Tryz.ntmps44
  go_wp2
  go_ret
  exact ⟨rfl, rfl⟩
theorem fault_In_nil (n : Int) (w : World) :
    Calls Tryz.prog 43 #[.nilIface, .int .i64 n] w fun e w' => e = .returned .nilIface ∧ w = w' := by
  go_enter Tryz.func43, Tryz.ntmps43
  go_wp2
  go_ret
  exact ⟨rfl, rfl⟩
theorem errs_New (s : ByteArray) (w : World) : Calls Tryz.prog 125 #[.string s] w fun e w' => e = .returned (.iface 162 (.pointer (some ⟨w.heap.size, 0, none⟩))) ∧ w' = w.alloc (.cells #[.string s] 180) := by (go_enter Tryz.func125, Tryz.ntmps125; go_wp2; go_ret; exact ⟨rfl, rfl⟩)
end Go.Proofs.YtppcjmbblkbkdaaGreatDoor
