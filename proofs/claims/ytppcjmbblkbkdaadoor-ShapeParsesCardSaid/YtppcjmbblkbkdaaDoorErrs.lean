/- Errors in memory: a chain of wraps round one of errors.New's; errors.Is of such a chain. Conditions as typed. -/
import Derived.Test.YtppcjmbblkbkdaaDoorProg
import Derived.Test.YtppcjmbblkbkdaaDoorLib
import Derived.LaidEql
import Derived.Stop.Asserts
import Derived.RowKitTokens
import Derived.Deep.LoopGhost
namespace Go.Proofs.YtppcjmbblkbkdaaDoor
open Go.RowKit Go.Extern.Stop Go.Stop Go.Extern

/-- One wrap's dynamic type and its struct: a language (true), a place (false). -/
def wT : Bool → TypeId | true => 70 | false => 65
def wS : Bool → TypeId | true => 73 | false => 69

/-- A chain of wraps, the outermost first, round the errorString at b. -/
def Chain (w : World) (b : Addr) : List (Bool × Int) → Value → Prop
  | [], v => v = .iface 168 (.pointer (some b))
  | (s, n) :: l, v => ∃ k u, v = .iface (wT s) (.pointer (some ⟨k, 0, none⟩)) ∧ w.heap[k]? = some (.cells #[u, .int .i64 n] (wS s) (0, 0)) ∧ Chain w b l u

/-- The block of an address is plain memory, none of it frozen. -/
def Plain (w : World) (a : Addr) : Prop := ∃ c t, w.heap[a.block]? = some (.cells c t (0, 0))

theorem Chain.iface {w : World} {b : Addr} : ∀ {l : List (Bool × Int)} {v : Value}, Chain w b l v → ∃ t x, v = .iface t x
  | [], _, h => ⟨_, _, h⟩
  | (_, _) :: _, _, ⟨_, _, h, _⟩ => ⟨_, _, h⟩

theorem cell0_of {w : World} {k : Nat} {u x : Value} {t : TypeId} (h : w.heap[k]? = some (.cells #[u, x] t (0, 0))) : w.cell? ⟨k, 0, none⟩ = some u := by
  simp [World.cell?, h]
theorem cell1_of {w : World} {k : Nat} {u x : Value} {t : TypeId} (h : w.heap[k]? = some (.cells #[u, x] t (0, 0))) : w.cell? ⟨k, 1, none⟩ = some x := by
  simp [World.cell?, h]

theorem Chain.kept {w w' : World} {b : Addr} {B : Nat} (hb : Below B w w') : ∀ {l : List (Bool × Int)} {v : Value}, Chain w b l v → w.heap.size ≤ B → Chain w' b l v
  | [], _, h, _ => h
  | (_, _) :: _, _, ⟨k, u, h1, h2, h3⟩, hB => ⟨k, u, h1, by
      have hk : k < w.heap.size := by
        rcases Nat.lt_or_ge k w.heap.size with h | h
        · exact h
        · rw [Array.getElem?_eq_none h] at h2; cases h2
      rw [hb.block k (by omega)]; exact h2, h3.kept hb hB⟩

theorem Plain.kept {w w' : World} {a : Addr} {B : Nat} (hb : Below B w w') (h : Plain w a) (hB : w.heap.size ≤ B) : Plain w' a := by
  obtain ⟨c, t, h2⟩ := h
  have hk : a.block < w.heap.size := by
    rcases Nat.lt_or_ge a.block w.heap.size with h | h
    · exact h
    · rw [Array.getElem?_eq_none h] at h2; cases h2
  exact ⟨c, t, by rw [hb.block _ (by omega)]; exact h2⟩

/-! ### Closed facts -/
theorem Tryd.isTypeOf (v : Value) (w : World) : (Extern.ReflectliteType.typeOf #[.iface 168 v]).run Tryd.prog w = .ok (.iface 118 (.agg #[.pointer (some ⟨29, 168, none⟩)])) w := by kernel_rfl
def cmpF : Array Value → Sem Value := Extern.ReflectliteType.method fun t => do Extern.Rtype.noPackHeld "Comparable" t; pure (.bool (← typeInfo t).comparable)
theorem Tryd.isComparable (w : World) : (cmpF #[.agg #[.pointer (some ⟨29, 168, none⟩)]]).run Tryd.prog w = .ok (.bool true) w := by kernel_rfl
theorem Tryd.isMethodComparable (v : Value) (w : World) : (Go.method 297 118 v "Comparable").run Tryd.prog w = .ok (109, v) w := by kernel_rfl
theorem Tryd.isComp : (Tryd.prog.info? 168).map (·.comparable) = some true := by kernel_rfl
theorem Tryd.isSize : (Tryd.prog.info? 186).map (·.size) = some 1 := by kernel_rfl
theorem Tryd.noIsE (v : Value) (xT : TypeId) (w : World) : (Instr.typeAssert (.iface 168 v) xT 142 true).run Tryd.prog w = .ok (.tuple #[.nilIface, .bool false]) w := run_typeAssert_lacksB Tryd.underlying142 (by kernel_rfl) (by kernel_rfl) v xT w
theorem Tryd.noUnwrapE (v : Value) (xT : TypeId) (w : World) : (Instr.typeAssert (.iface 168 v) xT 125 true).run Tryd.prog w = .ok (.tuple #[.nilIface, .bool false]) w := run_typeAssert_lacksB Tryd.underlying125 (by kernel_rfl) (by kernel_rfl) v xT w
theorem Tryd.noUnwrapsE (v : Value) (xT : TypeId) (w : World) : (Instr.typeAssert (.iface 168 v) xT 127 true).run Tryd.prog w = .ok (.tuple #[.nilIface, .bool false]) w := run_typeAssert_lacksB Tryd.underlying127 (by kernel_rfl) (by kernel_rfl) v xT w
theorem Tryd.noIsP (v : Value) (xT : TypeId) (w : World) : (Instr.typeAssert (.iface 65 v) xT 142 true).run Tryd.prog w = .ok (.tuple #[.nilIface, .bool false]) w := run_typeAssert_lacksB Tryd.underlying142 (by kernel_rfl) (by kernel_rfl) v xT w
theorem Tryd.noIsS (v : Value) (xT : TypeId) (w : World) : (Instr.typeAssert (.iface 70 v) xT 142 true).run Tryd.prog w = .ok (.tuple #[.nilIface, .bool false]) w := run_typeAssert_lacksB Tryd.underlying142 (by kernel_rfl) (by kernel_rfl) v xT w
theorem Tryd.hasUnwrapP (v : Value) (xT : TypeId) (w : World) : (Instr.typeAssert (.iface 65 v) xT 125 true).run Tryd.prog w = .ok (.tuple #[.iface 65 v, .bool true]) w := run_typeAssert_hasB Tryd.underlying125 (by kernel_rfl) v xT w
theorem Tryd.hasUnwrapS (v : Value) (xT : TypeId) (w : World) : (Instr.typeAssert (.iface 70 v) xT 125 true).run Tryd.prog w = .ok (.tuple #[.iface 70 v, .bool true]) w := run_typeAssert_hasB Tryd.underlying125 (by kernel_rfl) v xT w
theorem Tryd.methodUnwrapP (v : Value) (w : World) : (Go.method 297 65 v "Unwrap").run Tryd.prog w = .ok (100, v) w := by kernel_rfl
theorem Tryd.methodUnwrapS (v : Value) (w : World) : (Go.method 297 70 v "Unwrap").run Tryd.prog w = .ok (102, v) w := by kernel_rfl

/-- errors.is of a chain, the target an errorString. -/
theorem errs_is (t b : Addr) (w : World) (ht : Plain w t) (hb : Plain w b) (l0 : List (Bool × Int)) (v0 : Value) (hc : Chain w b l0 v0) :
    Calls Tryd.prog 60 #[v0, .iface 168 (.pointer (some t)), .bool true] w fun e w' => e = .returned (.bool (decide (b = t))) ∧ w = w' := by
  obtain ⟨i, hi, hcmp⟩ := Option.map_eq_some_iff.1 Tryd.isComp
  obtain ⟨j, hj, hjs⟩ := Option.map_eq_some_iff.1 Tryd.isSize
  obtain ⟨ct, tt, ht⟩ := ht
  obtain ⟨cb, tb, hb⟩ := hb
  have nE := Tryd.noIsE
  have uE := Tryd.noUnwrapE
  have vE := Tryd.noUnwrapsE
  have nP := Tryd.noIsP
  have nS := Tryd.noIsS
  have uP := Tryd.hasUnwrapP
  have uS := Tryd.hasUnwrapS
  have mP := Tryd.methodUnwrapP
  have mS := Tryd.methodUnwrapS
  have HC := Lib.hid hc
  clear hc
  go_enter Tryd.func60, Tryd.ntmps60
  go_wp2_with fail
  go_loopg [0] l0.length (fun k v wr => w = wr ∧ ∃ l, l.length = k ∧ Hid (Chain w b l v))
  case atStart => exact ⟨rfl, l0, rfl, HC⟩
  case round =>
    obtain ⟨rfl, l, rfl, HC'⟩ := hrel
    have hc' := HC'.out
    rcases l with _ | ⟨⟨s, n⟩, l⟩
    · have hv : u0 = .iface 168 (.pointer (some b)) := hc'
      subst hv
      by_cases hbt : b = t
      · subst hbt
        have heq := run_eql_iface_ptr_same (P := Tryd.prog) w b Tryd.underlying30 Tryd.underlying168 hi hcmp hj
        clear hc'
        go_wp2_with fail
        go_ret
        exact ⟨by simp, rfl⟩
      · have heq := run_eql_iface_ptr_other (P := Tryd.prog) w Tryd.underlying30 Tryd.underlying168 hi hcmp hj (by rw [hjs]; decide) hbt hb ht
        clear hc'
        go_wp2_with fail
        go_ret
        exact ⟨by simp [hbt], rfl⟩
    · obtain ⟨k, u, hv, hk, hcu⟩ := hc'
      have hcu' := Lib.hid hcu
      obtain ⟨tu, xu, hu⟩ := hcu.iface
      have c0 := cell0_of hk
      clear hk
      subst hv
      cases s
      · have hty := run_eql_iface_types (P := Tryd.prog) 65 168 (.pointer (some ⟨k, 0, none⟩)) (.pointer (some t)) Tryd.underlying30 (by decide) w
        subst hu
        simp only [wT]
        clear hcu
        go_wp2
        go_roundg l.length
        case measure => simp
        case rel => exact ⟨rfl, l, rfl, hcu'⟩
      · have hty := run_eql_iface_types (P := Tryd.prog) 70 168 (.pointer (some ⟨k, 0, none⟩)) (.pointer (some t)) Tryd.underlying30 (by decide) w
        subst hu
        simp only [wT]
        clear hcu
        go_wp2
        go_roundg l.length
        case measure => simp
        case rel => exact ⟨rfl, l, rfl, hcu'⟩

/-- errors.Is of a chain, the target an errorString. -/
theorem errs_Is (t b : Addr) (w : World) (ht : Plain w t) (hb : Plain w b) (l0 : List (Bool × Int)) (v0 : Value) (hc : Chain w b l0 v0) :
    Calls Tryd.prog 45 #[v0, .iface 168 (.pointer (some t))] w fun e w' => e = .returned (.bool (decide (b = t))) ∧ w = w' := by
  have h8 := @run_callFunc_extern Tryd.prog 59 _ Extern.ReflectliteType.typeOf Tryd.func59 (by kernel_rfl) (by kernel_rfl) (by kernel_rfl) (by kernel_rfl)
  have h32 := @run_callFunc_extern Tryd.prog 109 _ cmpF Tryd.func109 (by kernel_rfl) (by kernel_rfl) (by kernel_rfl) (by kernel_rfl)
  have tT := Tryd.isTypeOf
  have cT := Tryd.isComparable
  have mR := Tryd.isMethodComparable
  obtain ⟨tu, xu, hu⟩ := hc.iface
  have his := errs_is t b w ht hb l0 v0 hc
  have HIS := Lib.hid his
  subst hu
  clear hc ht hb his
  go_enter Tryd.func45, Tryd.ntmps45
  go_wp2_with (go_at_call 60; refine HIS.out.mono ?_; rintro e w' ⟨rfl, rfl⟩)
  go_ret
  exact ⟨rfl, rfl⟩

/-- The wraps. -/
theorem fault_At (v : Value) (n : Int) (w : World) (t : TypeId) (x : Value) (hv : v = .iface t x) :
    Calls Tryd.prog 20 #[v, .int .i64 n] w fun e w' => e = .returned (.iface 65 (.pointer (some ⟨w.heap.size, 0, none⟩))) ∧ w' = w.alloc (.cells #[v, .int .i64 n] 69) := by
  subst hv
  go_enter Tryd.func20, Tryd.ntmps20
  go_wp2
  go_ret
  exact ⟨rfl, rfl⟩
theorem fault_In (v : Value) (n : Int) (w : World) (t : TypeId) (x : Value) (hv : v = .iface t x) :
    Calls Tryd.prog 38 #[v, .int .i64 n] w fun e w' => e = .returned (.iface 70 (.pointer (some ⟨w.heap.size, 0, none⟩))) ∧ w' = w.alloc (.cells #[v, .int .i64 n] 73) := by
  subst hv
  go_enter Tryd.func38, Tryd.ntmps38
  go_wp2
  go_ret
  exact ⟨rfl, rfl⟩
theorem fault_At_nil (n : Int) (w : World) :
    Calls Tryd.prog 20 #[.nilIface, .int .i64 n] w fun e w' => e = .returned .nilIface ∧ w = w' := by
  go_enter Tryd.func20, Tryd.ntmps20
  go_wp2
  go_ret
  exact ⟨rfl, rfl⟩
theorem fault_In_nil (n : Int) (w : World) :
    Calls Tryd.prog 38 #[.nilIface, .int .i64 n] w fun e w' => e = .returned .nilIface ∧ w = w' := by
  go_enter Tryd.func38, Tryd.ntmps38
  go_wp2
  go_ret
  exact ⟨rfl, rfl⟩
theorem errs_New (s : ByteArray) (w : World) : Calls Tryd.prog 122 #[.string s] w fun e w' => e = .returned (.iface 168 (.pointer (some ⟨w.heap.size, 0, none⟩))) ∧ w' = w.alloc (.cells #[.string s] 186) := by (go_enter Tryd.func122, Tryd.ntmps122; go_wp2; go_ret; exact ⟨rfl, rfl⟩)
end Go.Proofs.YtppcjmbblkbkdaaDoor
