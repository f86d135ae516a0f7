/- errors.As at the concrete targets **placed and **spoken, of a chain of wraps: the first of that kind is found, or none is. Conditions as typed. -/
import Derived.Test.YtppcjmbblkbkdaaDoorErrs
namespace Go.Proofs.YtppcjmbblkbkdaaDoor
open Go.RowKit Go.Extern.Stop Go.Stop Go.Extern

/-- The number of the first wrap of a kind. -/
def findW (s : Bool) : List (Bool × Int) → Option Int
  | [] => none
  | (t, n) :: l => if t = s then some n else findW s l

/-- What errors.As leaves: found or not; but for the target's block the old memory is as it was. -/
def AsPost (s : Bool) (tb : Nat) (old : Value) (w : World) (r : Option Int) (e : Ending) (w' : World) : Prop :=
  w.grownBy w' (some tb) ∧
  match r with
  | none => e = .returned (.bool false) ∧ w'.heap[tb]? = some (.cells #[old] (wT s) (0, 0))
  | some n => e = .returned (.bool true) ∧ ∃ k u, w'.heap[tb]? = some (.cells #[.pointer (some ⟨k, 0, none⟩)] (wT s) (0, 0)) ∧ w.heap[k]? = some (.cells #[u, .int .i64 n] (wS s) (0, 0))

theorem grownBy_refl (w : World) (r : Option Nat) : w.grownBy w r := ⟨rfl, rfl, rfl, Nat.le_refl _, fun _ _ _ => rfl⟩
theorem grownBy_trans {a b c : World} {r : Option Nat} (h : a.grownBy b r) (k : b.grownBy c r) : a.grownBy c r :=
  ⟨k.os.trans h.os, k.tape.trans h.tape, k.output.trans h.output, Nat.le_trans h.size k.size, fun i hi hr => (k.block i (Nat.lt_of_lt_of_le hi h.size) hr).trans (h.block i hi hr)⟩
theorem grownBy_setCell (w : World) (a : Addr) (v : Value) : w.grownBy (w.setCell a v) (some a.block) :=
  ⟨rfl, rfl, rfl, by simp [World.setCell], fun k _ h => Below.heap_setCell _ _ _ _ (by intro e; subst e; exact h rfl)⟩
theorem lt_of_heap {w : World} {k : Nat} {o : Obj} (h : w.heap[k]? = some o) : k < w.heap.size := by
  rcases Nat.lt_or_ge k w.heap.size with h' | h'
  · exact h'
  · rw [Array.getElem?_eq_none h'] at h; cases h

def valueOfF : Array Value → Sem Value := fun args => ReflectliteValue.unpack (args.getD 0 (.tuple #[]))
def typeVF : Array Value → Sem Value := ReflectliteValue.methodAny (ReflectliteValue.valueError "reflectlite.Value.Type" 0) (fun t _ _ _ => ReflectliteType.toType t)
def isNilF : Array Value → Sem Value := ReflectliteValue.method (ReflectliteValue.valueError "reflectlite.Value.IsNil" 0) ReflectliteValue.isNil
def kindF : Array Value → Sem Value := ReflectliteType.abiMethod fun t => do pure (.int .u8 (← Rtype.kind t))
def elemTF : Array Value → Sem Value := ReflectliteType.method ReflectliteType.elem
def implF : Array Value → Sem Value := ReflectliteType.relation "Implements" ReflectliteType.implements_
def assignF : Array Value → Sem Value := ReflectliteType.relation "AssignableTo" ReflectliteType.assignableTo
def elemVF : Array Value → Sem Value := ReflectliteValue.method (ReflectliteValue.valueError "reflectlite.Value.Elem" 0) ReflectliteValue.elem
def setF : Array Value → Sem Value := ReflectliteValue.set
theorem rlm (z : Sem Value) (f : TypeId → Addr → Nat → Nat → Sem Value) (v : Value) :
    ReflectliteValue.method z f #[v] = (do match ← ReflectliteValue.parts v with | none => z | some (t, a, fl) => f t a fl (fl % 32)) := rfl
theorem rls (v x : Value) : ReflectliteValue.set #[v, x] = (do
    let (some (dst, a, fl), some (src, b, _)) := (← ReflectliteValue.parts v, ← ReflectliteValue.parts x)
      | unsupported (.noEntry "extern/(internal/reflectlite.Value).Set.zeroValue")
    if fl / ReflectliteValue.flagAddr % 2 == 0 then unsupported (.noEntry "extern/(internal/reflectlite.Value).Set.unaddressable")
    let val ← loadVar src b
    if ← Rtype.directlyAssignable dst src then storeVar dst a val
    else if ← Rtype.implements dst src then
      if (← Rtype.kind src) == 20 then
        match val with
        | .nilIface => unsupported (.noEntry "extern/reflectlite: a nil value of one interface type handed on as a value of another")
        | _ => storeVar dst a val
      else storeVar dst a (.iface src val)
    else panicString ("reflectlite.Set: value of type " ++ (← Rtype.spelt src) ++ " is not assignable to type " ++ (← Rtype.spelt dst))
    pure (.tuple #[])) := rfl
theorem Tryd.methodKind (h : Value) (w : World) : (Go.method 297 118 (.agg #[h]) "Kind").run Tryd.prog w = .ok (96, h) w := by kernel_rfl
theorem Tryd.methodElem (h : Value) (w : World) : (Go.method 297 118 (.agg #[h]) "Elem").run Tryd.prog w = .ok (110, .agg #[h]) w := by kernel_rfl
theorem Tryd.methodImplements (h : Value) (w : World) : (Go.method 297 118 (.agg #[h]) "Implements").run Tryd.prog w = .ok (111, .agg #[h]) w := by kernel_rfl
theorem Tryd.methodAssignableTo (h : Value) (w : World) : (Go.method 297 118 (.agg #[h]) "AssignableTo").run Tryd.prog w = .ok (108, .agg #[h]) w := by kernel_rfl
theorem Tryd.typeOfE (v : Value) (w : World) : (ReflectliteType.typeOf #[.iface 168 v]).run Tryd.prog w = .ok (.iface 118 (.agg #[.pointer (some ⟨29, 168, none⟩)])) w := by kernel_rfl
theorem Tryd.noAsE (v : Value) (xT : TypeId) (w : World) : (Instr.typeAssert (.iface 168 v) xT 122 true).run Tryd.prog w = .ok (.tuple #[.nilIface, .bool false]) w := run_typeAssert_lacksB Tryd.underlying122 (by kernel_rfl) (by kernel_rfl) v xT w

theorem Tryd.typeOfP (v : Value) (w : World) : (ReflectliteType.typeOf #[.iface 65 v]).run Tryd.prog w = .ok (.iface 118 (.agg #[.pointer (some ⟨29, 65, none⟩)])) w := by kernel_rfl
theorem Tryd.noAsP (v : Value) (xT : TypeId) (w : World) : (Instr.typeAssert (.iface 65 v) xT 122 true).run Tryd.prog w = .ok (.tuple #[.nilIface, .bool false]) w := run_typeAssert_lacksB Tryd.underlying122 (by kernel_rfl) (by kernel_rfl) v xT w
theorem Tryd.valueOfTP (t : Addr) (w : World) : (valueOfF #[.iface 67 (.pointer (some t))]).run Tryd.prog w
    = .ok (.agg #[.pointer (some ⟨29, 67, none⟩), .pointer (some ⟨w.heap.size, 0, none⟩), .int .u64 150]) (w.alloc (.cells #[.pointer (some t)] 67)) := by kernel_rfl
theorem Tryd.typeTP (a : Addr) (w : World) : (typeVF #[.agg #[.pointer (some ⟨29, 67, none⟩), .pointer (some a), .int .u64 150]]).run Tryd.prog w
    = .ok (.iface 118 (.agg #[.pointer (some ⟨29, 67, none⟩)])) w := by kernel_rfl
theorem Tryd.kindTP (w : World) : (kindF #[.pointer (some ⟨29, 67, none⟩)]).run Tryd.prog w = .ok (.int .u8 22) w := by kernel_rfl
theorem Tryd.kindP (w : World) : (kindF #[.pointer (some ⟨29, 65, none⟩)]).run Tryd.prog w = .ok (.int .u8 22) w := by kernel_rfl
theorem Tryd.partsTP (a : Addr) (w : World) : (ReflectliteValue.parts (.agg #[.pointer (some ⟨29, 67, none⟩), .pointer (some a), .int .u64 150])).run Tryd.prog w = .ok (some (67, a, 150)) w := by kernel_rfl
theorem Tryd.isNilTP (a p : Addr) (W : World) (ha : W.cell? a = some (.pointer (some p))) :
    (isNilF #[.agg #[.pointer (some ⟨29, 67, none⟩), .pointer (some a), .int .u64 150]]).run Tryd.prog W = .ok (.bool false) W := by
  unfold isNilF
  rw [rlm]
  simp only [Sem.run_bind, Tryd.partsTP, Result.andThen]
  simp [ReflectliteValue.isNil, loadVar, isAgg, underlying, Tryd.underlying67, ha, Result.andThen]
theorem Tryd.elemTP (w : World) : (elemTF #[.agg #[.pointer (some ⟨29, 67, none⟩)]]).run Tryd.prog w = .ok (.iface 118 (.agg #[.pointer (some ⟨29, 65, none⟩)])) w := by kernel_rfl
theorem Tryd.implementsP (w : World) : (implF #[.agg #[.pointer (some ⟨29, 65, none⟩)], .iface 118 (.agg #[.pointer (some ⟨29, 30, none⟩)])]).run Tryd.prog w = .ok (.bool true) w := by kernel_rfl
theorem Tryd.assignPP (w : World) : (assignF #[.agg #[.pointer (some ⟨29, 65, none⟩)], .iface 118 (.agg #[.pointer (some ⟨29, 65, none⟩)])]).run Tryd.prog w = .ok (.bool true) w := by kernel_rfl
theorem Tryd.assignSP (w : World) : (assignF #[.agg #[.pointer (some ⟨29, 70, none⟩)], .iface 118 (.agg #[.pointer (some ⟨29, 65, none⟩)])]).run Tryd.prog w = .ok (.bool false) w := by kernel_rfl
theorem Tryd.assignEP (w : World) : (assignF #[.agg #[.pointer (some ⟨29, 168, none⟩)], .iface 118 (.agg #[.pointer (some ⟨29, 65, none⟩)])]).run Tryd.prog w = .ok (.bool false) w := by kernel_rfl
theorem Tryd.valueOfP (e : Addr) (w : World) : (valueOfF #[.iface 65 (.pointer (some e))]).run Tryd.prog w
    = .ok (.agg #[.pointer (some ⟨29, 65, none⟩), .pointer (some ⟨w.heap.size, 0, none⟩), .int .u64 150]) (w.alloc (.cells #[.pointer (some e)] 65)) := by kernel_rfl
theorem Tryd.elemOfP (w : World) : (Rtype.elem? 67).run Tryd.prog w = .ok (some 65) w := by kernel_rfl
theorem Tryd.mkP (p : Addr) (w : World) : (ReflectliteValue.mk 65 p ReflectliteValue.flagAddr).run Tryd.prog w = .ok (.agg #[.pointer (some ⟨29, 65, none⟩), .pointer (some p), .int .u64 406]) w := by kernel_rfl
theorem Tryd.elemVP (a p : Addr) (W : World) (ha : W.cell? a = some (.pointer (some p))) :
    (elemVF #[.agg #[.pointer (some ⟨29, 67, none⟩), .pointer (some a), .int .u64 150]]).run Tryd.prog W
      = .ok (.agg #[.pointer (some ⟨29, 65, none⟩), .pointer (some p), .int .u64 406]) W := by
  unfold elemVF
  rw [rlm]
  simp only [Sem.run_bind, Tryd.partsTP, Result.andThen]
  simp [ReflectliteValue.elem, loadVar, isAgg, underlying, Tryd.underlying67, ha, Result.andThen, Tryd.elemOfP, Tryd.mkP]
theorem Tryd.partsAP (a : Addr) (w : World) : (ReflectliteValue.parts (.agg #[.pointer (some ⟨29, 65, none⟩), .pointer (some a), .int .u64 406])).run Tryd.prog w = .ok (some (65, a, 406)) w := by kernel_rfl
theorem Tryd.partsBP (a : Addr) (w : World) : (ReflectliteValue.parts (.agg #[.pointer (some ⟨29, 65, none⟩), .pointer (some a), .int .u64 150])).run Tryd.prog w = .ok (some (65, a, 150)) w := by kernel_rfl
theorem Tryd.directP (w : World) : (Rtype.directlyAssignable 65 65).run Tryd.prog w = .ok true w := by kernel_rfl
theorem Tryd.setP (ta b e : Addr) (old : Value) (W : World) (hb : W.cell? b = some (.pointer (some e))) (ht : W.cell? ta = some old) (hf : W.frozen? ta = false) :
    (setF #[.agg #[.pointer (some ⟨29, 65, none⟩), .pointer (some ta), .int .u64 406], .agg #[.pointer (some ⟨29, 65, none⟩), .pointer (some b), .int .u64 150]]).run Tryd.prog W
      = .ok (.tuple #[]) (W.setCell ta (.pointer (some e))) := by
  unfold setF
  rw [rls]
  simp only [Sem.run_bind, Tryd.partsAP, Tryd.partsBP, Result.andThen]
  simp [ReflectliteValue.flagAddr, loadVar, isAgg, underlying, Tryd.underlying65, hb, Result.andThen, Tryd.directP, storeVar, Value.cells, storeCells, Addr.add]
  rw [run_store Tryd.prog W ta _ _ (by rfl)]
  simp [ht, hf]


theorem Tryd.typeOfS (v : Value) (w : World) : (ReflectliteType.typeOf #[.iface 70 v]).run Tryd.prog w = .ok (.iface 118 (.agg #[.pointer (some ⟨29, 70, none⟩)])) w := by kernel_rfl
theorem Tryd.noAsS (v : Value) (xT : TypeId) (w : World) : (Instr.typeAssert (.iface 70 v) xT 122 true).run Tryd.prog w = .ok (.tuple #[.nilIface, .bool false]) w := run_typeAssert_lacksB Tryd.underlying122 (by kernel_rfl) (by kernel_rfl) v xT w
theorem Tryd.valueOfTS (t : Addr) (w : World) : (valueOfF #[.iface 71 (.pointer (some t))]).run Tryd.prog w
    = .ok (.agg #[.pointer (some ⟨29, 71, none⟩), .pointer (some ⟨w.heap.size, 0, none⟩), .int .u64 150]) (w.alloc (.cells #[.pointer (some t)] 71)) := by kernel_rfl
theorem Tryd.typeTS (a : Addr) (w : World) : (typeVF #[.agg #[.pointer (some ⟨29, 71, none⟩), .pointer (some a), .int .u64 150]]).run Tryd.prog w
    = .ok (.iface 118 (.agg #[.pointer (some ⟨29, 71, none⟩)])) w := by kernel_rfl
theorem Tryd.kindTS (w : World) : (kindF #[.pointer (some ⟨29, 71, none⟩)]).run Tryd.prog w = .ok (.int .u8 22) w := by kernel_rfl
theorem Tryd.kindS (w : World) : (kindF #[.pointer (some ⟨29, 70, none⟩)]).run Tryd.prog w = .ok (.int .u8 22) w := by kernel_rfl
theorem Tryd.partsTS (a : Addr) (w : World) : (ReflectliteValue.parts (.agg #[.pointer (some ⟨29, 71, none⟩), .pointer (some a), .int .u64 150])).run Tryd.prog w = .ok (some (71, a, 150)) w := by kernel_rfl
theorem Tryd.isNilTS (a p : Addr) (W : World) (ha : W.cell? a = some (.pointer (some p))) :
    (isNilF #[.agg #[.pointer (some ⟨29, 71, none⟩), .pointer (some a), .int .u64 150]]).run Tryd.prog W = .ok (.bool false) W := by
  unfold isNilF
  rw [rlm]
  simp only [Sem.run_bind, Tryd.partsTS, Result.andThen]
  simp [ReflectliteValue.isNil, loadVar, isAgg, underlying, Tryd.underlying71, ha, Result.andThen]
theorem Tryd.elemTS (w : World) : (elemTF #[.agg #[.pointer (some ⟨29, 71, none⟩)]]).run Tryd.prog w = .ok (.iface 118 (.agg #[.pointer (some ⟨29, 70, none⟩)])) w := by kernel_rfl
theorem Tryd.implementsS (w : World) : (implF #[.agg #[.pointer (some ⟨29, 70, none⟩)], .iface 118 (.agg #[.pointer (some ⟨29, 30, none⟩)])]).run Tryd.prog w = .ok (.bool true) w := by kernel_rfl
theorem Tryd.assignSS (w : World) : (assignF #[.agg #[.pointer (some ⟨29, 70, none⟩)], .iface 118 (.agg #[.pointer (some ⟨29, 70, none⟩)])]).run Tryd.prog w = .ok (.bool true) w := by kernel_rfl
theorem Tryd.assignPS (w : World) : (assignF #[.agg #[.pointer (some ⟨29, 65, none⟩)], .iface 118 (.agg #[.pointer (some ⟨29, 70, none⟩)])]).run Tryd.prog w = .ok (.bool false) w := by kernel_rfl
theorem Tryd.assignES (w : World) : (assignF #[.agg #[.pointer (some ⟨29, 168, none⟩)], .iface 118 (.agg #[.pointer (some ⟨29, 70, none⟩)])]).run Tryd.prog w = .ok (.bool false) w := by kernel_rfl
theorem Tryd.valueOfS (e : Addr) (w : World) : (valueOfF #[.iface 70 (.pointer (some e))]).run Tryd.prog w
    = .ok (.agg #[.pointer (some ⟨29, 70, none⟩), .pointer (some ⟨w.heap.size, 0, none⟩), .int .u64 150]) (w.alloc (.cells #[.pointer (some e)] 70)) := by kernel_rfl
theorem Tryd.elemOfS (w : World) : (Rtype.elem? 71).run Tryd.prog w = .ok (some 70) w := by kernel_rfl
theorem Tryd.mkS (p : Addr) (w : World) : (ReflectliteValue.mk 70 p ReflectliteValue.flagAddr).run Tryd.prog w = .ok (.agg #[.pointer (some ⟨29, 70, none⟩), .pointer (some p), .int .u64 406]) w := by kernel_rfl
theorem Tryd.elemVS (a p : Addr) (W : World) (ha : W.cell? a = some (.pointer (some p))) :
    (elemVF #[.agg #[.pointer (some ⟨29, 71, none⟩), .pointer (some a), .int .u64 150]]).run Tryd.prog W
      = .ok (.agg #[.pointer (some ⟨29, 70, none⟩), .pointer (some p), .int .u64 406]) W := by
  unfold elemVF
  rw [rlm]
  simp only [Sem.run_bind, Tryd.partsTS, Result.andThen]
  simp [ReflectliteValue.elem, loadVar, isAgg, underlying, Tryd.underlying71, ha, Result.andThen, Tryd.elemOfS, Tryd.mkS]
theorem Tryd.partsAS (a : Addr) (w : World) : (ReflectliteValue.parts (.agg #[.pointer (some ⟨29, 70, none⟩), .pointer (some a), .int .u64 406])).run Tryd.prog w = .ok (some (70, a, 406)) w := by kernel_rfl
theorem Tryd.partsBS (a : Addr) (w : World) : (ReflectliteValue.parts (.agg #[.pointer (some ⟨29, 70, none⟩), .pointer (some a), .int .u64 150])).run Tryd.prog w = .ok (some (70, a, 150)) w := by kernel_rfl
theorem Tryd.directS (w : World) : (Rtype.directlyAssignable 70 70).run Tryd.prog w = .ok true w := by kernel_rfl
theorem Tryd.setS (ta b e : Addr) (old : Value) (W : World) (hb : W.cell? b = some (.pointer (some e))) (ht : W.cell? ta = some old) (hf : W.frozen? ta = false) :
    (setF #[.agg #[.pointer (some ⟨29, 70, none⟩), .pointer (some ta), .int .u64 406], .agg #[.pointer (some ⟨29, 70, none⟩), .pointer (some b), .int .u64 150]]).run Tryd.prog W
      = .ok (.tuple #[]) (W.setCell ta (.pointer (some e))) := by
  unfold setF
  rw [rls]
  simp only [Sem.run_bind, Tryd.partsAS, Tryd.partsBS, Result.andThen]
  simp [ReflectliteValue.flagAddr, loadVar, isAgg, underlying, Tryd.underlying70, hb, Result.andThen, Tryd.directS, storeVar, Value.cells, storeCells, Addr.add]
  rw [run_store Tryd.prog W ta _ _ (by rfl)]
  simp [ht, hf]

end Go.Proofs.YtppcjmbblkbkdaaDoor
