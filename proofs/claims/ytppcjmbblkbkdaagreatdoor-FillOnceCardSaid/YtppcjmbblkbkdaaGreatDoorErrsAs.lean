/- errors.As at the concrete targets **placed and **spoken, of a chain of wraps: the first of that kind is found, or none is. Conditions as typed. -/
import Derived.Test.YtppcjmbblkbkdaaGreatDoorErrs
namespace Go.Proofs.YtppcjmbblkbkdaaGreatDoor
open Go.RowKit Go.Extern.Stop Go.Stop Go.Extern

/-- The number of the first wrap of a kind. -/
def findW (s : Bool) : List (Bool × Int) → Option Int
  | [] => none
  | (t, n) :: l => if t = s then some n else findW s l

/-- What errors.As leaves: found or not; but for the target's block the old memory is as it was. -/
def AsPost (s : Bool) (tb : Nat) (old : Value) (w : World) (r : Option Int) (e : Ending) (w' : World) : Prop :=
  w.grownBy w' (some tb) ∧
  match r with
  | none => e = .returned (.bool false) ∧ w'.heap[tb]? = some (.cells #[old] (wT s) (0, 0))
  | some n => e = .returned (.bool true) ∧ ∃ k u, w'.heap[tb]? = some (.cells #[.pointer (some ⟨k, 0, none⟩)] (wT s) (0, 0)) ∧ w.heap[k]? = some (.cells #[u, .int .i64 n] (wS s) (0, 0))

theorem grownBy_refl (w : World) (r : Option Nat) : w.grownBy w r := ⟨rfl, rfl, rfl, Nat.le_refl _, fun _ _ _ => rfl⟩
theorem grownBy_trans {a b c : World} {r : Option Nat} (h : a.grownBy b r) (k : b.grownBy c r) : a.grownBy c r :=
  ⟨k.os.trans h.os, k.tape.trans h.tape, k.output.trans h.output, Nat.le_trans h.size k.size, fun i hi hr => (k.block i (Nat.lt_of_lt_of_le hi h.size) hr).trans (h.block i hi hr)⟩
theorem grownBy_setCell (w : World) (a : Addr) (v : Value) : w.grownBy (w.setCell a v) (some a.block) :=
  ⟨rfl, rfl, rfl, by simp [World.setCell], fun k _ h => Below.heap_setCell _ _ _ _ (by intro e; subst e; exact h rfl)⟩
theorem lt_of_heap {w : World} {k : Nat} {o : Obj} (h : w.heap[k]? = some o) : k < w.heap.size := by
  rcases Nat.lt_or_ge k w.heap.size with h' | h'
  · exact h'
  · rw [Array.getElem?_eq_none h'] at h; cases h

def valueOfF : Array Value → Sem Value := fun args => ReflectliteValue.unpack (args.getD 0 (.tuple #[]))
def typeVF : Array Value → Sem Value := ReflectliteValue.methodAny (ReflectliteValue.valueError "reflectlite.Value.Type" 0) (fun t _ _ _ => ReflectliteType.toType t)
def isNilF : Array Value → Sem Value := ReflectliteValue.method (ReflectliteValue.valueError "reflectlite.Value.IsNil" 0) ReflectliteValue.isNil
def kindF : Array Value → Sem Value := ReflectliteType.abiMethod fun t => do pure (.int .u8 (← Rtype.kind t))
def elemTF : Array Value → Sem Value := ReflectliteType.method ReflectliteType.elem
def implF : Array Value → Sem Value := ReflectliteType.relation "Implements" ReflectliteType.implements_
def assignF : Array Value → Sem Value := ReflectliteType.relation "AssignableTo" ReflectliteType.assignableTo
def elemVF : Array Value → Sem Value := ReflectliteValue.method (ReflectliteValue.valueError "reflectlite.Value.Elem" 0) ReflectliteValue.elem
def setF : Array Value → Sem Value := ReflectliteValue.set
theorem rlm (z : Sem Value) (f : TypeId → Addr → Nat → Nat → Sem Value) (v : Value) :
    ReflectliteValue.method z f #[v] = (do match ← ReflectliteValue.parts v with | none => z | some (t, a, fl) => f t a fl (fl % 32)) := rfl
theorem rls (v x : Value) : ReflectliteValue.set #[v, x] = (do
    let (some (dst, a, fl), some (src, b, _)) := (← ReflectliteValue.parts v, ← ReflectliteValue.parts x)
      | unsupported (.noEntry "extern/(internal/reflectlite.Value).Set.zeroValue")
    if fl / ReflectliteValue.flagAddr % 2 == 0 then unsupported (.noEntry "extern/(internal/reflectlite.Value).Set.unaddressable")
    let val ← loadVar src b
    if ← Rtype.directlyAssignable dst src then storeVar dst a val
    else if ← Rtype.implements dst src then
      if (← Rtype.kind src) == 20 then
        match val with
        | .nilIface => unsupported (.noEntry "extern/reflectlite: a nil value of one interface type handed on as a value of another")
        | _ => storeVar dst a val
      else storeVar dst a (.iface src val)
    else panicString ("reflectlite.Set: value of type " ++ (← Rtype.spelt src) ++ " is not assignable to type " ++ (← Rtype.spelt dst))
    pure (.tuple #[])) := rfl
theorem Tryz.methodKind (h : Value) (w : World) : (Go.method 292 124 (.agg #[h]) "Kind").run Tryz.prog w = .ok (100, h) w := by kernel_rfl
theorem Tryz.methodElem (h : Value) (w : World) : (Go.method 292 124 (.agg #[h]) "Elem").run Tryz.prog w = .ok (114, .agg #[h]) w := by kernel_rfl
theorem Tryz.methodImplements (h : Value) (w : World) : (Go.method 292 124 (.agg #[h]) "Implements").run Tryz.prog w = .ok (115, .agg #[h]) w := by kernel_rfl
theorem Tryz.methodAssignableTo (h : Value) (w : World) : (Go.method 292 124 (.agg #[h]) "AssignableTo").run Tryz.prog w = .ok (112, .agg #[h]) w := by kernel_rfl
theorem Tryz.typeOfE (v : Value) (w : World) : (ReflectliteType.typeOf #[.iface 162 v]).run Tryz.prog w = .ok (.iface 124 (.agg #[.pointer (some ⟨23, 162, none⟩)])) w := by kernel_rfl
theorem Tryz.noAsE (v : Value) (xT : TypeId) (w : World) : (Instr.typeAssert (.iface 162 v) xT 128 true).run Tryz.prog w = .ok (.tuple #[.nilIface, .bool false]) w := run_typeAssert_lacksB Tryz.underlying128 (by kernel_rfl) (by kernel_rfl) v xT w

theorem Tryz.typeOfP (v : Value) (w : World) : (ReflectliteType.typeOf #[.iface 64 v]).run Tryz.prog w = .ok (.iface 124 (.agg #[.pointer (some ⟨23, 64, none⟩)])) w := by kernel_rfl
theorem Tryz.noAsP (v : Value) (xT : TypeId) (w : World) : (Instr.typeAssert (.iface 64 v) xT 128 true).run Tryz.prog w = .ok (.tuple #[.nilIface, .bool false]) w := run_typeAssert_lacksB Tryz.underlying128 (by kernel_rfl) (by kernel_rfl) v xT w
theorem Tryz.valueOfTP (t : Addr) (w : World) : (valueOfF #[.iface 66 (.pointer (some t))]).run Tryz.prog w
    = .ok (.agg #[.pointer (some ⟨23, 66, none⟩), .pointer (some ⟨w.heap.size, 0, none⟩), .int .u64 150]) (w.alloc (.cells #[.pointer (some t)] 66)) := by kernel_rfl
theorem Tryz.typeTP (a : Addr) (w : World) : (typeVF #[.agg #[.pointer (some ⟨23, 66, none⟩), .pointer (some a), .int .u64 150]]).run Tryz.prog w
    = .ok (.iface 124 (.agg #[.pointer (some ⟨23, 66, none⟩)])) w := by kernel_rfl
theorem Tryz.kindTP (w : World) : (kindF #[.pointer (some ⟨23, 66, none⟩)]).run Tryz.prog w = .ok (.int .u8 22) w := by kernel_rfl
theorem Tryz.kindP (w : World) : (kindF #[.pointer (some ⟨23, 64, none⟩)]).run Tryz.prog w = .ok (.int .u8 22) w := by kernel_rfl
theorem Tryz.partsTP (a : Addr) (w : World) : (ReflectliteValue.parts (.agg #[.pointer (some ⟨23, 66, none⟩), .pointer (some a), .int .u64 150])).run Tryz.prog w = .ok (some (66, a, 150)) w := by kernel_rfl
theorem Tryz.isNilTP (a p : Addr) (W : World) (ha : W.cell? a = some (.pointer (some p))) :
    (isNilF #[.agg #[.pointer (some ⟨23, 66, none⟩), .pointer (some a), .int .u64 150]]).run Tryz.prog W = .ok (.bool false) W := by
  unfold isNilF
  rw [rlm]
  simp only [Sem.run_bind, Tryz.partsTP, Result.andThen]
  simp [ReflectliteValue.isNil, loadVar, isAgg, underlying, Tryz.underlying66, ha, Result.andThen]
theorem Tryz.elemTP (w : World) : (elemTF #[.agg #[.pointer (some ⟨23, 66, none⟩)]]).run Tryz.prog w = .ok (.iface 124 (.agg #[.pointer (some ⟨23, 64, none⟩)])) w := by kernel_rfl
theorem Tryz.implementsP (w : World) : (implF #[.agg #[.pointer (some ⟨23, 64, none⟩)], .iface 124 (.agg #[.pointer (some ⟨23, 30, none⟩)])]).run Tryz.prog w = .ok (.bool true) w := by kernel_rfl
theorem Tryz.assignPP (w : World) : (assignF #[.agg #[.pointer (some ⟨23, 64, none⟩)], .iface 124 (.agg #[.pointer (some ⟨23, 64, none⟩)])]).run Tryz.prog w = .ok (.bool true) w := by kernel_rfl
theorem Tryz.assignSP (w : World) : (assignF #[.agg #[.pointer (some ⟨23, 69, none⟩)], .iface 124 (.agg #[.pointer (some ⟨23, 64, none⟩)])]).run Tryz.prog w = .ok (.bool false) w := by kernel_rfl
theorem Tryz.assignEP (w : World) : (assignF #[.agg #[.pointer (some ⟨23, 162, none⟩)], .iface 124 (.agg #[.pointer (some ⟨23, 64, none⟩)])]).run Tryz.prog w = .ok (.bool false) w := by kernel_rfl
theorem Tryz.valueOfP (e : Addr) (w : World) : (valueOfF #[.iface 64 (.pointer (some e))]).run Tryz.prog w
    = .ok (.agg #[.pointer (some ⟨23, 64, none⟩), .pointer (some ⟨w.heap.size, 0, none⟩), .int .u64 150]) (w.alloc (.cells #[.pointer (some e)] 64)) := by kernel_rfl
theorem Tryz.elemOfP (w : World) : (Rtype.elem? 66).run Tryz.prog w = .ok (some 64) w := by kernel_rfl
theorem Tryz.mkP (p : Addr) (w : World) : (ReflectliteValue.mk 64 p ReflectliteValue.flagAddr).run Tryz.prog w = .ok (.agg #[.pointer (some ⟨23, 64, none⟩), .pointer (some p), .int .u64 406]) w := by kernel_rfl
theorem Tryz.elemVP (a p : Addr) (W : World) (ha : W.cell? a = some (.pointer (some p))) :
    (elemVF #[.agg #[.pointer (some ⟨23, 66, none⟩), .pointer (some a), .int .u64 150]]).run Tryz.prog W
      = .ok (.agg #[.pointer (some ⟨23, 64, none⟩), .pointer (some p), .int .u64 406]) W := by
  unfold elemVF
  rw [rlm]
  simp only [Sem.run_bind, Tryz.partsTP, Result.andThen]
  simp [ReflectliteValue.elem, loadVar, isAgg, underlying, Tryz.underlying66, ha, Result.andThen, Tryz.elemOfP, Tryz.mkP]
theorem Tryz.partsAP (a : Addr) (w : World) : (ReflectliteValue.parts (.agg #[.pointer (some ⟨23, 64, none⟩), .pointer (some a), .int .u64 406])).run Tryz.prog w = .ok (some (64, a, 406)) w := by kernel_rfl
theorem Tryz.partsBP (a : Addr) (w : World) : (ReflectliteValue.parts (.agg #[.pointer (some ⟨23, 64, none⟩), .pointer (some a), .int .u64 150])).run Tryz.prog w = .ok (some (64, a, 150)) w := by kernel_rfl
theorem Tryz.directP (w : World) : (Rtype.directlyAssignable 64 64).run Tryz.prog w = .ok true w := by kernel_rfl
theorem Tryz.setP (ta b e : Addr) (old : Value) (W : World) (hb : W.cell? b = some (.pointer (some e))) (ht : W.cell? ta = some old) (hf : W.frozen? ta = false) :
    (setF #[.agg #[.pointer (some ⟨23, 64, none⟩), .pointer (some ta), .int .u64 406], .agg #[.pointer (some ⟨23, 64, none⟩), .pointer (some b), .int .u64 150]]).run Tryz.prog W
      = .ok (.tuple #[]) (W.setCell ta (.pointer (some e))) := by
  unfold setF
  rw [rls]
  simp only [Sem.run_bind, Tryz.partsAP, Tryz.partsBP, Result.andThen]
  simp [ReflectliteValue.flagAddr, loadVar, isAgg, underlying, Tryz.underlying64, hb, Result.andThen, Tryz.directP, storeVar, Value.cells, storeCells, Addr.add]
  rw [run_store Tryz.prog W ta _ _ (by rfl)]
  simp [ht, hf]


theorem Tryz.typeOfS (v : Value) (w : World) : (ReflectliteType.typeOf #[.iface 69 v]).run Tryz.prog w = .ok (.iface 124 (.agg #[.pointer (some ⟨23, 69, none⟩)])) w := by kernel_rfl
theorem Tryz.noAsS (v : Value) (xT : TypeId) (w : World) : (Instr.typeAssert (.iface 69 v) xT 128 true).run Tryz.prog w = .ok (.tuple #[.nilIface, .bool false]) w := run_typeAssert_lacksB Tryz.underlying128 (by kernel_rfl) (by kernel_rfl) v xT w
theorem Tryz.valueOfTS (t : Addr) (w : World) : (valueOfF #[.iface 70 (.pointer (some t))]).run Tryz.prog w
    = .ok (.agg #[.pointer (some ⟨23, 70, none⟩), .pointer (some ⟨w.heap.size, 0, none⟩), .int .u64 150]) (w.alloc (.cells #[.pointer (some t)] 70)) := by kernel_rfl
theorem Tryz.typeTS (a : Addr) (w : World) : (typeVF #[.agg #[.pointer (some ⟨23, 70, none⟩), .pointer (some a), .int .u64 150]]).run Tryz.prog w
    = .ok (.iface 124 (.agg #[.pointer (some ⟨23, 70, none⟩)])) w := by kernel_rfl
theorem Tryz.kindTS (w : World) : (kindF #[.pointer (some ⟨23, 70, none⟩)]).run Tryz.prog w = .ok (.int .u8 22) w := by kernel_rfl
theorem Tryz.kindS (w : World) : (kindF #[.pointer (some ⟨23, 69, none⟩)]).run Tryz.prog w = .ok (.int .u8 22) w := by kernel_rfl
theorem Tryz.partsTS (a : Addr) (w : World) : (ReflectliteValue.parts (.agg #[.pointer (some ⟨23, 70, none⟩), .pointer (some a), .int .u64 150])).run Tryz.prog w = .ok (some (70, a, 150)) w := by kernel_rfl
theorem Tryz.isNilTS (a p : Addr) (W : World) (ha : W.cell? a = some (.pointer (some p))) :
    (isNilF #[.agg #[.pointer (some ⟨23, 70, none⟩), .pointer (some a), .int .u64 150]]).run Tryz.prog W = .ok (.bool false) W := by
  unfold isNilF
  rw [rlm]
  simp only [Sem.run_bind, Tryz.partsTS, Result.andThen]
  simp [ReflectliteValue.isNil, loadVar, isAgg, underlying, Tryz.underlying70, ha, Result.andThen]
theorem Tryz.elemTS (w : World) : (elemTF #[.agg #[.pointer (some ⟨23, 70, none⟩)]]).run Tryz.prog w = .ok (.iface 124 (.agg #[.pointer (some ⟨23, 69, none⟩)])) w := by kernel_rfl
theorem Tryz.implementsS (w : World) : (implF #[.agg #[.pointer (some ⟨23, 69, none⟩)], .iface 124 (.agg #[.pointer (some ⟨23, 30, none⟩)])]).run Tryz.prog w = .ok (.bool true) w := by kernel_rfl
theorem Tryz.assignSS (w : World) : (assignF #[.agg #[.pointer (some ⟨23, 69, none⟩)], .iface 124 (.agg #[.pointer (some ⟨23, 69, none⟩)])]).run Tryz.prog w = .ok (.bool true) w := by kernel_rfl
theorem Tryz.assignPS (w : World) : (assignF #[.agg #[.pointer (some ⟨23, 64, none⟩)], .iface 124 (.agg #[.pointer (some ⟨23, 69, none⟩)])]).run Tryz.prog w = .ok (.bool false) w := by kernel_rfl
theorem Tryz.assignES (w : World) : (assignF #[.agg #[.pointer (some ⟨23, 162, none⟩)], .iface 124 (.agg #[.pointer (some ⟨23, 69, none⟩)])]).run Tryz.prog w = .ok (.bool false) w := by kernel_rfl
theorem Tryz.valueOfS (e : Addr) (w : World) : (valueOfF #[.iface 69 (.pointer (some e))]).run Tryz.prog w
    = .ok (.agg #[.pointer (some ⟨23, 69, none⟩), .pointer (some ⟨w.heap.size, 0, none⟩), .int .u64 150]) (w.alloc (.cells #[.pointer (some e)] 69)) := by kernel_rfl
theorem Tryz.elemOfS (w : World) : (Rtype.elem? 70).run Tryz.prog w = .ok (some 69) w := by kernel_rfl
theorem Tryz.mkS (p : Addr) (w : World) : (ReflectliteValue.mk 69 p ReflectliteValue.flagAddr).run Tryz.prog w = .ok (.agg #[.pointer (some ⟨23, 69, none⟩), .pointer (some p), .int .u64 406]) w := by kernel_rfl
theorem Tryz.elemVS (a p : Addr) (W : World) (ha : W.cell? a = some (.pointer (some p))) :
    (elemVF #[.agg #[.pointer (some ⟨23, 70, none⟩), .pointer (some a), .int .u64 150]]).run Tryz.prog W
      = .ok (.agg #[.pointer (some ⟨23, 69, none⟩), .pointer (some p), .int .u64 406]) W := by
  unfold elemVF
  rw [rlm]
  simp only [Sem.run_bind, Tryz.partsTS, Result.andThen]
  simp [ReflectliteValue.elem, loadVar, isAgg, underlying, Tryz.underlying70, ha, Result.andThen, Tryz.elemOfS, Tryz.mkS]
theorem Tryz.partsAS (a : Addr) (w : World) : (ReflectliteValue.parts (.agg #[.pointer (some ⟨23, 69, none⟩), .pointer (some a), .int .u64 406])).run Tryz.prog w = .ok (some (69, a, 406)) w := by kernel_rfl
theorem Tryz.partsBS (a : Addr) (w : World) : (ReflectliteValue.parts (.agg #[.pointer (some ⟨23, 69, none⟩), .pointer (some a), .int .u64 150])).run Tryz.prog w = .ok (some (69, a, 150)) w := by kernel_rfl
theorem Tryz.directS (w : World) : (Rtype.directlyAssignable 69 69).run Tryz.prog w = .ok true w := by kernel_rfl
theorem Tryz.setS (ta b e : Addr) (old : Value) (W : World) (hb : W.cell? b = some (.pointer (some e))) (ht : W.cell? ta = some old) (hf : W.frozen? ta = false) :
    (setF #[.agg #[.pointer (some ⟨23, 69, none⟩), .pointer (some ta), .int .u64 406], .agg #[.pointer (some ⟨23, 69, none⟩), .pointer (some b), .int .u64 150]]).run Tryz.prog W
      = .ok (.tuple #[]) (W.setCell ta (.pointer (some e))) := by
  unfold setF
  rw [rls]
  simp only [Sem.run_bind, Tryz.partsAS, Tryz.partsBS, Result.andThen]
  simp [ReflectliteValue.flagAddr, loadVar, isAgg, underlying, Tryz.underlying69, hb, Result.andThen, Tryz.directS, storeVar, Value.cells, storeCells, Addr.add]
  rw [run_store Tryz.prog W ta _ _ (by rfl)]
  simp [ht, hf]

end Go.Proofs.YtppcjmbblkbkdaaGreatDoor
