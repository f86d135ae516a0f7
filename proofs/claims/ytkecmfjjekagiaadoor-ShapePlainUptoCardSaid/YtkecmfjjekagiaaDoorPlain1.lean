/- Towards the walk of pidginlaw14.ShapePlain: its loop's two rows. Conditions as typed. -/
import Derived.Test.YtkecmfjjekagiaaDoorPush
import Derived.Test.YtkecmfjjekagiaaDoorPlain
namespace Go.Proofs.YtkecmfjjekagiaaDoor
open Go.RowKit Pg

/-- What the loop holds: the doubled bytes, and the bytes. -/
structure PlRel (w : World) (D P : List UInt8) (dv pv : Value) (wr : World) : Prop where
  d : wr.ownsRow w.heap.size 5 1 dv D.length (u8s D)
  p : wr.ownsRow w.heap.size 5 1 pv P.length (u8s P)
  ne : ∀ g, dv.ownBlock = some g → pv.ownBlock = some g → False
  bel : Below w.heap.size w wr
theorem PlRel.nil (w : World) : PlRel w [] [] (.slice none 0 0) (.slice none 0 0) w := ⟨World.ownsRow_nil _ _ _ _, World.ownsRow_nil _ _ _ _, fun _ h => by simp [Value.ownBlock] at h, Below.refl _ _⟩
theorem ne_of {a b : Option Nat} (h : ∀ g, a = some g → b = some g → False) : a = none ∨ a ≠ b := by
  cases a with
  | none => exact .inl rfl
  | some g => exact .inr fun e => h g rfl e.symm
theorem PlRel.pushD {w wr : World} {D P : List UInt8} {dv pv : Value} (h : PlRel w D P dv pv wr) (hD : D.length ≤ 100000000) (c : UInt8) (ty : TypeId) :
    ∃ dv' w', (Builtin.append_ #[44, 44] ty #[dv, .slice (some ⟨wr.heap.size, 0, none⟩) 1 1]).run Tryd.prog (wr.alloc (.cells #[.int .u8 c.toNat] 5)) = .ok dv' w' ∧ PlRel w (D ++ [c]) P dv' pv w' := by
  have hsz := h.bel.size
  obtain ⟨v', w', h1, h2, h3, h4⟩ := run_push_big (w := wr.alloc (.cells #[.int .u8 c.toNat] 5)) (h.d.alloc _) (ad := ⟨wr.heap.size, 0, none⟩) (cx := 1) (x := c) (news_at rfl #[.int .u8 c.toNat] 5 0 _ rfl) hD (by simp only [World.size_alloc]; omega) ty
  refine ⟨v', w', h1, by rw [List.length_append]; exact h2, (h.p.alloc _).kept h3 (ne_of fun g hp hd => h.ne g hd hp), fun g hg hp => ?_, ?_⟩
  · rcases h4 with h4 | h4
    · exact h.ne g (h4.symm.trans hg) hp
    · rw [h4] at hg
      have := (h.p.lt g hp).2
      simp only [World.size_alloc, Option.some.injEq] at hg
      omega
  · exact (h.bel.alloc hsz _).grown h3 (by simp only [World.size_alloc]; omega) (fun k hk => (h.d.lt k hk).1)
theorem PlRel.pushP {w wr : World} {D P : List UInt8} {dv pv : Value} (h : PlRel w D P dv pv wr) (hP : P.length ≤ 100000000) (c : UInt8) (ty : TypeId) :
    ∃ pv' w', (Builtin.append_ #[44, 44] ty #[pv, .slice (some ⟨wr.heap.size, 0, none⟩) 1 1]).run Tryd.prog (wr.alloc (.cells #[.int .u8 c.toNat] 5)) = .ok pv' w' ∧ PlRel w D (P ++ [c]) dv pv' w' := by
  have hsz := h.bel.size
  obtain ⟨v', w', h1, h2, h3, h4⟩ := run_push_big (w := wr.alloc (.cells #[.int .u8 c.toNat] 5)) (h.p.alloc _) (ad := ⟨wr.heap.size, 0, none⟩) (cx := 1) (x := c) (news_at rfl #[.int .u8 c.toNat] 5 0 _ rfl) hP (by simp only [World.size_alloc]; omega) ty
  refine ⟨v', w', h1, (h.d.alloc _).kept h3 (ne_of h.ne), by rw [List.length_append]; exact h2, fun g hg hp => ?_, ?_⟩
  · rcases h4 with h4 | h4
    · exact h.ne g hg (h4.symm.trans hp)
    · rw [h4] at hp
      have := (h.d.lt g hg).2
      simp only [World.size_alloc, Option.some.injEq] at hp
      omega
  · exact (h.bel.alloc hsz _).grown h3 (by simp only [World.size_alloc]; omega) (fun k hk => (h.p.lt k hk).1)
theorem wpList_pushD {w wr : World} {ops : Array Oper} {rest : List Oper} {o : Oper} {a : Act} {Q : Exit → Act → World → Prop} (hgd : o.guard = none) (s x : Operand)
    (ho : o.op = .call { callee := .builtin .append, args := #[s, x], argTypes := #[44, 44] }) (D P : List UInt8) (dv pv : Value) (c : UInt8) (h : PlRel w D P dv pv wr) (hD : D.length ≤ 100000000)
    (hs : a.eval s = dv) (hx : a.eval x = .slice (some ⟨wr.heap.size, 0, none⟩) 1 1)
    (hn : ∀ dv' w', PlRel w (D ++ [c]) P dv' pv w' → wpList Tryd.prog ops Q rest (a.put o.dst dv') w') : wpList Tryd.prog ops Q (o :: rest) a (wr.alloc (.cells #[.int .u8 c.toNat] 5)) := by
  refine wpList_plain hgd fun K' hK => ?_
  obtain ⟨v', w', hr, h2⟩ := h.pushD hD c o.type
  unfold Oper.wp execOp
  simp only [ho, resolve, invoke, builtin, Sem.run_bind, Sem.run_pure, Result.andThen_ok, List.map_toArray, List.map_cons, List.map_nil, hs, hx, hr]
  exact hK _ _ (hn v' w' h2)
theorem wpList_pushP {w wr : World} {ops : Array Oper} {rest : List Oper} {o : Oper} {a : Act} {Q : Exit → Act → World → Prop} (hgd : o.guard = none) (s x : Operand)
    (ho : o.op = .call { callee := .builtin .append, args := #[s, x], argTypes := #[44, 44] }) (D P : List UInt8) (dv pv : Value) (c : UInt8) (h : PlRel w D P dv pv wr) (hP : P.length ≤ 100000000)
    (hs : a.eval s = pv) (hx : a.eval x = .slice (some ⟨wr.heap.size, 0, none⟩) 1 1)
    (hn : ∀ pv' w', PlRel w D (P ++ [c]) dv pv' w' → wpList Tryd.prog ops Q rest (a.put o.dst pv') w') : wpList Tryd.prog ops Q (o :: rest) a (wr.alloc (.cells #[.int .u8 c.toNat] 5)) := by
  refine wpList_plain hgd fun K' hK => ?_
  obtain ⟨v', w', hr, h2⟩ := h.pushP hP c o.type
  unfold Oper.wp execOp
  simp only [ho, resolve, invoke, builtin, Sem.run_bind, Sem.run_pure, Result.andThen_ok, List.map_toArray, List.map_cons, List.map_nil, hs, hx, hr]
  exact hK _ _ (hn v' w' h2)
/-- The bytes without backslashes. -/
def noBs (l : List UInt8) : List UInt8 := l.filter fun c => c.toNat != 92
theorem noBs_mem {l : List UInt8} {c : UInt8} (h : c ∈ noBs l) : c.toNat ≠ 92 := by
  unfold noBs at h
  have := (List.mem_filter.1 h).2
  simpa using this
theorem noBs_le (l : List UInt8) : (noBs l).length ≤ l.length := List.length_filter_le _ _
theorem dbl_le (l : List UInt8) : (dbl l).length ≤ 2 * l.length := by
  induction l with
  | nil => exact Nat.le_refl _
  | cons c t ih =>
    rw [dbl_cons, List.length_append, List.length_cons]
    split <;> simp <;> omega
theorem noBs_take (l : List UInt8) (k : Nat) (h : k < l.length) : noBs (l.take (k + 1)) = noBs (l.take k) ++ if l[k].toNat = 92 then [] else [l[k]] := by
  unfold noBs
  rw [List.take_succ_eq_append_getElem h, List.filter_append]
  by_cases h1 : l[k].toNat = 92 <;> simp [h1]
end Go.Proofs.YtkecmfjjekagiaaDoor
