/- Towards the walk of pidginlaw14.ShapeFlags: its loop. Conditions as typed. -/
import Derived.Test.YtkecmfjjekagiaaDoorApp
import Derived.Test.YtkecmfjjekagiaaDoorJoinWalk
import Derived.Test.YtkecmfjjekagiaaDoorDig14
import Derived.Maps.AppendAt
namespace Go.Proofs.YtkecmfjjekagiaaDoor
open Go.RowKit Pg

/-- One byte behind a row that may be nil. -/
theorem run_push_at {w : World} {base n : Nat} {v : Value} {l1 : List UInt8} (hown : w.ownsRow base 5 1 v n (u8s l1)) {ad : Addr} {cx : Nat} {x : UInt8} (hx : w.cell? ad = some (.int .u8 x.toNat)) (hs : n ≤ 1000) (hbase : base ≤ w.heap.size) (ty : TypeId) :
    ∃ v' w', (Builtin.append_ #[44, 44] ty #[v, .slice (some ad) 1 cx]).run Tryd.prog w = .ok v' w' ∧ w'.ownsRow base 5 1 v' (n + 1) (u8s (l1 ++ [x])) ∧ w.grownBy w' v.ownBlock := by
  obtain ⟨i0, hi0, hz0, hz1, hz2⟩ := info_parts Tryd.infoU8
  obtain ⟨v', w', h1, h2, h3, _⟩ := run_append_own_at (P := Tryd.prog) (w := w) base 44 ty 5 i0 _ 1 1 Tryd.underlying44 hi0 hz0 hz1 hz2 rfl (by omega) v n (u8s l1) hown ad 1 cx (u8s [x]) rfl
    (fun j u hu => by
      match j with
      | 0 => rw [show ad.add 0 = ad from rfl, hx, ← hu]; rfl
      | _ + 1 => simp [u8s] at hu) (by simp [u8s, Value.oneCell']) (by unfold maxLen; omega) (by omega) hbase
  refine ⟨v', w', h1, ?_, h3⟩
  rw [show u8s (l1 ++ [x]) = u8s l1 ++ u8s [x] by simp [u8s]]
  exact h2

/-- What the loop over the flags holds: the flags, and turned. -/
structure FlRel (w : World) (L : List UInt8) (lv : Value) (ab : Option Addr) (cb : Nat) (wr : World) : Prop where
  l : wr.ownsRow w.heap.size 5 1 lv L.length (u8s L)
  b : wr.ownsRow w.heap.size 5 1 (.slice ab L.length cb) L.length (u8s L.reverse)
  ne : (Value.slice ab L.length cb).ownBlock = none ∨ (Value.slice ab L.length cb).ownBlock ≠ lv.ownBlock
  bel : Below w.heap.size w wr
theorem FlRel.nil (w : World) : FlRel w [] (.slice none 0 0) none 0 w := ⟨World.ownsRow_nil _ _ _ _, World.ownsRow_nil _ _ _ _, .inl rfl, Below.refl _ _⟩
/-- The same with the flag behind the flags, not yet ahead of the turned. -/
structure FlMid (w : World) (L : List UInt8) (c : UInt8) (lv : Value) (ab : Option Addr) (cb : Nat) (wr : World) : Prop where
  l : wr.ownsRow w.heap.size 5 1 lv (L.length + 1) (u8s (L ++ [c]))
  b : wr.ownsRow w.heap.size 5 1 (.slice ab L.length cb) L.length (u8s L.reverse)
  bel : Below w.heap.size w wr
theorem FlRel.push {w wr : World} {L : List UInt8} {lv : Value} {ab : Option Addr} {cb : Nat} (h : FlRel w L lv ab cb wr) (hL : L.length ≤ 100) (c : UInt8) (ty : TypeId) :
    ∃ lv' w', (Builtin.append_ #[44, 44] ty #[lv, .slice (some ⟨wr.heap.size, 0, none⟩) 1 1]).run Tryd.prog (wr.alloc (.cells #[.int .u8 c.toNat] 5)) = .ok lv' w' ∧ FlMid w L c lv' ab cb w' := by
  have hsz := h.bel.size
  obtain ⟨v', w', h1, h2, h3⟩ := run_push_at (w := wr.alloc (.cells #[.int .u8 c.toNat] 5)) (h.l.alloc _) (ad := ⟨wr.heap.size, 0, none⟩) (cx := 1) (x := c) (news_at rfl #[.int .u8 c.toNat] 5 0 _ rfl) (by omega) (by simp only [World.size_alloc]; omega) ty
  refine ⟨v', w', h1, h2, (h.b.alloc _).kept h3 h.ne, ?_⟩
  exact (h.bel.alloc hsz _).grown h3 (by simp only [World.size_alloc]; omega) (fun k hk => (h.l.lt k hk).1)
theorem FlMid.push {w wr : World} {L : List UInt8} {c : UInt8} {lv : Value} {ab : Option Addr} {cb : Nat} (h : FlMid w L c lv ab cb wr) (hL : L.length ≤ 100) (ty : TypeId) :
    ∃ g' cap' w', (Builtin.append_ #[44, 44] ty #[.slice (some ⟨wr.heap.size, 0, none⟩) 1 1, .slice ab L.length cb]).run Tryd.prog (wr.alloc (.cells #[.int .u8 c.toNat] 5)) = .ok (.slice (some ⟨g', 0, none⟩) (L.length + 1) cap') w' ∧ FlRel w (L ++ [c]) lv (some ⟨g', 0, none⟩) cap' w' := by
  have hsz := h.bel.size
  have hr : L.reverse.length = L.length := List.length_reverse
  have hbs : Bs (wr.alloc (.cells #[.int .u8 c.toNat] 5)) ab cb L.reverse := by
    have := h.b.alloc (.cells #[.int .u8 c.toNat] 5)
    exact ownBs' this hr.symm
  have hown : (wr.alloc (.cells #[.int .u8 c.toNat] 5)).ownsRow wr.heap.size 5 1 (.slice (some ⟨wr.heap.size, 0, none⟩) 1 1) 1 (u8s [c]) :=
    World.ownsRow_lit wr #[.int .u8 c.toNat] 1 (Nat.le_refl _) (by unfold maxLen; omega) rfl
  obtain ⟨g', cap', w', h1, h2, h3⟩ := run_append_bs hown hbs (by omega) (by simp only [World.size_alloc]; omega) ty
  rw [hr, Nat.add_comm 1 L.length] at h1 h2
  have hg := h2.lt g' rfl
  refine ⟨g', cap', w', h1, ?_, ?_, ?_, ?_⟩
  · rw [List.length_append]
    exact (h.l.alloc _).kept h3 (.inr (fun he => by have := (h.l.lt _ he).2; omega))
  · rw [List.length_append, List.reverse_append]
    exact ownsRow_base h2 (by omega)
  · refine .inr (fun he => ?_)
    have := (h.l.lt g' he.symm).2
    omega
  · exact (h.bel.alloc hsz _).grown h3 (by simp only [World.size_alloc]; omega) (fun k hk => by have : wr.heap.size = k := Option.some.inj hk; omega)
theorem wpList_push1 {w wr : World} {ops : Array Oper} {rest : List Oper} {o : Oper} {a : Act} {Q : Exit → Act → World → Prop} (hgd : o.guard = none) (s x : Operand)
    (ho : o.op = .call { callee := .builtin .append, args := #[s, x], argTypes := #[44, 44] }) (L : List UInt8) (lv : Value) (ab : Option Addr) (cb : Nat) (c : UInt8) (h : FlRel w L lv ab cb wr) (hL : L.length ≤ 100)
    (hs : a.eval s = lv) (hx : a.eval x = .slice (some ⟨wr.heap.size, 0, none⟩) 1 1)
    (hn : ∀ lv' w', FlMid w L c lv' ab cb w' → wpList Tryd.prog ops Q rest (a.put o.dst lv') w') : wpList Tryd.prog ops Q (o :: rest) a (wr.alloc (.cells #[.int .u8 c.toNat] 5)) := by
  refine wpList_plain hgd fun K' hK => ?_
  obtain ⟨v', w', hr, h2⟩ := h.push hL c o.type
  unfold Oper.wp execOp
  simp only [ho, resolve, invoke, builtin, Sem.run_bind, Sem.run_pure, Result.andThen_ok, List.map_toArray, List.map_cons, List.map_nil, hs, hx, hr]
  exact hK _ _ (hn v' w' h2)
theorem wpList_push2 {w wr : World} {ops : Array Oper} {rest : List Oper} {o : Oper} {a : Act} {Q : Exit → Act → World → Prop} (hgd : o.guard = none) (s x : Operand)
    (ho : o.op = .call { callee := .builtin .append, args := #[s, x], argTypes := #[44, 44] }) (L : List UInt8) (lv : Value) (ab : Option Addr) (cb : Nat) (c : UInt8) (h : FlMid w L c lv ab cb wr) (hL : L.length ≤ 100) (k : Nat) (hk : L.length = k)
    (hs : a.eval s = .slice (some ⟨wr.heap.size, 0, none⟩) 1 1) (hx : a.eval x = .slice ab k cb)
    (hn : ∀ g' cap' w', FlRel w (L ++ [c]) lv (some ⟨g', 0, none⟩) cap' w' → wpList Tryd.prog ops Q rest (a.put o.dst (.slice (some ⟨g', 0, none⟩) (k + 1) cap')) w') : wpList Tryd.prog ops Q (o :: rest) a (wr.alloc (.cells #[.int .u8 c.toNat] 5)) := by
  refine wpList_plain hgd fun K' hK => ?_
  subst hk
  obtain ⟨g', cap', w', hr, h2⟩ := h.push hL o.type
  unfold Oper.wp execOp
  simp only [ho, resolve, invoke, builtin, Sem.run_bind, Sem.run_pure, Result.andThen_ok, List.map_toArray, List.map_cons, List.map_nil, hs, hx, hr]
  exact hK _ _ (hn g' cap' w' h2)
end Go.Proofs.YtkecmfjjekagiaaDoor
