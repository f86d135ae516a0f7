/- append of one byte, of two bytes, to a row of bytes that the call owns. Conditions as typed. -/
import Derived.Test.YtppcjmbblkbkdaaGreatDoorParts
import Derived.Maps.AppendAt
namespace Go.Proofs.YtppcjmbblkbkdaaGreatDoor
open Go.RowKit Pg

theorem ownBs2 {w : World} {B n : Nat} {a : Option Addr} {cap : Nat} {l : List UInt8} (h : w.ownsRow B 5 1 (.slice a n cap) n (u8s l)) (hn : n = l.length) : Bs w a cap l := by
  subst hn
  obtain ⟨a', cap', he, hb⟩ := (LitR.own h).bs
  simp only [Value.slice.injEq, true_and] at he
  obtain ⟨rfl, rfl⟩ := he
  exact hb
/-- Bytes behind a row that may be nil, and where the row is then. -/
theorem run_push_list {w : World} {base n : Nat} {v : Value} {l1 : List UInt8} (hown : w.ownsRow base 5 1 v n (u8s l1)) {ad : Addr} {cx : Nat} {l2 : List UInt8} (hx : ∀ j u, (u8s l2)[j]? = some u → w.cell? (ad.add j) = some u) (hs : n + l2.length ≤ 140737488355328) (hbase : base ≤ w.heap.size) (ty : TypeId) :
    ∃ v' w', (Builtin.append_ #[25, 25] ty #[v, .slice (some ad) l2.length cx]).run Tryz.prog w = .ok v' w' ∧ w'.ownsRow base 5 1 v' (n + l2.length) (u8s (l1 ++ l2)) ∧ w.grownBy w' v.ownBlock ∧ (v'.ownBlock = v.ownBlock ∨ v'.ownBlock = some w.heap.size) := by
  obtain ⟨i0, hi0, hz0, hz1, hz2⟩ := info_parts Tryz.infoU8
  obtain ⟨v', w', h1, h2, h3, _, h4⟩ := run_append_own_at (P := Tryz.prog) (w := w) base 25 ty 5 i0 _ 1 1 Tryz.underlying25 hi0 hz0 hz1 hz2 rfl (by omega) v n (u8s l1) hown ad l2.length cx (u8s l2) (by rw [u8s_length, Nat.mul_one])
    hx (by simp [u8s, Value.oneCell']) (by unfold maxLen; omega) (by omega) hbase
  refine ⟨v', w', h1, ?_, h3, h4⟩
  rw [show u8s (l1 ++ l2) = u8s l1 ++ u8s l2 by simp [u8s]]
  exact h2
/-- One byte behind a row that may be nil. -/
theorem run_push_big {w : World} {base n : Nat} {v : Value} {l1 : List UInt8} (hown : w.ownsRow base 5 1 v n (u8s l1)) {ad : Addr} {cx : Nat} {x : UInt8} (hx : w.cell? ad = some (.int .u8 x.toNat)) (hs : n ≤ 140737488355327) (hbase : base ≤ w.heap.size) (ty : TypeId) :
    ∃ v' w', (Builtin.append_ #[25, 25] ty #[v, .slice (some ad) 1 cx]).run Tryz.prog w = .ok v' w' ∧ w'.ownsRow base 5 1 v' (n + 1) (u8s (l1 ++ [x])) ∧ w.grownBy w' v.ownBlock ∧ (v'.ownBlock = v.ownBlock ∨ v'.ownBlock = some w.heap.size) :=
  run_push_list (l2 := [x]) hown (fun j u hu => by
    match j with
    | 0 => rw [show ad.add 0 = ad from rfl, hx, ← hu]; rfl
    | _ + 1 => simp [u8s] at hu) (by show n + 1 ≤ _; omega) hbase ty
/-- What such an append leaves. -/
structure Pushed (B : Nat) (w : World) (v : Value) (l : List UInt8) (v' : Value) (w' : World) : Prop where
  own : w'.ownsRow B 5 1 v' l.length (u8s l)
  bel : Below B w w'
  size : w.heap.size < w'.heap.size
  grow : ∃ o, (w.alloc o).grownBy w' v.ownBlock
  at' : v'.ownBlock = v.ownBlock ∨ v'.ownBlock = some (w.heap.size + 1)
theorem wpList_pushL {wr : World} {ops : Array Oper} {rest : List Oper} {o : Oper} {a : Act} {Q : Exit → Act → World → Prop} (hgd : o.guard = none) (s x : Operand)
    (ho : o.op = .call { callee := .builtin .append, args := #[s, x], argTypes := #[25, 25] }) (B : Nat) (v : Value) (l l2 : List UInt8) (h : wr.ownsRow B 5 1 v l.length (u8s l)) (hB : B ≤ wr.heap.size) (hl : l.length + l2.length ≤ 140737488355328) (n : Nat) (hn2 : l2.length = n) (cs : Array Value) (hcs : cs = (u8s l2).toArray)
    (hs : a.eval s = v) (hx : a.eval x = .slice (some ⟨wr.heap.size, 0, none⟩) n n)
    (hn : ∀ v' w', Pushed B wr v (l ++ l2) v' w' → wpList Tryz.prog ops Q rest (a.put o.dst v') w') : wpList Tryz.prog ops Q (o :: rest) a (wr.alloc (.cells cs 5)) := by
  refine wpList_plain hgd fun K' hK => ?_
  subst hcs hn2
  obtain ⟨v', w', hr, h2, h3, h4⟩ := run_push_list (w := wr.alloc (.cells (u8s l2).toArray 5)) (h.alloc _) (ad := ⟨wr.heap.size, 0, none⟩) (cx := l2.length) (l2 := l2) (news_at rfl (u8s l2).toArray 5) hl (by rw [World.size_alloc]; omega) o.type
  have hsz := h3.size
  rw [World.size_alloc] at hsz
  unfold Oper.wp execOp
  simp only [ho, resolve, invoke, builtin, Sem.run_bind, Sem.run_pure, Result.andThen_ok, List.map_toArray, List.map_cons, List.map_nil, hs, hx, hr]
  refine hK _ _ (hn v' w' ⟨by rw [List.length_append]; exact h2, ?_, by omega, ⟨_, h3⟩, by rw [World.size_alloc] at h4; exact h4⟩)
  exact ((Below.refl B wr).alloc hB _).grown h3 (by rw [World.size_alloc]; omega) (fun k hk => (h.lt k hk).1)
theorem wpList_push {wr : World} {ops : Array Oper} {rest : List Oper} {o : Oper} {a : Act} {Q : Exit → Act → World → Prop} (hgd : o.guard = none) (s x : Operand)
    (ho : o.op = .call { callee := .builtin .append, args := #[s, x], argTypes := #[25, 25] }) (B : Nat) (v : Value) (l : List UInt8) (c : UInt8) (h : wr.ownsRow B 5 1 v l.length (u8s l)) (hB : B ≤ wr.heap.size) (hl : l.length ≤ 140737488355327)
    (hs : a.eval s = v) (hx : a.eval x = .slice (some ⟨wr.heap.size, 0, none⟩) 1 1)
    (hn : ∀ v' w', Pushed B wr v (l ++ [c]) v' w' → wpList Tryz.prog ops Q rest (a.put o.dst v') w') : wpList Tryz.prog ops Q (o :: rest) a (wr.alloc (.cells #[.int .u8 c.toNat] 5)) :=
  wpList_pushL hgd s x ho B v l [c] h hB (by show l.length + 1 ≤ _; omega) 1 rfl _ rfl hs hx hn
theorem Pushed.slice {B : Nat} {w : World} {v : Value} {l : List UInt8} {v' : Value} {w' : World} (h : Pushed B w v l v' w') : ∃ a cap, v' = .slice a l.length cap ∧ Bs w' a cap l := by
  obtain ⟨a, cap, he, _⟩ := ownsRow_form h.own
  subst he
  exact ⟨a, cap, rfl, ownBs2 h.own rfl⟩
end Go.Proofs.YtppcjmbblkbkdaaGreatDoor
