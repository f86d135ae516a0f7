/- append of a string to a row of bytes that the call owns, up to growslice's own bound. Conditions as typed. -/
import Derived.Test.YtppcjmbblkbkdaaGreatDoorPrinter
import Derived.Deep.DeepAppendWide
namespace Go.Proofs.YtppcjmbblkbkdaaGreatDoor
open Go.RowKit Pg

section
variable {P : Program}
/-- A fresh block is an owned row. -/
theorem own_fresh (w : World) {base n cap : Nat} {e : TypeId} {xs : List Value} {cs : Array Value} (hb : base ≤ w.heap.size) (hx : xs.length = n) (hn : n ≤ cap) (hc : cap ≤ maxLen) (hz : cs.size = cap) (ht : cs.toList.take n = xs) :
    (w.drew.alloc (.cells cs e)).ownsRow base e 1 (.slice (some ⟨w.heap.size, 0, none⟩) n cap) n xs :=
  ⟨by rw [hx, Nat.mul_one], .inr ⟨w.heap.size, cap, cs, rfl, hb, heap_alloc_new w.drew _, hn, hc, by rw [hz, Nat.mul_one], by rw [Nat.mul_one]; exact ht⟩⟩
theorem grown_fresh (w : World) (o : Obj) (row : Option Nat) : w.grownBy (w.drew.alloc o) row := ⟨rfl, rfl, rfl, by simp, fun k hk _ => heap_alloc_old w.drew _ hk⟩
theorem fresh_cells (xs : List Value) (s : ByteArray) (z : Value) (hz : z.cells.size = 1) (q : Nat) (hq : xs.length + s.size ≤ q) :
    (xs.toArray ++ (Lib.strCells s).toArray ++ Builtin.zeroCells z.cells (q - (xs.length + s.size))).size = q ∧ (xs.toArray ++ (Lib.strCells s).toArray ++ Builtin.zeroCells z.cells (q - (xs.length + s.size))).toList.take (xs.length + s.size) = xs ++ Lib.strCells s := by
  constructor
  · simp only [Array.size_append, List.size_toArray, size_zeroCells, hz, Lib.strCells_length]
    omega
  · have e : xs.length + s.size = (xs ++ Lib.strCells s).length := by rw [List.length_append, Lib.strCells_length]
    rw [e]
    simp only [Array.toList_append]
    exact List.take_left

theorem run_append_strW (w : World) (base : Nat) (t u ty e : TypeId) (i : TypeInfo) (ht : P.underlying t = some (.slice e)) (hu : P.underlying u = some .string) (hi : P.info? e = some i) (hz : i.zero = some (.int .u8 0)) (hsize : i.size = 1) (hby : i.bytes = 1)
    (v : Value) (n : Nat) (xs : List Value) (hown : w.ownsRow base e 1 v n xs) (s : ByteArray) (h2 : n + s.size ≤ 200000000000000) (hbase : base ≤ w.heap.size) :
    ∃ v' w', (Builtin.append_ #[t, u] ty #[v, .string s]).run P w = .ok v' w' ∧ w'.ownsRow base e 1 v' (n + s.size) (xs ++ Lib.strCells s) ∧ w.grownBy w' v.ownBlock := by
  by_cases hs : n + s.size ≤ 140737488355328
  · obtain ⟨v', w', a, b, c, _⟩ := Lib.run_append_own_string (P := P) w base t u ty e i ht hu hi hz hsize hby v n xs hown s (by unfold maxLen; omega) hs hbase
    exact ⟨v', w', a, b, c⟩
  have hxl : xs.length = n := by simpa using hown.1
  have hml : n + s.size ≤ maxLen := by unfold maxLen; omega
  have hz1 : (Value.int IntKind.u8 0).cells.size = 1 := rfl
  have hlen : (xs ++ Lib.strCells s).length = n + s.size := by rw [List.length_append, hxl, Lib.strCells_length]
  rcases hown.2 with ⟨rfl, rfl⟩ | ⟨g, cap, cur, rfl, hbg, hg, hnc, hcm, hcs, htake⟩
  · have hx0 : xs = [] := List.eq_nil_of_length_eq_zero hxl
    subst hx0
    have hr := run_append_nil_string (P := P) w t u ty e i (.int .u8 0) ht hu hi hz s (by omega) (by omega) (by rw [hby]; omega)
    have hq := grownCap_ge w s.size 0 e
    have e1 : (s.data.map fun b => Value.int .u8 b.toNat) = (Lib.strCells s).toArray := by
      apply Array.ext'
      simp [Lib.strCells]
    rw [e1] at hr
    obtain ⟨c1, c2⟩ := fresh_cells [] s (.int .u8 0) hz1 (grownCap w s.size 0 e) (by simpa using hq)
    simp only [List.length_nil, Nat.zero_add, Array.empty_append, List.nil_append] at c1 c2 ⊢
    exact ⟨_, _, hr, own_fresh w hbase (Lib.strCells_length s) hq (grownCap_le_maxLen w s.size 0 e (by omega)) c1 c2, grown_fresh w _ _⟩
  · by_cases hroom : n + s.size ≤ cap
    · have hcs' : cur.size = cap := by simpa using hcs
      have hr := Lib.run_append_room_string (P := P) w t u ty e i ht hu hi hsize g n cap cur hg s hroom (by omega)
      have ht' : cur.toList.take n = xs := by simpa using htake
      refine ⟨_, _, hr, ⟨by rw [hlen, Nat.mul_one], .inr ⟨g, cap, _, rfl, hbg, setRow_heap w g cur _ e _ hg, hroom, hcm, ?_, ?_⟩⟩, ⟨rfl, rfl, rfl, by simp, fun k _ hk => setRow_other w g k _ (fun e => hk (by simp [Value.ownBlock, e]))⟩⟩
      · simp only [List.size_toArray, List.length_append, List.length_take, List.length_drop, Array.length_toList, Lib.strCells_length]
        omega
      · rw [ht', Nat.mul_one, ← hlen]
        exact List.take_left
    · have hr := Lib.run_append_grow_string (P := P) w t u ty e i (.int .u8 0) ht hu hi hz ⟨g, 0, none⟩ n cap xs (by rw [hsize]; simpa using hxl) (hown.cells (g := g) rfl) s (by omega) (by omega) (by rw [hby]; exact growslice_fits_wide (by omega) (by omega))
      have hq := grownCap_ge w (n + s.size) cap e
      obtain ⟨c1, c2⟩ := fresh_cells xs s (.int .u8 0) hz1 (grownCap w (n + s.size) cap e) (by rw [hxl]; exact hq)
      rw [hxl] at c1 c2
      exact ⟨_, _, hr, own_fresh w hbase hlen hq (grownCap_le_maxLen w (n + s.size) cap e hml) c1 c2, grown_fresh w _ _⟩

theorem wpList_append_strW {w : World} {ops : Array Oper} {rest : List Oper} {o : Oper} {a : Act} {Q : Exit → Act → World → Prop} (hgd : o.guard = none) (sl x : Operand) (t u : TypeId)
    (ho : o.op = .call { callee := .builtin .append, args := #[sl, x], argTypes := #[t, u] }) (base : Nat) (e : TypeId) (i : TypeInfo) (ht : P.underlying t = some (.slice e)) (hu : P.underlying u = some .string) (hi : P.info? e = some i) (hz : i.zero = some (.int .u8 0)) (hsize : i.size = 1) (hby : i.bytes = 1)
    (v : Value) (n : Nat) (xs : List Value) (hs : a.eval sl = v) (hown : w.ownsRow base e 1 v n xs) (s : ByteArray) (hx : a.eval x = .string s) (h2 : n + s.size ≤ 200000000000000) (hbase : base ≤ w.heap.size)
    (h : ∀ v' w', w'.ownsRow base e 1 v' (n + s.size) (xs ++ Lib.strCells s) → w.grownBy w' v.ownBlock → True → wpList P ops Q rest (a.put o.dst v') w') : wpList P ops Q (o :: rest) a w := by
  refine wpList_plain hgd fun K' hK => ?_
  obtain ⟨v', w', hr, h3, h4⟩ := run_append_strW (P := P) w base t u o.type e i ht hu hi hz hsize hby v n xs hown s h2 hbase
  unfold Oper.wp execOp
  simp only [ho, resolve, invoke, builtin, Sem.run_bind, Sem.run_pure, Result.andThen_ok, List.map_toArray, List.map_cons, List.map_nil, hs, hx, hr]
  exact hK _ _ (h v' w' h3 h4 trivial)
end
end Go.Proofs.YtppcjmbblkbkdaaGreatDoor
