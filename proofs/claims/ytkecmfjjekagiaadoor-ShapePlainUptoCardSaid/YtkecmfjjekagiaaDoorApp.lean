/- append of bytes that are read to bytes that the call owns. Conditions as typed. -/
import Derived.Test.YtkecmfjjekagiaaDoorPrintf
import Derived.Deep.AppendSrc
namespace Go.Proofs.YtkecmfjjekagiaaDoor
open Go.RowKit Pg

theorem run_append_bs {w : World} {base g0 n0 cap0 : Nat} {l1 : List UInt8} (hown : w.ownsRow base 5 1 (.slice (some ⟨g0, 0, none⟩) n0 cap0) n0 (u8s l1)) {ax : Option Addr} {capx : Nat} {l2 : List UInt8} (hb : Bs w ax capx l2) (hs : n0 + l2.length ≤ 1000000) (hbase : base ≤ w.heap.size) (ty : TypeId) :
    ∃ g' cap' w', (Builtin.append_ #[44, 44] ty #[.slice (some ⟨g0, 0, none⟩) n0 cap0, .slice ax l2.length capx]).run Tryd.prog w = .ok (.slice (some ⟨g', 0, none⟩) (n0 + l2.length) cap') w' ∧
      w'.ownsRow base 5 1 (.slice (some ⟨g', 0, none⟩) (n0 + l2.length) cap') (n0 + l2.length) (u8s (l1 ++ l2)) ∧ w.grownBy w' (some g0) := by
  obtain ⟨i0, hi0, hz0, hz1, hz2⟩ := info_parts Tryd.infoU8
  cases ax with
  | none =>
    have h0 : l2 = [] := by
      cases l2 with
      | nil => rfl
      | cons c t => obtain ⟨b, off, ha, _⟩ := hb.2.2 0 (by simp); cases ha
    subst h0
    refine ⟨g0, cap0, w, ?_, by simpa using hown, World.grownBy.refl w _⟩
    have := run_append_room_src (P := Tryd.prog) w 44 44 ty 5 i0 Tryd.underlying44 hi0 g0 0 n0 cap0 (.slice none 0 capx) 0 [] (Src.ofNil w Tryd.underlying44 capx)
      (by obtain ⟨a', c', he, h1, _⟩ := ownsRow_form hown; simp only [Value.slice.injEq, true_and] at he; omega) (fun j h => by simp at h) (fun j h => by simp at h)
    simpa [World.setCells] using this
  | some ad =>
    obtain ⟨v', w', h1, h2, h3, h4⟩ := run_append_own (P := Tryd.prog) w base 44 ty 5 i0 _ 1 1 Tryd.underlying44 hi0 hz0 hz1 hz2 rfl (by omega) _ n0 (u8s l1) hown ad l2.length capx (u8s l2) (by simp [u8s])
      (fun j u hu => by
        have hj : j < l2.length := by
          rcases Nat.lt_or_ge j l2.length with h | h
          · exact h
          · rw [List.getElem?_eq_none (by simp [u8s]; omega)] at hu; cases hu
        obtain ⟨b, off, ha, hc⟩ := hb.2.2 j hj
        obtain rfl : ad = ⟨b, off, none⟩ := by simpa using ha
        rw [addr_add, hc, ← hu]
        simp [u8s, hj]) (by simp [u8s, Value.oneCell']) (by unfold maxLen; omega) (by omega) hbase
    rcases h2.2 with ⟨he, _⟩ | ⟨g', cap', cur, rfl, _⟩
    · exact absurd (h4.1 he).1 (by simp)
    · refine ⟨g', cap', w', h1, ?_, h3⟩
      rw [show u8s (l1 ++ l2) = u8s l1 ++ u8s l2 by simp [u8s]]
      exact h2
theorem wpList_append_bs {w : World} {ops : Array Oper} {rest : List Oper} {o : Oper} {a : Act} {Q : Exit → Act → World → Prop} (hgd : o.guard = none) (s x : Operand)
    (ho : o.op = .call { callee := .builtin .append, args := #[s, x], argTypes := #[44, 44] }) (base g0 n0 cap0 : Nat) (l1 : List UInt8) (hs : a.eval s = .slice (some ⟨g0, 0, none⟩) n0 cap0) (hown : w.ownsRow base 5 1 (.slice (some ⟨g0, 0, none⟩) n0 cap0) n0 (u8s l1))
    (ax : Option Addr) (capx : Nat) (l2 : List UInt8) (hx : a.eval x = .slice ax l2.length capx) (hb : Bs w ax capx l2) (hsz : n0 + l2.length ≤ 1000000) (hbase : base ≤ w.heap.size) (m : Nat) (hm : n0 + l2.length = m)
    (h : ∀ g' cap' w', w'.ownsRow base 5 1 (.slice (some ⟨g', 0, none⟩) m cap') m (u8s (l1 ++ l2)) → w.grownBy w' (some g0) → wpList Tryd.prog ops Q rest (a.put o.dst (.slice (some ⟨g', 0, none⟩) m cap')) w') : wpList Tryd.prog ops Q (o :: rest) a w := by
  refine wpList_plain hgd fun K' hK => ?_
  subst hm
  obtain ⟨g', cap', w', hr, h2, h3⟩ := run_append_bs hown hb hsz hbase o.type
  unfold Oper.wp execOp
  simp only [ho, resolve, invoke, builtin, Sem.run_bind, Sem.run_pure, Result.andThen_ok, List.map_toArray, List.map_cons, List.map_nil, hs, hx, hr]
  exact hK _ _ (h g' cap' w' h2 h3)
end Go.Proofs.YtkecmfjjekagiaaDoor
