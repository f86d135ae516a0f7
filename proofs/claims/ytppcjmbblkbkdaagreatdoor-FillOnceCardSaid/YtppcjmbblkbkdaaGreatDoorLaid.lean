/- What a row's listed variables give: the sentinels and errors.errorType lie in the world; and a world in which they lie. No conditions. -/
import Derived.Test.YtppcjmbblkbkdaaGreatDoorFault
import Derived.Test.YtppcjmbblkbkdaaGreatDoorCards
import Derived.Test.YtppcjmbblkbkdaaGreatDoorTie
import Derived.Lay
import Derived.LaidHandle
import Derived.Stop.LaidErr
import Derived.Deep.DeepWitnessRowRef
import Derived.ProofKit
import Derived.OpenShut
namespace Go.Proofs.YtppcjmbblkbkdaaGreatDoor
open Go.ChangeShapes Go.WideShapes Go.ChangeAt Go.RowKit

theorem own : ownKnob Tryz.prog.godebug = none := by kernel_rfl
theorem laidOut : laidOutB Tryz.prog = true := by kernel_rfl

/-- The sentinels of the row, in order. -/
def data21 : List (String × DataW Unit) := Rows.fillIntegersRow.laid.filter fun x => x.2.handleName?.isNone
/-- errors.errorType. -/
def hET : List (String × DataW Unit) := Rows.fillIntegersRow.laid.filter fun x => x.2.handleName?.isSome

theorem laidMetH_data {P : Program} {l : List (String × DataW Unit)} {w : World} (h : laidMetH P l w) : laidMet P (l.filter fun x => x.2.handleName?.isNone) w := by
  unfold laidMetH at h
  cases hs : l.filter fun x => x.2.handleName?.isSome with
  | nil =>
    rw [hs] at h
    have e : (l.filter fun x => x.2.handleName?.isNone) = l := by
      rw [List.filter_eq_self]
      intro x hx
      have := (List.filter_eq_nil_iff.1 hs) x hx
      cases hn : x.2.handleName? with
      | none => rfl
      | some s => rw [hn] at this; exact absurd rfl this
    rw [e]; exact h
  | cons a r => rw [hs] at h; exact h.1
theorem laidMetH_handles {P : Program} {l : List (String × DataW Unit)} {w : World} (h : laidMetH P l w) : handlesMet P (l.filter fun x => x.2.handleName?.isSome) w := by
  unfold laidMetH at h
  cases hs : l.filter fun x => x.2.handleName?.isSome with
  | nil => intro x hx; cases hx
  | cons a r => rw [hs] at h; exact h.2

/-- A datum that is an errorString. -/
def isErr (x : String × DataW Unit) : Prop := ∃ text, x.2 = .iface "*errors.errorString" (.ptr (.agg [.lit (.string text)]))

theorem Tryz.star : "*" ++ "errors.errorString" = "*errors.errorString" := by decide
theorem Tryz.rowE (u : TypeId) (h : Tryz.prog.typeName? 3 u = some "*errors.errorString") : u = 162 :=
  typeName_ptr_named (nm := "errors.errorString") (by rw [Tryz.star]; kernel_rfl) (by kernel_rfl) (by decide) u (by rw [Tryz.star]; exact h)

set_option maxRecDepth 100000 in
theorem sents_list {W : World} : ∀ (L : List (String × DataW Unit)) (ps : List MemPlace), DataW.LaidVars Tryz.prog W L ps →
    (∀ b off, MemPlace.cell b off ∈ ps → (∃ c t, W.heap[b]? = some (.cells c t (0, 0))) ∧ ∀ u v, W.cell? ⟨b, off, none⟩ = some (.iface u v) → Value.okWide Tryz.prog W .any 0 u v) →
    (∀ x ∈ L, isErr x ∧ ∃ g, Tryz.prog.globalNamed x.1 = some g ∧ (Tryz.prog.globals[g]?).map (·.type) = some 30) →
    ∃ ads : List Addr, ads.length = L.length ∧ (∀ (i : Nat) x a, L[i]? = some x → ads[i]? = some a → W.var? Tryz.prog x.1 = some #[.iface 162 (.pointer (some a))]) ∧
      (∀ a ∈ ads, Plain W a) ∧ List.Sublist (ads.map fun a => MemPlace.cell a.block a.off) ps := by
  intro L
  induction L with
  | nil => exact fun ps _ _ _ => ⟨[], rfl, (fun i x a h => by simp at h), (fun a h => by cases h), List.nil_sublist _⟩
  | cons x L ih =>
    intro ps h hr hL
    obtain ⟨⟨text, hx⟩, g, hg, ht⟩ := hL x (List.mem_cons_self ..)
    obtain ⟨n, d⟩ := x
    simp only at hx hg
    subst hx
    obtain ⟨g0, t0, cs0, f0, p0, q0, hg0, ht0, hv0, hd0, hq, e0⟩ := h
    obtain rfl := Option.some.inj (hg.symm.trans hg0)
    obtain rfl := Option.some.inj (ht.symm.trans ht0)
    subst e0
    obtain ⟨l0⟩ := cs0
    have ok0 : ∀ u v, l0 = [.iface u v] → Value.okWide Tryz.prog W .any 0 u v := fun u v e => by
      subst e
      exact (hr g 0 (by simp [MemPlace.row])).2 u v (by simpa using World.var?_cell hg0 hv0 0)
    obtain ⟨a0, s0, rfl, hc0, hs0, hz0, rfl⟩ := errorString_of_trod Tryz.underlying30 Tryz.rowE Tryz.underlying162 Tryz.underlying180 rfl rfl Tryz.underlying9 (by kernel_rfl) (by kernel_rfl) hd0 ok0
    obtain ⟨ads, h1, h2, h3, h4⟩ := ih q0 hq (fun b off hm => hr b off (List.mem_append_right _ hm)) (fun y hy => hL y (List.mem_cons_of_mem _ hy))
    obtain ⟨c0, t0', hb0⟩ := (hr a0.block a0.off (by simp [MemPlace.row])).1
    refine ⟨a0 :: ads, by simp [h1], ?_, ?_, ?_⟩
    · intro i y a hy ha
      cases i with
      | zero => cases hy; cases ha; exact hv0
      | succ i => exact h2 i y a (by simpa using hy) (by simpa using ha)
    · intro a ha
      rcases List.mem_cons.1 ha with rfl | ha
      · exact ⟨c0, t0', hb0⟩
      · exact h3 a ha
    · have e : MemPlace.row a0 1 = [MemPlace.cell a0.block a0.off] := rfl
      rw [e, List.map_cons, List.append_assoc]
      exact (List.Sublist.cons_cons _ h4).trans (List.sublist_append_right _ _)

/-- The variables' numbers, and that each is an errorString of the type error. -/
theorem Tryz.nums : ((List.range 21).all fun i => ((data21[i]?).bind fun x => Tryz.prog.globalNamed x.1) == some (gl (i + 1))) = true := by kernel_rfl
theorem Tryz.typs : (data21.all fun x => ((Tryz.prog.globalNamed x.1).bind fun g => (Tryz.prog.globals[g]?).map (·.type)) == some 30) = true := by kernel_rfl
theorem data21_len : data21.length = 21 := by kernel_rfl
theorem data21_err : ∀ x ∈ data21, isErr x := by
  intro x hx
  have e : data21 = [("pidgin/fault.errArg", Rows.laid_pidgin_fault_errArg), ("pidgin/fault.errLong", Rows.laid_pidgin_fault_errLong), ("pidgin/fault.errSyntax", Rows.laid_pidgin_fault_errSyntax), ("pidgin/fault.errDeep", Rows.laid_pidgin_fault_errDeep), ("pidgin/fault.errMany", Rows.laid_pidgin_fault_errMany), ("pidgin/fault.errNumber", Rows.laid_pidgin_fault_errNumber), ("pidgin/fault.errRange", Rows.laid_pidgin_fault_errRange), ("pidgin/fault.errBracket", Rows.laid_pidgin_fault_errBracket), ("pidgin/fault.errGroup", Rows.laid_pidgin_fault_errGroup), ("pidgin/fault.errEscape", Rows.laid_pidgin_fault_errEscape), ("pidgin/fault.errStates", Rows.laid_pidgin_fault_errStates), ("pidgin/fault.errDivide", Rows.laid_pidgin_fault_errDivide), ("pidgin/fault.errValue", Rows.laid_pidgin_fault_errValue), ("pidgin/fault.errOperand", Rows.laid_pidgin_fault_errOperand), ("pidgin/fault.errName", Rows.laid_pidgin_fault_errName), ("pidgin/fault.errFile", Rows.laid_pidgin_fault_errFile), ("pidgin/fault.errDir", Rows.laid_pidgin_fault_errDir), ("pidgin/fault.errExists", Rows.laid_pidgin_fault_errExists), ("pidgin/fault.errFull", Rows.laid_pidgin_fault_errFull), ("pidgin/fault.errLabel", Rows.laid_pidgin_fault_errLabel), ("pidgin/fault.errFuel", Rows.laid_pidgin_fault_errFuel)] := by kernel_rfl
  rw [e] at hx
  simp only [List.mem_cons, List.not_mem_nil, or_false] at hx
  rcases hx with rfl | rfl | rfl | rfl | rfl | rfl | rfl | rfl | rfl | rfl | rfl | rfl | rfl | rfl | rfl | rfl | rfl | rfl | rfl | rfl | rfl <;> exact ⟨_, rfl⟩

/-- WHAT THE LIST GIVES A WALK. -/
theorem sents_of_met {W : World} (h : laidMet Tryz.prog data21 W) : ∃ A, Sents0 W A := by
  obtain ⟨ps, hv, hnd, hr⟩ := h
  have hall : ∀ x ∈ data21, isErr x ∧ ∃ g, Tryz.prog.globalNamed x.1 = some g ∧ (Tryz.prog.globals[g]?).map (·.type) = some 30 := by
    intro x hx
    refine ⟨data21_err x hx, ?_⟩
    have := List.all_eq_true.1 Tryz.typs x hx
    simp only [beq_iff_eq, Option.bind_eq_some_iff] at this
    exact this
  obtain ⟨ads, hl, hvar, hpl, hsub⟩ := sents_list data21 ps hv hr hall
  rw [data21_len] at hl
  have hnd' := hsub.nodup hnd
  refine ⟨fun c => ads.getD (c - 1) default, ?_, ?_, ?_⟩
  · intro c h1 h2
    have hn := List.all_eq_true.1 Tryz.nums (c - 1) (List.mem_range.2 (by omega))
    simp only [beq_iff_eq, Option.bind_eq_some_iff] at hn
    obtain ⟨x, hx, hg⟩ := hn
    rw [show c - 1 + 1 = c by omega] at hg
    have ha : ads[c - 1]? = some (ads.getD (c - 1) default) := by
      rw [List.getElem?_eq_getElem (by omega), List.getD_eq_getElem?_getD, List.getElem?_eq_getElem (by omega)]; rfl
    have := hvar _ _ _ hx ha
    simpa using World.var?_cell hg this 0
  · intro c h1 h2
    exact hpl _ (by rw [List.getD_eq_getElem?_getD, List.getElem?_eq_getElem (by omega)]; exact List.getElem_mem _)
  · intro c d c1 c2 d1 d2 e
    simp only [List.getD_eq_getElem?_getD, List.getElem?_eq_getElem (show c - 1 < ads.length by omega), List.getElem?_eq_getElem (show d - 1 < ads.length by omega), Option.getD_some] at e
    have := (List.getElem_inj (h₀ := by simp; omega) (h₁ := by simp; omega) hnd').1 (show (ads.map fun a => MemPlace.cell a.block a.off)[c - 1]'(by simp; omega) = (ads.map fun a => MemPlace.cell a.block a.off)[d - 1]'(by simp; omega) by simp only [List.getElem_map, e])
    omega

theorem Tryz.rt : (Tryz.prog.cutTypes.find? (·.1 == "internal/reflectlite.rtype")).map (·.2) = some 124 := by kernel_rfl
theorem Tryz.oneRow : ((List.range 192).filter fun t => Tryz.prog.rowNamed t [101, 114, 114, 111, 114]) = [30] := by kernel_rfl
theorem Tryz.tsize : Tryz.prog.types.size = 192 := by kernel_rfl
theorem hET_eq : hET = [("errors.errorType", Rows.laid_errors_errorType)] := by kernel_rfl
theorem Tryz.etNum : Tryz.prog.globalNamed "errors.errorType" = some 0 := by kernel_rfl

theorem et_of_met {W : World} (h : handlesMet Tryz.prog hET W) : W.cell? ⟨0, 0, none⟩ = some (.iface 124 (.agg #[.pointer (some ⟨23, 30, none⟩)])) := by
  rw [hET_eq] at h
  obtain ⟨name, u, ty, e1, e2, e3, e4, e5⟩ := h _ (List.mem_singleton.2 rfl)
  have en : name = [101, 114, 114, 111, 114] := (Option.some.inj e1).symm
  subst en
  obtain rfl := Option.some.inj (Tryz.rt.symm.trans e2)
  have hm : ty ∈ (List.range 192).filter fun t => Tryz.prog.rowNamed t [101, 114, 114, 111, 114] := List.mem_filter.2 ⟨List.mem_range.2 (by rw [← Tryz.tsize]; exact e3), e4⟩
  rw [Tryz.oneRow] at hm
  obtain rfl := List.mem_singleton.1 hm
  have hh : typeHandle Tryz.prog 30 = .pointer (some ⟨23, 30, none⟩) := by kernel_rfl
  rw [hh] at e5
  simpa using World.var?_cell Tryz.etNum e5 0

/-! ### A world that meets the list -/
noncomputable def base0 (os : Os) : World :=
  { World.holding Tryz.prog os ⟨#[], #[], []⟩ with heap := (World.holding Tryz.prog os ⟨#[], #[], []⟩).heap.modify 0 fun
      | .cells _ t frozen => .cells #[.iface 124 (.agg #[.pointer (some ⟨23, 30, none⟩)])] t frozen
      | o => o }
noncomputable def laidWorld (os : Os) : World := (base0 os).layVars Tryz.prog data21
theorem laidWorld_os (os : Os) : (laidWorld os).os = os := World.layVars_os _ _ _
theorem laidWorld_met (os : Os) (args : Array Value) : laidMet Tryz.prog data21 ((laidWorld os).forCall (fun _ _ => 0) ⟨#[], args, []⟩).memory := by
  have e1 : (data21.filter fun x => (data21.map (·.1)).contains x.1) = data21 := List.filter_eq_self.2 fun x hx => List.contains_iff_mem.2 (List.mem_map.2 ⟨x, hx, rfl⟩)
  have e2 : (data21.filter fun x => !(data21.map (·.1)).contains x.1) = [] := List.filter_eq_nil_iff.2 fun x hx => by rw [List.contains_iff_mem.2 (List.mem_map.2 ⟨x, hx, rfl⟩)]; simp
  have h : laidMet Tryz.prog data21 (laidWorld os) := laidMet_layVars (w0 := base0 os) (data21.map (·.1)) [] (by rw [e1]; rfl) (by rw [e1]; kernel_rfl) (by rw [e1]; kernel_rfl) (by rw [e2]; exact LaidIn.none)
  exact h.of_heap (by simp [World.memory, World.forCall, Input.heap])
end Go.Proofs.YtppcjmbblkbkdaaGreatDoor
