/- ShapeParses: whatever the input, the call returns true and the arguments read as before. The walk is shapeParses_walk; here it is laid into the given row and its card. Condition: the row's own. -/
import Derived.Test.YtppcjmbblkbkdaaDoorParsesW
import Derived.Test.YtppcjmbblkbkdaaDoorLaidS
import Derived.Test.YtppcjmbblkbkdaaDoorArgs
import Derived.Deep.SlicePairs
import Derived.Deep.Strs
import Derived.ShutString
import Derived.ChangeOld
namespace Go.Proofs.YtppcjmbblkbkdaaDoor.shapeParsesCard
open Go.ChangeShapes Go.WideShapes Go.ChangeAt Go.RowKit
open Go.ChangeMaps (open_string shut_string)

set_option maxRecDepth 100000 in
theorem contract (H : Type) (enc : TypeId × Value → H) (W : World) (base : Nat) (args : Array Value) (ds gs : List (DataW H)) (before : List MemPlace)
    (hval : ∀ (j : Nat) t v, Tryd.f4.params[j]? = some t → args[j]? = some v → Value.okWide Tryd.prog W .any base t v)
    (hW : DataW.Whole enc Tryd.prog Tryd.f4.params.toList Rows.shapeParsesSpec.vars false W args.toList ds gs before) (hL : laidMetH Tryd.prog Rows.shapeParsesRow.laid W) :
    Calls Tryd.prog 4 args W fun e W' => ∃ v, e = .returned v ∧ Rows.shapeParsesSpec.post enc Tryd.prog Tryd.f4 false true false false W args v W' := by
  have hL1 := laidMetH_data hL
  rw [show (Rows.shapeParsesRow.laid.filter fun x => x.2.handleName?.isNone) = dataS from rfl] at hL1
  obtain ⟨A, hS0⟩ := sents_S hL1
  have hL2 := laidMetH_handles hL
  rw [show (Rows.shapeParsesRow.laid.filter fun x => x.2.handleName?.isSome) = hET by kernel_rfl] at hL2
  have hS : Sents W A := ⟨hS0, et_of_met hL2⟩
  have hW' := hW
  obtain ⟨p, q, hA0, hV, rfl, hfz, hnd⟩ := hW
  have hA : DataW.TrodAll enc Tryd.prog W 0 (fun _ => true) true Tryd.f4.params.toList args.toList ds p := hA0
  rw [Tryd.params4] at hA hval
  obtain ⟨v0, vs0, d0, ds0, p0, q0, hargs, rfl, rfl, h0, r0⟩ := trodAll_cons hA
  obtain ⟨rfl, rfl, rfl⟩ := trodAll_nil r0
  obtain rfl : args = #[v0] := by cases args; simp_all
  obtain ⟨rfl, rfl⟩ := trodVars_none hV
  obtain ⟨a0, len0, cap0, rfl⟩ := okWide_slice Tryd.underlying27 (hval 0 27 v0 rfl rfl)
  have k0 := h0
  have lt0 : ∀ x ∈ p0, x.block < W.heap.size := by obtain ⟨m, hm⟩ := k0; exact DataW.trod_lt m _ _ _ hm
  obtain ⟨l0, hl0, w0⟩ : ∃ l, len0 = l.length ∧ Bs W a0 cap0 l := by
    obtain ⟨fuel, hf⟩ := h0
    rcases open_ints Tryd.underlying27 Tryd.underlying5 (by kernel_rfl) hf with ⟨hcs, _⟩ | ⟨x, l, c, zs, hcs, _, hl, hm, hz, _, hcell, hwz⟩
    · simp [Value.cells] at hcs
      obtain ⟨rfl, rfl, rfl⟩ := hcs
      exact ⟨[], rfl, by simp, by simp [maxLen], fun i h => by simp at h⟩
    · simp [Value.cells] at hcs
      obtain ⟨rfl, rfl, rfl⟩ := hcs
      simp only [if_true] at hz
      exact bytes_of x len0 cap0 zs (by omega) hl hm hcell hwz
  subst hl0
  clear hA0
  refine (shapeParses_walk a0 cap0 l0 W A hS (pow_S hL1) w0).mono fun e W' ⟨he, bel⟩ => ?_
  subst he
  exact ⟨_, rfl, _, _, _, [], _, [], hW', trodAll_mk1 (shut_bool Tryd.underlying4 _), (trodAll_cons_mk (Below.trod laidOut (by kernel_rfl) (of_decide_eq_true (by kernel_rfl)) k0 bel lt0) trodAll_mk0), rfl, bel.frame _, fun h => by cases h⟩

theorem laid_met (os : Os) : laidMetH Tryd.prog Rows.shapeParsesRow.laid ((laidWorldS os).forCall (fun _ _ => 0) ⟨#[], #[.slice none 0 0], []⟩).memory :=
  laidMetH_of_parts (by rw [show (Rows.shapeParsesRow.laid.filter fun x => x.2.handleName?.isNone) = dataS from rfl]; exact laidWorldS_met os _) (by kernel_rfl)
theorem reads (os : Os) {H : Type} (enc : TypeId × Value → H) : ∃ places, DataW.whole enc Tryd.prog ((laidWorldS os).forCall (fun _ _ => 0) ⟨#[], #[.slice none 0 0], []⟩).memory Tryd.f4.params.toList Rows.shapeParsesSpec.vars false (#[.slice none 0 0] : Array Value).toList 8 = some ([.nil], [], places) :=
  ⟨[], by kernel_rfl⟩

set_option maxRecDepth 100000 in
theorem lifted (os : Os) (started : os.Started) (H : Type) (enc : TypeId × Value → H) (F : Stop.Interp) :
    ReturnsInHanded {} Tryd.checked os 4 .any ((OpenSpec.ofChange Rows.shapeParsesSpec).preRow enc Tryd.prog Tryd.f4 Rows.shapeParsesRow.domain false Rows.shapeParsesRow.laid) (((OpenSpec.ofChange Rows.shapeParsesSpec).at F).post enc Tryd.prog Tryd.f4 false true false false) := by
  obtain ⟨places, hx⟩ := reads os enc
  refine returnsInHanded_of_row (C := Tryd.checked) (s := OpenSpec.ofChange Rows.shapeParsesSpec) own started (by kernel_rfl) Tryd.func4
    (witness_row_atRef (enc := enc) (C := Tryd.checked) false (laidWorldS os) #[.slice none 0 0] (laidWorldS_os os) (by kernel_rfl) (by kernel_rfl) (by kernel_rfl)
      (OpenSpec.preRow_of_cond 8 hx (by kernel_rfl) (fun k hk => by cases hk) (by kernel_rfl) (laid_met os))) ?_
  intro W base args ds gs before hval hW _ _ _ hL _ _
  exact contract H enc W base args ds gs before hval hW hL

theorem nameNo : Tryd.pinned.checked.prog.funcNamed Rows.shapeParsesRow.func = some 4 := by kernel_rfl
set_option maxHeartbeats 8000000 in
theorem closedFacts : joinedFacts Tryd.pinned.checked.prog 4 Tryd.f4 (OpenSpec.ofChange Rows.shapeParsesSpec).bare Rows.shapeParsesRow = true := by
  unfold joinedFacts
  simp only [Bool.and_eq_true]
  repeat' apply And.intro
  all_goals (as_aux_lemma => kernel_rfl)
theorem inst : Tryd.f4.isInstance Tryd.pinned.checked.prog Rows.shapeParsesRow.origin Rows.shapeParsesRow.targs := of_decide_eq_true (by kernel_rfl)
theorem wrapNo : Tryd.f4.isWrapper Tryd.pinned.checked.prog Rows.shapeParsesRow.wrapper Rows.shapeParsesRow.mainSum := by
  unfold Func.isWrapper; rw [if_neg (of_decide_eq_false (by kernel_rfl))]; exact ⟨rfl, rfl⟩

theorem said : Rows.ShapeParsesSaid :=
  OpenClaim.holds_of_cond 4 Tryd.f4 rfl rfl rfl rfl rfl rfl rfl ⟨rfl, rfl, rfl, rfl, rfl⟩ rfl rfl rfl rfl rfl nameNo Tryd.func4 closedFacts inst wrapNo
    (fun os started H enc _ F => by rw [OpenClaim.pre_eq_preRow]; exact lifted os started H enc F)

theorem noStand : (Tryd.f4.params.all fun t => !Tryd.pinned.checked.prog.wantsStandIn t) = true := by kernel_rfl
theorem plain (f : FuncId) (fn : Func) (hf : Tryd.pinned.checked.prog.funcNamed Rows.shapeParsesRow.func = some f) (hfn : Tryd.pinned.checked.prog.funcs[f]? = some fn) :
    true = Tryd.pinned.checked.prog.looks [] ∧ ∀ (j : Nat) t, fn.params[j]? = some t → Tryd.pinned.checked.prog.wantsStandIn t = false := by
  obtain rfl : f = 4 := Option.some.inj (nameNo.symm.trans hf) |>.symm
  obtain rfl : fn = Tryd.f4 := (Option.some.inj (Tryd.func4.symm.trans hfn)).symm
  refine ⟨by kernel_rfl, fun j t ht => ?_⟩
  have := Array.all_eq_true'.1 noStand t (Array.mem_of_getElem? ht)
  simpa using this
end Go.Proofs.YtppcjmbblkbkdaaDoor.shapeParsesCard
namespace Go.Proofs.YtppcjmbblkbkdaaDoor
theorem shapeParses_holds : Rows.ShapeParsesCardSaid :=
  Claim7.holds_tied_plain_at .later [] _ _ _ _ shapeParsesCard.said (fun _ h => by cases h) (by kernel_rfl) (fun _ h => by cases h) shapeParses_row_tie rfl ⟨rfl, rfl⟩ (by kernel_rfl) rfl shapeParsesCard.plain (by kernel_rfl)
#print axioms shapeParses_holds
end Go.Proofs.YtppcjmbblkbkdaaDoor
