/- FaultText: whatever the input, the call returns true and the arguments read as before. The walk is faultText_walk; here it is laid into the given row and its card. Condition: the row's own. -/
import Derived.Test.YtppcjmbblkbkdaaDoorTextC
import Derived.Test.YtppcjmbblkbkdaaDoorLaidT
import Derived.Deep.SlicePairs
import Derived.Lib.SmallJoins
import Derived.Deep.Strs
import Derived.ShutString
import Derived.ChangeOld
namespace Go.Proofs.YtppcjmbblkbkdaaDoor.faultTextCard
open Go.ChangeShapes Go.WideShapes Go.ChangeAt Go.RowKit
open Go.ChangeMaps (open_string shut_string)

set_option maxRecDepth 100000 in
theorem contract (H : Type) (enc : TypeId × Value → H) (W : World) (base : Nat) (args : Array Value) (ds gs : List (DataW H)) (before : List MemPlace)
    (hval : ∀ (j : Nat) t v, Tryd.f3.params[j]? = some t → args[j]? = some v → Value.okWide Tryd.prog W .any base t v)
    (hW : DataW.Whole enc Tryd.prog Tryd.f3.params.toList Rows.faultTextSpec.vars false W args.toList ds gs before) (hL : laidMetH Tryd.prog Rows.faultTextRow.laid W) :
    Calls Tryd.prog 3 args W fun e W' => ∃ v, e = .returned v ∧ Rows.faultTextSpec.post enc Tryd.prog Tryd.f3 false true false false W args v W' := by
  have hL1 := laidMetH_data hL
  rw [show (Rows.faultTextRow.laid.filter fun x => x.2.handleName?.isNone) = dataT from rfl] at hL1
  obtain ⟨A, hS0⟩ := sents_T hL1
  have hL2 := laidMetH_handles hL
  rw [show (Rows.faultTextRow.laid.filter fun x => x.2.handleName?.isSome) = hET by kernel_rfl] at hL2
  have hS : Sents W A := ⟨hS0, et_of_met hL2⟩
  have hW' := hW
  obtain ⟨p, q, hA0, hV, rfl, hfz, hnd⟩ := hW
  have hA : DataW.TrodAll enc Tryd.prog W 0 (fun _ => true) true Tryd.f3.params.toList args.toList ds p := hA0
  rw [Tryd.params3] at hA hval
  obtain ⟨v0, vs0, d0, ds0, p0, q0, hargs, rfl, rfl, h0, r0⟩ := trodAll_cons hA
  obtain ⟨rfl, rfl, rfl⟩ := trodAll_nil r0
  obtain rfl : args = #[v0] := by cases args; simp_all
  obtain ⟨rfl, rfl⟩ := trodVars_none hV
  have k0 := h0
  have lt0 : ∀ x ∈ p0, x.block < W.heap.size := by obtain ⟨m, hm⟩ := k0; exact DataW.trod_lt m _ _ _ hm
  obtain ⟨c00, c01, c02, y00, y01, y02, m0, rfl, rfl, rfl, g00, g01, g02⟩ := Go.Joins.open_agg3 Tryd.underlying23 (by kernel_rfl) (by kernel_rfl) (hval 0 23 v0 rfl rfl) h0
  obtain ⟨a00, e00, _, w00⟩ := DataW.trod_int Tryd.underlying3 g00
  obtain rfl : c00 = .int .i64 a00 := by simpa using e00
  obtain ⟨a01, e01, _, w01⟩ := DataW.trod_int Tryd.underlying3 g01
  obtain rfl : c01 = .int .i64 a01 := by simpa using e01
  obtain ⟨a02, e02, _, w02⟩ := DataW.trod_int Tryd.underlying3 g02
  obtain rfl : c02 = .int .i64 a02 := by simpa using e02
  clear hA0
  refine (faultText_walk a00 a01 a02 W A hS (tabs_T hL1) w00 w01 w02).mono fun e W' ⟨he, bel⟩ => ?_
  subst he
  exact ⟨_, rfl, _, _, _, [], _, [], hW', trodAll_mk1 (shut_bool Tryd.underlying4 _), (trodAll_cons_mk (Below.trod laidOut (by kernel_rfl) (of_decide_eq_true (by kernel_rfl)) k0 bel lt0) trodAll_mk0), rfl, bel.frame _, fun h => by cases h⟩

theorem laid_met (os : Os) : laidMetH Tryd.prog Rows.faultTextRow.laid ((laidWorldT os).forCall (fun _ _ => 0) ⟨#[], #[.agg #[.int .i64 0, .int .i64 0, .int .i64 0]], []⟩).memory :=
  laidMetH_of_parts (by rw [show (Rows.faultTextRow.laid.filter fun x => x.2.handleName?.isNone) = dataT from rfl]; exact laidWorldT_met os _) (by kernel_rfl)
theorem reads (os : Os) {H : Type} (enc : TypeId × Value → H) : ∃ places, DataW.whole enc Tryd.prog ((laidWorldT os).forCall (fun _ _ => 0) ⟨#[], #[.agg #[.int .i64 0, .int .i64 0, .int .i64 0]], []⟩).memory Tryd.f3.params.toList Rows.faultTextSpec.vars false (#[.agg #[.int .i64 0, .int .i64 0, .int .i64 0]] : Array Value).toList 8 = some ([.agg [.lit (.int .i64 0), .lit (.int .i64 0), .lit (.int .i64 0)]], [], places) :=
  ⟨[], by kernel_rfl⟩

set_option maxRecDepth 100000 in
theorem lifted (os : Os) (started : os.Started) (H : Type) (enc : TypeId × Value → H) (F : Stop.Interp) :
    ReturnsInHanded {} Tryd.checked os 3 .any ((OpenSpec.ofChange Rows.faultTextSpec).preRow enc Tryd.prog Tryd.f3 Rows.faultTextRow.domain false Rows.faultTextRow.laid) (((OpenSpec.ofChange Rows.faultTextSpec).at F).post enc Tryd.prog Tryd.f3 false true false false) := by
  obtain ⟨places, hx⟩ := reads os enc
  refine returnsInHanded_of_row (C := Tryd.checked) (s := OpenSpec.ofChange Rows.faultTextSpec) own started (by kernel_rfl) Tryd.func3
    (witness_row_atRef (enc := enc) (C := Tryd.checked) false (laidWorldT os) #[.agg #[.int .i64 0, .int .i64 0, .int .i64 0]] (laidWorldT_os os) (by kernel_rfl) (by kernel_rfl) (by kernel_rfl)
      (OpenSpec.preRow_of_cond 8 hx (by kernel_rfl) (fun k hk => by cases hk) (by kernel_rfl) (laid_met os))) ?_
  intro W base args ds gs before hval hW _ _ _ hL _ _
  exact contract H enc W base args ds gs before hval hW hL

theorem nameNo : Tryd.pinned.checked.prog.funcNamed Rows.faultTextRow.func = some 3 := by kernel_rfl
set_option maxHeartbeats 8000000 in
theorem closedFacts : joinedFacts Tryd.pinned.checked.prog 3 Tryd.f3 (OpenSpec.ofChange Rows.faultTextSpec).bare Rows.faultTextRow = true := by
  unfold joinedFacts
  simp only [Bool.and_eq_true]
  repeat' apply And.intro
  all_goals (as_aux_lemma => kernel_rfl)
theorem inst : Tryd.f3.isInstance Tryd.pinned.checked.prog Rows.faultTextRow.origin Rows.faultTextRow.targs := of_decide_eq_true (by kernel_rfl)
theorem wrapNo : Tryd.f3.isWrapper Tryd.pinned.checked.prog Rows.faultTextRow.wrapper Rows.faultTextRow.mainSum := by
  unfold Func.isWrapper; rw [if_neg (of_decide_eq_false (by kernel_rfl))]; exact ⟨rfl, rfl⟩

theorem said : Rows.FaultTextSaid :=
  OpenClaim.holds_of_cond 3 Tryd.f3 rfl rfl rfl rfl rfl rfl rfl ⟨rfl, rfl, rfl, rfl, rfl⟩ rfl rfl rfl rfl rfl nameNo Tryd.func3 closedFacts inst wrapNo
    (fun os started H enc _ F => by rw [OpenClaim.pre_eq_preRow]; exact lifted os started H enc F)

theorem noStand : (Tryd.f3.params.all fun t => !Tryd.pinned.checked.prog.wantsStandIn t) = true := by kernel_rfl
theorem plain (f : FuncId) (fn : Func) (hf : Tryd.pinned.checked.prog.funcNamed Rows.faultTextRow.func = some f) (hfn : Tryd.pinned.checked.prog.funcs[f]? = some fn) :
    true = Tryd.pinned.checked.prog.looks [] ∧ ∀ (j : Nat) t, fn.params[j]? = some t → Tryd.pinned.checked.prog.wantsStandIn t = false := by
  obtain rfl : f = 3 := Option.some.inj (nameNo.symm.trans hf) |>.symm
  obtain rfl : fn = Tryd.f3 := (Option.some.inj (Tryd.func3.symm.trans hfn)).symm
  refine ⟨by kernel_rfl, fun j t ht => ?_⟩
  have := Array.all_eq_true'.1 noStand t (Array.mem_of_getElem? ht)
  simpa using this
end Go.Proofs.YtppcjmbblkbkdaaDoor.faultTextCard
namespace Go.Proofs.YtppcjmbblkbkdaaDoor
theorem faultText_holds : Rows.FaultTextCardSaid :=
  Claim7.holds_tied_plain_at .later [] _ _ _ _ faultTextCard.said (fun _ h => by cases h) (by kernel_rfl) (fun _ h => by cases h) faultText_row_tie rfl ⟨rfl, rfl⟩ (by kernel_rfl) rfl faultTextCard.plain (by kernel_rfl)
#print axioms faultText_holds
end Go.Proofs.YtppcjmbblkbkdaaDoor
