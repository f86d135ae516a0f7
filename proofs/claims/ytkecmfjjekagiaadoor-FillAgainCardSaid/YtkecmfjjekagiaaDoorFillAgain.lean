/- FillAgain: whatever the input, the call returns true and the arguments read as before. The walk is fillAgain_walk; here it is laid into the given row and its card. Condition: the row's own. -/
import Derived.Test.YtkecmfjjekagiaaDoorAgainWalk
import Derived.Test.YtkecmfjjekagiaaDoorLaid
import Derived.Test.YtkecmfjjekagiaaDoorArgs
import Derived.Deep.SlicePairs
import Derived.Deep.Strs
import Derived.ShutString
import Derived.ChangeOld
namespace Go.Proofs.YtkecmfjjekagiaaDoor.fillAgainCard
open Go.ChangeShapes Go.WideShapes Go.ChangeAt Go.RowKit
open Go.ChangeMaps (open_string shut_string)

set_option maxRecDepth 100000 in
theorem contract (H : Type) (enc : TypeId × Value → H) (W : World) (base : Nat) (args : Array Value) (ds gs : List (DataW H)) (before : List MemPlace)
    (hval : ∀ (j : Nat) t v, Tryd.f12.params[j]? = some t → args[j]? = some v → Value.okWide Tryd.prog W .any base t v)
    (hW : DataW.Whole enc Tryd.prog Tryd.f12.params.toList Rows.fillAgainSpec.vars false W args.toList ds gs before) (hL : laidMetH Tryd.prog Rows.fillAgainRow.laid W) :
    Calls Tryd.prog 12 args W fun e W' => ∃ v, e = .returned v ∧ Rows.fillAgainSpec.post enc Tryd.prog Tryd.f12 false true false false W args v W' := by
  have hL1 := laidMetH_data hL
  rw [show (Rows.fillAgainRow.laid.filter fun x => x.2.handleName?.isNone) = data21 by kernel_rfl] at hL1
  obtain ⟨A, hS0⟩ := sents_of_met hL1
  have hS := hS0
  have hW' := hW
  obtain ⟨p, q, hA0, hV, rfl, hfz, hnd⟩ := hW
  have hA : DataW.TrodAll enc Tryd.prog W 0 (fun _ => true) true Tryd.f12.params.toList args.toList ds p := hA0
  rw [Tryd.params12] at hA hval
  obtain ⟨v0, vs0, d0, ds0, p0, q0, hargs, rfl, rfl, h0, r0⟩ := trodAll_cons hA
  obtain ⟨v1, vs1, d1, ds1, p1, q1, rfl, rfl, rfl, h1, r1⟩ := trodAll_cons r0
  obtain ⟨rfl, rfl, rfl⟩ := trodAll_nil r1
  obtain rfl : args = #[v0, v1] := by cases args; simp_all
  obtain ⟨rfl, rfl⟩ := trodVars_none hV
  obtain ⟨a0, len0, cap0, rfl⟩ := okWide_slice Tryd.underlying59 (hval 0 59 v0 rfl rfl)
  have k0 := h0
  have lt0 : ∀ x ∈ p0, x.block < W.heap.size := by obtain ⟨m, hm⟩ := k0; exact DataW.trod_lt m _ _ _ hm
  obtain ⟨l0, hl0, w0⟩ : ∃ l, len0 = l.length ∧ Ss W a0 cap0 l := by
    obtain ⟨fuel, hf⟩ := h0
    rcases open_strings Tryd.underlying59 Tryd.underlying9 (by kernel_rfl) hf with ⟨hcs, _⟩ | ⟨x, l, c, ss, hcs, _, hl, hm, hz, _, hcell, hws⟩
    · simp [Value.cells] at hcs
      obtain ⟨rfl, rfl, rfl⟩ := hcs
      exact ⟨[], rfl, by simp, by simp [maxLen], fun i h => by simp at h⟩
    · simp [Value.cells] at hcs
      obtain ⟨rfl, rfl, rfl⟩ := hcs
      simp only [if_true] at hz
      exact strings_of x len0 cap0 ss (by omega) hl hm hcell
  subst hl0
  obtain ⟨a1, rfl, rfl, rfl, w1⟩ := open_string Tryd.underlying9 (hval 1 9 v1 rfl rfl) h1
  clear hA0
  refine (fillAgain_walk a0 cap0 l0 a1 W A hS w0 w1).mono fun e W' ⟨he, bel⟩ => ?_
  subst he
  exact ⟨_, rfl, _, _, _, [], _, [], hW', trodAll_mk1 (shut_bool Tryd.underlying4 _), (trodAll_cons_mk (Below.trod laidOut (by kernel_rfl) (of_decide_eq_true (by kernel_rfl)) k0 bel lt0) (trodAll_cons_mk (shut_string Tryd.underlying9 w1) trodAll_mk0)), rfl, bel.frame _, fun h => by cases h⟩

theorem laid_met (os : Os) : laidMetH Tryd.prog Rows.fillAgainRow.laid ((laidWorld os).forCall (fun _ _ => 0) ⟨#[], #[.slice none 0 0, .string ByteArray.empty], []⟩).memory :=
  laidMetH_of_parts (by rw [show (Rows.fillAgainRow.laid.filter fun x => x.2.handleName?.isNone) = data21 by kernel_rfl]; exact laidWorld_met os _) (by kernel_rfl)
theorem reads (os : Os) {H : Type} (enc : TypeId × Value → H) : ∃ places, DataW.whole enc Tryd.prog ((laidWorld os).forCall (fun _ _ => 0) ⟨#[], #[.slice none 0 0, .string ByteArray.empty], []⟩).memory Tryd.f12.params.toList Rows.fillAgainSpec.vars false (#[.slice none 0 0, .string ByteArray.empty] : Array Value).toList 8 = some ([.nil, .lit (.string [])], [], places) :=
  ⟨[], by kernel_rfl⟩

set_option maxRecDepth 100000 in
theorem lifted (os : Os) (started : os.Started) (H : Type) (enc : TypeId × Value → H) (F : Stop.Interp) :
    ReturnsInHanded {} Tryd.checked os 12 .any ((OpenSpec.ofChange Rows.fillAgainSpec).preRow enc Tryd.prog Tryd.f12 Rows.fillAgainRow.domain false Rows.fillAgainRow.laid) (((OpenSpec.ofChange Rows.fillAgainSpec).at F).post enc Tryd.prog Tryd.f12 false true false false) := by
  obtain ⟨places, hx⟩ := reads os enc
  refine returnsInHanded_of_row (C := Tryd.checked) (s := OpenSpec.ofChange Rows.fillAgainSpec) own started (by kernel_rfl) Tryd.func12
    (witness_row_atRef (enc := enc) (C := Tryd.checked) false (laidWorld os) #[.slice none 0 0, .string ByteArray.empty] (laidWorld_os os) (by kernel_rfl) (by kernel_rfl) (by kernel_rfl)
      (OpenSpec.preRow_of_cond 8 hx (by kernel_rfl) (fun k hk => by cases hk) (by kernel_rfl) (laid_met os))) ?_
  intro W base args ds gs before hval hW _ _ _ hL _ _
  exact contract H enc W base args ds gs before hval hW hL

theorem nameNo : Tryd.pinned.checked.prog.funcNamed Rows.fillAgainRow.func = some 12 := by kernel_rfl
set_option maxHeartbeats 8000000 in
theorem closedFacts : joinedFacts Tryd.pinned.checked.prog 12 Tryd.f12 (OpenSpec.ofChange Rows.fillAgainSpec).bare Rows.fillAgainRow = true := by
  unfold joinedFacts
  simp only [Bool.and_eq_true]
  repeat' apply And.intro
  all_goals (as_aux_lemma => kernel_rfl)
theorem inst : Tryd.f12.isInstance Tryd.pinned.checked.prog Rows.fillAgainRow.origin Rows.fillAgainRow.targs := of_decide_eq_true (by kernel_rfl)
theorem wrapNo : Tryd.f12.isWrapper Tryd.pinned.checked.prog Rows.fillAgainRow.wrapper Rows.fillAgainRow.mainSum := by
  unfold Func.isWrapper; rw [if_neg (of_decide_eq_false (by kernel_rfl))]; exact ⟨rfl, rfl⟩

theorem said : Rows.FillAgainSaid :=
  OpenClaim.holds_of_cond 12 Tryd.f12 rfl rfl rfl rfl rfl rfl rfl ⟨rfl, rfl, rfl, rfl, rfl⟩ rfl rfl rfl rfl rfl nameNo Tryd.func12 closedFacts inst wrapNo
    (fun os started H enc _ F => by rw [OpenClaim.pre_eq_preRow]; exact lifted os started H enc F)

theorem noStand : (Tryd.f12.params.all fun t => !Tryd.pinned.checked.prog.wantsStandIn t) = true := by kernel_rfl
theorem plain (f : FuncId) (fn : Func) (hf : Tryd.pinned.checked.prog.funcNamed Rows.fillAgainRow.func = some f) (hfn : Tryd.pinned.checked.prog.funcs[f]? = some fn) :
    true = Tryd.pinned.checked.prog.looks [] ∧ ∀ (j : Nat) t, fn.params[j]? = some t → Tryd.pinned.checked.prog.wantsStandIn t = false := by
  obtain rfl : f = 12 := Option.some.inj (nameNo.symm.trans hf) |>.symm
  obtain rfl : fn = Tryd.f12 := (Option.some.inj (Tryd.func12.symm.trans hfn)).symm
  refine ⟨by kernel_rfl, fun j t ht => ?_⟩
  have := Array.all_eq_true'.1 noStand t (Array.mem_of_getElem? ht)
  simpa using this
end Go.Proofs.YtkecmfjjekagiaaDoor.fillAgainCard
namespace Go.Proofs.YtkecmfjjekagiaaDoor
theorem fillAgain_holds : Rows.FillAgainCardSaid :=
  Claim7.holds_tied_plain_at .later [] _ _ _ _ fillAgainCard.said (fun _ h => by cases h) (by kernel_rfl) (fun _ h => by cases h) fillAgain_row_tie rfl ⟨rfl, rfl⟩ (by kernel_rfl) rfl fillAgainCard.plain (by kernel_rfl)
#print axioms fillAgain_holds
end Go.Proofs.YtkecmfjjekagiaaDoor
