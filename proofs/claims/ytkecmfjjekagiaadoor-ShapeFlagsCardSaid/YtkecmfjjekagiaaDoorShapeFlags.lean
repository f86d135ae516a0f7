/- ShapeFlags: whatever the input, the call returns true and the arguments read as before. The walk is shapeFlags_args; here it is laid into the given row and its card. Condition: the row's own. -/
import Derived.Test.YtkecmfjjekagiaaDoorFlags2
import Derived.Test.YtkecmfjjekagiaaDoorArgs
import Derived.OpenShut
import Derived.Test.YtkecmfjjekagiaaDoorLaid
import Derived.Test.YtkecmfjjekagiaaDoorArgs
import Derived.Deep.SlicePairs
import Derived.Deep.Strs
import Derived.ShutString
import Derived.ChangeOld
namespace Go.Proofs.YtkecmfjjekagiaaDoor
open Go.RowKit Go.ChangeShapes Go.WideShapes Pg

theorem u8_of {c : Int} (hc : (Lit.int .u8 c).wf = true) : ∃ cv : UInt8, c = (cv.toNat : Int) := by
  have hb := bounds_u8 hc
  refine ⟨UInt8.ofNat c.toNat, ?_⟩
  have h : (UInt8.ofNat c.toNat).toNat = c.toNat % 256 := by simp
  omega
theorem shapeFlags_args (a0 : Option Addr) (cap0 : Nat) (l0 : List UInt8) (z c : Int) (w : World) (A : Nat → Addr) (hS : Sents w A) (h0 : Bs w a0 cap0 l0) (_hz : (Lit.int .i64 z).wf = true) (hc : (Lit.int .u8 c).wf = true) :
    Calls Tryd.prog 9 #[.slice a0 l0.length cap0, .int .i64 z, .int .u8 c] w fun e w' => e = .returned (.bool true) ∧ Below w.heap.size w w' := by
  obtain ⟨cv, rfl⟩ := u8_of hc
  exact shapeFlags_walk a0 cap0 l0 z cv w A hS h0
end Go.Proofs.YtkecmfjjekagiaaDoor
namespace Go.Proofs.YtkecmfjjekagiaaDoor.shapeFlagsCard
open Go.ChangeShapes Go.WideShapes Go.ChangeAt Go.RowKit
open Go.ChangeMaps (open_string shut_string)

set_option maxRecDepth 100000 in
theorem contract (H : Type) (enc : TypeId × Value → H) (W : World) (base : Nat) (args : Array Value) (ds gs : List (DataW H)) (before : List MemPlace)
    (hval : ∀ (j : Nat) t v, Tryd.f9.params[j]? = some t → args[j]? = some v → Value.okWide Tryd.prog W .any base t v)
    (hW : DataW.Whole enc Tryd.prog Tryd.f9.params.toList Rows.shapeFlagsSpec.vars false W args.toList ds gs before) (hL : laidMetH Tryd.prog Rows.shapeFlagsRow.laid W) :
    Calls Tryd.prog 9 args W fun e W' => ∃ v, e = .returned v ∧ Rows.shapeFlagsSpec.post enc Tryd.prog Tryd.f9 false true false false W args v W' := by
  have hL1 := laidMetH_data hL
  rw [show (Rows.shapeFlagsRow.laid.filter fun x => x.2.handleName?.isNone) = data21 by kernel_rfl] at hL1
  obtain ⟨A, hS0⟩ := sents_of_met hL1
  have hL2 := laidMetH_handles hL
  rw [show (Rows.shapeFlagsRow.laid.filter fun x => x.2.handleName?.isSome) = hET by kernel_rfl] at hL2
  have hS : Sents W A := ⟨hS0, et_of_met hL2⟩
  have hW' := hW
  obtain ⟨p, q, hA0, hV, rfl, hfz, hnd⟩ := hW
  have hA : DataW.TrodAll enc Tryd.prog W 0 (fun _ => true) true Tryd.f9.params.toList args.toList ds p := hA0
  rw [Tryd.params9] at hA hval
  obtain ⟨v0, vs0, d0, ds0, p0, q0, hargs, rfl, rfl, h0, r0⟩ := trodAll_cons hA
  obtain ⟨v1, vs1, d1, ds1, p1, q1, rfl, rfl, rfl, h1, r1⟩ := trodAll_cons r0
  obtain ⟨v2, vs2, d2, ds2, p2, q2, rfl, rfl, rfl, h2, r2⟩ := trodAll_cons r1
  obtain ⟨rfl, rfl, rfl⟩ := trodAll_nil r2
  obtain rfl : args = #[v0, v1, v2] := by cases args; simp_all
  obtain ⟨rfl, rfl⟩ := trodVars_none hV
  obtain ⟨a0, len0, cap0, rfl⟩ := okWide_slice Tryd.underlying44 (hval 0 44 v0 rfl rfl)
  have k0 := h0
  have lt0 : ∀ x ∈ p0, x.block < W.heap.size := by obtain ⟨m, hm⟩ := k0; exact DataW.trod_lt m _ _ _ hm
  obtain ⟨l0, hl0, w0⟩ : ∃ l, len0 = l.length ∧ Bs W a0 cap0 l := by
    obtain ⟨fuel, hf⟩ := h0
    rcases open_ints Tryd.underlying44 Tryd.underlying5 (by kernel_rfl) hf with ⟨hcs, _⟩ | ⟨x, l, c, zs, hcs, _, hl, hm, hz, _, hcell, hwz⟩
    · simp [Value.cells] at hcs
      obtain ⟨rfl, rfl, rfl⟩ := hcs
      exact ⟨[], rfl, by simp, by simp [maxLen], fun i h => by simp at h⟩
    · simp [Value.cells] at hcs
      obtain ⟨rfl, rfl, rfl⟩ := hcs
      simp only [if_true] at hz
      exact bytes_of x len0 cap0 zs (by omega) hl hm hcell hwz
  subst hl0
  obtain ⟨a1, rfl, rfl, rfl, w1⟩ := open_int Tryd.underlying3 (hval 1 3 v1 rfl rfl) h1
  obtain ⟨a2, rfl, rfl, rfl, w2⟩ := open_int Tryd.underlying5 (hval 2 5 v2 rfl rfl) h2
  clear hA0
  refine (shapeFlags_args a0 cap0 l0 a1 a2 W A hS w0 w1 w2).mono fun e W' ⟨he, bel⟩ => ?_
  subst he
  exact ⟨_, rfl, _, _, _, [], _, [], hW', trodAll_mk1 (shut_bool Tryd.underlying4 _), (trodAll_cons_mk (Below.trod laidOut (by kernel_rfl) (of_decide_eq_true (by kernel_rfl)) k0 bel lt0) (trodAll_cons_mk (shut_int Tryd.underlying3 w1) (trodAll_cons_mk (shut_int Tryd.underlying5 w2) trodAll_mk0))), rfl, bel.frame _, fun h => by cases h⟩

theorem laid_met (os : Os) : laidMetH Tryd.prog Rows.shapeFlagsRow.laid ((laidWorld os).forCall (fun _ _ => 0) ⟨#[], #[.slice none 0 0, .int .i64 0, .int .u8 0], []⟩).memory :=
  laidMetH_of_parts (by rw [show (Rows.shapeFlagsRow.laid.filter fun x => x.2.handleName?.isNone) = data21 by kernel_rfl]; exact laidWorld_met os _) (by kernel_rfl)
theorem reads (os : Os) {H : Type} (enc : TypeId × Value → H) : ∃ places, DataW.whole enc Tryd.prog ((laidWorld os).forCall (fun _ _ => 0) ⟨#[], #[.slice none 0 0, .int .i64 0, .int .u8 0], []⟩).memory Tryd.f9.params.toList Rows.shapeFlagsSpec.vars false (#[.slice none 0 0, .int .i64 0, .int .u8 0] : Array Value).toList 8 = some ([.nil, .lit (.int .i64 0), .lit (.int .u8 0)], [], places) :=
  ⟨[], by kernel_rfl⟩

set_option maxRecDepth 100000 in
theorem lifted (os : Os) (started : os.Started) (H : Type) (enc : TypeId × Value → H) (F : Stop.Interp) :
    ReturnsInHanded {} Tryd.checked os 9 .any ((OpenSpec.ofChange Rows.shapeFlagsSpec).preRow enc Tryd.prog Tryd.f9 Rows.shapeFlagsRow.domain false Rows.shapeFlagsRow.laid) (((OpenSpec.ofChange Rows.shapeFlagsSpec).at F).post enc Tryd.prog Tryd.f9 false true false false) := by
  obtain ⟨places, hx⟩ := reads os enc
  refine returnsInHanded_of_row (C := Tryd.checked) (s := OpenSpec.ofChange Rows.shapeFlagsSpec) own started (by kernel_rfl) Tryd.func9
    (witness_row_atRef (enc := enc) (C := Tryd.checked) false (laidWorld os) #[.slice none 0 0, .int .i64 0, .int .u8 0] (laidWorld_os os) (by kernel_rfl) (by kernel_rfl) (by kernel_rfl)
      (OpenSpec.preRow_of_cond 8 hx (by kernel_rfl) (fun k hk => by cases hk) (by kernel_rfl) (laid_met os))) ?_
  intro W base args ds gs before hval hW _ _ _ hL _ _
  exact contract H enc W base args ds gs before hval hW hL

theorem nameNo : Tryd.pinned.checked.prog.funcNamed Rows.shapeFlagsRow.func = some 9 := by kernel_rfl
set_option maxHeartbeats 8000000 in
theorem closedFacts : joinedFacts Tryd.pinned.checked.prog 9 Tryd.f9 (OpenSpec.ofChange Rows.shapeFlagsSpec).bare Rows.shapeFlagsRow = true := by
  unfold joinedFacts
  simp only [Bool.and_eq_true]
  repeat' apply And.intro
  all_goals (as_aux_lemma => kernel_rfl)
theorem inst : Tryd.f9.isInstance Tryd.pinned.checked.prog Rows.shapeFlagsRow.origin Rows.shapeFlagsRow.targs := of_decide_eq_true (by kernel_rfl)
theorem wrapNo : Tryd.f9.isWrapper Tryd.pinned.checked.prog Rows.shapeFlagsRow.wrapper Rows.shapeFlagsRow.mainSum := by
  unfold Func.isWrapper; rw [if_neg (of_decide_eq_false (by kernel_rfl))]; exact ⟨rfl, rfl⟩

theorem said : Rows.ShapeFlagsSaid :=
  OpenClaim.holds_of_cond 9 Tryd.f9 rfl rfl rfl rfl rfl rfl rfl ⟨rfl, rfl, rfl, rfl, rfl⟩ rfl rfl rfl rfl rfl nameNo Tryd.func9 closedFacts inst wrapNo
    (fun os started H enc _ F => by rw [OpenClaim.pre_eq_preRow]; exact lifted os started H enc F)

theorem noStand : (Tryd.f9.params.all fun t => !Tryd.pinned.checked.prog.wantsStandIn t) = true := by kernel_rfl
theorem plain (f : FuncId) (fn : Func) (hf : Tryd.pinned.checked.prog.funcNamed Rows.shapeFlagsRow.func = some f) (hfn : Tryd.pinned.checked.prog.funcs[f]? = some fn) :
    true = Tryd.pinned.checked.prog.looks [] ∧ ∀ (j : Nat) t, fn.params[j]? = some t → Tryd.pinned.checked.prog.wantsStandIn t = false := by
  obtain rfl : f = 9 := Option.some.inj (nameNo.symm.trans hf) |>.symm
  obtain rfl : fn = Tryd.f9 := (Option.some.inj (Tryd.func9.symm.trans hfn)).symm
  refine ⟨by kernel_rfl, fun j t ht => ?_⟩
  have := Array.all_eq_true'.1 noStand t (Array.mem_of_getElem? ht)
  simpa using this
end Go.Proofs.YtkecmfjjekagiaaDoor.shapeFlagsCard
namespace Go.Proofs.YtkecmfjjekagiaaDoor
theorem shapeFlags_holds : Rows.ShapeFlagsCardSaid :=
  Claim7.holds_tied_plain_at .later [] _ _ _ _ shapeFlagsCard.said (fun _ h => by cases h) (by kernel_rfl) (fun _ h => by cases h) shapeFlags_row_tie rfl ⟨rfl, rfl⟩ (by kernel_rfl) rfl shapeFlagsCard.plain (by kernel_rfl)
#print axioms shapeFlags_holds
end Go.Proofs.YtkecmfjjekagiaaDoor
