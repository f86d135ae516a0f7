/- ShapePlain: whatever the input of bulk at most 1048576, the call returns true and the arguments read as before. The walk is shapePlain_walk; here it is laid into the given row and its card. Condition: the row's own. -/
import Derived.Test.YtkecmfjjekagiaaDoorPlainW
import Derived.Test.YtkecmfjjekagiaaDoorLaid
import Derived.Test.YtkecmfjjekagiaaDoorArgs
import Derived.Deep.SlicePairs
import Derived.Deep.Strs
import Derived.ShutString
import Derived.ChangeOld
namespace Go.Proofs.YtkecmfjjekagiaaDoor.shapePlainCard
open Go.ChangeShapes Go.WideShapes Go.ChangeAt Go.RowKit
open Go.ChangeMaps (open_string shut_string)

theorem bulk_lits {H : Type} (k : IntKind) (zs : List Int) : Rows.uptoBulkAll (lits (H := H) k zs) = zs.length := by
  induction zs with
  | nil => rfl
  | cons z r ih =>
    show Rows.uptoBulk (DataW.lit (Lit.int k z)) + Rows.uptoBulkAll (lits (H := H) k r) = r.length + 1
    rw [ih]
    show 1 + r.length = r.length + 1
    omega
set_option maxRecDepth 100000 in
theorem contract (H : Type) (enc : TypeId × Value → H) (W : World) (base : Nat) (args : Array Value) (ds gs : List (DataW H)) (before : List MemPlace)
    (hval : ∀ (j : Nat) t v, Tryd.f8.params[j]? = some t → args[j]? = some v → Value.okWide Tryd.prog W .any base t v)
    (hW : DataW.Whole enc Tryd.prog Tryd.f8.params.toList Rows.shapePlainSpec.vars false W args.toList ds gs before) (hL : laidMetH Tryd.prog Rows.shapePlainUptoRow.laid W) (hbulk : Rows.uptoBulkAll (ds ++ gs) ≤ 1048576) :
    Calls Tryd.prog 8 args W fun e W' => ∃ v, e = .returned v ∧ Rows.shapePlainSpec.post enc Tryd.prog Tryd.f8 false true false false W args v W' := by
  have hL1 := laidMetH_data hL
  rw [show (Rows.shapePlainUptoRow.laid.filter fun x => x.2.handleName?.isNone) = data21 by kernel_rfl] at hL1
  obtain ⟨A, hS0⟩ := sents_of_met hL1
  have hS := hS0
  have hW' := hW
  obtain ⟨p, q, hA0, hV, rfl, hfz, hnd⟩ := hW
  have hA : DataW.TrodAll enc Tryd.prog W 0 (fun _ => true) true Tryd.f8.params.toList args.toList ds p := hA0
  rw [Tryd.params8] at hA hval
  obtain ⟨v0, vs0, d0, ds0, p0, q0, hargs, rfl, rfl, h0, r0⟩ := trodAll_cons hA
  obtain ⟨rfl, rfl, rfl⟩ := trodAll_nil r0
  obtain rfl : args = #[v0] := by cases args; simp_all
  obtain ⟨rfl, rfl⟩ := trodVars_none hV
  obtain ⟨a0, len0, cap0, rfl⟩ := okWide_slice Tryd.underlying44 (hval 0 44 v0 rfl rfl)
  have k0 := h0
  have lt0 : ∀ x ∈ p0, x.block < W.heap.size := by obtain ⟨m, hm⟩ := k0; exact DataW.trod_lt m _ _ _ hm
  obtain ⟨l0, hl0, w0, n0⟩ : ∃ l, len0 = l.length ∧ Bs W a0 cap0 l ∧ l.length ≤ 1048576 := by
    obtain ⟨fuel, hf⟩ := h0
    rcases open_ints Tryd.underlying44 Tryd.underlying5 (by kernel_rfl) hf with ⟨hcs, _⟩ | ⟨x, l, c, zs, hcs, _, hl, hm, hz, hx, hcell, hwz⟩
    · simp [Value.cells] at hcs
      obtain ⟨rfl, rfl, rfl⟩ := hcs
      exact ⟨[], rfl, ⟨by simp, by simp [maxLen], fun i h => by simp at h⟩, by simp⟩
    · simp [Value.cells] at hcs
      obtain ⟨rfl, rfl, rfl⟩ := hcs
      simp only [if_true] at hz
      obtain ⟨r0, e0, b0⟩ := bytes_of x len0 cap0 zs (by omega) hl hm hcell hwz
      refine ⟨r0, e0, b0, ?_⟩
      rw [← e0]
      have hd : d0 = _ := congrArg Prod.fst hx
      rw [hd] at hbulk
      have hb1 : Rows.uptoBulkAll (lits (H := H) .u8 (zs.take len0)) + Rows.uptoBulkAll (lits (H := H) .u8 (zs.drop len0)) + 1 + 0 ≤ 1048576 := hbulk
      rw [bulk_lits, bulk_lits, List.length_take, List.length_drop] at hb1
      omega
  subst hl0
  clear hA0
  refine (shapePlain_walk a0 cap0 l0 W A hS w0 n0).mono fun e W' ⟨he, bel⟩ => ?_
  subst he
  exact ⟨_, rfl, _, _, _, [], _, [], hW', trodAll_mk1 (shut_bool Tryd.underlying4 _), (trodAll_cons_mk (Below.trod laidOut (by kernel_rfl) (of_decide_eq_true (by kernel_rfl)) k0 bel lt0) trodAll_mk0), rfl, bel.frame _, fun h => by cases h⟩

theorem laid_met (os : Os) : laidMetH Tryd.prog Rows.shapePlainUptoRow.laid ((laidWorld os).forCall (fun _ _ => 0) ⟨#[], #[.slice none 0 0], []⟩).memory :=
  laidMetH_of_parts (by rw [show (Rows.shapePlainUptoRow.laid.filter fun x => x.2.handleName?.isNone) = data21 by kernel_rfl]; exact laidWorld_met os _) (by kernel_rfl)
theorem reads (os : Os) {H : Type} (enc : TypeId × Value → H) : ∃ places, DataW.whole enc Tryd.prog ((laidWorld os).forCall (fun _ _ => 0) ⟨#[], #[.slice none 0 0], []⟩).memory Tryd.f8.params.toList Rows.shapePlainSpec.vars false (#[.slice none 0 0] : Array Value).toList 8 = some ([.nil], [], places) :=
  ⟨[], by kernel_rfl⟩

set_option maxRecDepth 100000 in
theorem lifted (os : Os) (started : os.Started) (H : Type) (enc : TypeId × Value → H) (F : Stop.Interp) :
    ReturnsInHanded {} Tryd.checked os 8 .any ((Rows.OpenSpec.upto Rows.shapePlainSpec).preRow enc Tryd.prog Tryd.f8 Rows.shapePlainUptoRow.domain false Rows.shapePlainUptoRow.laid) (((Rows.OpenSpec.upto Rows.shapePlainSpec).at F).post enc Tryd.prog Tryd.f8 false true false false) := by
  obtain ⟨places, hx⟩ := reads os enc
  refine returnsInHanded_of_row (C := Tryd.checked) (s := Rows.OpenSpec.upto Rows.shapePlainSpec) own started (by kernel_rfl) Tryd.func8
    (witness_row_atRef (enc := enc) (C := Tryd.checked) false (laidWorld os) #[.slice none 0 0] (laidWorld_os os) (by kernel_rfl) (by kernel_rfl) (by kernel_rfl)
      (OpenSpec.preRow_of_cond 8 hx (by kernel_rfl) (fun k hk => by cases hk; kernel_rfl) (by kernel_rfl) (laid_met os))) ?_
  intro W base args ds gs before hval hW _ hcond _ hL _ _
  exact contract H enc W base args ds gs before hval hW hL (of_decide_eq_true (hcond _ rfl))

theorem nameNo : Tryd.pinned.checked.prog.funcNamed Rows.shapePlainUptoRow.func = some 8 := by kernel_rfl
set_option maxHeartbeats 8000000 in
theorem closedFacts : joinedFacts Tryd.pinned.checked.prog 8 Tryd.f8 (Rows.OpenSpec.upto Rows.shapePlainSpec).bare Rows.shapePlainUptoRow = true := by
  unfold joinedFacts
  simp only [Bool.and_eq_true]
  repeat' apply And.intro
  all_goals (as_aux_lemma => kernel_rfl)
theorem inst : Tryd.f8.isInstance Tryd.pinned.checked.prog Rows.shapePlainUptoRow.origin Rows.shapePlainUptoRow.targs := of_decide_eq_true (by kernel_rfl)
theorem wrapNo : Tryd.f8.isWrapper Tryd.pinned.checked.prog Rows.shapePlainUptoRow.wrapper Rows.shapePlainUptoRow.mainSum := by
  unfold Func.isWrapper; rw [if_neg (of_decide_eq_false (by kernel_rfl))]; exact ⟨rfl, rfl⟩

theorem said : Rows.ShapePlainUptoSaid :=
  OpenClaim.holds_of_cond 8 Tryd.f8 rfl rfl rfl rfl rfl rfl rfl ⟨rfl, rfl, rfl, rfl, rfl⟩ rfl rfl rfl rfl rfl nameNo Tryd.func8 closedFacts inst wrapNo
    (fun os started H enc _ F => by rw [OpenClaim.pre_eq_preRow]; exact lifted os started H enc F)

theorem noStand : (Tryd.f8.params.all fun t => !Tryd.pinned.checked.prog.wantsStandIn t) = true := by kernel_rfl
theorem plain (f : FuncId) (fn : Func) (hf : Tryd.pinned.checked.prog.funcNamed Rows.shapePlainUptoRow.func = some f) (hfn : Tryd.pinned.checked.prog.funcs[f]? = some fn) :
    true = Tryd.pinned.checked.prog.looks [] ∧ ∀ (j : Nat) t, fn.params[j]? = some t → Tryd.pinned.checked.prog.wantsStandIn t = false := by
  obtain rfl : f = 8 := Option.some.inj (nameNo.symm.trans hf) |>.symm
  obtain rfl : fn = Tryd.f8 := (Option.some.inj (Tryd.func8.symm.trans hfn)).symm
  refine ⟨by kernel_rfl, fun j t ht => ?_⟩
  have := Array.all_eq_true'.1 noStand t (Array.mem_of_getElem? ht)
  simpa using this
end Go.Proofs.YtkecmfjjekagiaaDoor.shapePlainCard
namespace Go.Proofs.YtkecmfjjekagiaaDoor
theorem shapePlain_holds : Rows.ShapePlainUptoCardSaid :=
  Claim7.holds_tied_plain_at .later [] _ _ _ _ shapePlainCard.said (fun _ h => by cases h) (by kernel_rfl) (fun _ h => by cases h) shapePlainUpto_row_tie rfl ⟨rfl, rfl⟩ (by kernel_rfl) rfl shapePlainCard.plain (by kernel_rfl)
#print axioms shapePlain_holds
end Go.Proofs.YtkecmfjjekagiaaDoor
