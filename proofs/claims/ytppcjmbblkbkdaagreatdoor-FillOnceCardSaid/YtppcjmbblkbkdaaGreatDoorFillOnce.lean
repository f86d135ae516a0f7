/- FillOnce: whatever the input, the call returns true and the arguments read as before. The walk is fillOnce_walk; here it is laid into the given row and its card. Condition: the row's own. -/
import Derived.Test.YtppcjmbblkbkdaaGreatDoorOnceW
import Derived.Test.YtppcjmbblkbkdaaGreatDoorLaid
import Derived.Test.YtppcjmbblkbkdaaGreatDoorArgs
import Derived.Deep.SlicePairs
import Derived.Deep.Strs
import Derived.ShutString
import Derived.ChangeOld
namespace Go.Proofs.YtppcjmbblkbkdaaGreatDoor.fillOnceCard
open Go.ChangeShapes Go.WideShapes Go.ChangeAt Go.RowKit
open Go.ChangeMaps (open_string shut_string)

theorem weights_mem {H : Type} {P : Program} {e : TypeId} : ∀ (ss : List ByteArray), ∀ S ∈ ss, S.size ∈ DataW.weightsAll P e (strs (H := H) ss)
  | [], S, h => by cases h
  | s :: r, S, h => by
    show S.size ∈ DataW.weightsAll P e (DataW.lit (.string s.data.toList) :: strs r)
    rw [DataW.weightsAll, List.mem_append]
    rcases List.mem_cons.1 h with rfl | h
    · left
      have : S.data.toList.length = S.size := by rw [Array.length_toList]; rfl
      rw [DataW.weights, this]
      exact List.mem_singleton.2 rfl
    · exact .inr (weights_mem r S h)
theorem reach_strs {H : Type} {P : Program} {t0 t1 e : TypeId} {ts : List TypeId} {d0 : DataW H} {ss : List ByteArray} {sp : List (DataW H)} (hu : P.underlying t1 = some (.slice e))
    (h : (DataW.weightsEach P (t0 :: t1 :: ts) [d0, .slice (strs ss) sp]).all (· ≤ reachBytes) = true) : ∀ S ∈ ss, S.size ≤ 140737488351232 := by
  intro S hS
  have hm : S.size ∈ DataW.weightsEach P (t0 :: t1 :: ts) [d0, .slice (strs ss) sp] := by
    rw [DataW.weightsEach, DataW.weightsEach, DataW.weights, hu]
    simp only [List.mem_append, List.mem_cons]
    exact .inr (.inl (.inr (.inl (weights_mem ss S hS))))
  have := List.all_eq_true.1 h _ hm
  exact of_decide_eq_true this
theorem strings_of2 {W : World} (x : Addr) (len cap : Nat) (ss : List ByteArray) (hz : len ≤ ss.length) (hl : len ≤ cap) (hm : cap ≤ maxLen) (hcell : ∀ i, i < ss.length → W.cell? (x.add i) = some (.string (ss.getD i ByteArray.empty))) :
    ∃ l, len = l.length ∧ Ss W (some x) cap l ∧ ∀ S ∈ l, S ∈ ss.take len := by
  obtain ⟨l, h1, h2⟩ := strings_of x len cap ss hz hl hm hcell
  refine ⟨l, h1, h2, fun S hS => ?_⟩
  obtain ⟨i, hi, rfl⟩ := List.getElem_of_mem hS
  obtain ⟨b, off, hx, hc⟩ := h2.2.2 i hi
  obtain rfl : x = ⟨b, off, none⟩ := by simpa using hx
  have hc2 := hcell i (by omega)
  rw [addr_add, hc] at hc2
  have e : l[i] = ss[i]'(by omega) := by
    have : ss.getD i ByteArray.empty = ss[i]'(by omega) := by rw [List.getD_eq_getElem?_getD, List.getElem?_eq_getElem (by omega)]; rfl
    rw [this] at hc2
    simpa using hc2
  rw [e]
  exact List.mem_take_iff_getElem.2 ⟨i, by omega, rfl⟩
set_option maxRecDepth 100000 in
theorem contract (H : Type) (enc : TypeId × Value → H) (W : World) (base : Nat) (args : Array Value) (ds gs : List (DataW H)) (before : List MemPlace)
    (hval : ∀ (j : Nat) t v, Tryz.f5.params[j]? = some t → args[j]? = some v → Value.okWide Tryz.prog W .any base t v)
    (hW : DataW.Whole enc Tryz.prog Tryz.f5.params.toList Rows.fillOnceSpec.vars false W args.toList ds gs before) (hL : laidMetH Tryz.prog Rows.fillOnceRow.laid W) (hreach : (DataW.weightsEach Tryz.prog (Tryz.f5.params.toList ++ (OpenSpec.ofChange Rows.fillOnceSpec).bare.plain.varTypes Tryz.prog) (ds ++ gs)).all (· ≤ reachBytes) = true) :
    Calls Tryz.prog 5 args W fun e W' => ∃ v, e = .returned v ∧ Rows.fillOnceSpec.post enc Tryz.prog Tryz.f5 false true false false W args v W' := by
  have hL1 := laidMetH_data hL
  rw [show (Rows.fillOnceRow.laid.filter fun x => x.2.handleName?.isNone) = data21 by kernel_rfl] at hL1
  obtain ⟨A, hS0⟩ := sents_of_met hL1
  have hL2 := laidMetH_handles hL
  rw [show (Rows.fillOnceRow.laid.filter fun x => x.2.handleName?.isSome) = hET by kernel_rfl] at hL2
  have hS : Sents W A := ⟨hS0, et_of_met hL2⟩
  have hW' := hW
  obtain ⟨p, q, hA0, hV, rfl, hfz, hnd⟩ := hW
  have hA : DataW.TrodAll enc Tryz.prog W 0 (fun _ => true) true Tryz.f5.params.toList args.toList ds p := hA0
  rw [Tryz.params5] at hA hval hreach
  obtain ⟨v0, vs0, d0, ds0, p0, q0, hargs, rfl, rfl, h0, r0⟩ := trodAll_cons hA
  obtain ⟨v1, vs1, d1, ds1, p1, q1, rfl, rfl, rfl, h1, r1⟩ := trodAll_cons r0
  obtain ⟨rfl, rfl, rfl⟩ := trodAll_nil r1
  obtain rfl : args = #[v0, v1] := by cases args; simp_all
  obtain ⟨rfl, rfl⟩ := trodVars_none hV
  obtain ⟨a0, len0, cap0, rfl⟩ := okWide_slice Tryz.underlying25 (hval 0 25 v0 rfl rfl)
  have k0 := h0
  have lt0 : ∀ x ∈ p0, x.block < W.heap.size := by obtain ⟨m, hm⟩ := k0; exact DataW.trod_lt m _ _ _ hm
  obtain ⟨l0, hl0, w0⟩ : ∃ l, len0 = l.length ∧ Bs W a0 cap0 l := by
    obtain ⟨fuel, hf⟩ := h0
    rcases open_ints Tryz.underlying25 Tryz.underlying5 (by kernel_rfl) hf with ⟨hcs, _⟩ | ⟨x, l, c, zs, hcs, _, hl, hm, hz, _, hcell, hwz⟩
    · simp [Value.cells] at hcs
      obtain ⟨rfl, rfl, rfl⟩ := hcs
      exact ⟨[], rfl, by simp, by simp [maxLen], fun i h => by simp at h⟩
    · simp [Value.cells] at hcs
      obtain ⟨rfl, rfl, rfl⟩ := hcs
      simp only [if_true] at hz
      exact bytes_of x len0 cap0 zs (by omega) hl hm hcell hwz
  subst hl0
  obtain ⟨a1, len1, cap1, rfl⟩ := okWide_slice Tryz.underlying24 (hval 1 24 v1 rfl rfl)
  have k1 := h1
  have lt1 : ∀ x ∈ p1, x.block < W.heap.size := by obtain ⟨m, hm⟩ := k1; exact DataW.trod_lt m _ _ _ hm
  obtain ⟨l1, hl1, w1, n1⟩ : ∃ l, len1 = l.length ∧ Ss W a1 cap1 l ∧ ∀ S ∈ l, S.size ≤ 140737488351232 := by
    obtain ⟨fuel, hf⟩ := h1
    rcases open_strings Tryz.underlying24 Tryz.underlying9 (by kernel_rfl) hf with ⟨hcs, _⟩ | ⟨x, l, c, ss, hcs, _, hl, hm, hz, hx, hcell, hws⟩
    · simp [Value.cells] at hcs
      obtain ⟨rfl, rfl, rfl⟩ := hcs
      exact ⟨[], rfl, ⟨by simp, by simp [maxLen], fun i h => by simp at h⟩, by simp⟩
    · simp [Value.cells] at hcs
      obtain ⟨rfl, rfl, rfl⟩ := hcs
      simp only [if_true] at hz
      obtain ⟨r0, e0, b0, m0⟩ := strings_of2 x len1 cap1 ss (by omega) hl hm hcell
      refine ⟨r0, e0, b0, fun S hS => ?_⟩
      have hd : d1 = _ := congrArg Prod.fst hx
      rw [hd] at hreach
      exact reach_strs Tryz.underlying24 hreach S (m0 S hS)
  subst hl1
  clear hA0
  refine (fillOnce_walk a0 cap0 l0 a1 cap1 l1 W A hS w0 w1 n1).mono fun e W' ⟨he, bel⟩ => ?_
  subst he
  exact ⟨_, rfl, _, _, _, [], _, [], hW', trodAll_mk1 (shut_bool Tryz.underlying4 _), (trodAll_cons_mk (Below.trod laidOut (by kernel_rfl) (of_decide_eq_true (by kernel_rfl)) k0 bel lt0) (trodAll_cons_mk (Below.trod laidOut (by kernel_rfl) (of_decide_eq_true (by kernel_rfl)) k1 bel lt1) trodAll_mk0)), rfl, bel.frame _, fun h => by cases h⟩

theorem laid_met (os : Os) : laidMetH Tryz.prog Rows.fillOnceRow.laid ((laidWorld os).forCall (fun _ _ => 0) ⟨#[], #[.slice none 0 0, .slice none 0 0], []⟩).memory :=
  laidMetH_of_parts (by rw [show (Rows.fillOnceRow.laid.filter fun x => x.2.handleName?.isNone) = data21 by kernel_rfl]; exact laidWorld_met os _) (by kernel_rfl)
theorem reads (os : Os) {H : Type} (enc : TypeId × Value → H) : ∃ places, DataW.whole enc Tryz.prog ((laidWorld os).forCall (fun _ _ => 0) ⟨#[], #[.slice none 0 0, .slice none 0 0], []⟩).memory Tryz.f5.params.toList Rows.fillOnceSpec.vars false (#[.slice none 0 0, .slice none 0 0] : Array Value).toList 8 = some ([.nil, .nil], [], places) :=
  ⟨[], by kernel_rfl⟩

set_option maxRecDepth 100000 in
theorem lifted (os : Os) (started : os.Started) (H : Type) (enc : TypeId × Value → H) (F : Stop.Interp) :
    ReturnsInHanded {} Tryz.checked os 5 .any ((OpenSpec.ofChange Rows.fillOnceSpec).preRow enc Tryz.prog Tryz.f5 Rows.fillOnceRow.domain false Rows.fillOnceRow.laid) (((OpenSpec.ofChange Rows.fillOnceSpec).at F).post enc Tryz.prog Tryz.f5 false true false false) := by
  obtain ⟨places, hx⟩ := reads os enc
  refine returnsInHanded_of_row (C := Tryz.checked) (s := OpenSpec.ofChange Rows.fillOnceSpec) own started (by kernel_rfl) Tryz.func5
    (witness_row_atRef (enc := enc) (C := Tryz.checked) false (laidWorld os) #[.slice none 0 0, .slice none 0 0] (laidWorld_os os) (by kernel_rfl) (by kernel_rfl) (by kernel_rfl)
      (OpenSpec.preRow_of_cond 8 hx (by kernel_rfl) (fun k hk => by cases hk) (by kernel_rfl) (laid_met os))) ?_
  intro W base args ds gs before hval hW _ _ hreach hL _ _
  exact contract H enc W base args ds gs before hval hW hL hreach

theorem nameNo : Tryz.pinned.checked.prog.funcNamed Rows.fillOnceRow.func = some 5 := by kernel_rfl
set_option maxHeartbeats 8000000 in
theorem closedFacts : joinedFacts Tryz.pinned.checked.prog 5 Tryz.f5 (OpenSpec.ofChange Rows.fillOnceSpec).bare Rows.fillOnceRow = true := by
  unfold joinedFacts
  simp only [Bool.and_eq_true]
  repeat' apply And.intro
  all_goals (as_aux_lemma => kernel_rfl)
theorem inst : Tryz.f5.isInstance Tryz.pinned.checked.prog Rows.fillOnceRow.origin Rows.fillOnceRow.targs := of_decide_eq_true (by kernel_rfl)
theorem wrapNo : Tryz.f5.isWrapper Tryz.pinned.checked.prog Rows.fillOnceRow.wrapper Rows.fillOnceRow.mainSum := by
  unfold Func.isWrapper; rw [if_neg (of_decide_eq_false (by kernel_rfl))]; exact ⟨rfl, rfl⟩

theorem said : Rows.FillOnceSaid :=
  OpenClaim.holds_of_cond 5 Tryz.f5 rfl rfl rfl rfl rfl rfl rfl ⟨rfl, rfl, rfl, rfl, rfl⟩ rfl rfl rfl rfl rfl nameNo Tryz.func5 closedFacts inst wrapNo
    (fun os started H enc _ F => by rw [OpenClaim.pre_eq_preRow]; exact lifted os started H enc F)

theorem noStand : (Tryz.f5.params.all fun t => !Tryz.pinned.checked.prog.wantsStandIn t) = true := by kernel_rfl
theorem plain (f : FuncId) (fn : Func) (hf : Tryz.pinned.checked.prog.funcNamed Rows.fillOnceRow.func = some f) (hfn : Tryz.pinned.checked.prog.funcs[f]? = some fn) :
    true = Tryz.pinned.checked.prog.looks [] ∧ ∀ (j : Nat) t, fn.params[j]? = some t → Tryz.pinned.checked.prog.wantsStandIn t = false := by
  obtain rfl : f = 5 := Option.some.inj (nameNo.symm.trans hf) |>.symm
  obtain rfl : fn = Tryz.f5 := (Option.some.inj (Tryz.func5.symm.trans hfn)).symm
  refine ⟨by kernel_rfl, fun j t ht => ?_⟩
  have := Array.all_eq_true'.1 noStand t (Array.mem_of_getElem? ht)
  simpa using this
end Go.Proofs.YtppcjmbblkbkdaaGreatDoor.fillOnceCard
namespace Go.Proofs.YtppcjmbblkbkdaaGreatDoor
theorem fillOnce_holds : Rows.FillOnceCardSaid :=
  Claim7.holds_tied_plain_at .later [] _ _ _ _ fillOnceCard.said (fun _ h => by cases h) (by kernel_rfl) (fun _ h => by cases h) fillOnce_row_tie rfl ⟨rfl, rfl⟩ (by kernel_rfl) rfl fillOnceCard.plain (by kernel_rfl)
#print axioms fillOnce_holds
end Go.Proofs.YtppcjmbblkbkdaaGreatDoor
