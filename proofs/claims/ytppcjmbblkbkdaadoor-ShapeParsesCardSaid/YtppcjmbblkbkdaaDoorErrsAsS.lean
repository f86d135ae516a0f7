/- errors.As at the concrete target **spoken, of a chain of wraps: the first of that kind is found, or none is. Conditions as typed. -/
import Derived.Test.YtppcjmbblkbkdaaDoorErrsAs
namespace Go.Proofs.YtppcjmbblkbkdaaDoor
open Go.RowKit Go.Extern.Stop Go.Stop Go.Extern

set_option maxHeartbeats 1000000 in
/-- errors.as (the loop) at such a target. -/
theorem errs_asS (b xa : Addr) (tb : Nat) (old tg : Value) (w : World) (ht : w.heap[tb]? = some (.cells #[old] 70 (0, 0))) (hx : w.cell? xa = some (.pointer (some ⟨tb, 0, none⟩))) (l0 : List (Bool × Int)) (v0 : Value) (hc : Chain w b l0 v0) :
    Calls Tryd.prog 49 #[v0, tg, .agg #[.pointer (some ⟨29, 71, none⟩), .pointer (some xa), .int .u64 150], .iface 118 (.agg #[.pointer (some ⟨29, 70, none⟩)])] w (AsPost true tb old w (findW true l0)) := by
  have h70 := @run_callFunc_extern Tryd.prog 46 _ valueOfF Tryd.func46 (by kernel_rfl) (by kernel_rfl) (by kernel_rfl) (by kernel_rfl)
  have h74 := @run_callFunc_extern Tryd.prog 59 _ ReflectliteType.typeOf Tryd.func59 (by kernel_rfl) (by kernel_rfl) (by kernel_rfl) (by kernel_rfl)
  have h90 := @run_callFunc_extern Tryd.prog 61 _ elemVF Tryd.func61 (by kernel_rfl) (by kernel_rfl) (by kernel_rfl) (by kernel_rfl)
  have h91 := @run_callFunc_extern Tryd.prog 62 _ setF Tryd.func62 (by kernel_rfl) (by kernel_rfl) (by kernel_rfl) (by kernel_rfl)
  have h154 := @run_callFunc_extern Tryd.prog 108 _ assignF Tryd.func108 (by kernel_rfl) (by kernel_rfl) (by kernel_rfl) (by kernel_rfl)
  have tE := Tryd.typeOfE
  have tK := Tryd.typeOfS
  have tO := Tryd.typeOfP
  have mA := Tryd.methodAssignableTo
  have a1 := Tryd.assignSS
  have a2 := Tryd.assignPS
  have a3 := Tryd.assignES
  have vK := Tryd.valueOfS
  have nE := Tryd.noAsE
  have uE := Tryd.noUnwrapE
  have vE := Tryd.noUnwrapsE
  have nP := Tryd.noAsP
  have nS := Tryd.noAsS
  have uP := Tryd.hasUnwrapP
  have uS := Tryd.hasUnwrapS
  have mP := Tryd.methodUnwrapP
  have mS := Tryd.methodUnwrapS
  have htb := lt_of_heap ht
  have hxb : xa.block < w.heap.size := World.block_lt_of_cell? w xa hx
  have HT := Lib.hid ht
  have HX := Lib.hid hx
  have HC := Lib.hid hc
  clear ht hx hc
  go_enter Tryd.func49, Tryd.ntmps49
  go_wp2_with fail
  go_loopg [0] l0.length (fun k v wr => w.alloc (.cells #[.pointer (some ⟨29, 71, none⟩), .pointer (some xa), .int .u64 150] 94) = wr ∧ ∃ l, l.length = k ∧ Hid (Chain w b l v ∧ findW true l = findW true l0))
  case atStart => exact ⟨rfl, l0, rfl, HC.out, rfl⟩
  case round =>
    obtain ⟨rfl, l, rfl, HC'⟩ := hrel
    obtain ⟨hc', hf⟩ := HC'.out
    rcases l with _ | ⟨⟨s, n⟩, l⟩
    · have hv : u0 = .iface 168 (.pointer (some b)) := hc'
      subst hv
      have HF := Lib.hid hf
      clear hc' hf
      go_wp2_with fail
      go_ret
      have e := HF.out
      rw [← e]
      exact ⟨World.grownBy_alloc _ _ _, rfl, by rw [heap_alloc_old _ _ htb]; exact HT.out⟩
    · obtain ⟨k, u, hv, hk, hcu⟩ := hc'
      have hcu' := Lib.hid hcu
      have HK := Lib.hid hk
      obtain ⟨tu, xu, hu⟩ := hcu.iface
      have hkl := lt_of_heap hk
      have c0 : (w.alloc (.cells #[.pointer (some ⟨29, 71, none⟩), .pointer (some xa), .int .u64 150] 94)).cell? ⟨k, 0, none⟩ = some u := (World.cell?_alloc_lt _ _ ⟨k, 0, none⟩ hkl).trans (cell0_of hk)
      have HF := Lib.hid hf
      clear hk hf
      subst hv
      subst hu
      clear hcu
      cases s
      · simp only [wT]
        go_wp2
        go_roundg l.length
        case measure => simp
        case rel => exact ⟨rfl, l, rfl, hcu'.out, HF.out⟩
      · simp only [wT]
        have st := Tryd.setS ⟨tb, 0, none⟩ ⟨w.heap.size + 1, 0, none⟩ ⟨k, 0, none⟩ old ((w.alloc (.cells #[.pointer (some ⟨29, 71, none⟩), .pointer (some xa), .int .u64 150] 94)).alloc (.cells #[.pointer (some ⟨k, 0, none⟩)] 70))
          (by rw [World.cell?_alloc_at _ _ _ _ (by simp)]; rfl)
          (by rw [World.cell?_alloc_lt _ _ ⟨tb, 0, none⟩ (by simp <;> omega), World.cell?_alloc_lt _ _ ⟨tb, 0, none⟩ htb]; simp [World.cell?, HT.out])
          (by rw [World.frozen?_alloc_old _ _ ⟨tb, 0, none⟩ (by simp; omega), World.frozen?_alloc_old _ _ ⟨tb, 0, none⟩ (Nat.ne_of_lt htb)]; simp [World.frozen?, HT.out])
        have el := Tryd.elemVS xa ⟨tb, 0, none⟩ (w.alloc (.cells #[.pointer (some ⟨29, 71, none⟩), .pointer (some xa), .int .u64 150] 94)) (by rw [World.cell?_alloc_lt _ _ xa hxb]; exact HX.out)
        go_wp2_with fail
        go_ret
        have e := HF.out
        rw [← e]
        refine ⟨grownBy_trans (grownBy_trans (grownBy_setCell w ⟨tb, 0, none⟩ _) (World.grownBy_alloc _ _ _)) (World.grownBy_alloc _ _ _), rfl, k, _, ?_, HK.out⟩
        rw [heap_alloc_old _ _ (by simp [World.setCell]; omega), heap_alloc_old _ _ (by simp [World.setCell]; omega)]
        exact one_setCell HT.out
set_option maxHeartbeats 1000000 in
/-- errors.As at such a target. -/
theorem errs_AsS (b : Addr) (tb : Nat) (old : Value) (w : World) (hg : w.cell? ⟨10, 0, none⟩ = some (.iface 118 (.agg #[.pointer (some ⟨29, 30, none⟩)]))) (ht : w.heap[tb]? = some (.cells #[old] 70 (0, 0))) (l0 : List (Bool × Int)) (v0 : Value) (hc : Chain w b l0 v0) :
    Calls Tryd.prog 30 #[v0, .iface 71 (.pointer (some ⟨tb, 0, none⟩))] w (AsPost true tb old w (findW true l0)) := by
  have h70 := @run_callFunc_extern Tryd.prog 46 _ valueOfF Tryd.func46 (by kernel_rfl) (by kernel_rfl) (by kernel_rfl) (by kernel_rfl)
  have h71 := @run_callFunc_extern Tryd.prog 47 _ typeVF Tryd.func47 (by kernel_rfl) (by kernel_rfl) (by kernel_rfl) (by kernel_rfl)
  have h72 := @run_callFunc_extern Tryd.prog 48 _ isNilF Tryd.func48 (by kernel_rfl) (by kernel_rfl) (by kernel_rfl) (by kernel_rfl)
  have h141 := @run_callFunc_extern Tryd.prog 96 _ kindF Tryd.func96 (by kernel_rfl) (by kernel_rfl) (by kernel_rfl) (by kernel_rfl)
  have h156 := @run_callFunc_extern Tryd.prog 110 _ elemTF Tryd.func110 (by kernel_rfl) (by kernel_rfl) (by kernel_rfl) (by kernel_rfl)
  have h157 := @run_callFunc_extern Tryd.prog 111 _ implF Tryd.func111 (by kernel_rfl) (by kernel_rfl) (by kernel_rfl) (by kernel_rfl)
  have f6 := Tryd.valueOfTS
  have f7 := Tryd.typeTS
  have mK := Tryd.methodKind
  have mE := Tryd.methodElem
  have mI := Tryd.methodImplements
  have k27 := Tryd.kindTS
  have k25 := Tryd.kindS
  have e27 := Tryd.elemTS
  have i25 := Tryd.implementsS
  have htb := lt_of_heap ht
  have hg0 : 10 < w.heap.size := World.block_lt_of_cell? w _ hg
  have n8 := Tryd.isNilTS ⟨w.heap.size, 0, none⟩ ⟨tb, 0, none⟩ ((w.alloc (.cells #[.pointer (some ⟨tb, 0, none⟩)] 71)).alloc (.cells #[.pointer (some ⟨29, 71, none⟩), .pointer (some ⟨w.heap.size, 0, none⟩), .int .u64 150] 94)) (by simp)
  have hg2 : ((w.alloc (.cells #[.pointer (some ⟨tb, 0, none⟩)] 71)).alloc (.cells #[.pointer (some ⟨29, 71, none⟩), .pointer (some ⟨w.heap.size, 0, none⟩), .int .u64 150] 94)).cell? ⟨10, 0, none⟩ = some (.iface 118 (.agg #[.pointer (some ⟨29, 30, none⟩)])) := by
    rw [World.cell?_alloc_lt _ _ ⟨10, 0, none⟩ (by simp <;> omega), World.cell?_alloc_lt _ _ ⟨10, 0, none⟩ hg0]; exact hg
  have bel : Below w.heap.size w ((w.alloc (.cells #[.pointer (some ⟨tb, 0, none⟩)] 71)).alloc (.cells #[.pointer (some ⟨29, 71, none⟩), .pointer (some ⟨w.heap.size, 0, none⟩), .int .u64 150] 94)) := ((Below.refl _ _).alloc (Nat.le_refl _) _).alloc (by simp) _
  have gr : w.grownBy ((w.alloc (.cells #[.pointer (some ⟨tb, 0, none⟩)] 71)).alloc (.cells #[.pointer (some ⟨29, 71, none⟩), .pointer (some ⟨w.heap.size, 0, none⟩), .int .u64 150] 94)) (some tb) := grownBy_trans (World.grownBy_alloc _ _ _) (World.grownBy_alloc _ _ _)
  have has := errs_asS b ⟨w.heap.size, 0, none⟩ tb old (.iface 71 (.pointer (some ⟨tb, 0, none⟩))) ((w.alloc (.cells #[.pointer (some ⟨tb, 0, none⟩)] 71)).alloc (.cells #[.pointer (some ⟨29, 71, none⟩), .pointer (some ⟨w.heap.size, 0, none⟩), .int .u64 150] 94))
    (by rw [bel.block tb htb]; exact ht) (by simp) l0 v0 (hc.kept bel (Nat.le_refl _))
  obtain ⟨tu, xu, hu⟩ := hc.iface
  have HAS := Lib.hid has
  have fin : ∀ (e : Ending) w', AsPost true tb old ((w.alloc (.cells #[.pointer (some ⟨tb, 0, none⟩)] 71)).alloc (.cells #[.pointer (some ⟨29, 71, none⟩), .pointer (some ⟨w.heap.size, 0, none⟩), .int .u64 150] 94)) (findW true l0) e w' → (∃ bb : Bool, e = .returned (.bool bb)) ∧ AsPost true tb old w (findW true l0) e w' := by
    intro e w' ⟨h1, h2⟩
    cases hf : findW true l0 with
    | none =>
      rw [hf] at h2
      exact ⟨⟨_, h2.1⟩, grownBy_trans gr h1, h2⟩
    | some n =>
      rw [hf] at h2
      obtain ⟨he, k, u, h3, h4⟩ := h2
      refine ⟨⟨_, he⟩, grownBy_trans gr h1, he, k, u, h3, ?_⟩
      have hkl := lt_of_heap h4
      have hk' : k < w.heap.size := by
        rcases Nat.lt_or_ge k w.heap.size with h | h
        · exact h
        · exfalso
          simp at hkl
          rcases (show k = w.heap.size ∨ k = w.heap.size + 1 by omega) with rfl | rfl
          · rw [heap_alloc2_old] at h4; simp at h4
          · rw [heap_alloc2_new] at h4; simp at h4
      rw [bel.block k hk'] at h4
      exact h4
  have FIN := Lib.hid fin
  subst hu
  clear hc has fin bel gr ht
  go_enter Tryd.func30, Tryd.ntmps30
  go_wp2_with (go_at_call 49; refine HAS.out.mono ?_; intro e w' hpost; obtain ⟨⟨bb, rfl⟩, hp⟩ := FIN.out e w' hpost; have HP := Lib.hid hp; clear hp hpost)
  go_ret
  exact HP.out
end Go.Proofs.YtppcjmbblkbkdaaDoor
