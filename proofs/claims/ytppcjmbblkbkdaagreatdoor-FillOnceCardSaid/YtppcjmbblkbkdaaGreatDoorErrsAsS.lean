/- errors.As at the concrete target **spoken, of a chain of wraps: the first of that kind is found, or none is. Conditions as typed. -/
import Derived.Test.YtppcjmbblkbkdaaGreatDoorErrsAs
namespace Go.Proofs.YtppcjmbblkbkdaaGreatDoor
open Go.RowKit Go.Extern.Stop Go.Stop Go.Extern

set_option maxHeartbeats 1000000 in
/-- errors.as (the loop) at such a target. -/
theorem errs_asS (b xa : Addr) (tb : Nat) (old tg : Value) (w : World) (ht : w.heap[tb]? = some (.cells #[old] 69 (0, 0))) (hx : w.cell? xa = some (.pointer (some ⟨tb, 0, none⟩))) (l0 : List (Bool × Int)) (v0 : Value) (hc : Chain w b l0 v0) :
    Calls Tryz.prog 42 #[v0, tg, .agg #[.pointer (some ⟨23, 70, none⟩), .pointer (some xa), .int .u64 150], .iface 124 (.agg #[.pointer (some ⟨23, 69, none⟩)])] w (AsPost true tb old w (findW true l0)) := by
  have h70 := @run_callFunc_extern Tryz.prog 39 _ valueOfF Tryz.func39 (by kernel_rfl) (by kernel_rfl) (by kernel_rfl) (by kernel_rfl)
  have h74 := @run_callFunc_extern Tryz.prog 56 _ ReflectliteType.typeOf Tryz.func56 (by kernel_rfl) (by kernel_rfl) (by kernel_rfl) (by kernel_rfl)
  have h90 := @run_callFunc_extern Tryz.prog 58 _ elemVF Tryz.func58 (by kernel_rfl) (by kernel_rfl) (by kernel_rfl) (by kernel_rfl)
  have h91 := @run_callFunc_extern Tryz.prog 59 _ setF Tryz.func59 (by kernel_rfl) (by kernel_rfl) (by kernel_rfl) (by kernel_rfl)
  have h154 := @run_callFunc_extern Tryz.prog 112 _ assignF Tryz.func112 (by kernel_rfl) (by kernel_rfl) (by kernel_rfl) (by kernel_rfl)
  have tE := Tryz.typeOfE
  have tK := Tryz.typeOfS
  have tO := Tryz.typeOfP
  have mA := Tryz.methodAssignableTo
  have a1 := Tryz.assignSS
  have a2 := Tryz.assignPS
  have a3 := Tryz.assignES
  have vK := Tryz.valueOfS
  have nE := Tryz.noAsE
  have uE := Tryz.noUnwrapE
  have vE := Tryz.noUnwrapsE
  have nP := Tryz.noAsP
  have nS := Tryz.noAsS
  have uP := Tryz.hasUnwrapP
  have uS := Tryz.hasUnwrapS
  have mP := Tryz.methodUnwrapP
  have mS := Tryz.methodUnwrapS
  have htb := lt_of_heap ht
  have hxb : xa.block < w.heap.size := World.block_lt_of_cell? w xa hx
  have HT := Lib.hid ht
  have HX := Lib.hid hx
  have HC := Lib.hid hc
  clear ht hx hc
  go_enter Tryz.func42, Tryz.ntmps42
  go_wp2_with fail
  go_loopg [0] l0.length (fun k v wr => w.alloc (.cells #[.pointer (some ⟨23, 70, none⟩), .pointer (some xa), .int .u64 150] 99) = wr ∧ ∃ l, l.length = k ∧ Hid (Chain w b l v ∧ findW true l = findW true l0))
  case atStart => exact ⟨rfl, l0, rfl, HC.out, rfl⟩
  case round =>
    obtain ⟨rfl, l, rfl, HC'⟩ := hrel
    obtain ⟨hc', hf⟩ := HC'.out
    rcases l with _ | ⟨⟨s, n⟩, l⟩
    · have hv : u0 = .iface 162 (.pointer (some b)) := hc'
      subst hv
      have HF := Lib.hid hf
      clear hc' hf
      go_wp2_with fail
      go_ret
      have e := HF.out
      rw [← e]
      exact ⟨World.grownBy_alloc _ _ _, rfl, by rw [heap_alloc_old _ _ htb]; exact HT.out⟩
    · obtain ⟨k, u, hv, hk, hcu⟩ := hc'
      have hcu' := Lib.hid hcu
      have HK := Lib.hid hk
      obtain ⟨tu, xu, hu⟩ := hcu.iface
      have hkl := lt_of_heap hk
      have c0 : (w.alloc (.cells #[.pointer (some ⟨23, 70, none⟩), .pointer (some xa), .int .u64 150] 99)).cell? ⟨k, 0, none⟩ = some u := (World.cell?_alloc_lt _ _ ⟨k, 0, none⟩ hkl).trans (cell0_of hk)
      have HF := Lib.hid hf
      clear hk hf
      subst hv
      subst hu
      clear hcu
      cases s
      · simp only [wT]
        go_wp2
        go_roundg l.length
        case measure => simp
        case rel => exact ⟨rfl, l, rfl, hcu'.out, HF.out⟩
      · simp only [wT]
        have st := Tryz.setS ⟨tb, 0, none⟩ ⟨w.heap.size + 1, 0, none⟩ ⟨k, 0, none⟩ old ((w.alloc (.cells #[.pointer (some ⟨23, 70, none⟩), .pointer (some xa), .int .u64 150] 99)).alloc (.cells #[.pointer (some ⟨k, 0, none⟩)] 69))
          (by rw [World.cell?_alloc_at _ _ _ _ (by simp)]; rfl)
          (by rw [World.cell?_alloc_lt _ _ ⟨tb, 0, none⟩ (by simp <;> omega), World.cell?_alloc_lt _ _ ⟨tb, 0, none⟩ htb]; simp [World.cell?, HT.out])
          (by rw [World.frozen?_alloc_old _ _ ⟨tb, 0, none⟩ (by simp; omega), World.frozen?_alloc_old _ _ ⟨tb, 0, none⟩ (Nat.ne_of_lt htb)]; simp [World.frozen?, HT.out])
        have el := Tryz.elemVS xa ⟨tb, 0, none⟩ (w.alloc (.cells #[.pointer (some ⟨23, 70, none⟩), .pointer (some xa), .int .u64 150] 99)) (by rw [World.cell?_alloc_lt _ _ xa hxb]; exact HX.out)
        go_wp2_with fail
        go_ret
        have e := HF.out
        rw [← e]
        refine ⟨grownBy_trans (grownBy_trans (grownBy_setCell w ⟨tb, 0, none⟩ _) (World.grownBy_alloc _ _ _)) (World.grownBy_alloc _ _ _), rfl, k, _, ?_, HK.out⟩
        rw [heap_alloc_old _ _ (by simp [World.setCell]; omega), heap_alloc_old _ _ (by simp [World.setCell]; omega)]
        exact one_setCell HT.out
set_option maxHeartbeats 1000000 in
/-- errors.As at such a target. -/
theorem errs_AsS (b : Addr) (tb : Nat) (old : Value) (w : World) (hg : w.cell? ⟨0, 0, none⟩ = some (.iface 124 (.agg #[.pointer (some ⟨23, 30, none⟩)]))) (ht : w.heap[tb]? = some (.cells #[old] 69 (0, 0))) (l0 : List (Bool × Int)) (v0 : Value) (hc : Chain w b l0 v0) :
    Calls Tryz.prog 23 #[v0, .iface 70 (.pointer (some ⟨tb, 0, none⟩))] w (AsPost true tb old w (findW true l0)) := by
  have h70 := @run_callFunc_extern Tryz.prog 39 _ valueOfF Tryz.func39 (by kernel_rfl) (by kernel_rfl) (by kernel_rfl) (by kernel_rfl)
  have h71 := @run_callFunc_extern Tryz.prog 40 _ typeVF Tryz.func40 (by kernel_rfl) (by kernel_rfl) (by kernel_rfl) (by kernel_rfl)
  have h72 := @run_callFunc_extern Tryz.prog 41 _ isNilF Tryz.func41 (by kernel_rfl) (by kernel_rfl) (by kernel_rfl) (by kernel_rfl)
  have h141 := @run_callFunc_extern Tryz.prog 100 _ kindF Tryz.func100 (by kernel_rfl) (by kernel_rfl) (by kernel_rfl) (by kernel_rfl)
  have h156 := @run_callFunc_extern Tryz.prog 114 _ elemTF Tryz.func114 (by kernel_rfl) (by kernel_rfl) (by kernel_rfl) (by kernel_rfl)
  have h157 := @run_callFunc_extern Tryz.prog 115 _ implF Tryz.func115 (by kernel_rfl) (by kernel_rfl) (by kernel_rfl) (by kernel_rfl)
  have f6 := Tryz.valueOfTS
  have f7 := Tryz.typeTS
  have mK := Tryz.methodKind
  have mE := Tryz.methodElem
  have mI := Tryz.methodImplements
  have k27 := Tryz.kindTS
  have k25 := Tryz.kindS
  have e27 := Tryz.elemTS
  have i25 := Tryz.implementsS
  have htb := lt_of_heap ht
  have hg0 : 0 < w.heap.size := World.block_lt_of_cell? w _ hg
  have n8 := Tryz.isNilTS ⟨w.heap.size, 0, none⟩ ⟨tb, 0, none⟩ ((w.alloc (.cells #[.pointer (some ⟨tb, 0, none⟩)] 70)).alloc (.cells #[.pointer (some ⟨23, 70, none⟩), .pointer (some ⟨w.heap.size, 0, none⟩), .int .u64 150] 99)) (by simp)
  have hg2 : ((w.alloc (.cells #[.pointer (some ⟨tb, 0, none⟩)] 70)).alloc (.cells #[.pointer (some ⟨23, 70, none⟩), .pointer (some ⟨w.heap.size, 0, none⟩), .int .u64 150] 99)).cell? ⟨0, 0, none⟩ = some (.iface 124 (.agg #[.pointer (some ⟨23, 30, none⟩)])) := by
    rw [World.cell?_alloc_lt _ _ ⟨0, 0, none⟩ (by simp <;> omega), World.cell?_alloc_lt _ _ ⟨0, 0, none⟩ hg0]; exact hg
  have bel : Below w.heap.size w ((w.alloc (.cells #[.pointer (some ⟨tb, 0, none⟩)] 70)).alloc (.cells #[.pointer (some ⟨23, 70, none⟩), .pointer (some ⟨w.heap.size, 0, none⟩), .int .u64 150] 99)) := ((Below.refl _ _).alloc (Nat.le_refl _) _).alloc (by simp) _
  have gr : w.grownBy ((w.alloc (.cells #[.pointer (some ⟨tb, 0, none⟩)] 70)).alloc (.cells #[.pointer (some ⟨23, 70, none⟩), .pointer (some ⟨w.heap.size, 0, none⟩), .int .u64 150] 99)) (some tb) := grownBy_trans (World.grownBy_alloc _ _ _) (World.grownBy_alloc _ _ _)
  have has := errs_asS b ⟨w.heap.size, 0, none⟩ tb old (.iface 70 (.pointer (some ⟨tb, 0, none⟩))) ((w.alloc (.cells #[.pointer (some ⟨tb, 0, none⟩)] 70)).alloc (.cells #[.pointer (some ⟨23, 70, none⟩), .pointer (some ⟨w.heap.size, 0, none⟩), .int .u64 150] 99))
    (by rw [bel.block tb htb]; exact ht) (by simp) l0 v0 (hc.kept bel (Nat.le_refl _))
  obtain ⟨tu, xu, hu⟩ := hc.iface
  have HAS := Lib.hid has
  have fin : ∀ (e : Ending) w', AsPost true tb old ((w.alloc (.cells #[.pointer (some ⟨tb, 0, none⟩)] 70)).alloc (.cells #[.pointer (some ⟨23, 70, none⟩), .pointer (some ⟨w.heap.size, 0, none⟩), .int .u64 150] 99)) (findW true l0) e w' → (∃ bb : Bool, e = .returned (.bool bb)) ∧ AsPost true tb old w (findW true l0) e w' := by
    intro e w' ⟨h1, h2⟩
    cases hf : findW true l0 with
    | none =>
      rw [hf] at h2
      exact ⟨⟨_, h2.1⟩, grownBy_trans gr h1, h2⟩
    | some n =>
      rw [hf] at h2
      obtain ⟨he, k, u, h3, h4⟩ := h2
      refine ⟨⟨_, he⟩, grownBy_trans gr h1, he, k, u, h3, ?_⟩
      have hkl := lt_of_heap h4
      have hk' : k < w.heap.size := by
        rcases Nat.lt_or_ge k w.heap.size with h | h
        · exact h
        · exfalso
          simp at hkl
          rcases (show k = w.heap.size ∨ k = w.heap.size + 1 by omega) with rfl | rfl
          · rw [heap_alloc2_old] at h4; simp at h4
          · rw [heap_alloc2_new] at h4; simp at h4
      rw [bel.block k hk'] at h4
      exact h4
  have FIN := Lib.hid fin
  subst hu
  clear hc has fin bel gr ht
  go_enter Tryz.func23, Tryz.ntmps23
  go_wp2_with (go_at_call 42; refine HAS.out.mono ?_; intro e w' hpost; obtain ⟨⟨bb, rfl⟩, hp⟩ := FIN.out e w' hpost; have HP := Lib.hid hp; clear hp hpost)
  go_ret
  exact HP.out
end Go.Proofs.YtppcjmbblkbkdaaGreatDoor
