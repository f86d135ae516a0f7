/- The walk of pidginref1.Text. Conditions as typed. -/
import Derived.Test.YtppcjmbblkbkdaaDoorTextA
import Derived.Great.BuildSlice
import Derived.Great.Walk
import Derived.Laws.CopyOwn
import Derived.Deep.DeepCutAuto
import Derived.Deep.CutBlock
import Derived.Deep.DeepMust
namespace Go.Proofs.YtppcjmbblkbkdaaDoor
open Go.RowKit Go.Sort Go.Great

theorem Blk.newT (w : World) (t : TypeId) (cs : Array Value) : (w.alloc (.cells cs t)).heap[w.heap.size]? = some (.cells cs t (0, 0)) := heap_alloc_new _ _
theorem tab_step {w W : World} {cs : Array Value} {t : TypeId} (hb : Below w.heap.size w W) (hlt : w.heap.size < W.heap.size) (hk : W.heap[w.heap.size]? = some (.cells cs t (0, 0))) (z x : Array Value) (u : TypeId) :
    Below w.heap.size w ((W.alloc (.cells z u)).setRow W.heap.size x) ∧ ((W.alloc (.cells z u)).setRow W.heap.size x).heap[w.heap.size]? = some (.cells cs t (0, 0)) ∧ ((W.alloc (.cells z u)).setRow W.heap.size x).heap[W.heap.size]? = some (.cells x u (0, 0)) ∧ ((W.alloc (.cells z u)).setRow W.heap.size x).heap.size = W.heap.size + 1 :=
  ⟨below_setRow (hb.alloc hb.size _) (by omega) _, by rw [setRow_other _ _ _ _ (by omega), heap_alloc_old _ _ hlt]; exact hk, setRow_heap _ _ _ _ _ _ (heap_alloc_new _ _), by rw [setRow_size, World.size_alloc]⟩
theorem tab_keep {W : World} {cs : Array Value} {t : TypeId} {k : Nat} (hlt : k < W.heap.size) (hk : W.heap[k]? = some (.cells cs t (0, 0))) (z x : Array Value) (u : TypeId) :
    ((W.alloc (.cells z u)).setRow W.heap.size x).heap[k]? = some (.cells cs t (0, 0)) := by rw [setRow_other _ _ _ _ (by omega), heap_alloc_old _ _ hlt]; exact hk
def z12 : Array Value := Array.replicate 12 (.string ⟨#[]⟩)
def z23 : Array Value := Array.replicate 23 (.string ⟨#[]⟩)
set_option maxRecDepth 20000 in
theorem ref_Text (c p l : Int) (hp : (Lit.int .i64 p).wf = true) (w : World) (h : Tabs w) :
    Calls Tryd.prog 6 #[fv c p l] w fun e w' => e = .returned (.string (txt c p l)) ∧ Below w.heap.size w w' := by
  have hT : nth langs l ++ ⟨#[58]⟩ ++ ⟨(Lib.itoa p).toArray⟩ ++ ⟨#[58, 32]⟩ ++ nth codes c = txt c p l := rfl
  have za := nth_size langs (by decide) l
  have zb := itoa_size p hp
  have zc := nth_size codes (by decide) c
  have CI := Lib.hid fun W (hW : Tabs W) => itoa_call p hp W hW
  have HTB := Lib.hid h
  have HT := Lib.hid hT
  clear h hT
  simp only [fv]
  go_enter Tryd.func6, Tryd.ntmps6
  go_upto_region 1 with (fail)
  have b3 := (Below.refl w.heap.size w).alloc (Nat.le_refl _) (.cells #[.int .i64 c, .int .i64 p, .int .i64 l] 23)
  have k3 := Blk.newT w 23 #[.int .i64 c, .int .i64 p, .int .i64 l]
  have s3 : (w.alloc (.cells #[.int .i64 c, .int .i64 p, .int .i64 l] 23)).heap.size = w.heap.size + 1 := World.size_alloc ..
  generalize w.alloc (.cells #[.int .i64 c, .int .i64 p, .int .i64 l] 23) = W3 at *
  refine wp_region_list ?_
  refine wpList_buildTo rfl 46 _ rfl (some 7) rfl langsO (by kernel_rfl) ?_
  refine wpList_allocTo rfl (some 3) rfl (.pointer (some ⟨W3.heap.size, 0, none⟩)) (.cells z12 46) (by kernel_rfl) ?_
  refine wpList_store_rowTo rfl 46 _ _ rfl rfl W3.heap.size langsO (by kernel_rfl) (by kernel_rfl) 46 z12 (heap_alloc_new _ _) (by kernel_rfl) (by kernel_rfl) (by kernel_rfl) ?_
  obtain ⟨b4, k4, q4, s4⟩ := tab_step b3 (show w.heap.size < W3.heap.size by omega) k3 z12 langsO 46
  generalize (W3.alloc (.cells z12 46)).setRow W3.heap.size langsO = W4 at *
  rw [s3] at q4 s4 ⊢
  clear b3 k3 s3
  obtain ⟨vl, hvl⟩ : ∃ vl, vl = Value.agg langsO := ⟨_, rfl⟩
  rw [← hvl]
  clear hvl
  go_upto_region 2 with (fail)
  refine wp_region_list ?_
  refine wpList_buildTo rfl 47 _ rfl (some 8) rfl codesO (by kernel_rfl) ?_
  refine wpList_allocTo rfl (some 4) rfl (.pointer (some ⟨W4.heap.size, 0, none⟩)) (.cells z23 47) (by kernel_rfl) ?_
  refine wpList_store_rowTo rfl 47 _ _ rfl rfl W4.heap.size codesO (by kernel_rfl) (by kernel_rfl) 47 z23 (heap_alloc_new _ _) (by kernel_rfl) (by kernel_rfl) (by kernel_rfl) ?_
  obtain ⟨b5, k5, q5, s5⟩ := tab_step b4 (show w.heap.size < W4.heap.size by omega) k4 z23 codesO 47
  have q45 := tab_keep (show w.heap.size + 1 < W4.heap.size by omega) q4 z23 codesO 47
  generalize (W4.alloc (.cells z23 47)).setRow W4.heap.size codesO = W5 at *
  rw [s4] at q5 s5 ⊢
  clear b4 k4 q4 s4
  obtain ⟨vc, hvc⟩ : ∃ vc, vc = Value.agg codesO := ⟨_, rfl⟩
  rw [← hvc]
  clear hvc
  obtain ⟨f0, f1, f2, _, _, _⟩ := cells3 k5
  have HB5 := Lib.hid b5
  have H5 := Lib.hid (HTB.out.kept b5)
  have HQL := Lib.hid (fun k hk => row_cell (W := W5) langs q45 k hk)
  have HQC := Lib.hid (fun k hk => row_cell (W := W5) codes q5 k hk)
  clear k5 q5 q45 b5
  generalize hsb : (ByteArray.mk (Lib.itoa p).toArray) = sb at *
  generalize hsa : nth langs l = sa at *
  generalize hsc : nth codes c = sc at *
  obtain ⟨z1, z2, z3, z4⟩ := sums sa sb sc za zb zc
  have HSA := Lib.hid hsa
  have HSC := Lib.hid hsc
  clear hsa hsc hsb za zb zc
  go_upto_region 4 with (fail)
  go_cut [16] (fun v wx => v = .bool (decide (0 ≤ l ∧ l < 12)) ∧ wx = W5)
  case first =>
    by_cases h0 : 0 ≤ l
    · by_cases h1 : l < 12
      · have e0 : decide (0 ≤ l) = true := decide_eq_true h0
        have e1 : decide (l < 12) = true := decide_eq_true h1
        have e2 : decide (0 ≤ l ∧ l < 12) = true := decide_eq_true ⟨h0, h1⟩
        go_wp2_with fail
        go_meet
        exact ⟨by rw [e2], rfl⟩
      · have e0 : decide (0 ≤ l) = true := decide_eq_true h0
        have e1 : decide (l < 12) = false := decide_eq_false h1
        have e2 : decide (0 ≤ l ∧ l < 12) = false := decide_eq_false (fun h => h1 h.2)
        go_wp2_with fail
        go_meet
        exact ⟨by rw [e2], rfl⟩
    · have e0 : decide (0 ≤ l) = false := decide_eq_false h0
      have e2 : decide (0 ≤ l ∧ l < 12) = false := decide_eq_false (fun h => h0 h.1)
      go_wp2_with fail
      go_meet
      exact ⟨by rw [e2], rfl⟩
  case rest =>
    obtain ⟨rfl, hw5⟩ := hcut
    subst hw5
    go_upto_if 16 with (fail)
    go_cut [5] (fun v wx => v = .string sa ∧ wx = wc)
    case first =>
      by_cases h : 0 ≤ l ∧ l < 12
      · rw [decide_eq_true h]
        obtain ⟨k, rfl⟩ := Int.eq_ofNat_of_zero_le h.1
        have hk : k < 12 := by omega
        have hq := HQL.out k hk
        rw [HSA.out] at hq
        have hki : (k : Int) < 12 := by omega
        clear h
        go_wp2_with fail
        go_meet
        exact ⟨rfl, rfl⟩
      · rw [decide_eq_false h]
        have hs : sa = ⟨#[63]⟩ := by rw [← HSA.out]; exact nth_no langs _ (by show _ ∨ (12 : Int) ≤ _; omega)
        subst hs
        go_wp2_with fail
        go_meet
        exact ⟨rfl, rfl⟩
    case rest =>
      obtain ⟨rfl, hw6⟩ := hcut
      obtain ⟨W5, hW5⟩ : ∃ W5, W5 = wc := ⟨_, rfl⟩
      subst hw6 hW5
      go_upto_region 6 with (fail)
      go_cut [28] (fun v wx => v = .bool (decide (0 ≤ c ∧ c < 23)) ∧ wx = W5)
      case first =>
        by_cases h0 : 0 ≤ c
        · by_cases h1 : c < 23
          · have e0 : decide (0 ≤ c) = true := decide_eq_true h0
            have e1 : decide (c < 23) = true := decide_eq_true h1
            have e2 : decide (0 ≤ c ∧ c < 23) = true := decide_eq_true ⟨h0, h1⟩
            go_wp2_with fail
            go_meet
            exact ⟨by rw [e2], rfl⟩
          · have e0 : decide (0 ≤ c) = true := decide_eq_true h0
            have e1 : decide (c < 23) = false := decide_eq_false h1
            have e2 : decide (0 ≤ c ∧ c < 23) = false := decide_eq_false (fun h => h1 h.2)
            go_wp2_with fail
            go_meet
            exact ⟨by rw [e2], rfl⟩
        · have e0 : decide (0 ≤ c) = false := decide_eq_false h0
          have e2 : decide (0 ≤ c ∧ c < 23) = false := decide_eq_false (fun h => h0 h.1)
          go_wp2_with fail
          go_meet
          exact ⟨by rw [e2], rfl⟩
      case rest =>
        obtain ⟨rfl, hw5⟩ := hcut
        subst hw5
        go_upto_if 28 with (fail)
        go_cut [6] (fun v wx => v = .string sc ∧ wx = wc)
        case first =>
          by_cases h : 0 ≤ c ∧ c < 23
          · rw [decide_eq_true h]
            obtain ⟨k, rfl⟩ := Int.eq_ofNat_of_zero_le h.1
            have hk : k < 23 := by omega
            have hq := HQC.out k hk
            rw [HSC.out] at hq
            have hki : (k : Int) < 23 := by omega
            clear h
            go_wp2_with fail
            go_meet
            exact ⟨rfl, rfl⟩
          · rw [decide_eq_false h]
            have hs : sc = ⟨#[63]⟩ := by rw [← HSC.out]; exact nth_no codes _ (by show _ ∨ (23 : Int) ≤ _; omega)
            subst hs
            go_wp2_with fail
            go_meet
            exact ⟨rfl, rfl⟩
        case rest =>
          obtain ⟨rfl, hw8⟩ := hcut
          obtain ⟨W8, hW8⟩ : ∃ W8, W8 = wc := ⟨_, rfl⟩
          subst hw8 hW8
          go_wp2_with (go_at_call 19; refine (CI.out _ H5.out).mono ?_; rintro e w9 ⟨rfl, hb9⟩; have HB9 := Lib.hid (HB5.out.trans (hb9.mono HB5.out.size)); clear hb9)
          go_ret
          exact ⟨congrArg (fun x => Ending.returned (Value.string x)) HT.out, HB9.out⟩
end Go.Proofs.YtppcjmbblkbkdaaDoor
