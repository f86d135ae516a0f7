/- The walks of pidginref1.Ints and pidginref14.SameFilled. Conditions as typed. -/
import Derived.Test.YtppcjmbblkbkdaaGreatDoorPrintf
import Derived.Deep.QuietTactic
import Derived.BigQuiet
namespace Go.Proofs.YtppcjmbblkbkdaaGreatDoor
open Go.RowKit Pg

/-- The slice (a, l.length, cap) reads as the numbers l. -/
def Is (w : World) (a : Option Addr) (cap : Nat) (l : List Nat) : Prop :=
  l.length ≤ cap ∧ cap ≤ maxLen ∧ ∀ i (h : i < l.length), ∃ b off, a = some ⟨b, off, none⟩ ∧ w.cell? ⟨b, off + i, none⟩ = some (.int .i64 l[i])
theorem Is.below {w w' : World} {a : Option Addr} {cap : Nat} {l : List Nat} (h : Is w a cap l) {B : Nat} (hb : Below B w w') (hB : w.heap.size ≤ B) : Is w' a cap l :=
  ⟨h.1, h.2.1, fun i hi => by
    obtain ⟨b, off, ha, hc⟩ := h.2.2 i hi
    exact ⟨b, off, ha, by rw [hb.cell (p := ⟨b, off + i, none⟩) (Nat.lt_of_lt_of_le (lt_of_cell hc) hB)]; exact hc⟩⟩
theorem Is.empty (w : World) : Is w none 0 [] := ⟨Nat.le_refl _, by unfold maxLen; omega, fun i h => by simp at h⟩
theorem Is.own {w : World} {B n : Nat} {a : Option Addr} {cap : Nat} {l : List Nat} (h : w.ownsRow B 3 1 (.slice a n cap) n (i64s l)) (hn : n = l.length) : Is w a cap l := by
  obtain ⟨a', cap', he, h1, h2, h3⟩ := ownsRow_form h
  simp only [Value.slice.injEq, true_and] at he
  obtain ⟨rfl, rfl⟩ := he
  refine ⟨by omega, h2, fun i hi => ?_⟩
  obtain ⟨g, rfl, _, _⟩ := h3 (by omega)
  refine ⟨g, 0, rfl, ?_⟩
  rw [Nat.zero_add, h.cellAt _ (by omega)]
  simp [i64s, hi]
/-- Bytes that are read, as a string. -/
theorem bsStr {w : World} {a : Option Addr} {cap : Nat} {l : List UInt8} (h : Bs w a cap l) : (convert 25 9 (.slice a l.length cap)).run Tryz.prog w = .ok (.string ⟨l.toArray⟩) w := by
  cases a with
  | none =>
    have : l = [] := by
      cases l with
      | nil => rfl
      | cons c t => obtain ⟨b, off, ha, _⟩ := h.2.2 0 (by simp); cases ha
    subst this
    exact Lib.run_convert_nil_bytes w 25 9 5 cap Tryz.underlying25 Tryz.underlying5 Tryz.underlying9
  | some ad =>
    refine run_convert_bytes_back w 25 9 5 ad cap l Tryz.underlying25 Tryz.underlying5 Tryz.underlying9 (fun j hj => ?_)
    obtain ⟨b, off, ha, hc⟩ := h.2.2 j hj
    obtain rfl : ad = ⟨b, off, none⟩ := by simpa using ha
    rw [addr_add, hc]
theorem bl_inj {S T : ByteArray} (h : bl S = bl T) : S = T := by rw [← mk_bl S, ← mk_bl T, h]
theorem strNe {S T : ByteArray} (h : S ≠ T) : (S.toList == T.toList) = false := beq_eq_false_iff_ne.2 fun e => h (bl_inj (by rw [ByteArray.toList_eq, ByteArray.toList_eq] at e; exact e))
theorem below_drewN' {B : Nat} {w w' : World} (h : Below B w w') (n : Nat) : Below B w (w'.drewN n) := ⟨h.os, h.tape, h.output, h.size, h.block⟩
theorem take_step {α : Type} {l l' : List α} {k : Nat} (h1 : k < l.length) (h2 : k < l'.length) (ht : l.take k = l'.take k) (he : l[k] = l'[k]) : l.take (k + 1) = l'.take (k + 1) := by
  rw [List.take_succ_eq_append_getElem h1, List.take_succ_eq_append_getElem h2, ht, he]

set_option maxRecDepth 100000 in
set_option maxHeartbeats 4000000 in
/-- pidginref1.Ints. -/
theorem ref_Ints (a : Option Addr) (cap : Nat) (l : List Nat) (a' : Option Addr) (cap' : Nat) (l' : List Nat) (w : World) (hl : Is w a cap l) (hl' : Is w a' cap' l') :
    Calls Tryz.prog 24 #[.slice a l.length cap, .slice a' l'.length cap'] w fun e w' => e = .returned (.bool (decide (l = l'))) ∧ Below w.heap.size w w' := by
  have HL := Lib.hid hl
  have HL' := Lib.hid hl'
  have hm := hl.1
  have hm2 := hl.2.1
  unfold maxLen at hm2
  clear hl hl'
  by_cases hne : l.length = l'.length
  · have en : ((l.length : Int) == (l'.length : Int)) = true := beq_iff_eq.2 (by omega)
    go_enter Tryz.func24, Tryz.ntmps24
    go_wp2_with fail
    go_loopw [13] (fun kv wr => ∃ k : Nat, k ≤ l.length ∧ kv = .int .i64 k ∧ Hid (l.take k = l'.take k) ∧ Hid (Below w.heap.size w wr)) (fun kv _ => l.length - (intOf kv).toNat)
    case atStart => exact ⟨0, by omega, rfl, rfl, Below.refl _ _⟩
    case round =>
      obtain ⟨k, hk, rfl, HT, HB⟩ := hrel
      by_cases hlt : k < l.length
      · obtain ⟨b, off, rfl, c1⟩ := (HL.out.below HB.out (Nat.le_refl _)).2.2 k hlt
        obtain ⟨b', off', rfl, c2⟩ := (HL'.out.below HB.out (Nat.le_refl _)).2.2 k (by omega)
        obtain ⟨x, hx⟩ : ∃ x, l[k] = x := ⟨_, rfl⟩
        obtain ⟨y, hy⟩ : ∃ y, l'[k]'(by omega) = y := ⟨_, rfl⟩
        rw [hx] at c1
        rw [hy] at c2
        have hlt2 : k < l'.length := by omega
        by_cases hxy : x = y
        · have HT2 := Lib.hid (take_step hlt hlt2 HT.out (hx.trans (hxy.trans hy.symm)))
          have e1 : ((x : Int) == (y : Int)) = true := beq_iff_eq.2 (by omega)
          clear hx hy hxy
          go_wp2_with fail
          go_quiet (fail)
          go_wp2_with fail
          go_roundw
          case rel => exact ⟨k + 1, by omega, by go_num, HT2, below_drewN' HB.out _⟩
          case measure => simp [intOf]; omega
        · have HD : Hid (decide (l = l') = false) := decide_eq_false (fun h => hxy (by subst h; rw [← hx, ← hy]))
          have e1 : ((x : Int) == (y : Int)) = false := beq_eq_false_iff_ne.2 (by omega)
          clear hx hy hxy
          go_wp2_with fail
          go_quiet (fail)
          go_wp2_with fail
          go_ret
          rw [HD.out]
          exact ⟨rfl, below_drewN' HB.out _⟩
      · have HD : Hid (decide (l = l') = true) := decide_eq_true (by
          have h := HT.out
          rwa [List.take_of_length_le (by omega), List.take_of_length_le (by omega)] at h)
        go_wp2_with fail
        go_ret
        rw [HD.out]
        exact ⟨rfl, HB.out⟩
  · have en : ((l.length : Int) == (l'.length : Int)) = false := beq_eq_false_iff_ne.2 (by omega)
    have HD : Hid (decide (l = l') = false) := decide_eq_false (fun h => hne (by rw [h]))
    go_enter Tryz.func24, Tryz.ntmps24
    go_wp2_with fail
    go_ret
    rw [HD.out]
    exact ⟨rfl, Below.refl _ _⟩

set_option maxRecDepth 100000 in
set_option maxHeartbeats 4000000 in
/-- pidginref14.SameFilled. -/
theorem ref_Same (w : World) (a1 a2 b1 b2 : Option Addr) (n1 n2 m1 m2 c1 c2 d1 d2 : Nat) (l1 l2 : List UInt8) (k1 k2 : List Nat) (s t : Bool) (hn1 : n1 = l1.length) (hn2 : n2 = k1.length) (hm1 : m1 = l2.length) (hm2 : m2 = k2.length) (h1 : Bs w a1 c1 l1) (h2 : Is w a2 c2 k1) (h3 : Bs w b1 d1 l2) (h4 : Is w b2 d2 k2) :
    Calls Tryz.prog 11 #[.agg #[.slice a1 n1 c1, .slice a2 n2 c2, .bool s], .agg #[.slice b1 m1 d1, .slice b2 m2 d2, .bool t]] w fun e w' => e = .returned (.bool (decide (l1 = l2) && decide (k1 = k2) && (s == t))) ∧ Below w.heap.size w w' := by
  have b2' : ∀ o1 o2, Below w.heap.size w ((w.alloc o1).alloc o2) := fun o1 o2 => ((Below.refl _ _).alloc (Nat.le_refl _) o1).alloc (by simp) o2
  have ks1 := fun o1 o2 => bsStr (h1.below (b2' o1 o2) (Nat.le_refl _))
  have ks2 := fun o1 o2 => bsStr (h3.below (b2' o1 o2) (Nat.le_refl _))
  have CI := fun o1 o2 => ref_Ints a2 c2 k1 b2 d2 k2 _ (h2.below (b2' o1 o2) (Nat.le_refl _)) (h4.below (b2' o1 o2) (Nat.le_refl _))
  rw [← hn1] at ks1
  rw [← hm1] at ks2
  rw [← hn2, ← hm2] at CI
  have CI := Lib.hid CI
  have HB := Lib.hid b2'
  obtain ⟨S, hS⟩ : ∃ S : ByteArray, ⟨l1.toArray⟩ = S := ⟨_, rfl⟩
  obtain ⟨T, hT⟩ : ∃ T : ByteArray, ⟨l2.toArray⟩ = T := ⟨_, rfl⟩
  have hd : decide (l1 = l2) = decide (S = T) := by
    rw [decide_eq_decide, ← hS, ← hT]
    simp [ByteArray.mk.injEq]
  rw [hd]
  simp only [hS] at ks1
  simp only [hT] at ks2
  clear hd hS hT h1 h2 h3 h4 hn1 hn2 hm1 hm2 b2'
  by_cases hst : S = T
  · subst hst
    cases hk : decide (k1 = k2)
    all_goals (
      rw [hk] at CI
      have CI := Lib.hid CI.out
      clear hk
      go_enter Tryz.func11, Tryz.ntmps11
      go_wp2_with fail
      refine (CI.out _ _).mono ?_
      rintro e w1 ⟨rfl, hb1⟩
      have k1 := ((Blk.new w 28 #[.slice a1 n1 c1, .slice a2 n2 c2, .bool s]).alloc (.cells #[.slice b1 m1 d1, .slice b2 m2 d2, .bool t] 28)).below hb1 (by simp; omega)
      have k2 := (Blk.new (w.alloc (.cells #[.slice a1 n1 c1, .slice a2 n2 c2, .bool s] 28)) 28 #[.slice b1 m1 d1, .slice b2 m2 d2, .bool t]).below hb1 (by simp)
      rw [World.size_alloc] at k2
      have x1 : w1.cell? ⟨w.heap.size, 2, none⟩ = some (.bool s) := by rw [k1.cell 2]; rfl
      have x2 : w1.cell? ⟨w.heap.size + 1, 2, none⟩ = some (.bool t) := by rw [k2.cell 2]; rfl
      have HB1 := Lib.hid ((HB.out _ _).trans (hb1.mono (HB.out _ _).size))
      clear k1 k2 hb1
      cases s <;> cases t
      all_goals (
        go_wp2_with fail
        go_ret
        exact ⟨by simp, HB1.out⟩))
  · have hst2 : ∀ x, (decide (S = T) && x) = false := fun x => by rw [decide_eq_false hst]; rfl
    have eST := strNe hst
    rw [Bool.and_assoc, hst2]
    clear hst2
    go_enter Tryz.func11, Tryz.ntmps11
    go_wp2_with fail
    go_ret
    exact ⟨by simp, HB.out _ _⟩
end Go.Proofs.YtppcjmbblkbkdaaGreatDoor
