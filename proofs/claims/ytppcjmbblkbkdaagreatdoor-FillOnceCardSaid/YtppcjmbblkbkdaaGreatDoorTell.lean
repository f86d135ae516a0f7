/- fault.Tell: of nil, and of a chain of wraps: the bottom's code, the first place, the first language. Conditions as typed. -/
import Derived.Test.YtppcjmbblkbkdaaGreatDoorFault
import Derived.Deep.RegionHeld3
namespace Go.Proofs.YtppcjmbblkbkdaaGreatDoor
open Go.RowKit

/-- A fault as a value. -/
def fv (c p l : Int) : Value := .agg #[.int .i64 c, .int .i64 p, .int .i64 l]

theorem fault_Tell_nil (w : World) :
    Calls Tryz.prog 10 #[.nilIface] w fun e w' => e = .returned (fv 0 0 0) ∧ Below w.heap.size w w' := by
  go_enter Tryz.func10, Tryz.ntmps10
  go_wp2_with fail
  refine bodyPost_ret (v := fv 0 0 0) (by simp [results, Tryz.results10, go_sem, fv]) rfl ⟨rfl, (Below.refl _ _).alloc (Nat.le_refl _) _⟩

/-- The code that the loop has at hand when code k comes next. -/
def cur (K : Nat) (k : Nat) : Int := if k < K then K else 22

/-- The bottom's code: its own, or 22. -/
def Bottom (w : World) (A : Nat → Addr) (b : Addr) (K : Nat) : Prop := Plain w b ∧ 1 ≤ K ∧ K ≤ 22 ∧ ∀ c, 1 ≤ c → c ≤ 21 → (b = A c ↔ c = K)

theorem one_of_three {w : World} {B : Nat} {a b c x : Value} {t : TypeId} (h : w.heap[B]? = some (.cells #[a, b, c] t (0, 0))) : (w.setCell ⟨B, 0, none⟩ x).heap[B]? = some (.cells #[x, b, c] t (0, 0)) := by
  have hlt := lt_of_heap h
  have h' : w.heap[B] = .cells #[a, b, c] t (0, 0) := by simpa [Array.getElem?_eq_getElem hlt] using h
  show (w.heap.modify B _)[B]? = _
  rw [Array.getElem?_eq_getElem (by simpa using hlt), Array.getElem_modify_self, h']
  rfl

theorem two_of_three {w : World} {B : Nat} {a b c x : Value} {t : TypeId} (h : w.heap[B]? = some (.cells #[a, b, c] t (0, 0))) : (w.setCell ⟨B, 1, none⟩ x).heap[B]? = some (.cells #[a, x, c] t (0, 0)) := by
  have hlt := lt_of_heap h
  have h' : w.heap[B] = .cells #[a, b, c] t (0, 0) := by simpa [Array.getElem?_eq_getElem hlt] using h
  show (w.heap.modify B _)[B]? = _
  rw [Array.getElem?_eq_getElem (by simpa using hlt), Array.getElem_modify_self, h']
  rfl
theorem three_of_three {w : World} {B : Nat} {a b c x : Value} {t : TypeId} (h : w.heap[B]? = some (.cells #[a, b, c] t (0, 0))) : (w.setCell ⟨B, 2, none⟩ x).heap[B]? = some (.cells #[a, b, x] t (0, 0)) := by
  have hlt := lt_of_heap h
  have h' : w.heap[B] = .cells #[a, b, c] t (0, 0) := by simpa [Array.getElem?_eq_getElem hlt] using h
  show (w.heap.modify B _)[B]? = _
  rw [Array.getElem?_eq_getElem (by simpa using hlt), Array.getElem_modify_self, h']
  rfl
theorem cells3 {w : World} {B : Nat} {a b c : Value} {t : TypeId} (h : w.heap[B]? = some (.cells #[a, b, c] t (0, 0))) :
    w.cell? ⟨B, 0, none⟩ = some a ∧ w.cell? ⟨B, 1, none⟩ = some b ∧ w.cell? ⟨B, 2, none⟩ = some c ∧ w.frozen? ⟨B, 0, none⟩ = false ∧ w.frozen? ⟨B, 1, none⟩ = false ∧ w.frozen? ⟨B, 2, none⟩ = false := by
  simp [World.cell?, World.frozen?, h]
theorem size_setCell (w : World) (a : Addr) (v : Value) : (w.setCell a v).heap.size = w.heap.size := by simp [World.setCell]

/-- What stands behind a call of errors.As at a target that lies last: the two faults' blocks, and all that was there. -/
theorem as_keeps {w w2 w3 : World} {p : Value} {t : TypeId} {K q : Int} (hg : (w2.alloc (.cells #[p] t)).grownBy w3 (some w2.heap.size)) (hs : w.heap.size + 2 ≤ w2.heap.size)
    (hb : Below w.heap.size w w2) (h0 : w2.heap[w.heap.size]? = some (.cells #[.int .i64 0, .int .i64 0, .int .i64 0] 35 (0, 0)))
    (h1 : w2.heap[w.heap.size + 1]? = some (.cells #[.int .i64 K, .int .i64 q, .int .i64 0] 35 (0, 0))) :
    Below w.heap.size w w3 ∧ w2.heap.size < w3.heap.size ∧ w3.heap[w.heap.size]? = some (.cells #[.int .i64 0, .int .i64 0, .int .i64 0] 35 (0, 0)) ∧
    w3.heap[w.heap.size + 1]? = some (.cells #[.int .i64 K, .int .i64 q, .int .i64 0] 35 (0, 0)) := by
  have hs1 := hg.size
  rw [World.size_alloc] at hs1
  refine ⟨(hb.alloc (by omega) _).grown hg (by simp; omega) (by intro k hk; simp at hk; omega), by omega, ?_, ?_⟩
  · rw [hg.block _ (by simp; omega) (by simp; omega), heap_alloc_old _ _ (by omega)]; exact h0
  · rw [hg.block _ (by simp; omega) (by simp; omega), heap_alloc_old _ _ (by omega)]; exact h1

/-- The wrap that was found lies in the new world, too. -/
theorem as_found {w2 w3 : World} {p u : Value} {t ts : TypeId} {n : Int} {k : Nat} (hg : (w2.alloc (.cells #[p] t)).grownBy w3 (some w2.heap.size)) (hk : (w2.alloc (.cells #[p] t)).heap[k]? = some (.cells #[u, .int .i64 n] ts (0, 0))) :
    w3.heap[k]? = some (.cells #[u, .int .i64 n] ts (0, 0)) := by
  have hl := lt_of_heap hk
  rw [hg.block k hl ?_]; exact hk
  intro e
  obtain rfl : k = w2.heap.size := by simpa using e
  rw [heap_alloc_new] at hk
  simp at hk

theorem cell_one {w : World} {k : Nat} {x : Value} {t : TypeId} (h : w.heap[k]? = some (.cells #[x] t (0, 0))) : w.cell? ⟨k, 0, none⟩ = some x := by simp [World.cell?, h]

set_option maxHeartbeats 1000000 in
theorem fault_Tell (w : World) (A : Nat → Addr) (hS : Sents w A) (b : Addr) (K : Nat) (hb : Bottom w A b K) (l : List (Bool × Int)) (v : Value) (hc : Chain w b l v) :
    Calls Tryz.prog 10 #[v] w fun e w' => e = .returned (fv K ((findW false l).getD 0) ((findW true l).getD 0)) ∧ Below w.heap.size w w' := by
  obtain ⟨hb, hK1, hK2, hbK⟩ := hb
  obtain ⟨t, x, hv⟩ := hc.iface
  have HS := Lib.hid hS
  have HB := Lib.hid hb
  have HC := Lib.hid hc
  have HBK := Lib.hid hbK
  have HV := Lib.hid hv
  subst hv
  clear hS hb hc hbK
  go_enter Tryz.func10, Tryz.ntmps10
  go_wp2_with fail
  go_loopw [4] (fun c wr => ∃ k : Nat, k ≤ 21 ∧ c = .int .i64 k ∧ Hid (Below w.heap.size w wr ∧ wr.heap.size = w.heap.size + 2 ∧ wr.heap[w.heap.size]? = some (.cells #[.int .i64 0, .int .i64 0, .int .i64 0] 35 (0, 0)) ∧
      wr.heap[w.heap.size + 1]? = some (.cells #[.int .i64 (cur K k), .int .i64 0, .int .i64 0] 35 (0, 0)))) (fun c _ => (intOf c).toNat)
  case atStart =>
    refine ⟨21, by omega, rfl, ((Below.refl _ _).alloc (Nat.le_refl _) _).alloc (by simp) _, by simp, heap_alloc2_old _ _ _, ?_⟩
    rw [heap_alloc2_new]
    have : cur K 21 = 22 := by unfold cur; split <;> omega
    rw [this]
  case round =>
    obtain ⟨k, hk, rfl, HR⟩ := hrel
    have hsz := HR.out.2.1
    have HSZ := Lib.hid hsz
    clear hsz
    by_cases hk0 : 1 ≤ k
    · have HI := Lib.hid (fault_Is_hit wr A (HS.out.kept HR.out.1 (Nat.le_refl _)).toSents0 b (HB.out.kept HR.out.1 (Nat.le_refl _)) l _ (HC.out.kept HR.out.1 (Nat.le_refl _)) k hk0 hk)
      obtain ⟨c0, _, _, f0, _, _⟩ := cells3 HR.out.2.2.2
      by_cases hkK : k = K
      · have hd : decide (b = A k) = true := decide_eq_true ((HBK.out k hk0 hk).2 hkK)
        have HK := Lib.hid hkK
        clear hkK
        go_wp2_with (go_at_call 22; refine HI.out.mono ?_; rintro e w' ⟨rfl, rfl⟩)
        go_roundw
        case rel =>
          refine ⟨k - 1, by omega, by go_num, HR.out.1.setCell (by simp) _, by rw [size_setCell]; exact HSZ.out, ?_, ?_⟩
          · rw [Below.heap_setCell _ _ _ _ (by simp)]; exact HR.out.2.2.1
          · have e := one_of_three (x := .int .i64 k) HR.out.2.2.2
            rw [show cur K (k - 1) = k by unfold cur; rw [if_pos (by have := HK.out; omega), HK.out]]
            exact e
        case measure => simp [intOf]; omega
      · have hd : decide (b = A k) = false := decide_eq_false (fun h => hkK ((HBK.out k hk0 hk).1 h))
        have HK := Lib.hid hkK
        clear hkK
        go_wp2_with (go_at_call 22; refine HI.out.mono ?_; rintro e w' ⟨rfl, rfl⟩)
        go_roundw
        case rel =>
          refine ⟨k - 1, by omega, by go_num, HR.out.1, HSZ.out, HR.out.2.2.1, ?_⟩
          rw [show cur K (k - 1) = cur K k by unfold cur; have := HK.out; split <;> split <;> omega]
          exact HR.out.2.2.2
        case measure => simp [intOf]; omega
    · obtain rfl : k = 0 := by omega
      obtain ⟨hbel, hsz, hB0, hB1⟩ := HR.out
      rw [show cur K 0 = K by unfold cur; rw [if_pos (by omega)]] at hB1
      -- the world behind the alloc of p
      have b1 : Below wr.heap.size wr (wr.alloc (.cells #[.pointer none] 64)) := (Below.refl _ _).alloc (Nat.le_refl _) _
      have bw1 : Below w.heap.size w (wr.alloc (.cells #[.pointer none] 64)) := hbel.trans (b1.mono (by omega))
      have HA1 := Lib.hid (errs_AsP b wr.heap.size (.pointer none) (wr.alloc (.cells #[.pointer none] 64)) (HS.out.kept bw1 (Nat.le_refl _)).et (heap_alloc_new _ _) l _ (HC.out.kept bw1 (Nat.le_refl _)))
      have HB0 := Lib.hid hB0
      have HB1 := Lib.hid hB1
      have HBEL := Lib.hid hbel
      have HW1 := Lib.hid bw1
      clear hbel hsz hB0 hB1 HR b1 bw1
      go_wp2_with fail
      refine HA1.out.mono ?_
      rintro e w1 ⟨hg1, hp1⟩
      have hN : w.heap.size + 2 ≤ wr.heap.size := by have := HSZ.out; omega
      obtain ⟨bb1, hs1, k0, k1⟩ := as_keeps hg1 hN HBEL.out HB0.out HB1.out
      have HG1 := Lib.hid hg1
      have HBB1 := Lib.hid bb1
      have K0 := Lib.hid k0
      have K1 := Lib.hid k1
      clear hg1 bb1 k0 k1
      cases hfP : findW false l with
      | none =>
        rw [hfP] at hp1
        obtain ⟨rfl, _⟩ := hp1
        have HFP := Lib.hid hfP
        clear hfP
        have bw2 : Below w.heap.size w (w1.alloc (.cells #[.pointer none] 69)) := HBB1.out.alloc (by omega) _
        have HA2 := Lib.hid (errs_AsS b w1.heap.size (.pointer none) (w1.alloc (.cells #[.pointer none] 69)) (HS.out.kept bw2 (Nat.le_refl _)).et (heap_alloc_new _ _) l _ (HC.out.kept bw2 (Nat.le_refl _)))
        clear bw2
        go_wp2_with fail
        refine HA2.out.mono ?_
        rintro e w2 ⟨hg2, hp2⟩
        obtain ⟨bb2, hs2, k0, k1⟩ := as_keeps hg2 (by omega) HBB1.out K0.out K1.out
        obtain ⟨z0, z1, z2, y0, y1, y2⟩ := cells3 k0
        cases hfS : findW true l with
        | none =>
          rw [hfS] at hp2
          obtain ⟨rfl, _⟩ := hp2
          obtain ⟨x0, x1, x2, v0, v1, v2⟩ := cells3 k1
          have HFS := Lib.hid hfS
          clear hfS hg2 k0 k1
          go_wp2_with fail
          refine bodyPost_ret (v := fv K 0 0) ?_ rfl ⟨?_, ?_⟩
          · simp [results, Tryz.results10, go_sem, fv, z0, z1, z2]
          · rw [HFP.out, HFS.out]; rfl
          · exact ((bb2.setCell (by simp) _).setCell (by simp) _).setCell (by simp) _
        | some m =>
          rw [hfS] at hp2
          obtain ⟨rfl, km, um, hqm, hkm⟩ := hp2
          have HFS := Lib.hid hfS
          clear hfS
          have hkm' := as_found hg2 hkm
          have cqm := cell_one hqm
          have ckm := cell1_of hkm'
          have hkml : km < w2.heap.size := lt_of_heap hkm'
          obtain ⟨x0, x1, x2, v0, v1, v2⟩ := cells3 k1
          clear hg2 k0 k1 hqm hkm hkm'
          go_wp2_with fail
          refine bodyPost_ret (v := fv K 0 m) ?_ rfl ⟨?_, ?_⟩
          · simp [results, Tryz.results10, go_sem, fv, z0, z1, z2]
          · rw [HFP.out, HFS.out]; rfl
          · exact (((bb2.setCell (by simp) _).setCell (by simp) _).setCell (by simp) _).setCell (by simp) _
      | some n =>
        rw [hfP] at hp1
        obtain ⟨rfl, kk, u, hq, hkk⟩ := hp1
        have HFP := Lib.hid hfP
        clear hfP
        have hkk' := as_found HG1.out hkk
        have hkl : kk < w1.heap.size := lt_of_heap hkk'
        have cq := cell_one hq
        have ck := cell1_of hkk'
        obtain ⟨c0, c1, c2, f0, f1, f2⟩ := cells3 K1.out
        have bs : Below w.heap.size w (w1.setCell ⟨w.heap.size + 1, 1, none⟩ (.int .i64 n)) := HBB1.out.setCell (by simp) _
        have bw2 : Below w.heap.size w ((w1.setCell ⟨w.heap.size + 1, 1, none⟩ (.int .i64 n)).alloc (.cells #[.pointer none] 69)) := bs.alloc (by rw [size_setCell]; omega) _
        have hbk : (w1.setCell ⟨w.heap.size + 1, 1, none⟩ (.int .i64 n)).heap[w.heap.size]? = some (.cells #[.int .i64 0, .int .i64 0, .int .i64 0] 35 (0, 0)) := by
          rw [Below.heap_setCell _ _ _ _ (by simp)]; exact K0.out
        have K0' := Lib.hid hbk
        have K1' := Lib.hid (two_of_three (x := .int .i64 n) K1.out)
        have BS := Lib.hid bs
        have hsz' := heap_alloc_new (w1.setCell ⟨w.heap.size + 1, 1, none⟩ (.int .i64 n)) (.cells #[.pointer none] 69)
        rw [size_setCell] at hsz'
        have HA2 := Lib.hid (errs_AsS b w1.heap.size (.pointer none) ((w1.setCell ⟨w.heap.size + 1, 1, none⟩ (.int .i64 n)).alloc (.cells #[.pointer none] 69)) (HS.out.kept bw2 (Nat.le_refl _)).et hsz' l _ (HC.out.kept bw2 (Nat.le_refl _)))
        clear bw2 bs hq hkk hkk' hbk hsz'
        go_wp2_with fail
        skip
        refine HA2.out.mono ?_
        rintro e w2 ⟨hg2', hp2⟩
        have hg2 : ((w1.setCell ⟨w.heap.size + 1, 1, none⟩ (.int .i64 n)).alloc (.cells #[.pointer none] 69)).grownBy w2 (some (w1.setCell ⟨w.heap.size + 1, 1, none⟩ (.int .i64 n)).heap.size) := by rw [size_setCell]; exact hg2'
        clear hg2'
        obtain ⟨bb2, hs2, k0, k1⟩ := as_keeps hg2 (by rw [size_setCell]; omega) BS.out K0'.out K1'.out
        rw [size_setCell] at hs2
        obtain ⟨z0, z1, z2, y0, y1, y2⟩ := cells3 k0
        cases hfS : findW true l with
        | none =>
          rw [hfS] at hp2
          obtain ⟨rfl, _⟩ := hp2
          obtain ⟨x0, x1, x2, v0, v1, v2⟩ := cells3 k1
          have HFS := Lib.hid hfS
          clear hfS hg2 k0 k1
          go_wp2_with fail
          refine bodyPost_ret (v := fv K n 0) ?_ rfl ⟨?_, ?_⟩
          · simp [results, Tryz.results10, go_sem, fv, z0, z1, z2]
          · rw [HFP.out, HFS.out]; rfl
          · exact ((bb2.setCell (by simp) _).setCell (by simp) _).setCell (by simp) _
        | some m =>
          rw [hfS] at hp2
          obtain ⟨rfl, km, um, hqm, hkm⟩ := hp2
          have HFS := Lib.hid hfS
          clear hfS
          have hkm' := as_found hg2 hkm
          have cqm := cell_one hqm
          have ckm := cell1_of hkm'
          have hkml : km < w2.heap.size := lt_of_heap hkm'
          obtain ⟨x0, x1, x2, v0, v1, v2⟩ := cells3 k1
          clear hg2 k0 k1 hqm hkm hkm'
          go_wp2_with fail
          refine bodyPost_ret (v := fv K n m) ?_ rfl ⟨?_, ?_⟩
          · simp [results, Tryz.results10, go_sem, fv, z0, z1, z2]
          · rw [HFP.out, HFS.out]; rfl
          · exact (((bb2.setCell (by simp) _).setCell (by simp) _).setCell (by simp) _).setCell (by simp) _
end Go.Proofs.YtppcjmbblkbkdaaGreatDoor
