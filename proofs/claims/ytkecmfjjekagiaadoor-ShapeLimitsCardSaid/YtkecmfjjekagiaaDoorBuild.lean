/- The statements' own helpers on faults: awake, build. Conditions as typed. -/
import Derived.Test.YtkecmfjjekagiaaDoorTell
namespace Go.Proofs.YtkecmfjjekagiaaDoor
open Go.RowKit

theorem bottom_of (w : World) (A : Nat → Addr) (hS : Sents w A) (K : Nat) (h1 : 1 ≤ K) (h2 : K ≤ 21) : Bottom w A (A K) K :=
  ⟨hS.plain K h1 h2, h1, by omega, fun c c1 c2 => ⟨fun h => (hS.inj K c h1 h2 c1 c2 h).symm, fun h => by rw [h]⟩⟩

theorem fault_awake (w : World) (A : Nat → Addr) (hS : Sents w A) :
    Calls Tryd.prog 24 #[] w fun e w' => e = .returned (.bool true) ∧ Below w.heap.size w w' := by
  have HO := Lib.hid (fault_Of_hit w A hS.toSents0 3 (by omega) (by omega))
  have HA := Lib.hid (fault_At (.iface 97 (.pointer (some (A 3)))) 5 w _ _ rfl)
  have bel : Below w.heap.size w (w.alloc (.cells #[.iface 97 (.pointer (some (A 3))), .int .i64 5] 91)) := (Below.refl _ _).alloc (Nat.le_refl _) _
  have HT := Lib.hid (fault_Tell (w.alloc (.cells #[.iface 97 (.pointer (some (A 3))), .int .i64 5] 91)) A (hS.kept bel (Nat.le_refl _)) (A 3) 3 (bottom_of _ A (hS.kept bel (Nat.le_refl _)) 3 (by omega) (by omega)) [(false, 5)] (.iface 87 (.pointer (some ⟨w.heap.size, 0, none⟩)))
    ⟨w.heap.size, _, rfl, heap_alloc_new _ _, rfl⟩)
  have BEL := Lib.hid bel
  clear hS bel
  go_enter Tryd.func24, Tryd.ntmps24
  go_wp2_with (first | (go_at_call 23; refine HO.out.mono ?_; rintro e w' ⟨rfl, rfl⟩) | (go_at_call 26; refine HA.out.mono ?_; rintro e w' ⟨rfl, rfl⟩) | (go_at_call 22; refine HT.out.mono ?_; rintro e w' ⟨rfl, hb⟩; have HB := Lib.hid hb; clear hb; simp only [findW, fv]))
  go_ret
  exact ⟨rfl, BEL.out.trans (HB.out.mono (by simp))⟩

/-- A slice of wraps. -/
def Ws (w : World) (a : Option Addr) (cap : Nat) (l : List (Bool × Int)) : Prop :=
  l.length ≤ cap ∧ cap ≤ maxLen ∧ ∀ i (h : i < l.length), ∃ b off, a = some ⟨b, off, none⟩ ∧ w.cell? ⟨b, off + i * 2, none⟩ = some (.bool l[i].1) ∧ w.cell? ⟨b, off + i * 2 + 1, none⟩ = some (.int .i64 l[i].2)

/-- The chain that build makes. -/
def wraps (l : List (Bool × Int)) : List (Bool × Int) := (l.take 60).reverse

theorem take_rev (l : List (Bool × Int)) (k : Nat) (h : k < l.length) : (l.take (k + 1)).reverse = l[k] :: (l.take k).reverse := by
  rw [List.take_succ_eq_append_getElem h]; simp

theorem build_nil (a : Option Addr) (cap : Nat) (l : List (Bool × Int)) (w : World) (c : Int) (hc : c = 0 ∨ c = 22) :
    Calls Tryd.prog 21 #[.int .i64 c, .slice a l.length cap] w fun e w' => e = .returned (.tuple #[.nilIface, fv 0 0 0]) ∧ Below w.heap.size w w' := by
  rcases hc with rfl | rfl
  · have HO := Lib.hid (fault_Of_no (w.alloc (.cells #[.int .i64 0, .int .i64 0, .int .i64 0] 26)) 0 (by omega))
    go_enter Tryd.func21, Tryd.ntmps21
    go_wp2_with (go_at_call 23; refine HO.out.mono ?_; rintro e w' ⟨rfl, rfl⟩)
    refine bodyPost_ret (v := .tuple #[.nilIface, fv 0 0 0]) (by simp [results, Tryd.results21, go_sem, fv]) rfl ⟨rfl, ((Below.refl _ _).alloc (Nat.le_refl _) _).alloc (by simp) _⟩
  · have HO := Lib.hid (fault_Of_no (w.alloc (.cells #[.int .i64 0, .int .i64 0, .int .i64 0] 26)) 22 (by omega))
    go_enter Tryd.func21, Tryd.ntmps21
    go_wp2_with (go_at_call 23; refine HO.out.mono ?_; rintro e w' ⟨rfl, rfl⟩)
    refine bodyPost_ret (v := .tuple #[.nilIface, fv 0 0 0]) (by simp [results, Tryd.results21, go_sem, fv]) rfl ⟨rfl, ((Below.refl _ _).alloc (Nat.le_refl _) _).alloc (by simp) _⟩

def BuildPost (w : World) (A : Nat → Addr) (l : List (Bool × Int)) (K : Nat) (e : Ending) (w' : World) : Prop :=
  ∃ v b, e = .returned (.tuple #[v, fv K ((findW false (wraps l)).getD 0) ((findW true (wraps l)).getD 0)]) ∧ Chain w' b (wraps l) v ∧ Bottom w' A b K ∧ Below w.heap.size w w'

theorem drew_heap (w : World) : w.drew.heap = w.heap := rfl
theorem plain_setCell {w : World} {a p : Addr} {v : Value} (h : Plain w a) : Plain (w.setCell p v) a := by
  obtain ⟨c, t, h⟩ := h
  unfold Plain
  by_cases e : a.block = p.block
  · have hlt := lt_of_heap h
    have h' : w.heap[a.block] = .cells c t (0, 0) := by simpa [Array.getElem?_eq_getElem hlt] using h
    simp only [World.setCell, ← e]
    rw [Array.getElem?_eq_getElem (by simpa using hlt), Array.getElem_modify_self, h']
    exact ⟨_, _, rfl⟩
  · rw [Below.heap_setCell _ _ _ _ e]; exact ⟨c, t, h⟩
/-- What the loop of build keeps. -/
structure RelB (w : World) (A : Nat → Addr) (l : List (Bool × Int)) (K : Nat) (b : Addr) (k : Nat) (v : Value) (wr : World) : Prop where
  chain : Chain wr b (l.take k).reverse v
  bot : Bottom wr A b K
  bel : Below w.heap.size w wr
  size : w.heap.size + 2 ≤ wr.heap.size
  res : wr.heap[w.heap.size]? = some (.cells #[.int .i64 0, .int .i64 0, .int .i64 0] 26 (0, 0))
  flt : wr.heap[w.heap.size + 1]? = some (.cells #[.int .i64 K, .int .i64 ((findW false (l.take k).reverse).getD 0), .int .i64 ((findW true (l.take k).reverse).getD 0)] 26 (0, 0))

theorem heap_of_alloc {w : World} {o o' : Obj} {k : Nat} (h : w.heap[k]? = some o) : (w.alloc o').heap[k]? = some o := by
  rw [heap_alloc_old _ _ (lt_of_heap h)]; exact h

theorem Bottom.kept {w w' : World} {A : Nat → Addr} {b : Addr} {K B : Nat} (h : Bottom w A b K) (hb : Below B w w') (hB : w.heap.size ≤ B) : Bottom w' A b K :=
  ⟨h.1.kept hb hB, h.2⟩

theorem Chain.kept' {w w' : World} {b : Addr} {F : Nat} (hb : ∀ k, k < w.heap.size → k ≠ F → w'.heap[k]? = w.heap[k]?) (hF : ∃ c, w.heap[F]? = some (.cells c 26 (0, 0))) : ∀ {l : List (Bool × Int)} {v : Value}, Chain w b l v → Chain w' b l v
  | [], _, h => h
  | (s, _) :: _, _, ⟨k, u, h1, h2, h3⟩ => ⟨k, u, h1, by
      rw [hb k (lt_of_heap h2) ?_]; exact h2
      rintro rfl
      obtain ⟨c, hF⟩ := hF
      rw [hF] at h2
      cases s <;> simp [wS] at h2, h3.kept' hb hF⟩

theorem RelB.step {w wr : World} {A : Nat → Addr} {l : List (Bool × Int)} {K : Nat} {b : Addr} {k : Nat} {v : Value} (h : RelB w A l K b k v wr) (hk : k < l.length) (n : Int) (s : Bool) (e : l[k] = (s, n)) :
    RelB w A l K b (k + 1) (.iface (wT s) (.pointer (some ⟨wr.heap.size, 0, none⟩))) ((wr.alloc (.cells #[v, .int .i64 n] (wS s))).setCell ⟨w.heap.size + 1, if s then 2 else 1, none⟩ (.int .i64 n)) := by
  have hflt := heap_of_alloc (o' := .cells #[v, .int .i64 n] (wS s)) h.flt
  have hsz := h.size
  have keep : ∀ j, j < (wr.alloc (.cells #[v, .int .i64 n] (wS s))).heap.size → j ≠ w.heap.size + 1 → ((wr.alloc (.cells #[v, .int .i64 n] (wS s))).setCell ⟨w.heap.size + 1, if s then 2 else 1, none⟩ (.int .i64 n)).heap[j]? = (wr.alloc (.cells #[v, .int .i64 n] (wS s))).heap[j]? := fun j _ hj => Below.heap_setCell _ _ _ _ hj
  have b1 : Below wr.heap.size wr (wr.alloc (.cells #[v, .int .i64 n] (wS s))) := (Below.refl _ _).alloc (Nat.le_refl _) _
  have hnew : ((wr.alloc (.cells #[v, .int .i64 n] (wS s))).setCell ⟨w.heap.size + 1, if s then 2 else 1, none⟩ (.int .i64 n)).heap[wr.heap.size]? = some (.cells #[v, .int .i64 n] (wS s) (0, 0)) := by
    rw [keep _ (by simp) (by omega)]; exact heap_alloc_new _ _
  have hch := (h.chain.kept b1 (Nat.le_refl _)).kept' keep ⟨_, hflt⟩
  have er : (l.take (k + 1)).reverse = (s, n) :: (l.take k).reverse := by rw [take_rev l k hk, e]
  refine ⟨?_, ?_, (h.bel.alloc (by omega) _).setCell (by simp) _, by rw [size_setCell]; simp; omega, ?_, ?_⟩
  · rw [er]; exact ⟨_, v, rfl, hnew, hch⟩
  · obtain ⟨⟨cb, tb, hb⟩, hr⟩ := h.bot
    refine ⟨?_, hr⟩
    by_cases hF : b.block = w.heap.size + 1
    · rw [hF] at hb
      unfold Plain
      rw [hF]
      rw [h.flt] at hb
      cases s
      · exact ⟨_, _, two_of_three hflt⟩
      · exact ⟨_, _, three_of_three hflt⟩
    · exact ⟨cb, tb, by rw [keep _ (by have := lt_of_heap hb; simp; omega) hF]; exact heap_of_alloc hb⟩
  · rw [keep _ (by simp; omega) (by omega)]; exact heap_of_alloc h.res
  · rw [er]
    cases s
    · exact two_of_three hflt
    · exact three_of_three hflt

theorem build_hit (a : Option Addr) (cap : Nat) (l : List (Bool × Int)) (w : World) (A : Nat → Addr) (hS : Sents w A) (hl : Ws w a cap l) (c : Nat) (h1 : 1 ≤ c) (h2 : c ≤ 21) :
    Calls Tryd.prog 21 #[.int .i64 c, .slice a l.length cap] w (BuildPost w A l c) := by
  have b1 : Below w.heap.size w (w.alloc (.cells #[.int .i64 0, .int .i64 0, .int .i64 0] 26)) := (Below.refl _ _).alloc (Nat.le_refl _) _
  have HO := Lib.hid (fault_Of_hit _ A (hS.kept b1 (Nat.le_refl _)).toSents0 c h1 h2)
  have HL := Lib.hid hl
  have e0 : ((c : Int) == 0) = false := by simp; omega
  have e22 : ((c : Int) == 22) = false := by simp; omega
  have e1 : decide ((c : Int) < 0) = false := by simp
  have e2 : decide (22 < (c : Int)) = false := by simp; omega
  have start : RelB w A l c (A c) 0 (.iface 97 (.pointer (some (A c)))) ((w.alloc (.cells #[.int .i64 0, .int .i64 0, .int .i64 0] 26)).alloc (.cells #[.int .i64 c, .int .i64 0, .int .i64 0] 26)) := by
    have b2 := b1.alloc (by simp) (.cells #[.int .i64 c, .int .i64 0, .int .i64 0] 26)
    exact ⟨rfl, bottom_of _ A (hS.kept b2 (Nat.le_refl _)) c h1 h2, b2, by simp, heap_alloc2_old _ _ _, heap_alloc2_new _ _ _⟩
  have ST := Lib.hid start
  clear hS hl b1 start
  go_enter Tryd.func21, Tryd.ntmps21
  go_wp2_with (go_at_call 23; refine HO.out.mono ?_; rintro e w' ⟨rfl, rfl⟩)
  go_loopw [6, 8] (fun v i wr => ∃ k : Nat, k ≤ l.length ∧ k ≤ 60 ∧ i = .int .i64 k ∧ Hid (RelB w A l c (A c) k v wr)) (fun _ i _ => l.length - (intOf i).toNat)
  case atStart => exact ⟨0, by omega, by omega, rfl, ST.out⟩
  case round =>
    obtain ⟨k, hk, h60, rfl, HR⟩ := hrel
    obtain ⟨tv, xv, hv⟩ := HR.out.chain.iface
    have hsz : w.heap.size + 1 < wr.heap.size := by have := HR.out.size; omega
    have hsz0 : w.heap.size < wr.heap.size := by omega
    obtain ⟨x0, x1, x2, v0, v1, v2⟩ := cells3 HR.out.flt
    by_cases hlt : k < l.length
    · obtain ⟨b0, off, rfl, hc0, hc1⟩ := HL.out.2.2 k hlt
      rcases Nat.lt_or_ge k 60 with hl60 | hl60
      · have d0 : wr.cell? ⟨b0, off + k * 2, none⟩ = some (.bool l[k].1) := (HR.out.bel.cell (World.block_lt_of_cell? w _ hc0)).trans hc0
        have d1 : wr.cell? ⟨b0, off + k * 2 + 1, none⟩ = some (.int .i64 l[k].2) := (HR.out.bel.cell (World.block_lt_of_cell? w _ hc1)).trans hc1
        have hb0 : b0 < wr.heap.size := World.block_lt_of_cell? wr _ d0
        clear hc0 hc1
        obtain ⟨s, n, hsn⟩ : ∃ s n, l[k] = (s, n) := ⟨_, _, rfl⟩
        rw [hsn] at d0 d1
        have HSN := Lib.hid hsn
        clear hsn
        cases s
        · have HA := Lib.hid (fault_At u6 n wr tv xv hv)
          clear hv
          go_wp2_with (go_at_call 26; refine HA.out.mono ?_; rintro e w' ⟨rfl, rfl⟩)
          go_roundw
          case rel => exact ⟨k + 1, by omega, by omega, by go_num, by have hq := HR.out.step hlt n false HSN.out; rw [World.setCell_alloc_past _ _ _ _ hsz] at hq; exact hq⟩
          case measure => simp [intOf]; omega
        · have HA := Lib.hid (fault_In u6 n wr tv xv hv)
          clear hv
          go_wp2_with (go_at_call 27; refine HA.out.mono ?_; rintro e w' ⟨rfl, rfl⟩)
          go_roundw
          case rel => exact ⟨k + 1, by omega, by omega, by go_num, by have hq := HR.out.step hlt n true HSN.out; rw [World.setCell_alloc_past _ _ _ _ hsz] at hq; exact hq⟩
          case measure => simp [intOf]; omega
      · have ek : l.take k = l.take 60 := by rw [show k = 60 by omega]
        have HE := Lib.hid ek
        obtain ⟨z0, z1, z2, y0, y1, y2⟩ := cells3 HR.out.res
        clear hv ek
        go_wp2_with fail
        go_region
        go_wp2_with fail
        refine bodyPost_ret (v := .tuple #[u6, fv c ((findW false (l.take k).reverse).getD 0) ((findW true (l.take k).reverse).getD 0)]) (by simp [results, Tryd.results21, go_sem, fv, z0, z1, z2]) rfl ?_
        refine ⟨u6, _, by (unfold wraps; rw [← HE.out] <;> rfl), ?_, ⟨?_, HR.out.bot.2⟩, (((HR.out.bel.setCell (by simp) _).setCell (by simp) _).setCell (by simp) _).drew⟩
        · unfold wraps
          rw [← HE.out]
          exact HR.out.chain.kept' (F := w.heap.size) (fun j _ hj => by rw [drew_heap, Below.heap_setCell _ _ _ _ hj, Below.heap_setCell _ _ _ _ hj, Below.heap_setCell _ _ _ _ hj]) ⟨_, HR.out.res⟩
        · exact plain_setCell (plain_setCell (plain_setCell HR.out.bot.1))
    · have ek : l.take k = l.take 60 := by rw [List.take_of_length_le (by omega), List.take_of_length_le (by omega)]
      have HE := Lib.hid ek
      obtain ⟨z0, z1, z2, y0, y1, y2⟩ := cells3 HR.out.res
      clear hv ek
      go_wp2_with fail
      go_region
      go_wp2_with fail
      refine bodyPost_ret (v := .tuple #[u6, fv c ((findW false (l.take k).reverse).getD 0) ((findW true (l.take k).reverse).getD 0)]) (by simp [results, Tryd.results21, go_sem, fv, z0, z1, z2]) rfl ?_
      refine ⟨u6, _, by (unfold wraps; rw [← HE.out] <;> rfl), ?_, ⟨?_, HR.out.bot.2⟩, (((HR.out.bel.setCell (by simp) _).setCell (by simp) _).setCell (by simp) _).drew⟩
      · unfold wraps
        rw [← HE.out]
        exact HR.out.chain.kept' (F := w.heap.size) (fun j _ hj => by rw [drew_heap, Below.heap_setCell _ _ _ _ hj, Below.heap_setCell _ _ _ _ hj, Below.heap_setCell _ _ _ _ hj]) ⟨_, HR.out.res⟩
      · exact plain_setCell (plain_setCell (plain_setCell HR.out.bot.1))
theorem build_else (a : Option Addr) (cap : Nat) (l : List (Bool × Int)) (w : World) (A : Nat → Addr) (hS : Sents w A) (hl : Ws w a cap l) (c : Int) (hc : c < 0 ∨ 22 < c) :
    Calls Tryd.prog 21 #[.int .i64 c, .slice a l.length cap] w (BuildPost w A l 22) := by
  have HO := Lib.hid (fault_Of_no (w.alloc (.cells #[.int .i64 0, .int .i64 0, .int .i64 0] 26)) c (by omega))
  have HN := Lib.hid (errs_New ⟨#[101, 108, 115, 101, 119, 104, 101, 114, 101]⟩ ((w.alloc (.cells #[.int .i64 0, .int .i64 0, .int .i64 0] 26)).alloc (.cells #[.int .i64 c, .int .i64 0, .int .i64 0] 26)))
  have HL := Lib.hid hl
  have e0 : ((c : Int) == 0) = false := by simp; omega
  have e22 : ((c : Int) == 22) = false := by simp; omega
  have start : RelB w A l 22 ⟨w.heap.size + 1 + 1, 0, none⟩ 0 (.iface 97 (.pointer (some ⟨w.heap.size + 1 + 1, 0, none⟩))) (((w.alloc (.cells #[.int .i64 0, .int .i64 0, .int .i64 0] 26)).alloc (.cells #[.int .i64 22, .int .i64 0, .int .i64 0] 26)).alloc (.cells #[.string ⟨#[101, 108, 115, 101, 119, 104, 101, 114, 101]⟩] 99)) := by
    have b3 := (((Below.refl w.heap.size w).alloc (Nat.le_refl _) (.cells #[.int .i64 0, .int .i64 0, .int .i64 0] 26)).alloc (by simp) (.cells #[.int .i64 22, .int .i64 0, .int .i64 0] 26)).alloc (by simp; omega) (.cells #[.string ⟨#[101, 108, 115, 101, 119, 104, 101, 114, 101]⟩] 99)
    refine ⟨rfl, ⟨⟨#[.string ⟨#[101, 108, 115, 101, 119, 104, 101, 114, 101]⟩], 99, ?_⟩, by omega, by omega, fun k k1 k2 => ⟨fun h => ?_, fun h => by omega⟩⟩, b3, by simp, heap_of_alloc (heap_alloc2_old _ _ _), heap_of_alloc (heap_alloc2_new _ _ _)⟩
    · have := heap_alloc_new ((w.alloc (.cells #[.int .i64 0, .int .i64 0, .int .i64 0] 26)).alloc (.cells #[.int .i64 22, .int .i64 0, .int .i64 0] 26)) (.cells #[.string ⟨#[101, 108, 115, 101, 119, 104, 101, 114, 101]⟩] 99)
      simp only [World.size_alloc] at this
      exact this
    · have := (hS.plain k k1 k2).lt
      rw [← h] at this
      simp at this
      omega
  have ST := Lib.hid start
  clear hS hl start
  rcases hc with hc | hc
  · have e1 : decide (c < 0) = true := by simp; omega
    have e2 : decide (22 < c) = false := by simp; omega
    go_enter Tryd.func21, Tryd.ntmps21
    go_wp2_with (first | (go_at_call 23; refine HO.out.mono ?_; rintro e w' ⟨rfl, rfl⟩) | (go_at_call 28; refine HN.out.mono ?_; rintro e w' ⟨rfl, rfl⟩))
    go_loopw [6, 8] (fun v i wr => ∃ k : Nat, k ≤ l.length ∧ k ≤ 60 ∧ i = .int .i64 k ∧ Hid (RelB w A l 22 (⟨w.heap.size + 1 + 1, 0, none⟩) k v wr)) (fun _ i _ => l.length - (intOf i).toNat)
    case atStart => exact ⟨0, by omega, by omega, rfl, ST.out⟩
    case round =>
      obtain ⟨k, hk, h60, rfl, HR⟩ := hrel
      obtain ⟨tv, xv, hv⟩ := HR.out.chain.iface
      have hsz : w.heap.size + 1 < wr.heap.size := by have := HR.out.size; omega
      have hsz0 : w.heap.size < wr.heap.size := by omega
      obtain ⟨x0, x1, x2, v0, v1, v2⟩ := cells3 HR.out.flt
      by_cases hlt : k < l.length
      · obtain ⟨b0, off, rfl, hc0, hc1⟩ := HL.out.2.2 k hlt
        rcases Nat.lt_or_ge k 60 with hl60 | hl60
        · have d0 : wr.cell? ⟨b0, off + k * 2, none⟩ = some (.bool l[k].1) := (HR.out.bel.cell (World.block_lt_of_cell? w _ hc0)).trans hc0
          have d1 : wr.cell? ⟨b0, off + k * 2 + 1, none⟩ = some (.int .i64 l[k].2) := (HR.out.bel.cell (World.block_lt_of_cell? w _ hc1)).trans hc1
          have hb0 : b0 < wr.heap.size := World.block_lt_of_cell? wr _ d0
          clear hc0 hc1
          obtain ⟨s, n, hsn⟩ : ∃ s n, l[k] = (s, n) := ⟨_, _, rfl⟩
          rw [hsn] at d0 d1
          have HSN := Lib.hid hsn
          clear hsn
          cases s
          · have HA := Lib.hid (fault_At u6 n wr tv xv hv)
            clear hv
            go_wp2_with (go_at_call 26; refine HA.out.mono ?_; rintro e w' ⟨rfl, rfl⟩)
            go_roundw
            case rel => exact ⟨k + 1, by omega, by omega, by go_num, by have hq := HR.out.step hlt n false HSN.out; rw [World.setCell_alloc_past _ _ _ _ hsz] at hq; exact hq⟩
            case measure => simp [intOf]; omega
          · have HA := Lib.hid (fault_In u6 n wr tv xv hv)
            clear hv
            go_wp2_with (go_at_call 27; refine HA.out.mono ?_; rintro e w' ⟨rfl, rfl⟩)
            go_roundw
            case rel => exact ⟨k + 1, by omega, by omega, by go_num, by have hq := HR.out.step hlt n true HSN.out; rw [World.setCell_alloc_past _ _ _ _ hsz] at hq; exact hq⟩
            case measure => simp [intOf]; omega
        · have ek : l.take k = l.take 60 := by rw [show k = 60 by omega]
          have HE := Lib.hid ek
          obtain ⟨z0, z1, z2, y0, y1, y2⟩ := cells3 HR.out.res
          clear hv ek
          go_wp2_with fail
          go_region
          go_wp2_with fail
          refine bodyPost_ret (v := .tuple #[u6, fv 22 ((findW false (l.take k).reverse).getD 0) ((findW true (l.take k).reverse).getD 0)]) (by simp [results, Tryd.results21, go_sem, fv, z0, z1, z2]) rfl ?_
          refine ⟨u6, _, by (unfold wraps; rw [← HE.out] <;> rfl), ?_, ⟨?_, HR.out.bot.2⟩, (((HR.out.bel.setCell (by simp) _).setCell (by simp) _).setCell (by simp) _).drew⟩
          · unfold wraps
            rw [← HE.out]
            exact HR.out.chain.kept' (F := w.heap.size) (fun j _ hj => by rw [drew_heap, Below.heap_setCell _ _ _ _ hj, Below.heap_setCell _ _ _ _ hj, Below.heap_setCell _ _ _ _ hj]) ⟨_, HR.out.res⟩
          · exact plain_setCell (plain_setCell (plain_setCell HR.out.bot.1))
      · have ek : l.take k = l.take 60 := by rw [List.take_of_length_le (by omega), List.take_of_length_le (by omega)]
        have HE := Lib.hid ek
        obtain ⟨z0, z1, z2, y0, y1, y2⟩ := cells3 HR.out.res
        clear hv ek
        go_wp2_with fail
        go_region
        go_wp2_with fail
        refine bodyPost_ret (v := .tuple #[u6, fv 22 ((findW false (l.take k).reverse).getD 0) ((findW true (l.take k).reverse).getD 0)]) (by simp [results, Tryd.results21, go_sem, fv, z0, z1, z2]) rfl ?_
        refine ⟨u6, _, by (unfold wraps; rw [← HE.out] <;> rfl), ?_, ⟨?_, HR.out.bot.2⟩, (((HR.out.bel.setCell (by simp) _).setCell (by simp) _).setCell (by simp) _).drew⟩
        · unfold wraps
          rw [← HE.out]
          exact HR.out.chain.kept' (F := w.heap.size) (fun j _ hj => by rw [drew_heap, Below.heap_setCell _ _ _ _ hj, Below.heap_setCell _ _ _ _ hj, Below.heap_setCell _ _ _ _ hj]) ⟨_, HR.out.res⟩
        · exact plain_setCell (plain_setCell (plain_setCell HR.out.bot.1))
  · have e1 : decide (c < 0) = false := by simp; omega
    have e2 : decide (22 < c) = true := by simp; omega
    go_enter Tryd.func21, Tryd.ntmps21
    go_wp2_with (first | (go_at_call 23; refine HO.out.mono ?_; rintro e w' ⟨rfl, rfl⟩) | (go_at_call 28; refine HN.out.mono ?_; rintro e w' ⟨rfl, rfl⟩))
    go_loopw [6, 8] (fun v i wr => ∃ k : Nat, k ≤ l.length ∧ k ≤ 60 ∧ i = .int .i64 k ∧ Hid (RelB w A l 22 (⟨w.heap.size + 1 + 1, 0, none⟩) k v wr)) (fun _ i _ => l.length - (intOf i).toNat)
    case atStart => exact ⟨0, by omega, by omega, rfl, ST.out⟩
    case round =>
      obtain ⟨k, hk, h60, rfl, HR⟩ := hrel
      obtain ⟨tv, xv, hv⟩ := HR.out.chain.iface
      have hsz : w.heap.size + 1 < wr.heap.size := by have := HR.out.size; omega
      have hsz0 : w.heap.size < wr.heap.size := by omega
      obtain ⟨x0, x1, x2, v0, v1, v2⟩ := cells3 HR.out.flt
      by_cases hlt : k < l.length
      · obtain ⟨b0, off, rfl, hc0, hc1⟩ := HL.out.2.2 k hlt
        rcases Nat.lt_or_ge k 60 with hl60 | hl60
        · have d0 : wr.cell? ⟨b0, off + k * 2, none⟩ = some (.bool l[k].1) := (HR.out.bel.cell (World.block_lt_of_cell? w _ hc0)).trans hc0
          have d1 : wr.cell? ⟨b0, off + k * 2 + 1, none⟩ = some (.int .i64 l[k].2) := (HR.out.bel.cell (World.block_lt_of_cell? w _ hc1)).trans hc1
          have hb0 : b0 < wr.heap.size := World.block_lt_of_cell? wr _ d0
          clear hc0 hc1
          obtain ⟨s, n, hsn⟩ : ∃ s n, l[k] = (s, n) := ⟨_, _, rfl⟩
          rw [hsn] at d0 d1
          have HSN := Lib.hid hsn
          clear hsn
          cases s
          · have HA := Lib.hid (fault_At u6 n wr tv xv hv)
            clear hv
            go_wp2_with (go_at_call 26; refine HA.out.mono ?_; rintro e w' ⟨rfl, rfl⟩)
            go_roundw
            case rel => exact ⟨k + 1, by omega, by omega, by go_num, by have hq := HR.out.step hlt n false HSN.out; rw [World.setCell_alloc_past _ _ _ _ hsz] at hq; exact hq⟩
            case measure => simp [intOf]; omega
          · have HA := Lib.hid (fault_In u6 n wr tv xv hv)
            clear hv
            go_wp2_with (go_at_call 27; refine HA.out.mono ?_; rintro e w' ⟨rfl, rfl⟩)
            go_roundw
            case rel => exact ⟨k + 1, by omega, by omega, by go_num, by have hq := HR.out.step hlt n true HSN.out; rw [World.setCell_alloc_past _ _ _ _ hsz] at hq; exact hq⟩
            case measure => simp [intOf]; omega
        · have ek : l.take k = l.take 60 := by rw [show k = 60 by omega]
          have HE := Lib.hid ek
          obtain ⟨z0, z1, z2, y0, y1, y2⟩ := cells3 HR.out.res
          clear hv ek
          go_wp2_with fail
          go_region
          go_wp2_with fail
          refine bodyPost_ret (v := .tuple #[u6, fv 22 ((findW false (l.take k).reverse).getD 0) ((findW true (l.take k).reverse).getD 0)]) (by simp [results, Tryd.results21, go_sem, fv, z0, z1, z2]) rfl ?_
          refine ⟨u6, _, by (unfold wraps; rw [← HE.out] <;> rfl), ?_, ⟨?_, HR.out.bot.2⟩, (((HR.out.bel.setCell (by simp) _).setCell (by simp) _).setCell (by simp) _).drew⟩
          · unfold wraps
            rw [← HE.out]
            exact HR.out.chain.kept' (F := w.heap.size) (fun j _ hj => by rw [drew_heap, Below.heap_setCell _ _ _ _ hj, Below.heap_setCell _ _ _ _ hj, Below.heap_setCell _ _ _ _ hj]) ⟨_, HR.out.res⟩
          · exact plain_setCell (plain_setCell (plain_setCell HR.out.bot.1))
      · have ek : l.take k = l.take 60 := by rw [List.take_of_length_le (by omega), List.take_of_length_le (by omega)]
        have HE := Lib.hid ek
        obtain ⟨z0, z1, z2, y0, y1, y2⟩ := cells3 HR.out.res
        clear hv ek
        go_wp2_with fail
        go_region
        go_wp2_with fail
        refine bodyPost_ret (v := .tuple #[u6, fv 22 ((findW false (l.take k).reverse).getD 0) ((findW true (l.take k).reverse).getD 0)]) (by simp [results, Tryd.results21, go_sem, fv, z0, z1, z2]) rfl ?_
        refine ⟨u6, _, by (unfold wraps; rw [← HE.out] <;> rfl), ?_, ⟨?_, HR.out.bot.2⟩, (((HR.out.bel.setCell (by simp) _).setCell (by simp) _).setCell (by simp) _).drew⟩
        · unfold wraps
          rw [← HE.out]
          exact HR.out.chain.kept' (F := w.heap.size) (fun j _ hj => by rw [drew_heap, Below.heap_setCell _ _ _ _ hj, Below.heap_setCell _ _ _ _ hj, Below.heap_setCell _ _ _ _ hj]) ⟨_, HR.out.res⟩
        · exact plain_setCell (plain_setCell (plain_setCell HR.out.bot.1))
end Go.Proofs.YtkecmfjjekagiaaDoor
