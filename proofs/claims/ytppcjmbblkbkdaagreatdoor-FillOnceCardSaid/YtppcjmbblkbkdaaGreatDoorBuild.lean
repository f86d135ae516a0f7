/- The statements' own helpers on faults: awake, build. Conditions as typed. -/
import Derived.Test.YtppcjmbblkbkdaaGreatDoorTell
namespace Go.Proofs.YtppcjmbblkbkdaaGreatDoor
open Go.RowKit

theorem bottom_of (w : World) (A : Nat → Addr) (hS : Sents w A) (K : Nat) (h1 : 1 ≤ K) (h2 : K ≤ 21) : Bottom w A (A K) K :=
  ⟨hS.plain K h1 h2, h1, by omega, fun c c1 c2 => ⟨fun h => (hS.inj K c h1 h2 c1 c2 h).symm, fun h => by rw [h]⟩⟩

/-- The chain that build makes. -/
def wraps (l : List (Bool × Int)) : List (Bool × Int) := (l.take 60).reverse

theorem take_rev (l : List (Bool × Int)) (k : Nat) (h : k < l.length) : (l.take (k + 1)).reverse = l[k] :: (l.take k).reverse := by
  rw [List.take_succ_eq_append_getElem h]; simp

theorem drew_heap (w : World) : w.drew.heap = w.heap := rfl
theorem plain_setCell {w : World} {a p : Addr} {v : Value} (h : Plain w a) : Plain (w.setCell p v) a := by
  obtain ⟨c, t, h⟩ := h
  unfold Plain
  by_cases e : a.block = p.block
  · have hlt := lt_of_heap h
    have h' : w.heap[a.block] = .cells c t (0, 0) := by simpa [Array.getElem?_eq_getElem hlt] using h
    simp only [World.setCell, ← e]
    rw [Array.getElem?_eq_getElem (by simpa using hlt), Array.getElem_modify_self, h']
    exact ⟨_, _, rfl⟩
  · rw [Below.heap_setCell _ _ _ _ e]; exact ⟨c, t, h⟩
theorem heap_of_alloc {w : World} {o o' : Obj} {k : Nat} (h : w.heap[k]? = some o) : (w.alloc o').heap[k]? = some o := by
  rw [heap_alloc_old _ _ (lt_of_heap h)]; exact h

theorem Bottom.kept {w w' : World} {A : Nat → Addr} {b : Addr} {K B : Nat} (h : Bottom w A b K) (hb : Below B w w') (hB : w.heap.size ≤ B) : Bottom w' A b K :=
  ⟨h.1.kept hb hB, h.2⟩

theorem Chain.kept' {w w' : World} {b : Addr} {F : Nat} (hb : ∀ k, k < w.heap.size → k ≠ F → w'.heap[k]? = w.heap[k]?) (hF : ∃ c, w.heap[F]? = some (.cells c 35 (0, 0))) : ∀ {l : List (Bool × Int)} {v : Value}, Chain w b l v → Chain w' b l v
  | [], _, h => h
  | (s, _) :: _, _, ⟨k, u, h1, h2, h3⟩ => ⟨k, u, h1, by
      rw [hb k (lt_of_heap h2) ?_]; exact h2
      rintro rfl
      obtain ⟨c, hF⟩ := hF
      rw [hF] at h2
      cases s <;> simp [wS] at h2, h3.kept' hb hF⟩

end Go.Proofs.YtppcjmbblkbkdaaGreatDoor
