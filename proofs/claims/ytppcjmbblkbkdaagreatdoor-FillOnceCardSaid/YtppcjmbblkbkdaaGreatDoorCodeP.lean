/- Plain facts: an error of shape.Parse has a code. Conditions as typed. -/
import Derived.Test.YtppcjmbblkbkdaaGreatDoorForm
namespace Go.Proofs.YtppcjmbblkbkdaaGreatDoor
namespace Pg

theorem conv_code {l : List UInt8} {i c q : Nat} (h : conv l i = .error (c, q)) : c ≠ 0 := by
  have hend : ∀ f n pr i2, convEnd l i f n pr i2 = .error (c, q) → c ≠ 0 := by
    intro f n pr i2 h
    unfold convEnd at h
    split at h
    · cases h; decide
    · split at h
      · split at h
        · cases h; decide
        · cases h
      · split at h
        · cases h
        · split at h
          · cases h
          · cases h; decide
  have hprec : ∀ f n i2, convPrec l i f n i2 = .error (c, q) → c ≠ 0 := by
    intro f n i2 h
    unfold convPrec at h
    split at h
    · cases hn : number (l.drop (i2 + 1)) with
      | none => rw [hn] at h; cases h; decide
      | some nk => rw [hn] at h; exact hend _ _ _ _ h
    · exact hend _ _ _ _ h
  unfold conv convWidth at h
  cases hn : number (l.drop (i + (flags (l.drop i) fl0 0).2)) with
  | none => rw [hn] at h; cases h; decide
  | some nk => rw [hn] at h; exact hprec _ _ _ h
theorem parseF_code : ∀ (n : Nat) {l : List UInt8} {i : Nat} {L : List Part} {lit : List UInt8} {c q : Nat}, parseF n l i L lit = .error (c, q) → c ≠ 0
  | 0, l, i, L, lit, c, q, h => by cases h
  | n + 1, l, i, L, lit, c, q, h => by
    unfold parseF at h
    split at h
    · split at h
      · split at h
        · cases h; decide
        · exact parseF_code n h
      · split at h
        · cases hc : conv l (i + 1) with
          | error e =>
            obtain ⟨c', q'⟩ := e
            rw [hc] at h
            cases h
            exact conv_code hc
          | ok pj =>
            obtain ⟨p, j⟩ := pj
            rw [hc] at h
            simp only [] at h
            split at h
            · exact parseF_code n h
            · exact parseF_code n h
        · exact parseF_code n h
    · cases h
theorem parse_code {l : List UInt8} {c q : Nat} (h : parse l = .error (c, q)) : c ≠ 0 := by
  unfold parse at h
  split at h
  · cases h; decide
  · exact parseF_code _ h
end Pg
end Go.Proofs.YtppcjmbblkbkdaaGreatDoor
