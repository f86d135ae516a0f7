/- Plain facts for pidginlaw14.ShapeFlags: turned flags, and those behind, give the same parts or the same code. Conditions as typed. -/
import Derived.Test.YtkecmfjjekagiaaDoorPlain
namespace Go.Proofs.YtkecmfjjekagiaaDoor
namespace Pg

theorem flags_law (l R : List UInt8) (h : ∀ c ∈ l, isFl c.toNat = true) (hl : l.length ≤ 30) (hR : R.length ≤ 100) :
    (∃ P, parse (37 :: (l ++ R)) = .ok P ∧ parse (37 :: (l.reverse ++ (l ++ R))) = .ok P) ∨ ∃ c p q, parse (37 :: (l ++ R)) = .error (c, p) ∧ parse (37 :: (l.reverse ++ (l ++ R))) = .error (c, q) := by
  have e := parse_turned l R h hl hR
  cases hX : parse (37 :: (l ++ R)) with
  | ok P =>
    rw [hX] at e
    exact .inl ⟨P, rfl, code_ok e⟩
  | error cp =>
    obtain ⟨c, p⟩ := cp
    rw [hX] at e
    obtain ⟨q, hq⟩ := code_err e
    exact .inr ⟨c, p, q, rfl, hq⟩
end Pg
end Go.Proofs.YtkecmfjjekagiaaDoor
