/- Plain laws of the reference's text of a format: the two ways to write a number are one; a text with one part more. Conditions as typed. -/
import Derived.Test.YtppcjmbblkbkdaaDoorFText
import Derived.Lib.ItoaMem
namespace Go.Proofs.YtppcjmbblkbkdaaDoor
open Go.RowKit Pg

theorem digsF_dec : ∀ (f n : Nat) (acc : List UInt8), n < 10 ^ f → 0 < f → digsF f 10 false n acc = Lib.decDigits n ++ acc
  | 0, _, _, _, h => absurd h (by omega)
  | f + 1, n, acc, hn, _ => by
    unfold digsF
    by_cases h : n / 10 = 0
    · have h10 : n < 10 := by omega
      rw [if_pos h, Lib.decDigits, dif_pos h10]
      show sign false (n % 10) :: acc = _
      rw [Nat.mod_eq_of_lt h10]
      unfold sign
      rw [if_pos h10]
      rfl
    · have h10 : ¬ n < 10 := by omega
      have hf : 0 < f := by
        rcases Nat.eq_zero_or_pos f with rfl | hf
        · simp at hn; omega
        · exact hf
      have hlt : n / 10 < 10 ^ f := by
        rw [Nat.pow_succ] at hn
        omega
      rw [if_neg h, digsF_dec f (n / 10) _ hlt hf]
      conv => rhs; rw [Lib.decDigits, dif_neg h10]
      have hm : n % 10 < 10 := Nat.mod_lt _ (by omega)
      unfold sign
      rw [if_pos hm, List.append_assoc]
      rfl
theorem itoa_digs (n : Nat) (h : n < 9223372036854775808) : Lib.itoa (n : Int) = digs 10 false n := by
  rw [Lib.itoa_nonneg]
  unfold digs
  rw [digsF_dec 64 n [] (by have : (10 : Nat) ^ 64 > 9223372036854775808 := by decide
                            omega) (by omega), List.append_nil]

theorem text_snoc : ∀ (Q : List Part) (p : Part), text (Q ++ [p]) = (if Q.length = 0 then [] else text Q ++ [32]) ++ partText p
  | [], p => rfl
  | [q], p => by simp [text]
  | q :: q2 :: t, p => by
    have ih := text_snoc (q2 :: t) p
    rw [if_neg (by simp)] at ih ⊢
    rw [text_cons]
    show partText q ++ 32 :: text (q2 :: t ++ [p]) = _
    rw [ih]
    simp
theorem partText_norm (p : Part) : partText (norm p) = partText p := by
  unfold norm
  split
  · next h => unfold partText; simp [h]
  · rfl
theorem text_norm : ∀ (P : List Part), text (P.map norm) = text P
  | [] => rfl
  | [p] => partText_norm p
  | p :: q :: t => by
    have ih := text_norm (q :: t)
    show partText (norm p) ++ 32 :: text ((q :: t).map norm) = _
    rw [ih, partText_norm, text_cons]
end Go.Proofs.YtppcjmbblkbkdaaDoor
