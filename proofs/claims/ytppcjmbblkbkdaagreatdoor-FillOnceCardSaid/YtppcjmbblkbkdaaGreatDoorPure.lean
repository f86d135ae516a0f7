/- Plain facts on numbers, digits and lists of bytes, with no program in sight: what scan.Digits, scan.Const, scan.Base and fill.Number compute. No conditions. -/
namespace Go.Proofs.YtppcjmbblkbkdaaGreatDoor
namespace Pg

/-- A byte's value as a digit; 16: none. -/
def dig (x : UInt8) : Nat :=
  if 65 ≤ x.toNat ∧ x.toNat ≤ 70 then x.toNat - 55 else if 97 ≤ x.toNat ∧ x.toNat ≤ 102 then x.toNat - 87 else if 48 ≤ x.toNat ∧ x.toNat ≤ 57 then x.toNat - 48 else 16

theorem dig_le (x : UInt8) : dig x ≤ 16 := by
  unfold dig; have := x.toNat_lt; split
  · omega
  · split
    · omega
    · split <;> omega

theorem dig_cases (x : UInt8) : (65 ≤ x.toNat ∧ x.toNat ≤ 70 ∧ dig x = x.toNat - 55) ∨ (97 ≤ x.toNat ∧ x.toNat ≤ 102 ∧ dig x = x.toNat - 87) ∨ (48 ≤ x.toNat ∧ x.toNat ≤ 57 ∧ dig x = x.toNat - 48) ∨
    ((x.toNat < 48 ∨ (57 < x.toNat ∧ x.toNat < 65) ∨ (70 < x.toNat ∧ x.toNat < 97) ∨ 102 < x.toNat) ∧ dig x = 16) := by
  unfold dig
  split
  · omega
  · split
    · omega
    · split <;> omega

def maxI : Nat := 9223372036854775807

/-- The digits at the front: number, how many, too great. -/
def digitsL (base : Nat) : List UInt8 → Nat → Nat → Bool → Nat × Nat × Bool
  | [], n, k, o => (n, k, o)
  | c :: t, n, k, o =>
    if dig c < base then
      if o = true ∨ (maxI - dig c) / base < n then digitsL base t maxI (k + 1) true
      else digitsL base t (n * base + dig c) (k + 1) false
    else (n, k, o)

def digits (base : Nat) (l : List UInt8) : Nat × Nat × Bool := digitsL base l 0 0 false

theorem digitsL_yes (base : Nat) (l : List UInt8) (k n : Nat) (o : Bool) (h : k < l.length) (hd : dig l[k] < base) :
    digitsL base (l.drop k) n k o = if o = true ∨ (maxI - dig l[k]) / base < n then digitsL base (l.drop (k + 1)) maxI (k + 1) true else digitsL base (l.drop (k + 1)) (n * base + dig l[k]) (k + 1) false := by
  rw [List.drop_eq_getElem_cons h, digitsL, if_pos hd]
theorem digitsL_over (base : Nat) (l : List UInt8) (k n : Nat) (o : Bool) (h : k < l.length) (hd : dig l[k] < base) (ho : o = true ∨ (maxI - dig l[k]) / base < n) :
    digitsL base (l.drop k) n k o = digitsL base (l.drop (k + 1)) maxI (k + 1) true := by
  rw [digitsL_yes base l k n o h hd, if_pos ho]
theorem digitsL_on (base : Nat) (l : List UInt8) (k n : Nat) (h : k < l.length) (hd : dig l[k] < base) (ho : n ≤ (maxI - dig l[k]) / base) :
    digitsL base (l.drop k) n k false = digitsL base (l.drop (k + 1)) (n * base + dig l[k]) (k + 1) false := by
  rw [digitsL_yes base l k n false h hd, if_neg (by simp; omega)]
theorem digitsL_no (base : Nat) (l : List UInt8) (k n : Nat) (o : Bool) (h : k < l.length) (hd : ¬ dig l[k] < base) :
    digitsL base (l.drop k) n k o = (n, k, o) := by
  rw [List.drop_eq_getElem_cons h, digitsL, if_neg hd]
theorem digitsL_end (base : Nat) (l : List UInt8) (k n : Nat) (o : Bool) (h : l.length ≤ k) : digitsL base (l.drop k) n k o = (n, k, o) := by
  rw [List.drop_eq_nil_of_le h]; rfl

theorem quo_cast (d b : Nat) (hd : d ≤ 16) : (9223372036854775807 - (d : Int)) / (b : Int) = (((maxI - d) / b : Nat) : Int) := by
  rw [Int.natCast_ediv, show ((maxI - d : Nat) : Int) = 9223372036854775807 - (d : Int) by unfold maxI; omega]
theorem over_of {n d b : Nat} (hd : d ≤ 16) (h : (9223372036854775807 - (d : Int)) / (b : Int) < (n : Int)) : (maxI - d) / b < n := by
  rw [quo_cast d b hd] at h; omega
theorem on_of {n d b : Nat} (hd : d ≤ 16) (h : (n : Int) ≤ (9223372036854775807 - (d : Int)) / (b : Int)) : n ≤ (maxI - d) / b := by
  rw [quo_cast d b hd] at h; omega
theorem on_le {n d b : Nat} (hd : d ≤ 16) (hb : 0 < b) (h : n ≤ (maxI - d) / b) : n * b + d ≤ 9223372036854775807 := by
  have := (Nat.le_div_iff_mul_le hb).1 h
  unfold maxI at this; omega

theorem digitsL_le (base : Nat) (hb : 0 < base) (l : List UInt8) : ∀ n k o, n ≤ 9223372036854775807 → (digitsL base l n k o).1 ≤ 9223372036854775807 ∧ k ≤ (digitsL base l n k o).2.1 ∧ (digitsL base l n k o).2.1 ≤ k + l.length := by
  induction l with
  | nil => intro n k o h; exact ⟨h, Nat.le_refl _, Nat.le_refl _⟩
  | cons c t ih =>
    intro n k o h
    unfold digitsL
    split
    · split
      · have := ih maxI (k + 1) true (by unfold maxI; omega)
        simp only [List.length_cons]; omega
      · rename_i h2
        have := ih (n * base + dig c) (k + 1) false (on_le (dig_le c) hb (by simp at h2; omega))
        simp only [List.length_cons]; omega
    · simp only [List.length_cons]; omega
theorem digits_le (base : Nat) (hb : 0 < base) (l : List UInt8) : (digits base l).1 ≤ 9223372036854775807 ∧ (digits base l).2.1 ≤ l.length := by
  have := digitsL_le base hb l 0 0 false (by omega)
  unfold digits; omega

/-- A constant at the front of bytes, as C writes it. -/
def const (l : List UInt8) : Nat × Nat × Bool :=
  if l.length = 0 then (0, 0, false)
  else if (l.getD 0 0).toNat < 48 ∨ 57 < (l.getD 0 0).toNat then (0, 0, false)
  else if (l.getD 0 0).toNat ≠ 48 then digits 10 l
  else if 1 < l.length ∧ ((l.getD 1 0).toNat = 120 ∨ (l.getD 1 0).toNat = 88) ∧ 0 < (digits 16 (l.drop 2)).2.1 then
    ((digits 16 (l.drop 2)).1, (digits 16 (l.drop 2)).2.1 + 2, (digits 16 (l.drop 2)).2.2)
  else digits 8 l

theorem const_le (l : List UInt8) : (const l).1 ≤ 9223372036854775807 ∧ (const l).2.1 ≤ l.length := by
  have h1 := digits_le 10 (by omega) l
  have h2 := digits_le 16 (by omega) (l.drop 2)
  have h3 := digits_le 8 (by omega) l
  unfold const
  split
  · exact ⟨Nat.zero_le _, Nat.zero_le _⟩
  · split
    · exact ⟨Nat.zero_le _, Nat.zero_le _⟩
    · split
      · exact h1
      · split
        · simp only [List.length_drop] at h2; refine ⟨h2.1, ?_⟩; simp only []; omega
        · exact h3
end Pg
end Go.Proofs.YtppcjmbblkbkdaaGreatDoor
