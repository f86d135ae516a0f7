/- Plain facts on formats of printf, with no program in sight: what shape.Escape, shape.Parse and shape.Text compute. No conditions. -/
import Derived.Test.YtppcjmbblkbkdaaGreatDoorPure
namespace Go.Proofs.YtppcjmbblkbkdaaGreatDoor
namespace Pg

/-- The byte of an escape of one letter; 0: none. -/
def escOf (c : Nat) : Nat :=
  if c = 92 then 92 else if c = 97 then 7 else if c = 98 then 8 else if c = 102 then 12 else if c = 110 then 10 else if c = 114 then 13 else if c = 116 then 9 else if c = 118 then 11 else 0

/-- The escape behind whose backslash these bytes stand: its byte, how many bytes. -/
def esc (l : List UInt8) : UInt8 × Nat :=
  if l.length = 0 then (0, 0)
  else if escOf (l.getD 0 0).toNat = 0 then (UInt8.ofNat (digits 8 (l.take 3)).1, (digits 8 (l.take 3)).2.1)
  else (UInt8.ofNat (escOf (l.getD 0 0).toNat), 1)

/-- The flags of a conversion. -/
structure Fl where
  minus : Bool
  plus : Bool
  space : Bool
  zero : Bool
  alt : Bool
deriving DecidableEq

def fl0 : Fl := ⟨false, false, false, false, false⟩
/-- A byte is a flag. -/
def isFl (c : Nat) : Bool := c == 45 || c == 43 || c == 32 || c == 48 || c == 35
def Fl.set (f : Fl) (c : Nat) : Fl :=
  if c = 45 then { f with minus := true } else if c = 43 then { f with plus := true } else if c = 32 then { f with space := true } else if c = 48 then { f with zero := true } else { f with alt := true }
def flags : List UInt8 → Fl → Nat → Fl × Nat
  | [], f, k => (f, k)
  | c :: t, f, k => if isFl c.toNat = true then flags t (f.set c.toNat) (k + 1) else (f, k)

/-- A piece of a format. -/
structure Part where
  lit : List UInt8
  conv : Nat
  fl : Fl
  width : Nat
  prec : Int
deriving DecidableEq

def number (l : List UInt8) : Option (Nat × Nat) := if (digits 10 l).2.2 = true ∨ 1000 < (digits 10 l).1 then none else some ((digits 10 l).1, (digits 10 l).2.1)

/-- A letter of a conversion. -/
def isConv (c : Nat) : Bool := c == 99 || c == 115 || c == 98 || c == 100 || c == 111 || c == 117 || c == 120 || c == 88

/-- The end of a conversion: its letter at a place, behind flags from another. -/
def convEnd (b : List UInt8) (start : Nat) (f : Fl) (width : Nat) (prec : Int) (i : Nat) : Except (Nat × Nat) (Part × Nat) :=
  if b.length ≤ i then .error (3, b.length)
  else if (b.getD i 0).toNat = 37 then (if start < i then .error (3, i) else .ok (⟨[], 37, f, width, prec⟩, i + 1))
  else if isConv (b.getD i 0).toNat = true then .ok (⟨[], (b.getD i 0).toNat, f, width, prec⟩, i + 1)
  else if (b.getD i 0).toNat = 105 then .ok (⟨[], 100, f, width, prec⟩, i + 1)
  else .error (3, i)

/-- .. from its precision on. -/
def convPrec (b : List UInt8) (start : Nat) (f : Fl) (width : Nat) (i : Nat) : Except (Nat × Nat) (Part × Nat) :=
  if i < b.length ∧ (b.getD i 0).toNat = 46 then
    match number (b.drop (i + 1)) with
    | none => .error (6, i + 1)
    | some (n, k) => convEnd b start f width n (i + 1 + k)
  else convEnd b start f width (-1) i

/-- .. from its width on. -/
def convWidth (b : List UInt8) (start : Nat) (f : Fl) (i : Nat) : Except (Nat × Nat) (Part × Nat) :=
  match number (b.drop i) with
  | none => .error (6, i)
  | some (n, k) => convPrec b start f n (i + k)

/-- A conversion that begins, behind its percent, at a place. -/
def conv (b : List UInt8) (i : Nat) : Except (Nat × Nat) (Part × Nat) := convWidth b i (flags (b.drop i) fl0 0).1 (i + (flags (b.drop i) fl0 0).2)

def litPart (l : List UInt8) : Part := ⟨l, 0, fl0, 0, -1⟩
/-- Parts that are done, and the bytes of the one under way. -/
def render (L : List Part) (lit : List UInt8) : List Part := if lit.length = 0 then L else L ++ [litPart lit]

/-- A format's parts, from a place on. -/
def parseF : Nat → List UInt8 → Nat → List Part → List UInt8 → Except (Nat × Nat) (List Part)
  | 0, _, _, L, lit => .ok (render L lit)
  | n + 1, b, i, L, lit =>
    if i < b.length then
      if (b.getD i 0).toNat = 92 then
        if (esc (b.drop (i + 1))).2 = 0 then .error (10, i) else parseF n b (i + ((esc (b.drop (i + 1))).2 + 1)) L (lit ++ [(esc (b.drop (i + 1))).1])
      else if (b.getD i 0).toNat = 37 then
        match conv b (i + 1) with
        | .error e => .error e
        | .ok (p, j) => if p.conv = 37 then parseF n b j L (lit ++ [37]) else parseF n b j (render L lit ++ [p]) []
      else parseF n b (i + 1) L (lit ++ [b.getD i 0])
    else .ok (render L lit)

def parse (b : List UInt8) : Except (Nat × Nat) (List Part) := if 1024 < b.length then .error (2, 0) else parseF b.length b 0 [] []

def wants (L : List Part) : Nat := (L.filter fun p => p.conv != 0).length

/-- A digit's sign. -/
def sign (upper : Bool) (d : Nat) : UInt8 := UInt8.ofNat (if d < 10 then 48 + d else if upper then 55 + d else 87 + d)
/-- The digits of a number to a base. -/
def digsF : Nat → Nat → Bool → Nat → List UInt8 → List UInt8
  | 0, _, _, _, acc => acc
  | f + 1, base, up, n, acc => if n / base = 0 then sign up (n % base) :: acc else digsF f base up (n / base) (sign up (n % base) :: acc)
def digs (base : Nat) (up : Bool) (n : Nat) : List UInt8 := digsF 64 base up n []

def hex (c : UInt8) : List UInt8 := [sign false (c.toNat / 16), sign false (c.toNat % 16)]
def flText (f : Fl) : List UInt8 := (if f.minus then [45] else []) ++ (if f.plus then [43] else []) ++ (if f.space then [32] else []) ++ (if f.zero then [48] else []) ++ (if f.alt then [35] else [])
def partText (p : Part) : List UInt8 :=
  if p.conv = 0 then 34 :: (p.lit.flatMap hex ++ [34])
  else 37 :: (flText p.fl ++ (if 0 < p.width then digs 10 false p.width else []) ++ (if 0 ≤ p.prec then 46 :: digs 10 false p.prec.toNat else []) ++ [UInt8.ofNat p.conv])
def text : List Part → List UInt8
  | [] => []
  | [p] => partText p
  | p :: q :: t => partText p ++ 32 :: text (q :: t)

theorem flags_le (l : List UInt8) : ∀ f k, k ≤ (flags l f k).2 ∧ (flags l f k).2 ≤ k + l.length := by
  induction l with
  | nil => intro f k; exact ⟨Nat.le_refl _, Nat.le_refl _⟩
  | cons c t ih =>
    intro f k
    unfold flags
    split
    · have := ih (f.set c.toNat) (k + 1); simp only [List.length_cons]; omega
    · simp only [List.length_cons]; omega
theorem flags_yes (l : List UInt8) (f : Fl) (k : Nat) (i : Nat) (h : i < l.length) (hc : isFl l[i].toNat = true) : flags (l.drop i) f k = flags (l.drop (i + 1)) (f.set l[i].toNat) (k + 1) := by
  rw [List.drop_eq_getElem_cons h, flags, if_pos hc]
theorem flags_no (l : List UInt8) (f : Fl) (k : Nat) (i : Nat) (h : i < l.length) (hc : isFl l[i].toNat = false) : flags (l.drop i) f k = (f, k) := by
  rw [List.drop_eq_getElem_cons h, flags, if_neg (by simp [hc])]
theorem flags_end (l : List UInt8) (f : Fl) (k : Nat) (i : Nat) (h : l.length ≤ i) : flags (l.drop i) f k = (f, k) := by
  rw [List.drop_eq_nil_of_le h]; rfl
theorem number_le {l : List UInt8} {n k : Nat} (h : number l = some (n, k)) : n ≤ 1000 ∧ k ≤ l.length := by
  unfold number at h
  split at h
  · cases h
  · have := digits_le 10 (by omega) l
    simp only [Option.some.injEq, Prod.mk.injEq] at h
    omega
end Pg
end Go.Proofs.YtppcjmbblkbkdaaGreatDoor
