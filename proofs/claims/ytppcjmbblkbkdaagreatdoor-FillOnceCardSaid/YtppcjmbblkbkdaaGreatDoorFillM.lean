/- Plain facts on printing by formats, with no program in sight: what fill.Number, fill.Once, fill.Run and fill.Printf compute. No conditions. -/
import Derived.Test.YtppcjmbblkbkdaaGreatDoorForm
namespace Go.Proofs.YtppcjmbblkbkdaaGreatDoor
namespace Pg

/-- An operand's number, and its code. -/
def num (s : List UInt8) : Int × Nat :=
  if s.length = 0 then (0, 0)
  else if (s.getD 0 0).toNat = 39 ∨ (s.getD 0 0).toNat = 34 then
    (if s.length = 1 then (0, 0) else if 2 < s.length then (((s.getD 1 0).toNat : Int), 14) else (((s.getD 1 0).toNat : Int), 0))
  else if (s.getD 0 0).toNat = 45 then
    (if (const (s.drop 1)).2.2 = true then (-9223372036854775808, 6) else (-((const (s.drop 1)).1 : Int), if (const (s.drop 1)).2.1 = 0 ∨ (const (s.drop 1)).2.1 < (s.drop 1).length then 14 else 0))
  else if (s.getD 0 0).toNat = 43 then
    (((const (s.drop 1)).1 : Int), if (const (s.drop 1)).2.2 = true then 6 else if (const (s.drop 1)).2.1 = 0 ∨ (const (s.drop 1)).2.1 < (s.drop 1).length then 14 else 0)
  else (((const s).1 : Int), if (const s).2.2 = true then 6 else if (const s).2.1 = 0 ∨ (const s).2.1 < s.length then 14 else 0)

/-- What is to be printed, filled up to a width. -/
def filled (p : Part) (ahead body : List UInt8) (noughts : Bool) : List UInt8 :=
  if p.width ≤ ahead.length + body.length then ahead ++ body
  else if p.fl.minus = true then ahead ++ body ++ List.replicate (p.width - ahead.length - body.length) 32
  else if noughts = true then ahead ++ List.replicate (p.width - ahead.length - body.length) 48 ++ body
  else List.replicate (p.width - ahead.length - body.length) 32 ++ ahead ++ body

/-- An integer as an unsigned one of 64 bits. -/
def u64 (n : Int) : Nat := (n % 18446744073709551616).toNat

/-- What stands ahead of an integer's digits. -/
def ahead (p : Part) (n : Int) : List UInt8 :=
  if p.conv = 100 then (if n < 0 then [45] else if p.fl.plus = true then [43] else if p.fl.space = true then [32] else [])
  else if (p.conv = 120 ∨ p.conv = 88) ∧ p.fl.alt = true ∧ n ≠ 0 then [48, UInt8.ofNat p.conv] else []
/-- Its digits' base. -/
def baseOf (p : Part) : Nat := if p.conv = 111 then 8 else if p.conv = 120 ∨ p.conv = 88 then 16 else 10
/-- Its digits. -/
def body0 (p : Part) (n : Int) : List UInt8 :=
  if n = 0 then [] else digs (baseOf p) (p.conv == 88) (if p.conv = 100 ∧ n < 0 then (-n).toNat else u64 n)
def body1 (p : Part) (n : Int) : List UInt8 := List.replicate ((if p.prec < 0 then 1 else p.prec.toNat) - (body0 p n).length) 48 ++ body0 p n
def body2 (p : Part) (n : Int) : List UInt8 := if p.conv = 111 ∧ p.fl.alt = true ∧ (body1 p n).head? ≠ some 48 then 48 :: body1 p n else body1 p n
def integer (p : Part) (n : Int) : List UInt8 := filled p (ahead p n) (body2 p n) (p.fl.zero && decide (p.prec < 0))

/-- An operand with its escapes put in, from a place on. -/
def unescF : Nat → List UInt8 → Nat → List UInt8 → List UInt8 × Bool
  | 0, _, _, acc => (acc, false)
  | n + 1, b, i, acc =>
    if i < b.length then
      if (b.getD i 0).toNat = 92 then
        if i + 1 < b.length ∧ (b.getD (i + 1) 0).toNat = 99 then (acc, true)
        else if i + 1 < b.length ∧ (b.getD (i + 1) 0).toNat = 48 then
          unescF n b (i + ((digits 8 ((b.drop (i + 2)).take 3)).2.1 + 1) + 1) (acc ++ [UInt8.ofNat (digits 8 ((b.drop (i + 2)).take 3)).1])
        else if (esc (b.drop (i + 1))).2 = 0 then unescF n b (i + 1) (acc ++ [92])
        else unescF n b (i + (esc (b.drop (i + 1))).2 + 1) (acc ++ [(esc (b.drop (i + 1))).1])
      else unescF n b (i + 1) (acc ++ [b.getD i 0])
    else (acc, false)
def unesc (b : List UInt8) : List UInt8 × Bool := unescF b.length b 0 []

/-- What printf tells. -/
structure Out where
  out : List UInt8
  codes : List Nat
  stop : Bool
deriving DecidableEq

def cut (p : Part) (s : List UInt8) : List UInt8 := if 0 ≤ p.prec ∧ p.prec < s.length then s.take p.prec.toNat else s
/-- One conversion of an operand: what is to be printed, whether printing stops behind it, what is wrong. -/
def one (p : Part) (s : List UInt8) : List UInt8 × Bool × Nat :=
  if p.conv = 99 then (filled p [] (s.take 1) false, false, 0)
  else if p.conv = 115 then (filled p [] (cut p s) false, false, 0)
  else if p.conv = 98 then (filled p [] (cut p (unesc s).1) false, (unesc s).2, 0)
  else (integer p (num s).1, false, (num s).2)

def room : Nat := 65536
/-- Bytes are put behind: true: there was room. -/
def put (r : Out) (s : List UInt8) : Out × Bool :=
  if r.out.length + s.length ≤ room then ({ r with out := r.out ++ s }, true) else (⟨r.out ++ s.take (room - r.out.length), r.codes ++ [19], r.stop⟩, false)

/-- One pass through the parts: what is told, how many operands were taken, whether it goes on. -/
def once : List Part → List (List UInt8) → Out → Nat → Out × Nat × Bool
  | [], _, r, t => (r, t, true)
  | p :: L, ops, r, t =>
    if p.conv = 0 then
      (if (put r p.lit).2 = true then once L ops (put r p.lit).1 t else ((put r p.lit).1, t, false))
    else
      let s := ops.getD t []
      let t' := if t < ops.length then t + 1 else t
      let x := one p s
      let r1 : Out := if x.2.2 = 0 then r else { r with codes := r.codes ++ [x.2.2] }
      let q := put r1 x.1
      if q.2 = false then (q.1, t', false)
      else if x.2.1 = true then ({ q.1 with stop := true }, t', false)
      else once L ops q.1 t'

/-- Again and again. -/
def runF : Nat → List Part → List (List UInt8) → Out → Out
  | 0, _, _, r => r
  | n + 1, L, ops, r =>
    let x := once L ops r 0
    if x.2.2 = false ∨ (ops.drop x.2.1).length = 0 ∨ x.2.1 = 0 then x.1 else runF n L (ops.drop x.2.1) x.1

/-- The place of the first operand that is too long. -/
def tooLong : List (List UInt8) → Nat → Option Nat
  | [], _ => none
  | s :: t, i => if 1024 < s.length then some i else tooLong t (i + 1)

def run (L : List Part) (ops : List (List UInt8)) : Except (Nat × Nat) Out :=
  if 64 < ops.length then .error (5, 0)
  else match tooLong ops 0 with
    | some i => .error (2, i)
    | none => .ok (runF (ops.length + 1) L ops ⟨[], [], false⟩)

def printf (format : List UInt8) (ops : List (List UInt8)) : Except (Nat × Nat) Out :=
  match parse format with
  | .error e => .error e
  | .ok L => run L ops

/-! ### Closed facts -/
theorem awake14 : parse [97, 37, 45, 53, 46, 51, 100, 37, 37] = .ok [litPart [97], ⟨[], 100, ⟨true, false, false, false, false⟩, 5, 3⟩, litPart [37]] := by rfl
theorem awake14t : text [litPart [97], ⟨[], 100, ⟨true, false, false, false, false⟩, 5, 3⟩, litPart [37]] = [34, 54, 49, 34, 32, 37, 45, 53, 46, 51, 100, 32, 34, 50, 53, 34] := by rfl
theorem awake15 : printf [37, 48, 53, 100, 124, 37, 115] [[45, 52, 50], [97]] = .ok ⟨[45, 48, 48, 52, 50, 124, 97], [], false⟩ := by rfl
end Pg
end Go.Proofs.YtppcjmbblkbkdaaGreatDoor
