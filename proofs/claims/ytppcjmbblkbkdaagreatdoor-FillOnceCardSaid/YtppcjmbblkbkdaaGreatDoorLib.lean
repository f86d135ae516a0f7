/- Words on memory that the walks share: a slice that reads as a list of bytes, and small laws on it. No conditions. -/
import Derived.WalkKit
import Derived.Lib.Hide
import Derived.Test.YtppcjmbblkbkdaaGreatDoorPure
namespace Go.Proofs.YtppcjmbblkbkdaaGreatDoor
open Go.RowKit

theorem ret_i {k : IntKind} {a b : Int} (h : a = b) : Ending.returned (.int k a) = .returned (.int k b) := by rw [h]
theorem val_i {k : IntKind} {a b : Int} (h : a = b) : Value.int k a = .int k b := by rw [h]

/-- The slice (a, l.length, cap) reads as the bytes l. -/
def Bs (w : World) (a : Option Addr) (cap : Nat) (l : List UInt8) : Prop :=
  l.length ≤ cap ∧ cap ≤ maxLen ∧ ∀ i (h : i < l.length), ∃ b off, a = some ⟨b, off, none⟩ ∧ w.cell? ⟨b, off + i, none⟩ = some (.int .u8 l[i].toNat)
end Go.Proofs.YtppcjmbblkbkdaaGreatDoor
