/- The walks of scan.Const, shape.Escape. Conditions as typed. -/
import Derived.Test.YtppcjmbblkbkdaaDoorScan
import Derived.Test.YtppcjmbblkbkdaaDoorWords
import Derived.Test.YtppcjmbblkbkdaaDoorFillM
import Derived.Test.YtppcjmbblkbkdaaDoorShelf
namespace Go.Proofs.YtppcjmbblkbkdaaDoor
open Go.RowKit Pg

theorem u8_size (w : World) : (sizeOf 5).run Tryd.prog w = .ok 1 w := by kernel_rfl
theorem Bs.head {w : World} {a : Option Addr} {cap : Nat} {l : List UInt8} (h : Bs w a cap l) (i : Nat) (hi : i < l.length) : ∃ b off, a = some ⟨b, off, none⟩ ∧ w.cell? ⟨b, off + i, none⟩ = some (.int .u8 (l.getD i 0).toNat) := by
  obtain ⟨b, off, ha, hc⟩ := h.2.2 i hi
  exact ⟨b, off, ha, by rw [hc]; simp [hi]⟩

/-- scan.Digits of what is left behind a place; of the first bytes. -/
theorem scan_Digits_cut (a : Option Addr) (cap : Nat) (l : List UInt8) (base : Nat) (h0 : 2 ≤ base) (h1 : base ≤ 16) (w : World) (hl : Bs w a cap l) (k : Nat) (hk : k ≤ l.length) :
    Calls Tryd.prog 40 #[.slice (cutA a cap k) (l.length - k) (cap - k), .int .i64 base] w fun e w' => e = .returned (.tuple #[.int .i64 (digits base (l.drop k)).1, .int .i64 (digits base (l.drop k)).2.1, .bool (digits base (l.drop k)).2.2]) ∧ w = w' := by
  have := scan_Digits (cutA a cap k) (cap - k) (l.drop k) base h0 h1 w (hl.cut k hk)
  rwa [List.length_drop] at this
theorem scan_Digits_take (a : Option Addr) (cap : Nat) (l : List UInt8) (base : Nat) (h0 : 2 ≤ base) (h1 : base ≤ 16) (w : World) (hl : Bs w a cap l) (k : Nat) (hk : k ≤ l.length) :
    Calls Tryd.prog 40 #[.slice a k cap, .int .i64 base] w fun e w' => e = .returned (.tuple #[.int .i64 (digits base (l.take k)).1, .int .i64 (digits base (l.take k)).2.1, .bool (digits base (l.take k)).2.2]) ∧ w = w' := by
  have := scan_Digits a cap (l.take k) base h0 h1 w (hl.take k)
  rwa [List.length_take, Nat.min_eq_left hk] at this
end Go.Proofs.YtppcjmbblkbkdaaDoor
