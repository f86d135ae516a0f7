/- Conversions of strings, texts of numbers, a row of strings: what the walks of FillGreat and FillIntegers share. Conditions as typed. -/
import Derived.Test.YtppcjmbblkbkdaaGreatDoorPrintsP
namespace Go.Proofs.YtppcjmbblkbkdaaGreatDoor
open Go.RowKit Pg

/-- A string as bytes. -/
theorem conv_bytes (W : World) (S : ByteArray) (hz : S.size ≤ maxLen) :
    ∃ X gc, (convert 9 25 (.string S)).run Tryz.prog W = .ok (.slice (some ⟨W.heap.size, 0, none⟩) S.size gc) X ∧ Bs X (some ⟨W.heap.size, 0, none⟩) gc (bl S) ∧ Below W.heap.size W X :=
  ⟨_, _, Lib.run_convert_string_bytes (P := Tryz.prog) W 9 25 5 S Tryz.underlying9 Tryz.underlying25 Tryz.underlying5, bytes_bs W S hz, bytes_below W S⟩
theorem text_size (n : Nat) (W : World) (hn : n < 9223372036854775808) :
    Calls Tryz.prog 6 #[.int .i64 n] W fun e w' => ∃ D : ByteArray, D.size ≤ 65 ∧ e = .returned (.string D) ∧ Below W.heap.size W w' :=
  (ref_Text_nat n W hn).mono fun e w' ⟨h1, h2⟩ => ⟨_, by show (digs 10 false n).toArray.size ≤ 65; rw [List.size_toArray]; have := digs_length 10 false n; omega, h1, h2⟩
theorem text_any (z : Int) (W : World) (h1 : -9223372036854775808 ≤ z) (h2 : z ≤ 9223372036854775807) :
    Calls Tryz.prog 6 #[.int .i64 z] W fun e w' => ∃ D : ByteArray, D.size ≤ 65 ∧ e = .returned (.string D) ∧ Below W.heap.size W w' := by
  rcases Int.lt_or_le z 0 with h | h
  · obtain ⟨k, rfl⟩ : ∃ k : Nat, z = -(k : Int) := ⟨(-z).toNat, by omega⟩
    exact (ref_Text_neg k W (by omega) (by omega)).mono fun e w' ⟨h1, h2⟩ => ⟨_, by show (45 :: digs 10 false k).toArray.size ≤ 65; rw [List.size_toArray, List.length_cons]; have := digs_length 10 false k; omega, h1, h2⟩
  · obtain ⟨k, rfl⟩ : ∃ k : Nat, z = (k : Int) := ⟨z.toNat, by omega⟩
    exact text_size k W (by omega)
theorem Tryz.infoStr : (Tryz.prog.info? 9).map (fun i => (i.zero, i.size, i.bytes)) = some (some (.string ⟨#[]⟩), 1, 16) := by kernel_rfl
theorem Ss.own {w : World} {B n : Nat} {a : Option Addr} {cap : Nat} {l : List ByteArray} (h : w.ownsRow B 9 1 (.slice a n cap) n (l.map Value.string)) (hn : n = l.length) : Ss w a cap l := by
  obtain ⟨a', cap', he, h1, h2, h3⟩ := ownsRow_form h
  simp only [Value.slice.injEq, true_and] at he
  obtain ⟨rfl, rfl⟩ := he
  refine ⟨by omega, h2, fun i hi => ?_⟩
  obtain ⟨g, rfl, _, _⟩ := h3 (by omega)
  refine ⟨g, 0, rfl, ?_⟩
  rw [Nat.zero_add, h.cellAt _ (by omega)]
  simp [hi]

end Go.Proofs.YtppcjmbblkbkdaaGreatDoor
