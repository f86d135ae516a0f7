/- The walk of pidginref14.Wants. Conditions as typed. -/
import Derived.Test.YtppcjmbblkbkdaaDoorParts
namespace Go.Proofs.YtppcjmbblkbkdaaDoor
open Go.RowKit Pg

set_option maxHeartbeats 2000000 in
/-- pidginref14.Wants of parts: how many of them convert. -/
theorem ref_Wants (B : Nat) (w : World) (v : Value) (P : List Part) (hp : PartsC B w v P) (_hP : P.length ≤ 5000) :
    Calls Tryd.prog 17 #[v] w fun e w' => e = .returned (.int .i64 (wants P)) ∧ Below w.heap.size w w' := by
  obtain ⟨a, cap, rfl, hc, hm, hcell⟩ := hp.cells
  unfold maxLen at hm
  have HC := Lib.hid hcell
  clear hp hcell
  go_enter Tryd.func17, Tryd.ntmps17
  go_wp2
  go_loopw [3, 8] (fun t i wr => ∃ k : Nat, k ≤ P.length ∧ i = .int .i64 k ∧ t = .int .i64 (wants (P.take k)) ∧ Hid (Below w.heap.size w wr)) (fun _ i _ => P.length - (intOf i).toNat)
  case atStart => exact ⟨0, Nat.zero_le _, rfl, rfl, Below.refl _ _⟩
  case round =>
    obtain ⟨k, hk, rfl, rfl, HB⟩ := hrel
    by_cases hlt : k < P.length
    · obtain ⟨g, la, lcap, rfl, hg, _, c0, c1, c2, c3, c4, c5, c6, c7, c8⟩ := HC.out k hlt
      have hwt := Lib.hid (wants_take P k hlt)
      have hwl := wants_le (P.take k)
      rw [List.length_take] at hwl
      have hs := HB.out.size
      have d := fun (j : Nat) (u : Value) (hu : w.cell? ⟨g, j, none⟩ = some u) => (HB.out.cell (p := ⟨g, j, none⟩) hg).trans hu
      have d0 := d _ _ c0
      have d1 := d _ _ c1
      have d2 := d _ _ c2
      have d3 := d _ _ c3
      have d4 := d _ _ c4
      have d5 := d _ _ c5
      have d6 := d _ _ c6
      have d7 := d _ _ c7
      have d8 := d _ _ c8
      clear d c0 c1 c2 c3 c4 c5 c6 c7 c8
      generalize P[k] = p at *
      by_cases h0 : p.conv = 0
      · have e0 : ((p.conv : Int) != 0) = false := by rw [h0]; rfl
        have HW : Hid (wants (P.take (k + 1)) = wants (P.take k)) := by have := hwt.out; rw [if_neg (by omega)] at this; exact this
        clear h0
        go_wp2
        go_roundw
        case rel => exact ⟨k + 1, by omega, by go_num, by rw [HW.out], HB.out.alloc hs _⟩
        case measure => simp [intOf]; omega
      · have e0 : ((p.conv : Int) != 0) = true := bne_iff_ne.2 (by omega)
        have HW : Hid (wants (P.take (k + 1)) = wants (P.take k) + 1) := by have := hwt.out; rw [if_pos h0] at this; exact this
        clear h0
        go_wp2
        go_roundw
        case rel => exact ⟨k + 1, by omega, by go_num, by rw [HW.out]; go_num, HB.out.alloc hs _⟩
        case measure => simp [intOf]; omega
    · have hkl : k = P.length := by omega
      subst hkl
      go_wp2
      go_ret
      exact ⟨by show Ending.returned (Value.int .i64 ↑(wants (P.take P.length))) = _; rw [List.take_length], HB.out⟩
end Go.Proofs.YtppcjmbblkbkdaaDoor
