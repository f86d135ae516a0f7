/- The walk of pidginref2.In. Conditions as typed. -/
import Derived.Test.YtppcjmbblkbkdaaDoorFill1
namespace Go.Proofs.YtppcjmbblkbkdaaDoor
open Go.RowKit Pg

/-- Is a byte one of those? -/
def isIn (c : Nat) (l : List UInt8) : Bool := l.any fun b => b.toNat == c
set_option maxRecDepth 100000 in
set_option maxHeartbeats 4000000 in
/-- pidginref2.In. -/
theorem ref_In (c : Nat) (S : ByteArray) (hS : S.size ≤ 1000) (w : World) :
    Calls Tryd.prog 44 #[.int .u8 c, .string S] w fun e w' => e = .returned (.bool (isIn c (bl S))) ∧ w = w' := by
  go_enter Tryd.func44, Tryd.ntmps44
  go_wp2_with fail
  go_loopw [8] (fun kv wr => ∃ k : Nat, k ≤ S.size ∧ kv = .int .i64 k ∧ Hid (isIn c ((bl S).take k) = false) ∧ w = wr) (fun kv _ => S.size - (intOf kv).toNat)
  case atStart => exact ⟨0, by omega, rfl, rfl, rfl⟩
  case round =>
    obtain ⟨k, hk, rfl, HQ, rfl⟩ := hrel
    by_cases hlt : k < S.size
    · have hkl : k < (bl S).length := by rw [bl_length]; exact hlt
      have hg : (bl S)[k] = S[k] := rfl
      have ht : (bl S).take (k + 1) = (bl S).take k ++ [S[k]] := by rw [List.take_succ_eq_append_getElem hkl]; rfl
      by_cases he : S[k].toNat = c
      · have e1 : ((S[k].toNat : Int) == (c : Int)) = true := beq_iff_eq.2 (by omega)
        have HD : Hid (isIn c (bl S) = true) := by
          show _ = _
          unfold isIn
          rw [List.any_eq_true]
          exact ⟨S[k], by rw [← hg]; exact List.getElem_mem hkl, beq_iff_eq.2 he⟩
        clear ht hg he
        go_wp2_with fail
        go_ret
        rw [HD.out]
        exact ⟨rfl, rfl⟩
      · have e1 : ((S[k].toNat : Int) == (c : Int)) = false := beq_eq_false_iff_ne.2 (by omega)
        have HN : Hid (isIn c ((bl S).take (k + 1)) = false) := by
          show _ = _
          have h := HQ.out
          unfold isIn at h ⊢
          rw [ht, List.any_append, h]
          simp [he]
        clear ht hg he
        go_wp2_with fail
        go_roundw
        case rel => exact ⟨k + 1, by omega, by go_num, HN, trivial⟩
        case measure => simp [intOf]; omega
    · have HD : Hid (isIn c (bl S) = false) := by have := HQ.out; rwa [List.take_of_length_le (by rw [bl_length]; omega)] at this
      go_wp2_with fail
      go_ret
      rw [HD.out]
      exact ⟨rfl, rfl⟩
end Go.Proofs.YtppcjmbblkbkdaaDoor
