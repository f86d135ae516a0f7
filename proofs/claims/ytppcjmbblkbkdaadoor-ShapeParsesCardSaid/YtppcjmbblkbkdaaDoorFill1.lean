/- The walks of fill.filled, fill.cut, fill.Number. Conditions as typed. -/
import Derived.Test.YtppcjmbblkbkdaaDoorFmt
import Derived.Test.YtppcjmbblkbkdaaDoorShelf
import Derived.Test.YtppcjmbblkbkdaaDoorBase
import Derived.Lib.ConvBytes
namespace Go.Proofs.YtppcjmbblkbkdaaDoor
open Go.RowKit Pg

/-- The bytes of a string. -/
def bl (S : ByteArray) : List UInt8 := S.data.toList
theorem bl_length (S : ByteArray) : (bl S).length = S.size := by unfold bl; rw [Array.length_toList]; rfl
theorem mk_bl (S : ByteArray) : (⟨(bl S).toArray⟩ : ByteArray) = S := by unfold bl; rw [Array.toArray_toList]
theorem ba_join (S T : ByteArray) : (⟨(bl S ++ bl T).toArray⟩ : ByteArray) = S ++ T := by rw [← ByteArray.mk_append_mk, mk_bl, mk_bl]
theorem ba_join3 (S T : ByteArray) (l : List UInt8) : (⟨(bl S ++ bl T ++ l).toArray⟩ : ByteArray) = S ++ T ++ ⟨l.toArray⟩ := by rw [← ByteArray.mk_append_mk, ba_join]
theorem ba_join3m (S : ByteArray) (l : List UInt8) (T : ByteArray) : (⟨(bl S ++ l ++ bl T).toArray⟩ : ByteArray) = S ++ ⟨l.toArray⟩ ++ T := by rw [← ByteArray.mk_append_mk, ← ByteArray.mk_append_mk, mk_bl, mk_bl]
theorem ba_join3' (l : List UInt8) (S T : ByteArray) : (⟨(l ++ bl S ++ bl T).toArray⟩ : ByteArray) = ⟨l.toArray⟩ ++ S ++ T := by rw [← ByteArray.mk_append_mk, ← ByteArray.mk_append_mk, mk_bl, mk_bl]
theorem extract_take (S : ByteArray) (n : Nat) : S.extract 0 n = ⟨((bl S).take n).toArray⟩ := by
  rw [← mk_bl (S.extract 0 n)]
  unfold bl
  rw [Lib.extract_data]
  simp
/-- The bytes of a string as a slice. -/
theorem bytes_bs (W : World) (S : ByteArray) (hS : S.size ≤ maxLen) : Bs (Lib.bytesWorld W 5 S) (some ⟨W.heap.size, 0, none⟩) (grownCap W S.size 0 5) (bl S) := by
  have h1 := bl_length S
  refine ⟨by rw [h1]; exact grownCap_ge W S.size 0 5, grownCap_le_maxLen W S.size 0 5 hS, fun i hi => ⟨W.heap.size, 0, rfl, ?_⟩⟩
  rw [Nat.zero_add, Lib.bytesWorld_cell W 5 S i (by omega)]
  have : S.data.toList.getD i 0 = (bl S)[i] := by
    show (bl S).getD i 0 = (bl S)[i]
    rw [List.getD_eq_getElem?_getD, List.getElem?_eq_getElem hi]
    rfl
  rw [this]
theorem bytes_below (W : World) (S : ByteArray) : Below W.heap.size W (Lib.bytesWorld W 5 S) :=
  ⟨rfl, rfl, rfl, by rw [Lib.bytesWorld_size]; omega, fun k hk => Lib.bytesWorld_at_old W 5 S k hk⟩

theorem toList_len (S : ByteArray) : S.toList.length = S.size := by rw [ByteArray.toList_eq]; exact bl_length S
theorem isEmpty_T {S : ByteArray} (h : S.size = 0) : S.toList.isEmpty = true := by
  have : S.toList.length = 0 := by rw [toList_len, h]
  rw [List.eq_nil_of_length_eq_zero this]; rfl
theorem isEmpty_F {S : ByteArray} (h : ¬ S.size = 0) : S.toList.isEmpty = false := by
  rw [List.isEmpty_eq_false_iff]
  intro h2
  have : S.toList.length = 0 := by rw [h2]; rfl
  rw [toList_len] at this
  exact h this
theorem bl_get (S : ByteArray) (i : Nat) (h : i < S.size) : ((bl S).getD i 0).toNat = (S[i]'h).toNat := by
  unfold bl
  rw [List.getD_eq_getElem?_getD, List.getElem?_eq_getElem (by rw [Array.length_toList]; exact h)]
  rfl
theorem bl_tail (S : ByteArray) : bl (S.extract 1 S.size) = (bl S).drop 1 := by
  unfold bl
  rw [Lib.extract_data]
  have := bl_length S
  unfold bl at this
  exact List.take_of_length_le (by rw [List.length_drop]; omega)

theorem wrap64_byte (x : UInt8) : wrap64 (x.toNat : Int) = (x.toNat : Int) := by
  have := x.toNat_lt
  unfold wrap64; omega

/-- What scan.Const told, and a text's length, as fill.Number reads them. -/
def ncode (x : Nat × Nat × Bool) (len : Nat) : Nat := if x.2.2 = true then 6 else if x.2.1 = 0 ∨ x.2.1 < len then 14 else 0
theorem ncode_over (x : Nat × Nat × Bool) (len : Nat) (h : x.2.2 = true) : ncode x len = 6 := if_pos h
theorem ncode_no (x : Nat × Nat × Bool) (len : Nat) (h : x.2.2 = false) (b0 b1 : Bool) (h0 : ((x.2.1 : Int) == 0) = b0) (h1 : decide (x.2.1 < len) = b1) : ncode x len = if b0 = true then 14 else if b1 = true then 14 else 0 := by
  unfold ncode
  rw [if_neg (by simp [h])]
  cases b0
  · rw [beq_eq_false_iff_ne] at h0
    cases b1
    · have := of_decide_eq_false h1
      rw [if_neg (by omega)]; rfl
    · have := of_decide_eq_true h1
      rw [if_pos (by omega)]; rfl
  · have := eq_of_beq h0
    rw [if_pos (by omega)]; rfl

end Go.Proofs.YtppcjmbblkbkdaaDoor
