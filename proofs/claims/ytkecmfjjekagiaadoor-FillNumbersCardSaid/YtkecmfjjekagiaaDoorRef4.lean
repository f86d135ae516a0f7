/- The walk of pidginref14.Number. Conditions as typed. -/
import Derived.Test.YtkecmfjjekagiaaDoorRef3
import Derived.WalkSmall
namespace Go.Proofs.YtkecmfjjekagiaaDoor
open Go.RowKit Pg

theorem const_zero (l : List UInt8) (h : (const l).2.1 = 0) : (const l).1 = 0 ∧ (const l).2.2 = false := by
  have hd : ∀ base, 0 < base → ∀ l : List UInt8, (digits base l).2.1 = 0 → (digits base l).1 = 0 ∧ (digits base l).2.2 = false := by
    intro base hb l hz
    cases l with
    | nil => exact ⟨rfl, rfl⟩
    | cons c t =>
      by_cases hc : dig c < base
      · have := digits_some (base := base) (l := c :: t) (by simp) hb hc; omega
      · rw [digits_first (by simp) (Nat.le_of_not_lt hc)]; exact ⟨rfl, rfl⟩
  unfold const at h ⊢
  split
  · exact ⟨rfl, rfl⟩
  · rename_i h1
    rw [if_neg h1] at h
    split
    · exact ⟨rfl, rfl⟩
    · rename_i h2
      rw [if_neg h2] at h
      split
      · rename_i h3; rw [if_pos h3] at h; exact hd 10 (by omega) l h
      · rename_i h3
        rw [if_neg h3] at h
        split
        · rename_i h4; rw [if_pos h4] at h; simp at h
        · rename_i h4; rw [if_neg h4] at h; exact hd 8 (by omega) l h
/-- An operand's number, by what its sign leaves. -/
def numT (ng : Bool) (x : Nat × Nat × Bool) (len : Nat) : Int × Nat :=
  if x.2.1 = 0 then (0, 14) else if x.2.2 = true then (if ng = true then -9223372036854775808 else (x.1 : Int), 6) else (if ng = true then -(x.1 : Int) else (x.1 : Int), if x.2.1 < len then 14 else 0)
theorem numT_is (l : List UInt8) (len : Nat) : (((const l).1 : Int), if (const l).2.2 = true then 6 else if (const l).2.1 = 0 ∨ (const l).2.1 < len then 14 else 0) = numT false (const l) len := by
  have hz := const_zero l
  generalize const l = x at *
  obtain ⟨n, k, o⟩ := x
  unfold numT
  simp only [] at hz ⊢
  by_cases hk : k = 0
  · obtain ⟨rfl, rfl⟩ := hz hk
    simp [hk]
  · cases o <;> simp [hk]
theorem numT_neg (l : List UInt8) (len : Nat) : (if (const l).2.2 = true then ((-9223372036854775808 : Int), 6) else (-((const l).1 : Int), if (const l).2.1 = 0 ∨ (const l).2.1 < len then 14 else 0)) = numT true (const l) len := by
  have hz := const_zero l
  generalize const l = x at *
  obtain ⟨n, k, o⟩ := x
  unfold numT
  simp only [] at hz ⊢
  by_cases hk : k = 0
  · obtain ⟨rfl, rfl⟩ := hz hk
    simp [hk]
  · cases o <;> simp [hk]

theorem numT_val (ng : Bool) (n k : Nat) (o : Bool) (len : Nat) : numT ng (n, k, o) len = if ((k : Int) == 0) = true then (0, 14) else if o = true then (if ng = true then -9223372036854775808 else (n : Int), 6) else (if ng = true then -(n : Int) else (n : Int), if decide ((k : Int) < (len : Int)) = true then 14 else 0) := by
  unfold numT
  by_cases hk : k = 0
  · have e : ((k : Int) == 0) = true := beq_iff_eq.2 (by omega)
    rw [e]
    simp [hk]
  · have e : ((k : Int) == 0) = false := beq_eq_false_iff_ne.2 (by omega)
    rw [e]
    by_cases hs : k < len
    · rw [decide_eq_true (show (k : Int) < (len : Int) by omega)]
      cases o <;> cases ng <;> simp [hk, hs]
    · rw [decide_eq_false (show ¬ (k : Int) < (len : Int) by omega)]
      cases o <;> cases ng <;> simp [hk, hs]

set_option maxRecDepth 100000 in
set_option maxHeartbeats 8000000 in
/-- pidginref14.Number, with no quote, no sign ahead. -/
theorem ref_Number_plain (T : ByteArray) (w : World) (hp0 : 0 < T.size) (hTm : T.size ≤ maxLen) (h1 : ((T[0].toNat : Int) == 39) = false) (h2 : ((T[0].toNat : Int) == 34) = false) (h3 : ((T[0].toNat : Int) == 45) = false) (h4 : ((T[0].toNat : Int) == 43) = false)
    (HN : num (bl T) = numT false (const (bl T)) T.size) :
    Calls Tryd.prog 38 #[.string T] w fun e w' => e = .returned (.tuple #[.int .i64 (num (bl T)).1, .int .i64 (num (bl T)).2]) ∧ Below w.heap.size w w' := by
  have e0 : T.toList.isEmpty = false := isEmpty_F (by omega)
  have hTs : (bl T).length = T.size := bl_length T
  have rc := fun W => Lib.run_convert_string_bytes (P := Tryd.prog) W 9 44 5 T Tryd.underlying9 Tryd.underlying44 Tryd.underlying5
  have RS := fun W => ref_Const _ _ (bl T) _ (bytes_bs W T hTm)
  simp only [hTs] at RS
  have HB : Hid (∀ q, Below w.heap.size w (Lib.bytesWorld (w.drewN q) 5 T)) := fun q => (show Below w.heap.size w (w.drewN q) from ⟨rfl, rfl, rfl, Nat.le_refl _, fun _ _ => rfl⟩).trans (bytes_below (w.drewN q) T)
  have hle := (const_le (bl T)).1
  have hz := const_zero (bl T)
  rw [HN]
  generalize const (bl T) = x at *
  obtain ⟨n, k, o⟩ := x
  have hw1 : wrap64 (-(n : Int)) = -(n : Int) := by unfold wrap64; simp only at hle; omega
  have RS := Lib.hid RS
  have HV := Lib.hid (numT_val false n k o T.size)
  generalize numT false (n, k, o) T.size = R at *
  obtain ⟨b0, hb0⟩ : ∃ b, ((k : Int) == 0) = b := ⟨_, rfl⟩
  obtain ⟨b1, hb1⟩ : ∃ b, decide ((k : Int) < (T.size : Int)) = b := ⟨_, rfl⟩
  have hbs : (b1 = true → k < T.size) ∧ (b1 = false → ¬ k < T.size) := ⟨fun h => by rw [h] at hb1; have := of_decide_eq_true hb1; omega, fun h => by rw [h] at hb1; have := of_decide_eq_false hb1; omega⟩
  rw [hb0, hb1] at HV
  clear hb1
  clear HN hle hTs hz
  cases b0 <;> cases o <;> cases b1
  all_goals (
    first | (have hs := hbs.1 rfl; clear hbs) | (have hs := hbs.2 rfl; clear hbs)
    go_enter Tryd.func38, Tryd.ntmps38
    go_wp2_with fail
    go_quiet (fail)
    go_wp2_with fail
    refine (RS.out (w.drewN nq)).mono ?_
    rintro e w1 ⟨rfl, rfl⟩
    go_wp2_with fail
    go_ret2
    exact ⟨by rw [HV.out]; first | rfl | exact congrArg (fun x => Ending.returned (Value.tuple #[.int .i64 x, .int .i64 _])) hw1, HB.out _⟩)
set_option maxRecDepth 100000 in
set_option maxHeartbeats 8000000 in
/-- pidginref14.Number, behind a plus. -/
theorem ref_Number_plus (S T : ByteArray) (w : World) (hp0 : 0 < S.size) (hTm : T.size ≤ maxLen) (h1 : ((S[0].toNat : Int) == 39) = false) (h2 : ((S[0].toNat : Int) == 34) = false) (h3 : ((S[0].toNat : Int) == 45) = false) (h4 : ((S[0].toNat : Int) == 43) = true)
    (hT : T = S.extract 1 S.size) (HN : num (bl S) = numT false (const (bl T)) T.size) :
    Calls Tryd.prog 38 #[.string S] w fun e w' => e = .returned (.tuple #[.int .i64 (num (bl S)).1, .int .i64 (num (bl S)).2]) ∧ Below w.heap.size w w' := by
  have e0 : S.toList.isEmpty = false := isEmpty_F (by omega)
  have hTs : (bl T).length = T.size := bl_length T
  have rc := fun W => Lib.run_convert_string_bytes (P := Tryd.prog) W 9 44 5 T Tryd.underlying9 Tryd.underlying44 Tryd.underlying5
  have RS := fun W => ref_Const _ _ (bl T) _ (bytes_bs W T hTm)
  simp only [hTs] at RS
  have HB : Hid (∀ q, Below w.heap.size w (Lib.bytesWorld (w.drewN q) 5 T)) := fun q => (show Below w.heap.size w (w.drewN q) from ⟨rfl, rfl, rfl, Nat.le_refl _, fun _ _ => rfl⟩).trans (bytes_below (w.drewN q) T)
  have hle := (const_le (bl T)).1
  have hz := const_zero (bl T)
  have rs : ∀ W, (Instr.slice 9 (.string S) (some (.int .i64 1)) none none).run Tryd.prog W = .ok (.string T) W := fun W => by
    rw [run_slice_string_from_if W 9 S .i64 1 Tryd.underlying9, if_pos (by omega), hT]; rfl
  rw [HN]
  generalize const (bl T) = x at *
  obtain ⟨n, k, o⟩ := x
  have hw1 : wrap64 (-(n : Int)) = -(n : Int) := by unfold wrap64; simp only at hle; omega
  have RS := Lib.hid RS
  have HV := Lib.hid (numT_val false n k o T.size)
  generalize numT false (n, k, o) T.size = R at *
  obtain ⟨b0, hb0⟩ : ∃ b, ((k : Int) == 0) = b := ⟨_, rfl⟩
  obtain ⟨b1, hb1⟩ : ∃ b, decide ((k : Int) < (T.size : Int)) = b := ⟨_, rfl⟩
  have hbs : (b1 = true → k < T.size) ∧ (b1 = false → ¬ k < T.size) := ⟨fun h => by rw [h] at hb1; have := of_decide_eq_true hb1; omega, fun h => by rw [h] at hb1; have := of_decide_eq_false hb1; omega⟩
  rw [hb0, hb1] at HV
  clear hb1
  clear hT HN hle hTs hz
  cases b0 <;> cases o <;> cases b1
  all_goals (
    first | (have hs := hbs.1 rfl; clear hbs) | (have hs := hbs.2 rfl; clear hbs)
    go_enter Tryd.func38, Tryd.ntmps38
    go_wp2_with fail
    go_quiet (fail)
    go_wp2_with fail
    refine (RS.out (w.drewN nq)).mono ?_
    rintro e w1 ⟨rfl, rfl⟩
    go_wp2_with fail
    go_ret2
    exact ⟨by rw [HV.out]; first | rfl | exact congrArg (fun x => Ending.returned (Value.tuple #[.int .i64 x, .int .i64 _])) hw1, HB.out _⟩)
set_option maxRecDepth 100000 in
set_option maxHeartbeats 8000000 in
/-- pidginref14.Number, behind a minus. -/
theorem ref_Number_minus (S T : ByteArray) (w : World) (hp0 : 0 < S.size) (hTm : T.size ≤ maxLen) (h1 : ((S[0].toNat : Int) == 39) = false) (h2 : ((S[0].toNat : Int) == 34) = false) (h3 : ((S[0].toNat : Int) == 45) = true)
    (hT : T = S.extract 1 S.size) (HN : num (bl S) = numT true (const (bl T)) T.size) :
    Calls Tryd.prog 38 #[.string S] w fun e w' => e = .returned (.tuple #[.int .i64 (num (bl S)).1, .int .i64 (num (bl S)).2]) ∧ Below w.heap.size w w' := by
  have e0 : S.toList.isEmpty = false := isEmpty_F (by omega)
  have hTs : (bl T).length = T.size := bl_length T
  have rc := fun W => Lib.run_convert_string_bytes (P := Tryd.prog) W 9 44 5 T Tryd.underlying9 Tryd.underlying44 Tryd.underlying5
  have RS := fun W => ref_Const _ _ (bl T) _ (bytes_bs W T hTm)
  simp only [hTs] at RS
  have HB : Hid (∀ q, Below w.heap.size w (Lib.bytesWorld (w.drewN q) 5 T)) := fun q => (show Below w.heap.size w (w.drewN q) from ⟨rfl, rfl, rfl, Nat.le_refl _, fun _ _ => rfl⟩).trans (bytes_below (w.drewN q) T)
  have hle := (const_le (bl T)).1
  have hz := const_zero (bl T)
  have rs : ∀ W, (Instr.slice 9 (.string S) (some (.int .i64 1)) none none).run Tryd.prog W = .ok (.string T) W := fun W => by
    rw [run_slice_string_from_if W 9 S .i64 1 Tryd.underlying9, if_pos (by omega), hT]; rfl
  rw [HN]
  generalize const (bl T) = x at *
  obtain ⟨n, k, o⟩ := x
  have hw1 : wrap64 (-(n : Int)) = -(n : Int) := by unfold wrap64; simp only at hle; omega
  have RS := Lib.hid RS
  have HV := Lib.hid (numT_val true n k o T.size)
  generalize numT true (n, k, o) T.size = R at *
  obtain ⟨b0, hb0⟩ : ∃ b, ((k : Int) == 0) = b := ⟨_, rfl⟩
  obtain ⟨b1, hb1⟩ : ∃ b, decide ((k : Int) < (T.size : Int)) = b := ⟨_, rfl⟩
  have hbs : (b1 = true → k < T.size) ∧ (b1 = false → ¬ k < T.size) := ⟨fun h => by rw [h] at hb1; have := of_decide_eq_true hb1; omega, fun h => by rw [h] at hb1; have := of_decide_eq_false hb1; omega⟩
  rw [hb0, hb1] at HV
  clear hb1
  clear hT HN hle hTs hz
  cases b0 <;> cases o <;> cases b1
  all_goals (
    first | (have hs := hbs.1 rfl; clear hbs) | (have hs := hbs.2 rfl; clear hbs)
    go_enter Tryd.func38, Tryd.ntmps38
    go_wp2_with fail
    go_quiet (fail)
    go_wp2_with fail
    refine (RS.out (w.drewN nq)).mono ?_
    rintro e w1 ⟨rfl, rfl⟩
    go_wp2_with fail
    go_ret2
    exact ⟨by rw [HV.out]; first | rfl | exact congrArg (fun x => Ending.returned (Value.tuple #[.int .i64 x, .int .i64 _])) hw1, HB.out _⟩)

set_option maxRecDepth 100000 in
set_option maxHeartbeats 8000000 in
/-- pidginref14.Number of a quote and more. -/
theorem ref_Number_quote (S : ByteArray) (w : World) (hp0 : 0 < S.size) (a1 a2 : Bool) (h1 : ((S[0].toNat : Int) == 39) = a1) (h2 : ((S[0].toNat : Int) == 34) = a2) (h12 : a1 = true ∨ a2 = true) :
    Calls Tryd.prog 38 #[.string S] w fun e w' => e = .returned (.tuple #[.int .i64 (num (bl S)).1, .int .i64 (num (bl S)).2]) ∧ Below w.heap.size w w' := by
  have hl := bl_length S
  have g0 := bl_get S 0 hp0
  have e0 : S.toList.isEmpty = false := isEmpty_F (by omega)
  have hq : S[0].toNat = 39 ∨ S[0].toNat = 34 := by
    rcases h12 with rfl | rfl
    · left; have := eq_of_beq h1; omega
    · right; have := eq_of_beq h2; omega
  rw [← g0] at hq
  by_cases hs1 : S.size = 1
  · have HN : Hid (num (bl S) = (0, 0)) := by show num _ = _; unfold num; rw [if_neg (by omega), if_pos hq, if_pos (by omega)]
    have t1 : ((S.size : Int) == 1) = true := by rw [hs1]; rfl
    clear hl g0 hq hs1
    cases a1
    all_goals cases a2
    any_goals (exfalso; revert h12; decide)
    all_goals clear h12
    all_goals (
      go_enter Tryd.func38, Tryd.ntmps38
      go_wp2_with fail
      go_ret2
      exact ⟨by rw [HN.out]; rfl, Below.refl _ _⟩)
  have t1 : ((S.size : Int) == 1) = false := by rw [beq_eq_false_iff_ne]; omega
  have hp1 : 1 < S.size := by omega
  have g1 := bl_get S 1 hp1
  have hw1 : wrap64 (S[1].toNat : Int) = (S[1].toNat : Int) := wrap64_byte _
  by_cases hs2 : S.size = 2
  · have HN : Hid (num (bl S) = ((S[1].toNat : Int), 0)) := by show num _ = _; unfold num; rw [if_neg (by omega), if_pos hq, if_neg (by omega), if_neg (by omega), g1]
    have t2 : ((S.size : Int) == 2) = true := by rw [hs2]; rfl
    clear hl g0 hq hs1 g1 hs2
    cases a1
    all_goals cases a2
    any_goals (exfalso; revert h12; decide)
    all_goals clear h12
    all_goals (
      go_enter Tryd.func38, Tryd.ntmps38
      go_wp2_with fail
      go_ret2
      exact ⟨by rw [HN.out]; first | rfl | exact congrArg (fun x => Ending.returned (Value.tuple #[.int .i64 x, .int .i64 _])) hw1, Below.refl _ _⟩)
  · have HN : Hid (num (bl S) = ((S[1].toNat : Int), 14)) := by show num _ = _; unfold num; rw [if_neg (by omega), if_pos hq, if_neg (by omega), if_pos (by omega), g1]
    have t2 : ((S.size : Int) == 2) = false := by rw [beq_eq_false_iff_ne]; omega
    clear hl g0 hq hs1 g1 hs2
    cases a1
    all_goals cases a2
    any_goals (exfalso; revert h12; decide)
    all_goals clear h12
    all_goals (
      go_enter Tryd.func38, Tryd.ntmps38
      go_wp2_with fail
      go_ret2
      exact ⟨by rw [HN.out]; first | rfl | exact congrArg (fun x => Ending.returned (Value.tuple #[.int .i64 x, .int .i64 _])) hw1, Below.refl _ _⟩)

/-- pidginref14.Number. -/
theorem ref_Number (S : ByteArray) (w : World) (hS : S.size ≤ maxLen) :
    Calls Tryd.prog 38 #[.string S] w fun e w' => e = .returned (.tuple #[.int .i64 (num (bl S)).1, .int .i64 (num (bl S)).2]) ∧ Below w.heap.size w w' := by
  by_cases h0 : S.size = 0
  · have HN : Hid (num (bl S) = (0, 0)) := by show num _ = _; unfold num; rw [if_pos (by rw [bl_length]; exact h0)]
    have e0 := isEmpty_T h0
    clear h0
    go_enter Tryd.func38, Tryd.ntmps38
    go_wp2_with fail
    go_ret2
    exact ⟨by rw [HN.out]; rfl, Below.refl _ _⟩
  have hp0 : 0 < S.size := by omega
  have hl := bl_length S
  have g0 := bl_get S 0 hp0
  have hTl : (bl S).drop 1 = bl (S.extract 1 S.size) := (bl_tail S).symm
  have hTs : (bl (S.extract 1 S.size)).length = (S.extract 1 S.size).size := bl_length _
  have hTm : (S.extract 1 S.size).size ≤ maxLen := by rw [← hTs, ← hTl, List.length_drop]; omega
  cases h1 : ((S[0].toNat : Int) == 39)
  · cases h2 : ((S[0].toNat : Int) == 34)
    · cases h3 : ((S[0].toNat : Int) == 45)
      · cases h4 : ((S[0].toNat : Int) == 43)
        · refine ref_Number_plain S w hp0 hS h1 h2 h3 h4 ?_
          rw [← numT_is]
          unfold num
          rw [beq_eq_false_iff_ne] at h1 h2 h3 h4
          rw [if_neg (by omega), if_neg (by omega), if_neg (by omega), if_neg (by omega), hl]
        · refine ref_Number_plus S _ w hp0 hTm h1 h2 h3 h4 rfl ?_
          rw [← numT_is]
          unfold num
          rw [beq_eq_false_iff_ne] at h1 h2 h3
          have h4 := eq_of_beq h4
          rw [if_neg (by omega), if_neg (by omega), if_neg (by omega), if_pos (by omega), hTl, hTs]
      · refine ref_Number_minus S _ w hp0 hTm h1 h2 h3 rfl ?_
        rw [← numT_neg]
        unfold num
        rw [beq_eq_false_iff_ne] at h1 h2
        have h3 := eq_of_beq h3
        rw [if_neg (by omega), if_neg (by omega), if_pos (by omega), hTl, hTs]
    · exact ref_Number_quote S w hp0 _ _ h1 h2 (Or.inr rfl)
  · exact ref_Number_quote S w hp0 true ((S[0].toNat : Int) == 34) h1 rfl (Or.inl rfl)
end Go.Proofs.YtkecmfjjekagiaaDoor
