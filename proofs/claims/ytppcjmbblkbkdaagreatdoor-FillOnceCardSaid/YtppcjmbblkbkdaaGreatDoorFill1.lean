/- The walks of fill.filled, fill.cut, fill.Number. Conditions as typed. -/
import Derived.Test.YtppcjmbblkbkdaaGreatDoorFmt
import Derived.Test.YtppcjmbblkbkdaaGreatDoorShelf
import Derived.Test.YtppcjmbblkbkdaaGreatDoorBase
import Derived.Lib.ConvBytes
namespace Go.Proofs.YtppcjmbblkbkdaaGreatDoor
open Go.RowKit Pg

/-- The bytes of a string. -/
def bl (S : ByteArray) : List UInt8 := S.data.toList
theorem bl_length (S : ByteArray) : (bl S).length = S.size := by unfold bl; rw [Array.length_toList]; rfl
theorem mk_bl (S : ByteArray) : (⟨(bl S).toArray⟩ : ByteArray) = S := by unfold bl; rw [Array.toArray_toList]
theorem ba_join (S T : ByteArray) : (⟨(bl S ++ bl T).toArray⟩ : ByteArray) = S ++ T := by rw [← ByteArray.mk_append_mk, mk_bl, mk_bl]
theorem ba_join3 (S T : ByteArray) (l : List UInt8) : (⟨(bl S ++ bl T ++ l).toArray⟩ : ByteArray) = S ++ T ++ ⟨l.toArray⟩ := by rw [← ByteArray.mk_append_mk, ba_join]
theorem ba_join3m (S : ByteArray) (l : List UInt8) (T : ByteArray) : (⟨(bl S ++ l ++ bl T).toArray⟩ : ByteArray) = S ++ ⟨l.toArray⟩ ++ T := by rw [← ByteArray.mk_append_mk, ← ByteArray.mk_append_mk, mk_bl, mk_bl]
theorem ba_join3' (l : List UInt8) (S T : ByteArray) : (⟨(l ++ bl S ++ bl T).toArray⟩ : ByteArray) = ⟨l.toArray⟩ ++ S ++ T := by rw [← ByteArray.mk_append_mk, ← ByteArray.mk_append_mk, mk_bl, mk_bl]
theorem extract_take (S : ByteArray) (n : Nat) : S.extract 0 n = ⟨((bl S).take n).toArray⟩ := by
  rw [← mk_bl (S.extract 0 n)]
  unfold bl
  rw [Lib.extract_data]
  simp
theorem repeat1 (x : UInt8) : ∀ c, Lib.repeatL [x] c = List.replicate c x
  | 0 => rfl
  | c + 1 => by rw [Lib.repeatL, repeat1 x c, List.replicate_succ]; rfl
theorem repeat_call (x : UInt8) (c : Nat) (hc : c ≤ 1000000) (w : World) :
    Calls Tryz.prog 70 #[.string ⟨#[x]⟩, .int .i64 c] w fun e w' => e = .returned (.string ⟨(List.replicate c x).toArray⟩) ∧ Below w.heap.size w w' := by
  have := Tryz.strings_Repeat ⟨#[x]⟩ c w (by omega) (by show 1 * c ≤ _; omega)
  rw [← repeat1]
  exact this

set_option maxRecDepth 100000 in
set_option maxHeartbeats 4000000 in
/-- fill.filled. -/
theorem fill_filled (v : Value) (p : Part) (S1 S2 : ByteArray) (nb : Bool) (w : World) (hw : p.width ≤ 5000) (h1 : S1.size ≤ 140737488351232) (h2 : S2.size ≤ 140737488351232) :
    Calls Tryz.prog 62 #[.agg #[v, .int .u8 p.conv, .bool p.fl.minus, .bool p.fl.plus, .bool p.fl.space, .bool p.fl.zero, .bool p.fl.alt, .int .i64 p.width, .int .i64 p.prec], .string S1, .string S2, .bool nb] w fun e w' => e = .returned (.string ⟨(filled p (bl S1) (bl S2) nb).toArray⟩) ∧ Below w.heap.size w w' := by
  have hl1 := bl_length S1
  have hl2 := bl_length S2
  by_cases hm : p.width ≤ S1.size + S2.size
  · have HF : Hid (filled p (bl S1) (bl S2) nb = bl S1 ++ bl S2) := by show filled p _ _ _ = _; unfold filled; rw [if_pos (by omega)]
    have hd : decide ((p.width : Int) - (S1.size : Int) - (S2.size : Int) ≤ 0) = true := decide_eq_true (by omega)
    clear hl1 hl2
    go_enter Tryz.func62, Tryz.ntmps62
    go_wp2_with fail
    go_ret
    refine ⟨?_, (Below.refl _ _).alloc (Nat.le_refl _) _⟩
    rw [HF.out, ba_join S1 S2]
    rfl
  obtain ⟨c, hc⟩ : ∃ c, c = p.width - S1.size - S2.size := ⟨_, rfl⟩
  have hsub : (p.width : Int) - (S1.size : Int) - (S2.size : Int) = (c : Int) := by omega
  have hd : decide (c = 0) = false := decide_eq_false (by omega)
  have hc1 : 1 ≤ c := by omega
  have hc5 : c ≤ 5000 := by omega
  have C32 := Lib.hid (fun W => repeat_call 32 c (by omega) W)
  have C48 := Lib.hid (fun W => repeat_call 48 c (by omega) W)
  have hcz : ∀ x : UInt8, (ByteArray.mk (List.replicate c x).toArray).size = c := fun x => by show (List.replicate c x).toArray.size = c; simp
  have HF : Hid (filled p (bl S1) (bl S2) nb = if p.fl.minus = true then bl S1 ++ bl S2 ++ List.replicate c 32 else if nb = true then bl S1 ++ List.replicate c 48 ++ bl S2 else List.replicate c 32 ++ bl S1 ++ bl S2) := by
    show filled p _ _ _ = _; unfold filled; rw [if_neg (by omega), hl1, hl2, ← hc]
  clear hl1 hl2 hc hm
  generalize hA : (ByteArray.mk (List.replicate c (32 : UInt8)).toArray) = A32 at *
  generalize hB : (ByteArray.mk (List.replicate c (48 : UInt8)).toArray) = A48 at *
  have hA2 : A32.size = c := by rw [← hA]; exact hcz 32
  have hB2 : A48.size = c := by rw [← hB]; exact hcz 48
  have HA := Lib.hid hA
  have HB := Lib.hid hB
  have hA3 := Nat.le_of_eq hA2
  have hB3 := Nat.le_of_eq hB2
  clear hA hB hcz hA2 hB2
  cases hmn : p.fl.minus
  · rw [hmn] at HF
    cases nb
    · go_enter Tryz.func62, Tryz.ntmps62
      go_wp2_with fail
      refine (C32.out _).mono ?_
      rintro e w1 ⟨rfl, hb1⟩
      have HB1 := Lib.hid hb1
      clear hb1
      go_wp2_with fail
      go_ret
      refine ⟨?_, ((Below.refl _ _).alloc (Nat.le_refl _) _).trans (HB1.out.mono (by simp))⟩
      rw [HF.out]
      show Ending.returned (Value.string (A32 ++ S1 ++ S2)) = _
      rw [← HA.out]
      simp only [Bool.false_eq_true, if_false]
      exact congrArg (fun x => Ending.returned (Value.string x)) (ba_join3' _ S1 S2).symm
    · go_enter Tryz.func62, Tryz.ntmps62
      go_wp2_with fail
      refine (C48.out _).mono ?_
      rintro e w1 ⟨rfl, hb1⟩
      have HB1 := Lib.hid hb1
      clear hb1
      go_wp2_with fail
      go_ret
      refine ⟨?_, ((Below.refl _ _).alloc (Nat.le_refl _) _).trans (HB1.out.mono (by simp))⟩
      rw [HF.out]
      show Ending.returned (Value.string (S1 ++ A48 ++ S2)) = _
      rw [← HB.out]
      simp only [Bool.false_eq_true, if_false, if_true]
      exact congrArg (fun x => Ending.returned (Value.string x)) (ba_join3m S1 _ S2).symm
  · rw [hmn] at HF
    go_enter Tryz.func62, Tryz.ntmps62
    go_wp2_with fail
    refine (C32.out _).mono ?_
    rintro e w1 ⟨rfl, hb1⟩
    have HB1 := Lib.hid hb1
    clear hb1
    go_wp2_with fail
    go_ret
    refine ⟨?_, ((Below.refl _ _).alloc (Nat.le_refl _) _).trans (HB1.out.mono (by simp))⟩
    rw [HF.out]
    show Ending.returned (Value.string (S1 ++ S2 ++ A32)) = _
    rw [← HA.out]
    simp only [if_true]
    exact congrArg (fun x => Ending.returned (Value.string x)) (ba_join3 S1 S2 _).symm

set_option maxHeartbeats 2000000 in
/-- fill.cut. -/
theorem fill_cut (v : Value) (p : Part) (S : ByteArray) (w : World) :
    Calls Tryz.prog 63 #[.agg #[v, .int .u8 p.conv, .bool p.fl.minus, .bool p.fl.plus, .bool p.fl.space, .bool p.fl.zero, .bool p.fl.alt, .int .i64 p.width, .int .i64 p.prec], .string S] w fun e w' => e = .returned (.string ⟨(cut p (bl S)).toArray⟩) ∧ Below w.heap.size w w' := by
  have hl := bl_length S
  by_cases hp : 0 ≤ p.prec
  · obtain ⟨n, hn⟩ := Int.eq_ofNat_of_zero_le hp
    by_cases hs : n < S.size
    · have HC : Hid (cut p (bl S) = (bl S).take n) := by show cut p _ = _; unfold cut; rw [if_pos (by omega), hn, Int.toNat_natCast]
      have hd0 : decide (0 ≤ (n : Int)) = true := decide_eq_true (by omega)
      have hd : decide ((n : Int) < (S.size : Int)) = true := decide_eq_true (by omega)
      rw [hn]
      clear hl hp hn
      go_enter Tryz.func63, Tryz.ntmps63
      go_wp2_with fail
      go_ret
      refine ⟨?_, (Below.refl _ _).alloc (Nat.le_refl _) _⟩
      rw [HC.out, ← extract_take]
      rfl
    · have HC : Hid (cut p (bl S) = bl S) := by show cut p _ = _; unfold cut; rw [if_neg (by omega)]
      have hd0 : decide (0 ≤ (n : Int)) = true := decide_eq_true (by omega)
      have hd : decide ((n : Int) < (S.size : Int)) = false := decide_eq_false (by omega)
      rw [hn]
      clear hl hp hn
      go_enter Tryz.func63, Tryz.ntmps63
      go_wp2_with fail
      go_ret
      refine ⟨?_, (Below.refl _ _).alloc (Nat.le_refl _) _⟩
      rw [HC.out, mk_bl]
      rfl
  · have HC : Hid (cut p (bl S) = bl S) := by show cut p _ = _; unfold cut; rw [if_neg (by omega)]
    have hd0 : decide (0 ≤ p.prec) = false := decide_eq_false hp
    clear hl hp
    go_enter Tryz.func63, Tryz.ntmps63
    go_wp2_with fail
    go_ret
    refine ⟨?_, (Below.refl _ _).alloc (Nat.le_refl _) _⟩
    rw [HC.out, mk_bl]
    rfl

/-- The bytes of a string as a slice. -/
theorem bytes_bs (W : World) (S : ByteArray) (hS : S.size ≤ maxLen) : Bs (Lib.bytesWorld W 5 S) (some ⟨W.heap.size, 0, none⟩) (grownCap W S.size 0 5) (bl S) := by
  have h1 := bl_length S
  refine ⟨by rw [h1]; exact grownCap_ge W S.size 0 5, grownCap_le_maxLen W S.size 0 5 hS, fun i hi => ⟨W.heap.size, 0, rfl, ?_⟩⟩
  rw [Nat.zero_add, Lib.bytesWorld_cell W 5 S i (by omega)]
  have : S.data.toList.getD i 0 = (bl S)[i] := by
    show (bl S).getD i 0 = (bl S)[i]
    rw [List.getD_eq_getElem?_getD, List.getElem?_eq_getElem hi]
    rfl
  rw [this]
theorem bytes_below (W : World) (S : ByteArray) : Below W.heap.size W (Lib.bytesWorld W 5 S) :=
  ⟨rfl, rfl, rfl, by rw [Lib.bytesWorld_size]; omega, fun k hk => Lib.bytesWorld_at_old W 5 S k hk⟩

theorem toList_len (S : ByteArray) : S.toList.length = S.size := by rw [ByteArray.toList_eq]; exact bl_length S
theorem isEmpty_T {S : ByteArray} (h : S.size = 0) : S.toList.isEmpty = true := by
  have : S.toList.length = 0 := by rw [toList_len, h]
  rw [List.eq_nil_of_length_eq_zero this]; rfl
theorem isEmpty_F {S : ByteArray} (h : ¬ S.size = 0) : S.toList.isEmpty = false := by
  rw [List.isEmpty_eq_false_iff]
  intro h2
  have : S.toList.length = 0 := by rw [h2]; rfl
  rw [toList_len] at this
  exact h this
theorem bl_get (S : ByteArray) (i : Nat) (h : i < S.size) : ((bl S).getD i 0).toNat = (S[i]'h).toNat := by
  unfold bl
  rw [List.getD_eq_getElem?_getD, List.getElem?_eq_getElem (by rw [Array.length_toList]; exact h)]
  rfl
theorem bl_tail (S : ByteArray) : bl (S.extract 1 S.size) = (bl S).drop 1 := by
  unfold bl
  rw [Lib.extract_data]
  have := bl_length S
  unfold bl at this
  exact List.take_of_length_le (by rw [List.length_drop]; omega)

theorem wrap64_byte (x : UInt8) : wrap64 (x.toNat : Int) = (x.toNat : Int) := by
  have := x.toNat_lt
  unfold wrap64; omega

set_option maxRecDepth 100000 in
set_option maxHeartbeats 8000000 in
/-- fill.Number of a quote and more. -/
theorem fill_Number_quote (S : ByteArray) (w : World) (hp0 : 0 < S.size) (a1 a2 : Bool) (h1 : ((S[0].toNat : Int) == 39) = a1) (h2 : ((S[0].toNat : Int) == 34) = a2) (h12 : a1 = true ∨ a2 = true) :
    Calls Tryz.prog 65 #[.string S] w fun e w' => e = .returned (.tuple #[.int .i64 (num (bl S)).1, .int .i64 (num (bl S)).2]) ∧ Below w.heap.size w w' := by
  have hl := bl_length S
  have g0 := bl_get S 0 hp0
  have e0 : S.toList.isEmpty = false := isEmpty_F (by omega)
  have hq : S[0].toNat = 39 ∨ S[0].toNat = 34 := by
    rcases h12 with rfl | rfl
    · left; have := eq_of_beq h1; omega
    · right; have := eq_of_beq h2; omega
  rw [← g0] at hq
  by_cases hs1 : S.size = 1
  · have HN : Hid (num (bl S) = (0, 0)) := by show num _ = _; unfold num; rw [if_neg (by omega), if_pos hq, if_pos (by omega)]
    have t1 : ((S.size : Int) == 1) = true := by rw [hs1]; rfl
    clear hl g0 hq hs1
    cases a1
    all_goals cases a2
    any_goals (exfalso; revert h12; decide)
    all_goals clear h12
    all_goals (
      go_enter Tryz.func65, Tryz.ntmps65
      go_wp2_with fail
      go_ret2
      exact ⟨by rw [HN.out]; rfl, Below.refl _ _⟩)
  have t1 : ((S.size : Int) == 1) = false := by rw [beq_eq_false_iff_ne]; omega
  have hp1 : 1 < S.size := by omega
  have g1 := bl_get S 1 hp1
  have hw1 : wrap64 (S[1].toNat : Int) = (S[1].toNat : Int) := wrap64_byte _
  by_cases hs2 : 2 < S.size
  · have HN : Hid (num (bl S) = ((S[1].toNat : Int), 14)) := by show num _ = _; unfold num; rw [if_neg (by omega), if_pos hq, if_neg (by omega), if_pos (by omega), g1]
    have t2 : decide (2 < (S.size : Int)) = true := decide_eq_true (by omega)
    clear hl g0 hq hs1 g1 hs2
    cases a1
    all_goals cases a2
    any_goals (exfalso; revert h12; decide)
    all_goals clear h12
    all_goals (
      go_enter Tryz.func65, Tryz.ntmps65
      go_wp2_with fail
      go_ret2
      exact ⟨by rw [HN.out]; exact congrArg (fun x => Ending.returned (Value.tuple #[.int .i64 x, .int .i64 _])) hw1, Below.refl _ _⟩)
  · have HN : Hid (num (bl S) = ((S[1].toNat : Int), 0)) := by show num _ = _; unfold num; rw [if_neg (by omega), if_pos hq, if_neg (by omega), if_neg (by omega), g1]
    have t2 : decide (2 < (S.size : Int)) = false := decide_eq_false (by omega)
    clear hl g0 hq hs1 g1 hs2
    cases a1
    all_goals cases a2
    any_goals (exfalso; revert h12; decide)
    all_goals clear h12
    all_goals (
      go_enter Tryz.func65, Tryz.ntmps65
      go_wp2_with fail
      go_ret2
      exact ⟨by rw [HN.out]; exact congrArg (fun x => Ending.returned (Value.tuple #[.int .i64 x, .int .i64 _])) hw1, Below.refl _ _⟩)

/-- What scan.Const told, and a text's length, as fill.Number reads them. -/
def ncode (x : Nat × Nat × Bool) (len : Nat) : Nat := if x.2.2 = true then 6 else if x.2.1 = 0 ∨ x.2.1 < len then 14 else 0
theorem ncode_over (x : Nat × Nat × Bool) (len : Nat) (h : x.2.2 = true) : ncode x len = 6 := if_pos h
theorem ncode_no (x : Nat × Nat × Bool) (len : Nat) (h : x.2.2 = false) (b0 b1 : Bool) (h0 : ((x.2.1 : Int) == 0) = b0) (h1 : decide (x.2.1 < len) = b1) : ncode x len = if b0 = true then 14 else if b1 = true then 14 else 0 := by
  unfold ncode
  rw [if_neg (by simp [h])]
  cases b0
  · rw [beq_eq_false_iff_ne] at h0
    cases b1
    · have := of_decide_eq_false h1
      rw [if_neg (by omega)]; rfl
    · have := of_decide_eq_true h1
      rw [if_pos (by omega)]; rfl
  · have := eq_of_beq h0
    rw [if_pos (by omega)]; rfl

set_option maxRecDepth 100000 in
set_option maxHeartbeats 8000000 in
/-- fill.Number of no quote, no sign. -/
theorem fill_Number_plain (S : ByteArray) (w : World) (hS : S.size ≤ maxLen) (hp0 : 0 < S.size) (h1 : ((S[0].toNat : Int) == 39) = false) (h2 : ((S[0].toNat : Int) == 34) = false) (h3 : ((S[0].toNat : Int) == 45) = false) (h4 : ((S[0].toNat : Int) == 43) = false) :
    Calls Tryz.prog 65 #[.string S] w fun e w' => e = .returned (.tuple #[.int .i64 (num (bl S)).1, .int .i64 (num (bl S)).2]) ∧ Below w.heap.size w w' := by
  have hl := bl_length S
  have g0 := bl_get S 0 hp0
  have e0 : S.toList.isEmpty = false := isEmpty_F (by omega)
  have HN : Hid (num (bl S) = (((const (bl S)).1 : Int), ncode (const (bl S)) S.size)) := by
    show num _ = _; unfold num
    rw [beq_eq_false_iff_ne] at h1 h2 h3 h4
    rw [if_neg (by omega), if_neg (by omega), if_neg (by omega), if_neg (by omega), hl]
    rfl
  have rc := Lib.run_convert_string_bytes (P := Tryz.prog) w 9 25 5 S Tryz.underlying9 Tryz.underlying25 Tryz.underlying5
  have RS := scan_Const _ _ (bl S) _ (bytes_bs w S hS)
  rw [hl] at RS
  have hB := bytes_below w S
  generalize hX : Lib.bytesWorld w 5 S = X at *
  generalize hC : const (bl S) = x at *
  obtain ⟨n, k, o⟩ := x
  have HB := Lib.hid hB
  have RS := Lib.hid RS
  clear hl g0 hS hX hB
  cases o
  · obtain ⟨b0, hb0⟩ : ∃ b, ((k : Int) == 0) = b := ⟨_, rfl⟩
    obtain ⟨b1, hb1⟩ : ∃ b, decide (k < S.size) = b := ⟨_, rfl⟩
    have HM := Lib.hid (ncode_no (n, k, false) S.size rfl b0 b1 hb0 hb1)
    cases b0 <;> cases b1
    all_goals (
      go_enter Tryz.func65, Tryz.ntmps65
      go_wp2_with fail
      refine RS.out.mono ?_
      rintro e w1 ⟨rfl, rfl⟩
      go_wp2_with fail
      go_ret2
      exact ⟨by rw [HN.out, HM.out]; rfl, HB.out⟩)
  · obtain ⟨b0, hb0⟩ : ∃ b, ((k : Int) == 0) = b := ⟨_, rfl⟩
    obtain ⟨b1, hb1⟩ : ∃ b, decide (k < S.size) = b := ⟨_, rfl⟩
    have HM := Lib.hid (ncode_over (n, k, true) S.size rfl)
    cases b0 <;> cases b1
    all_goals (
      go_enter Tryz.func65, Tryz.ntmps65
      go_wp2_with fail
      refine RS.out.mono ?_
      rintro e w1 ⟨rfl, rfl⟩
      go_wp2_with fail
      go_ret2
      exact ⟨by rw [HN.out, HM.out]; rfl, HB.out⟩)

set_option maxRecDepth 100000 in
set_option maxHeartbeats 8000000 in
/-- fill.Number behind a plus. -/
theorem fill_Number_plus (S : ByteArray) (w : World) (hS : S.size ≤ maxLen) (hp0 : 0 < S.size) (h1 : ((S[0].toNat : Int) == 39) = false) (h2 : ((S[0].toNat : Int) == 34) = false) (h3 : ((S[0].toNat : Int) == 45) = false) (h4 : ((S[0].toNat : Int) == 43) = true) :
    Calls Tryz.prog 65 #[.string S] w fun e w' => e = .returned (.tuple #[.int .i64 (num (bl S)).1, .int .i64 (num (bl S)).2]) ∧ Below w.heap.size w w' := by
  have hl := bl_length S
  have g0 := bl_get S 0 hp0
  have e0 : S.toList.isEmpty = false := isEmpty_F (by omega)
  obtain ⟨T, hT⟩ : ∃ T, T = S.extract 1 S.size := ⟨_, rfl⟩
  have hTl : (bl S).drop 1 = bl T := by rw [hT]; exact (bl_tail S).symm
  have hTs : (bl T).length = T.size := bl_length T
  have hTm : T.size ≤ maxLen := by rw [← hTs, ← hTl, List.length_drop]; omega
  have HN : Hid (num (bl S) = (((const (bl T)).1 : Int), ncode (const (bl T)) T.size)) := by
    show num _ = _; unfold num
    rw [beq_eq_false_iff_ne] at h1 h2 h3
    have h4 := eq_of_beq h4
    rw [if_neg (by omega), if_neg (by omega), if_neg (by omega), if_pos (by omega), hTl, hTs]
    rfl
  have rc := Lib.run_convert_string_bytes (P := Tryz.prog) w 9 25 5 T Tryz.underlying9 Tryz.underlying25 Tryz.underlying5
  have RS := scan_Const _ _ (bl T) _ (bytes_bs w T hTm)
  rw [hTs] at RS
  have hB := bytes_below w T
  generalize hX : Lib.bytesWorld w 5 T = X at *
  generalize hC : const (bl T) = x at *
  obtain ⟨n, k, o⟩ := x
  have HB := Lib.hid hB
  have RS := Lib.hid RS
  have rs : ∀ W, (Instr.slice 9 (.string S) (some (.int .i64 1)) none none).run Tryz.prog W = .ok (.string T) W := fun W => by
    rw [run_slice_string_from_if W 9 S .i64 1 Tryz.underlying9, if_pos (by omega), hT]; rfl
  clear hT
  clear hl g0 hS hX hB hTl hTs hTm
  obtain ⟨b0, hb0⟩ : ∃ b, ((k : Int) == 0) = b := ⟨_, rfl⟩
  obtain ⟨b1, hb1⟩ : ∃ b, decide (k < T.size) = b := ⟨_, rfl⟩
  cases o
  · have HM := Lib.hid (ncode_no (n, k, false) T.size rfl b0 b1 hb0 hb1)
    cases b0 <;> cases b1
    all_goals (
      go_enter Tryz.func65, Tryz.ntmps65
      go_wp2_with fail
      refine RS.out.mono ?_
      rintro e w1 ⟨rfl, rfl⟩
      go_wp2_with fail
      go_ret2
      exact ⟨by rw [HN.out, HM.out]; rfl, HB.out⟩)
  · have HM := Lib.hid (ncode_over (n, k, true) T.size rfl)
    cases b0 <;> cases b1
    all_goals (
      go_enter Tryz.func65, Tryz.ntmps65
      go_wp2_with fail
      refine RS.out.mono ?_
      rintro e w1 ⟨rfl, rfl⟩
      go_wp2_with fail
      go_ret2
      exact ⟨by rw [HN.out, HM.out]; rfl, HB.out⟩)
set_option maxRecDepth 100000 in
set_option maxHeartbeats 8000000 in
/-- fill.Number behind a minus. -/
theorem fill_Number_minus (S : ByteArray) (w : World) (hS : S.size ≤ maxLen) (hp0 : 0 < S.size) (h1 : ((S[0].toNat : Int) == 39) = false) (h2 : ((S[0].toNat : Int) == 34) = false) (h3 : ((S[0].toNat : Int) == 45) = true) :
    Calls Tryz.prog 65 #[.string S] w fun e w' => e = .returned (.tuple #[.int .i64 (num (bl S)).1, .int .i64 (num (bl S)).2]) ∧ Below w.heap.size w w' := by
  have hl := bl_length S
  have g0 := bl_get S 0 hp0
  have e0 : S.toList.isEmpty = false := isEmpty_F (by omega)
  obtain ⟨T, hT⟩ : ∃ T, T = S.extract 1 S.size := ⟨_, rfl⟩
  have hTl : (bl S).drop 1 = bl T := by rw [hT]; exact (bl_tail S).symm
  have hTs : (bl T).length = T.size := bl_length T
  have hTm : T.size ≤ maxLen := by rw [← hTs, ← hTl, List.length_drop]; omega
  have HN : Hid (num (bl S) = (if (const (bl T)).2.2 = true then -9223372036854775808 else -((const (bl T)).1 : Int), ncode (const (bl T)) T.size)) := by
    show num _ = _; unfold num
    rw [beq_eq_false_iff_ne] at h1 h2
    have h3 := eq_of_beq h3
    rw [if_neg (by omega), if_neg (by omega), if_pos (by omega), hTl, hTs]
    generalize const (bl T) = x
    obtain ⟨n, k, o⟩ := x
    cases o <;> rfl
  have rc := Lib.run_convert_string_bytes (P := Tryz.prog) w 9 25 5 T Tryz.underlying9 Tryz.underlying25 Tryz.underlying5
  have RS := scan_Const _ _ (bl T) _ (bytes_bs w T hTm)
  rw [hTs] at RS
  have hB := bytes_below w T
  have hle := (const_le (bl T)).1
  generalize hX : Lib.bytesWorld w 5 T = X at *
  generalize hC : const (bl T) = x at *
  obtain ⟨n, k, o⟩ := x
  have HB := Lib.hid hB
  have hw1 : wrap64 (-(n : Int)) = -(n : Int) := by unfold wrap64; simp only at hle; omega
  clear hle
  have RS := Lib.hid RS
  have rs : ∀ W, (Instr.slice 9 (.string S) (some (.int .i64 1)) none none).run Tryz.prog W = .ok (.string T) W := fun W => by
    rw [run_slice_string_from_if W 9 S .i64 1 Tryz.underlying9, if_pos (by omega), hT]; rfl
  clear hT
  clear hl g0 hS hX hB hTl hTs hTm
  obtain ⟨b0, hb0⟩ : ∃ b, ((k : Int) == 0) = b := ⟨_, rfl⟩
  obtain ⟨b1, hb1⟩ : ∃ b, decide (k < T.size) = b := ⟨_, rfl⟩
  cases o
  · have HM := Lib.hid (ncode_no (n, k, false) T.size rfl b0 b1 hb0 hb1)
    cases b0 <;> cases b1
    all_goals (
      go_enter Tryz.func65, Tryz.ntmps65
      go_wp2_with fail
      refine RS.out.mono ?_
      rintro e w1 ⟨rfl, rfl⟩
      go_wp2_with fail
      go_ret2
      exact ⟨by rw [HN.out, HM.out]; exact congrArg (fun x => Ending.returned (Value.tuple #[.int .i64 x, .int .i64 _])) hw1, HB.out⟩)
  · have HM := Lib.hid (ncode_over (n, k, true) T.size rfl)
    cases b0 <;> cases b1
    all_goals (
      go_enter Tryz.func65, Tryz.ntmps65
      go_wp2_with fail
      refine RS.out.mono ?_
      rintro e w1 ⟨rfl, rfl⟩
      go_wp2_with fail
      go_ret2
      exact ⟨by rw [HN.out, HM.out]; rfl, HB.out⟩)

/-- fill.Number. -/
theorem fill_Number (S : ByteArray) (w : World) (hS : S.size ≤ maxLen) :
    Calls Tryz.prog 65 #[.string S] w fun e w' => e = .returned (.tuple #[.int .i64 (num (bl S)).1, .int .i64 (num (bl S)).2]) ∧ Below w.heap.size w w' := by
  have hl := bl_length S
  by_cases h0 : S.size = 0
  · have HN : Hid (num (bl S) = (0, 0)) := by show num _ = _; unfold num; rw [if_pos (by omega)]
    have e0 : S.toList.isEmpty = true := isEmpty_T h0
    clear hS hl
    go_enter Tryz.func65, Tryz.ntmps65
    go_wp2_with fail
    go_ret2
    exact ⟨by rw [HN.out]; rfl, Below.refl _ _⟩
  have hp0 : 0 < S.size := by omega
  cases h1 : ((S[0].toNat : Int) == 39)
  · cases h2 : ((S[0].toNat : Int) == 34)
    · cases h3 : ((S[0].toNat : Int) == 45)
      · cases h4 : ((S[0].toNat : Int) == 43)
        · exact fill_Number_plain S w hS hp0 h1 h2 h3 h4
        · exact fill_Number_plus S w hS hp0 h1 h2 h3 h4
      · exact fill_Number_minus S w hS hp0 h1 h2 h3
    · exact fill_Number_quote S w hp0 _ _ h1 h2 (Or.inr rfl)
  · exact fill_Number_quote S w hp0 true ((S[0].toNat : Int) == 34) h1 rfl (Or.inl rfl)
end Go.Proofs.YtppcjmbblkbkdaaGreatDoor
