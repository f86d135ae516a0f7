/- Towards the walks of pidginref14.conversion and pidginref14.Parse: plain facts, and what the parser holds. Conditions as typed. -/
import Derived.Test.YtppcjmbblkbkdaaGreatDoorRefA
import Derived.Test.YtppcjmbblkbkdaaGreatDoorPlain
import Derived.Test.YtppcjmbblkbkdaaGreatDoorParse
import Derived.Test.YtppcjmbblkbkdaaGreatDoorPush
import Derived.Deep.CutRange
import Derived.Test.YtppcjmbblkbkdaaGreatDoorParts
import Derived.Test.YtppcjmbblkbkdaaGreatDoorStrs
namespace Go.Proofs.YtppcjmbblkbkdaaGreatDoor
open Go.RowKit Pg

theorem inFl (x : Nat) : isIn x [45, 43, 32, 48, 35] = isFl x := by
  rw [Bool.eq_iff_iff]
  simp [isIn, isFl]
  omega
theorem inConv (x : Nat) : isIn x [99, 115, 98, 100, 105, 111, 117, 120, 88] = (isConv x || x == 105) := by
  rw [Bool.eq_iff_iff]
  simp [isIn, isConv]
  omega
theorem digitsL_over_is (base : Nat) (l : List UInt8) : ∀ n k o, (o = true → n = maxI) → (digitsL base l n k o).2.2 = true → (digitsL base l n k o).1 = maxI := by
  induction l with
  | nil => intro n k o h h2; exact h h2
  | cons c t ih =>
    intro n k o h
    unfold digitsL
    split
    · split
      · exact ih _ _ _ fun _ => rfl
      · exact ih _ _ _ fun h0 => by simp at h0
    · exact h
theorem number_iff (l : List UInt8) : number l = if 1000 < (digits 10 l).1 then none else some ((digits 10 l).1, (digits 10 l).2.1) := by
  unfold number
  by_cases h : 1000 < (digits 10 l).1
  · rw [if_pos h, if_pos (.inr h)]
  · rw [if_neg h, if_neg]
    rintro (h1 | h1)
    · have := digitsL_over_is 10 l 0 0 false (by simp) h1
      unfold digits maxI at *
      omega
    · exact h h1
/-- The letter at the end, as the reference asks for it. -/
theorem convEnd_in {l : List UInt8} {i j x : Nat} {f : Fl} {n : Nat} {pr : Int} (h : j < l.length) (hx : (l.getD j 0).toNat = x) (h37 : x = 37 → i < j) :
    convEnd l i f n pr j = if isIn x [99, 115, 98, 100, 105, 111, 117, 120, 88] = true then .ok (⟨[], if x = 105 then 100 else x, f, n, pr⟩, j + 1) else .error (3, j) := by
  rw [inConv]
  by_cases h1 : x = 37
  · rw [convEnd_bad h hx h1 (h37 h1), if_neg]
    subst h1
    decide
  · by_cases h2 : x = 105
    · rw [convEnd_i h hx h2, if_pos (by simp [h2]), if_pos h2]
    · by_cases h3 : isConv x = true
      · rw [convEnd_letter h hx h1 h3, if_pos (by simp [h3]), if_neg h2]
      · rw [convEnd_no h hx h1 (by simpa using h3) h2, if_neg (by simp [h2, h3])]
theorem conv_pct {l : List UInt8} {i : Nat} (h : i < l.length) (hx : (l.getD i 0).toNat = 37) : conv l i = .ok (⟨[], 37, fl0, 0, -1⟩, i + 1) := by
  have hg : l.getD i 0 = l[i] := getD_at h
  have hn : number (l.drop (i + 0)) = some (0, 0) := by
    rw [Nat.add_zero, List.drop_eq_getElem_cons h]
    refine number_no ?_ _
    rw [hg] at hx
    have := dig_cases l[i]
    omega
  have e1 := conv_flags (f := fl0) (k := 0) (_root_.Go.Proofs.YtppcjmbblkbkdaaGreatDoor.flags_no' h hx (by decide))
  have e2 := convWidth_ok (i := i) (f := fl0) hn
  have e3 : convPrec l i fl0 0 (i + 0 + 0) = convEnd l i fl0 0 (-1) i := convPrec_nil (show ¬ (i < l.length ∧ (l.getD i 0).toNat = 46) by rw [hx]; omega)
  rw [e1, e2, e3]
  exact convEnd_pct (j := i) h hx rfl (by omega)
theorem conv_ne37 {l : List UInt8} {i : Nat} {p : Part} {j : Nat} (h : conv l i = .ok (p, j)) (hne : ¬ (i < l.length ∧ (l.getD i 0).toNat = 37)) : p.conv ≠ 37 := by
  have hend : ∀ f n pr i2, i ≤ i2 → convEnd l i f n pr i2 = .ok (p, j) → p.conv ≠ 37 := by
    intro f n pr i2 h2 h
    unfold convEnd at h
    split at h
    · cases h
    · split at h
      · split at h
        · cases h
        · next h3 h4 h5 =>
          exact absurd ⟨by omega, by rw [show i = i2 by omega]; exact h4⟩ hne
      · split at h
        · next h4 h5 =>
          cases h
          exact h4
        · split at h
          · cases h; exact (by show (100 : Nat) ≠ 37; decide)
          · cases h
  have hprec : ∀ f n i2, i ≤ i2 → convPrec l i f n i2 = .ok (p, j) → p.conv ≠ 37 := by
    intro f n i2 h2 h
    unfold convPrec at h
    split at h
    · cases hn : number (l.drop (i2 + 1)) with
      | none => rw [hn] at h; cases h
      | some nk => rw [hn] at h; exact hend _ _ _ _ (by omega) h
    · exact hend _ _ _ _ h2 h
  unfold conv convWidth at h
  cases hn : number (l.drop (i + (flags (l.drop i) fl0 0).2)) with
  | none => rw [hn] at h; cases h
  | some nk => rw [hn] at h; exact hprec _ _ _ (by omega) h

/-- What pidginref14.conversion tells. -/
def RConvPost (w : World) (r : Except (Nat × Nat) (Part × Nat)) (e : Ending) (w' : World) : Prop :=
  Below w.heap.size w w' ∧ match r with
  | .error (c, q) => ∃ p0 : Part, e = .returned (.tuple #[.agg (partCells (.slice none 0 0) p0), .int .i64 0, .agg #[.int .i64 c, .int .i64 q, .int .i64 5]])
  | .ok (p, j) => e = .returned (.tuple #[.agg (partCells (.slice none 0 0) p), .int .i64 j, .agg #[.int .i64 0, .int .i64 0, .int .i64 0]])
theorem rconv_err {w : World} {r : Except (Nat × Nat) (Part × Nat)} {e : Ending} {w' : World} {c q : Nat} (h : r = .error (c, q)) (hb : Below w.heap.size w w') (p0 : Part) (he : e = .returned (.tuple #[.agg (partCells (.slice none 0 0) p0), .int .i64 0, .agg #[.int .i64 c, .int .i64 q, .int .i64 5]])) : RConvPost w r e w' := by
  subst h; exact ⟨hb, p0, he⟩
theorem rconv_ok {w : World} {r : Except (Nat × Nat) (Part × Nat)} {e : Ending} {w' : World} {p : Part} {j : Nat} (h : r = .ok (p, j)) (hb : Below w.heap.size w w') (he : e = .returned (.tuple #[.agg (partCells (.slice none 0 0) p), .int .i64 j, .agg #[.int .i64 0, .int .i64 0, .int .i64 0]])) : RConvPost w r e w' := by
  subst h; exact ⟨hb, he⟩

/-- What the reference's parser holds: parts that are done, bytes under way, which lie from block K on. -/
structure RMid (B : Nat) (w : World) (lv : Value) (L : List Part) (tv : Value) (lit : List UInt8) (K : Nat) (vs : List Value) : Prop where
  bK : B ≤ K
  kw : K ≤ w.heap.size
  len : vs.length = L.length
  row : w.ownsRow B 59 9 lv L.length (rowC vs L)
  lits : ∀ (i : Nat) (h : i < L.length) (h' : i < vs.length), LitR w K vs[i] L[i].lit
  last : w.ownsRow K 5 1 tv lit.length (u8s lit)
theorem RMid.nil (w : World) : RMid w.heap.size w (.slice none 0 0) [] (.slice none 0 0) [] w.heap.size [] :=
  ⟨Nat.le_refl _, Nat.le_refl _, rfl, World.ownsRow_nil _ _ _ _, fun i h => by simp at h, World.ownsRow_nil _ _ _ _⟩
theorem RMid.below {B B' : Nat} {w w' : World} {lv tv : Value} {L : List Part} {lit : List UInt8} {K : Nat} {vs : List Value} (h : RMid B w lv L tv lit K vs) (hb : Below B' w w') (hB : w.heap.size ≤ B') : RMid B w' lv L tv lit K vs :=
  ⟨h.bK, Nat.le_trans h.kw hb.size, h.len, ownsRow_below h.row hb hB, fun i h1 h2 => (h.lits i h1 h2).kept (U8Kept.below hb hB), ownsRow_below h.last hb hB⟩
theorem RMid.parts {B : Nat} {w : World} {lv tv : Value} {L : List Part} {lit : List UInt8} {K : Nat} {vs : List Value} (h : RMid B w lv L tv lit K vs) : PartsC B w lv L :=
  ⟨vs, h.len, fun i h1 h2 => (h.lits i h1 h2).more h.kw, h.row⟩
/-- A byte more. -/
theorem RMid.byte {B : Nat} {w : World} {lv tv : Value} {L : List Part} {lit : List UInt8} {K : Nat} {vs : List Value} (h : RMid B w lv L tv lit K vs) (hl : lit.length ≤ 5000) (c : UInt8) (ty : TypeId) :
    ∃ tv' w', (Builtin.append_ #[25, 25] ty #[tv, .slice (some ⟨w.heap.size, 0, none⟩) 1 1]).run Tryz.prog (w.alloc (.cells #[.int .u8 c.toNat] 5)) = .ok tv' w' ∧ RMid B w' lv L tv' (lit ++ [c]) K vs ∧ Below B w w' := by
  obtain ⟨v', w', h1, h2, h3, _⟩ := run_push_big (w := w.alloc (.cells #[.int .u8 c.toNat] 5)) (h.last.alloc _) (ad := ⟨w.heap.size, 0, none⟩) (cx := 1) (x := c) (news_at rfl #[.int .u8 c.toNat] 5 0 _ rfl) (by omega) (by rw [World.size_alloc]; have := h.kw; omega) ty
  have hsz := h3.size
  rw [World.size_alloc] at hsz
  have hBw : B ≤ w.heap.size := Nat.le_trans h.bK h.kw
  refine ⟨v', w', h1, ⟨h.bK, by have := h.kw; omega, h.len, ?_, fun i h4 h5 => ?_, ?_⟩, ?_⟩
  · refine (h.row.alloc _).kept h3 ?_
    rcases h.row.2 with ⟨rfl, _⟩ | ⟨g, cap, cur, rfl, _, hg, _⟩
    · exact .inl rfl
    · refine .inr fun he => ?_
      exact own_blk_ne h.last (g := g) hg (by decide) he.symm
  · exact (h.lits i h4 h5).kept ((U8Kept.alloc _ w _).trans (U8Kept.grown h3 fun k hk => (h.last.lt k hk).1))
  · rw [List.length_append]; exact h2
  · exact ((Below.refl B w).alloc hBw _).grown h3 (by rw [World.size_alloc]; omega) (fun k hk => Nat.le_trans h.bK (h.last.lt k hk).1)
/-- A part more; its bytes lie where they may. -/
theorem RMid.part {B : Nat} {w : World} {lv tv : Value} {L : List Part} {lit : List UInt8} {K : Nat} {vs : List Value} (h : RMid B w lv L tv lit K vs) (hL : L.length ≤ 5000) (u : Value) (p : Part) (hu : LitR w w.heap.size u p.lit) (hone : ∃ a n c, u = .slice a n c) (ty : TypeId) :
    ∃ lv' w', (Builtin.append_ #[33, 33] ty #[lv, .slice (some ⟨w.heap.size, 0, none⟩) 1 1]).run Tryz.prog (w.alloc (.cells (partCells u p) 59)) = .ok lv' w' ∧
      (∃ K' vs', RMid B w' lv' (L ++ [p]) (.slice none 0 0) [] K' vs') ∧ Below B w w' ∧ (w.alloc (.cells (partCells u p) 59)).grownBy w' lv.ownBlock := by
  obtain ⟨xa, xn, xc, rfl⟩ := hone
  obtain ⟨i9, hi9, hy0, hy1, hy2⟩ := info_parts Tryz.infoPart
  have hBw : B ≤ w.heap.size := Nat.le_trans h.bK h.kw
  obtain ⟨v', w', h1, h2, h3, _, h4⟩ := run_append_own_at (P := Tryz.prog) (w := w.alloc (.cells (partCells (.slice xa xn xc) p) 59)) B 33 ty 59 i9 _ 9 48 Tryz.underlying33 hi9 hy0 hy1 hy2 rfl (by omega) lv L.length (rowC vs L) (h.row.alloc _) ⟨w.heap.size, 0, none⟩ 1 1 (partCells (.slice xa xn xc) p).toList rfl
    (news_at rfl _ _) (by simp [partCells, Value.oneCell']) (by unfold maxLen; omega) (by omega) (by rw [World.size_alloc]; omega)
  have hsz := h3.size
  rw [World.size_alloc] at hsz
  refine ⟨v', w', h1, ⟨w'.heap.size, vs ++ [.slice xa xn xc], by omega, Nat.le_refl _, by simp [h.len], ?_, ?_, World.ownsRow_nil _ _ _ _⟩, ?_⟩
  · rw [rowC_append vs L (.slice xa xn xc) p h.len, List.length_append]
    exact h2
  · have k1 : U8Kept w.heap.size w w' := (U8Kept.alloc _ w _).trans (U8Kept.grownOther h3 (fun k cur hk hh => by
      rcases h.row.2 with ⟨rfl, _⟩ | ⟨g', cap', cur', rfl, _, hg', _⟩
      · simp [Value.ownBlock] at hk
      · simp [Value.ownBlock] at hk
        subst hk
        have hlt := Blk.lt (t := 59) hg'
        rw [Below.heap_alloc w _ _ hlt, hg'] at hh
        simp at hh))
    intro i hi hi'
    by_cases hil : i < L.length
    · have hiv : i < vs.length := by rw [h.len]; exact hil
      rw [List.getElem_append_left hil, List.getElem_append_left hiv]
      exact (((h.lits i hil hiv).more h.kw).kept k1).more (by omega)
    · have e : i = L.length := by simp at hi; omega
      subst e
      rw [List.getElem_append_right (Nat.le_refl _), List.getElem_append_right (by rw [h.len]; exact Nat.le_refl _)]
      simp only [h.len, Nat.sub_self, List.getElem_cons_zero]
      exact (hu.kept k1).more (by omega)
  · exact ⟨((Below.refl B w).alloc hBw _).grown h3 (by rw [World.size_alloc]; omega) (fun k hk => (h.row.lt k hk).1), h3⟩
end Go.Proofs.YtppcjmbblkbkdaaGreatDoor

/- The walk of pidginref14.conversion. Conditions as typed. -/
namespace Go.Proofs.YtppcjmbblkbkdaaGreatDoor
open Go.RowKit Pg

theorem ref_F (c p g : Int) (w : World) : Calls Tryz.prog 33 #[.int .i64 c, .int .i64 p, .int .i64 g] w fun e w' => e = .returned (.agg #[.int .i64 c, .int .i64 p, .int .i64 g]) ∧ w' = w.alloc (.cells #[.int .i64 c, .int .i64 p, .int .i64 g] 35) := by
  go_enter Tryz.func33, Tryz.ntmps33
  go_wp2_with fail
  try rw [Exit.noGoto_ret]
  refine bodyPost_ret (v := .agg #[.int .i64 c, .int .i64 p, .int .i64 g]) (by simp [results, Tryz.results33, go_sem]) rfl ?_
  exact ⟨rfl, rfl⟩
/-- pidginref14.fault. -/
theorem ref_fault (c p : Int) (w : World) : Calls Tryz.prog 18 #[.int .i64 c, .int .i64 p] w fun e w' => e = .returned (.agg #[.int .i64 c, .int .i64 p, .int .i64 5]) ∧ w' = (w.alloc (.cells #[.int .i64 c, .int .i64 p, .int .i64 5] 35)).alloc (.cells #[.int .i64 c, .int .i64 p, .int .i64 5] 35) := by
  have C := Lib.hid (fun W => ref_F c p 5 W)
  go_enter Tryz.func18, Tryz.ntmps18
  go_wp2_with (go_at_call 33; refine (C.out _).mono ?_; rintro e w' ⟨rfl, rfl⟩)
  try rw [Exit.noGoto_ret]
  refine bodyPost_ret (v := .agg #[.int .i64 c, .int .i64 p, .int .i64 5]) (by simp [results, Tryz.results18, go_sem]) rfl ?_
  exact ⟨rfl, rfl⟩
theorem ref_In_fl (x : Nat) (W : World) : Calls Tryz.prog 35 #[.int .u8 x, .string ⟨#[45, 43, 32, 48, 35]⟩] W fun e w' => e = .returned (.bool (isFl x)) ∧ W = w' := by
  have h := ref_In x ⟨#[45, 43, 32, 48, 35]⟩ (by decide) W
  rwa [show bl ⟨#[45, 43, 32, 48, 35]⟩ = [45, 43, 32, 48, 35] from rfl, inFl] at h
theorem ref_In_conv (x : Nat) (W : World) : Calls Tryz.prog 35 #[.int .u8 x, .string ⟨#[99, 115, 98, 100, 105, 111, 117, 120, 88]⟩] W fun e w' => e = .returned (.bool (isIn x [99, 115, 98, 100, 105, 111, 117, 120, 88])) ∧ W = w' :=
  ref_In x ⟨#[99, 115, 98, 100, 105, 111, 117, 120, 88]⟩ (by decide) W
theorem ref_Digits_c7 (a : Option Addr) (cap : Nat) (l : List UInt8) (w : World) (hl : Bs w a cap l) (k : Nat) (hk : k ≤ l.length) :
    Calls Tryz.prog 34 #[.slice (cutA a cap k) (l.length - k) (cap - k), .int .i64 10] w fun e w' => e = .returned (.tuple #[.int .i64 (digits 10 (l.drop k)).1, .int .i64 (digits 10 (l.drop k)).2.1, .bool (digits 10 (l.drop k)).2.2]) ∧ w = w' := by
  have := ref_Digits (cutA a cap k) (cap - k) (l.drop k) 10 (by omega) (by omega) w (hl.cut k hk)
  rwa [List.length_drop] at this
theorem number_big {l : List UInt8} (h : 1000 < (digits 10 l).1) : number l = none := by rw [number_iff, if_pos h]
theorem number_fit {l : List UInt8} (h : ¬ 1000 < (digits 10 l).1) : number l = some ((digits 10 l).1, (digits 10 l).2.1) := by rw [number_iff, if_neg h]

set_option maxRecDepth 100000 in
set_option maxHeartbeats 4000000 in
/-- pidginref14.conversion, where no percent stands. -/
theorem ref_conversion (a : Option Addr) (cap : Nat) (l : List UInt8) (w : World) (hl : Bs w a cap l) (i : Nat) (hi : i ≤ l.length) (h37 : ¬ (i < l.length ∧ (l.getD i 0).toNat = 37)) :
    Calls Tryz.prog 20 #[.slice a l.length cap, .int .i64 i] w (RConvPost w (conv l i)) := by
  have HL := Lib.hid hl
  have hlc := hl.1
  have hcm := hl.2.1
  unfold maxLen at hcm
  have H37 := Lib.hid h37
  have CF := Lib.hid ref_fault
  clear hl h37
  go_enter Tryz.func20, Tryz.ntmps20
  go_wp2_with fail
  go_loopw [1] (fun t wr => ∃ (kk : Nat) (f : Fl), i + kk ≤ l.length ∧ t = .int .i64 ↑(i + kk) ∧ Hid (flags (l.drop (i + kk)) f kk = flags (l.drop i) fl0 0) ∧ wr = ((w.alloc (.cells #[.slice none 0 0, .int .u8 0, .bool false, .bool false, .bool false, .bool false, .bool false, .int .i64 0, .int .i64 0] 59)).alloc (.cells #[.int .i64 0, .int .i64 0, .int .i64 0] 35)).alloc (.cells #[.slice none 0 0, .int .u8 0, .bool f.minus, .bool f.plus, .bool f.space, .bool f.zero, .bool f.alt, .int .i64 0, .int .i64 (-1)] 59)) (fun t _ => l.length - (intOf t).toNat)
  case atStart => exact ⟨0, fl0, by omega, rfl, rfl, rfl⟩
  case round =>
    obtain ⟨kk, f, hk, rfl, HR, rfl⟩ := hrel
    obtain ⟨j, hj⟩ : ∃ j, j = i + kk := ⟨_, rfl⟩
    rw [← hj] at hk HR ⊢
    have hij : i ≤ j := by omega
    have HJ := Lib.hid hj
    clear hj
    have bW : Below w.heap.size w (((w.alloc (.cells #[.slice none 0 0, .int .u8 0, .bool false, .bool false, .bool false, .bool false, .bool false, .int .i64 0, .int .i64 0] 59)).alloc (.cells #[.int .i64 0, .int .i64 0, .int .i64 0] 35)).alloc (.cells #[.slice none 0 0, .int .u8 0, .bool f.minus, .bool f.plus, .bool f.space, .bool f.zero, .bool f.alt, .int .i64 0, .int .i64 (-1)] 59)) := (((Below.refl _ _).alloc (Nat.le_refl _) _).alloc (by simp) _).alloc (by simp; omega) _
    have HLW := Lib.hid (HL.out.below bW (Nat.le_refl _))
    clear bW
    go_upto_region 2 with (fail)
    go_cut [22] from 12 to 41 (fun t wx => ∃ D : Bool, Hid (D = (decide (j < l.length) && isFl (l.getD j 0).toNat)) ∧ t = .bool D ∧ wx = ((w.alloc (.cells #[.slice none 0 0, .int .u8 0, .bool false, .bool false, .bool false, .bool false, .bool false, .int .i64 0, .int .i64 0] 59)).alloc (.cells #[.int .i64 0, .int .i64 0, .int .i64 0] 35)).alloc (.cells #[.slice none 0 0, .int .u8 0, .bool f.minus, .bool f.plus, .bool f.space, .bool f.zero, .bool f.alt, .int .i64 0, .int .i64 (-1)] 59))
    case first =>
      by_cases hlt : j < l.length
      · obtain ⟨b, off, rfl, hc0⟩ := HLW.out.head j hlt
        obtain ⟨x, hx⟩ : ∃ x, (l.getD j 0).toNat = x := ⟨_, rfl⟩
        rw [hx] at hc0
        have C := Lib.hid (fun W => ref_In_fl x W)
        have HD : Hid (isFl x = (decide (j < l.length) && isFl (l.getD j 0).toNat)) := by
          show _ = _
          rw [hx, decide_eq_true hlt, Bool.true_and]
        clear hx
        generalize isFl x = D at *
        go_wp2_with (go_at_call 35; refine (C.out _).mono ?_; rintro e w' ⟨rfl, rfl⟩)
        go_meet
        exact ⟨D, HD.out, rfl, rfl⟩
      · have HD : Hid (false = (decide (j < l.length) && isFl (l.getD j 0).toNat)) := by
          show _ = _
          rw [decide_eq_false hlt, Bool.false_and]
        go_wp2_with fail
        go_meet
        exact ⟨false, HD.out, rfl, rfl⟩
    case rest =>
      obtain ⟨D, HD, rfl, rfl⟩ := hcut
      cases D
      · have HCW : Hid (conv l i = convWidth l i f j) := by
          show _ = _
          have hd := HD.out.symm
          rw [HJ.out]
          refine conv_flags (HR.out.symm.trans ?_)
          by_cases hlt : j < l.length
          · rw [decide_eq_true hlt, Bool.true_and] at hd
            exact flags_no' hlt rfl hd
          · exact flags_end l f kk j (by omega)
        clear HD HR HJ
        have hcut1 := run_cutFrom (P := Tryz.prog) Tryz.underlying25 u8_size a l cap j hk (j : Int) rfl
        have C1 := Lib.hid (ref_Digits_c7 a cap l _ HLW.out j hk)
        have hdl := (digits_le 10 (by omega) (l.drop j)).2
        rw [List.length_drop] at hdl
        have hbig := @number_big (l.drop j)
        have hfit := @number_fit (l.drop j)
        generalize digits 10 (l.drop j) = d at *
        obtain ⟨n, k, ov⟩ := d
        simp only [] at hdl hbig hfit C1
        by_cases hb : 1000 < n
        · have e1 : decide (1000 < (n : Int)) = true := decide_eq_true (by omega)
          have HN := Lib.hid (HCW.out.trans (convWidth_no (hbig hb)))
          clear hbig hfit hb
          go_upto_region 16 with (go_at_call 34; refine C1.out.mono ?_; rintro e w' ⟨rfl, rfl⟩)
          go_region_with (go_at_call 18; refine (CF.out _ _ _).mono ?_; rintro e w' ⟨rfl, rfl⟩)
          all_goals go_wp2_with fail
          all_goals try rw [Exit.noGoto_ret]
          all_goals refine bodyPost_ret (v := .tuple #[.agg (partCells (.slice none 0 0) ⟨[], 0, f, 0, -1⟩), .int .i64 0, .agg #[.int .i64 6, .int .i64 j, .int .i64 5]]) (by simp [results, Tryz.results20, go_sem, partCells]) rfl ?_
          all_goals exact rconv_err HN.out (by repeat' first | exact Below.refl _ _ | (refine Below.drew ?_) | (refine Below.alloc ?_ (by simp <;> omega) _)) _ rfl
        · have e1 : decide (1000 < (n : Int)) = false := decide_eq_false (by omega)
          obtain ⟨j1, hj1⟩ : ∃ j1, j1 = j + k := ⟨_, rfl⟩
          have ej : ((j : Int) + (k : Int)) = (j1 : Int) := by omega
          have HN : Hid (conv l i = convPrec l i f n j1) := by rw [hj1]; exact HCW.out.trans (convWidth_ok (hfit hb))
          have hj1l : j1 ≤ l.length := by omega
          have hij1 : i ≤ j1 := by omega
          have hn1 : n ≤ 1000 := by omega
          have bW : Below w.heap.size w (((w.alloc (.cells #[.slice none 0 0, .int .u8 0, .bool false, .bool false, .bool false, .bool false, .bool false, .int .i64 0, .int .i64 0] 59)).alloc (.cells #[.int .i64 0, .int .i64 0, .int .i64 0] 35)).alloc (.cells #[.slice none 0 0, .int .u8 0, .bool f.minus, .bool f.plus, .bool f.space, .bool f.zero, .bool f.alt, .int .i64 n, .int .i64 (-1)] 59)) := (((Below.refl _ _).alloc (Nat.le_refl _) _).alloc (by simp) _).alloc (by simp; omega) _
          have HLW1 := Lib.hid (HL.out.below bW (Nat.le_refl _))
          clear hbig hfit hb hj1 hdl bW HCW
          go_upto_region 19 with (go_at_call 34; refine C1.out.mono ?_; rintro e w' ⟨rfl, rfl⟩)
          clear C1 hcut1 ej e1
          go_cut [70] (fun t wx => ∃ D : Bool, Hid (D = decide (j1 < l.length ∧ (l.getD j1 0).toNat = 46)) ∧ t = .bool D ∧ wx = ((w.alloc (.cells #[.slice none 0 0, .int .u8 0, .bool false, .bool false, .bool false, .bool false, .bool false, .int .i64 0, .int .i64 0] 59)).alloc (.cells #[.int .i64 0, .int .i64 0, .int .i64 0] 35)).alloc (.cells #[.slice none 0 0, .int .u8 0, .bool f.minus, .bool f.plus, .bool f.space, .bool f.zero, .bool f.alt, .int .i64 n, .int .i64 (-1)] 59))
          case first =>
            by_cases hlt : j1 < l.length
            · obtain ⟨b, off, rfl, hc0⟩ := HLW1.out.head j1 hlt
              obtain ⟨x, hx⟩ : ∃ x, (l.getD j1 0).toNat = x := ⟨_, rfl⟩
              rw [hx] at hc0
              have HX := Lib.hid hx
              clear hx
              by_cases h46 : x = 46
              · have e46 := beqT h46
                have HD : Hid (true = decide (j1 < l.length ∧ (l.getD j1 0).toNat = 46)) := (decide_eq_true ⟨hlt, HX.out.trans h46⟩).symm
                simp only [Int.cast_ofNat_Int] at e46
                clear h46
                go_wp2_with fail
                go_meet
                exact ⟨true, HD, rfl, rfl⟩
              · have e46 := beqF h46
                have HD : Hid (false = decide (j1 < l.length ∧ (l.getD j1 0).toNat = 46)) := (decide_eq_false fun h => h46 (HX.out.symm.trans h.2)).symm
                simp only [Int.cast_ofNat_Int] at e46
                clear h46
                go_wp2_with fail
                go_meet
                exact ⟨false, HD, rfl, rfl⟩
            · have HD : Hid (false = decide (j1 < l.length ∧ (l.getD j1 0).toNat = 46)) := (decide_eq_false fun h => hlt h.1).symm
              go_wp2_with fail
              go_meet
              exact ⟨false, HD, rfl, rfl⟩
          case rest =>
            obtain ⟨D, HD, rfl, rfl⟩ := hcut
            go_upto_if 70 with (fail)
            go_cut [1] (fun t wx => ∃ (j2 : Nat) (pr : Int), i ≤ j2 ∧ j2 ≤ l.length ∧ Hid (conv l i = convEnd l i f n pr j2) ∧ t = .int .i64 j2 ∧ wx = ((w.alloc (.cells #[.slice none 0 0, .int .u8 0, .bool false, .bool false, .bool false, .bool false, .bool false, .int .i64 0, .int .i64 0] 59)).alloc (.cells #[.int .i64 0, .int .i64 0, .int .i64 0] 35)).alloc (.cells #[.slice none 0 0, .int .u8 0, .bool f.minus, .bool f.plus, .bool f.space, .bool f.zero, .bool f.alt, .int .i64 n, .int .i64 pr] 59))
            case first =>
              cases D
              · go_wp2_with fail
                go_meet
                exact ⟨j1, -1, by omega, by omega, HN.out.trans (convPrec_nil (of_decide_eq_false HD.out.symm)), rfl, rfl⟩
              · have hd := of_decide_eq_true HD.out.symm
                have hlt := hd.1
                have H46 := Lib.hid hd.2
                clear hd HD
                have hcut2 := run_cutFrom (P := Tryz.prog) Tryz.underlying25 u8_size a l cap (j1 + 1) (by omega) ((j1 : Int) + 1) (by omega)
                have C2 := Lib.hid (ref_Digits_c7 a cap l _ HLW1.out (j1 + 1) (by omega))
                have hdl := (digits_le 10 (by omega) (l.drop (j1 + 1))).2
                rw [List.length_drop] at hdl
                have hbig := @number_big (l.drop (j1 + 1))
                have hfit := @number_fit (l.drop (j1 + 1))
                generalize digits 10 (l.drop (j1 + 1)) = d at *
                obtain ⟨m, k2, ov2⟩ := d
                simp only [] at hdl hbig hfit C2
                by_cases hb : 1000 < m
                · have e1 : decide (1000 < (m : Int)) = true := decide_eq_true (by omega)
                  have HE := Lib.hid (HN.out.trans (convPrec_no hlt H46.out (hbig hb)))
                  clear hbig hfit hb
                  go_upto_region 23 with (go_at_call 34; refine C2.out.mono ?_; rintro e w' ⟨rfl, rfl⟩)
                  go_region_with (go_at_call 18; refine (CF.out _ _ _).mono ?_; rintro e w' ⟨rfl, rfl⟩)
                  all_goals go_wp2_with fail
                  all_goals try rw [Exit.noGoto_ret]
                  all_goals refine bodyPost_ret (v := .tuple #[.agg (partCells (.slice none 0 0) ⟨[], 0, f, n, -1⟩), .int .i64 0, .agg #[.int .i64 6, .int .i64 (j1 + 1), .int .i64 5]]) (by simp [results, Tryz.results20, go_sem, partCells]) rfl ?_
                  all_goals exact rconv_err HE.out (by repeat' first | exact Below.refl _ _ | (refine Below.drew ?_) | (refine Below.alloc ?_ (by simp <;> omega) _)) _ rfl
                · have e1 : decide (1000 < (m : Int)) = false := decide_eq_false (by omega)
                  obtain ⟨j2, hj2⟩ : ∃ j2, j2 = j1 + 1 + k2 := ⟨_, rfl⟩
                  have ej : ((j1 : Int) + 1 + (k2 : Int)) = (j2 : Int) := by omega
                  have HE : Hid (conv l i = convEnd l i f n m j2) := by rw [hj2]; exact HN.out.trans (convPrec_ok hlt H46.out (hfit hb))
                  have hj2l : j2 ≤ l.length := by omega
                  have hij2 : i ≤ j2 := by omega
                  have hm1 : m ≤ 1000 := by omega
                  clear hbig hfit hb hj2 hdl
                  go_wp2_with fail
                  refine C2.out.mono ?_
                  rintro e w' ⟨rfl, rfl⟩
                  go_wp2_with fail
                  go_meet
                  exact ⟨j2, m, by omega, by omega, HE.out, rfl, rfl⟩
            case rest =>
              obtain ⟨j2, pr, hij2, hj2, HE, rfl, rfl⟩ := hcut
              have bW : Below w.heap.size w (((w.alloc (.cells #[.slice none 0 0, .int .u8 0, .bool false, .bool false, .bool false, .bool false, .bool false, .int .i64 0, .int .i64 0] 59)).alloc (.cells #[.int .i64 0, .int .i64 0, .int .i64 0] 35)).alloc (.cells #[.slice none 0 0, .int .u8 0, .bool f.minus, .bool f.plus, .bool f.space, .bool f.zero, .bool f.alt, .int .i64 n, .int .i64 pr] 59)) := (((Below.refl _ _).alloc (Nat.le_refl _) _).alloc (by simp) _).alloc (by simp; omega) _
              have HLW2 := Lib.hid (HL.out.below bW (Nat.le_refl _))
              clear bW
              by_cases hlt : j2 < l.length
              · obtain ⟨b, off, rfl, hc0⟩ := HLW2.out.head j2 hlt
                have hb := lt_of_cell hc0
                obtain ⟨x, hx⟩ : ∃ x, (l.getD j2 0).toNat = x := ⟨_, rfl⟩
                rw [hx] at hc0
                have C := Lib.hid (fun W => ref_In_conv x W)
                have hce := convEnd_in (l := l) (i := i) (j := j2) (x := x) (f := f) (n := n) (pr := pr) hlt hx (fun h => by
                  rcases Nat.lt_or_ge i j2 with h2 | h2
                  · exact h2
                  · exact absurd ⟨by omega, by rw [show i = j2 by omega, hx]; exact h⟩ H37.out)
                have e0 : decide ((l.length : Int) ≤ (j2 : Int)) = false := decide_eq_false (by omega)
                clear hx
                cases hin : isIn x [99, 115, 98, 100, 105, 111, 117, 120, 88]
                · rw [hin] at hce C
                  have HC : Hid (conv l i = .error (3, j2)) := HE.out.trans (hce.trans (if_neg (by simp)))
                  clear hin hce
                  go_upto_region 27 with (go_at_call 35; refine (C.out _).mono ?_; rintro e w' ⟨rfl, rfl⟩)
                  go_region_with (go_at_call 18; refine (CF.out _ _ _).mono ?_; rintro e w' ⟨rfl, rfl⟩)
                  all_goals go_wp2_with fail
                  all_goals try rw [Exit.noGoto_ret]
                  all_goals refine bodyPost_ret (v := .tuple #[.agg (partCells (.slice none 0 0) ⟨[], 0, f, n, pr⟩), .int .i64 0, .agg #[.int .i64 3, .int .i64 j2, .int .i64 5]]) (by simp [results, Tryz.results20, go_sem, partCells]) rfl ?_
                  all_goals exact rconv_err HC.out (by repeat' first | exact Below.refl _ _ | (refine Below.drew ?_) | (refine Below.alloc ?_ (by simp <;> omega) _)) _ rfl
                · rw [hin] at hce C
                  have HC : Hid (conv l i = .ok (⟨[], if x = 105 then 100 else x, f, n, pr⟩, j2 + 1)) := HE.out.trans (hce.trans (if_pos rfl))
                  clear hin hce
                  by_cases h105 : x = 105
                  · have e105 := beqT h105
                    simp only [Int.cast_ofNat_Int] at e105
                    have HC2 : Hid (conv l i = .ok (⟨[], 100, f, n, pr⟩, j2 + 1)) := by have := HC.out; rw [if_pos h105] at this; exact this
                    clear h105
                    go_wp2_with (go_at_call 35; refine (C.out _).mono ?_; rintro e w' ⟨rfl, rfl⟩)
                    try rw [Exit.noGoto_ret]
                    refine bodyPost_ret (v := .tuple #[.agg (partCells (.slice none 0 0) ⟨[], 100, f, n, pr⟩), .int .i64 (j2 + 1), .agg #[.int .i64 0, .int .i64 0, .int .i64 0]]) (by simp [results, Tryz.results20, go_sem, partCells]) rfl ?_
                    exact rconv_ok HC2.out (by repeat' first | exact Below.refl _ _ | (refine Below.drew ?_) | (refine Below.alloc ?_ (by simp <;> omega) _)) rfl
                  · have e105 := beqF h105
                    simp only [Int.cast_ofNat_Int] at e105
                    have HC2 : Hid (conv l i = .ok (⟨[], x, f, n, pr⟩, j2 + 1)) := by have := HC.out; rw [if_neg h105] at this; exact this
                    clear h105
                    go_wp2_with (go_at_call 35; refine (C.out _).mono ?_; rintro e w' ⟨rfl, rfl⟩)
                    try rw [Exit.noGoto_ret]
                    refine bodyPost_ret (v := .tuple #[.agg (partCells (.slice none 0 0) ⟨[], x, f, n, pr⟩), .int .i64 (j2 + 1), .agg #[.int .i64 0, .int .i64 0, .int .i64 0]]) (by simp [results, Tryz.results20, go_sem, partCells]) rfl ?_
                    exact rconv_ok HC2.out (by repeat' first | exact Below.refl _ _ | (refine Below.drew ?_) | (refine Below.alloc ?_ (by simp <;> omega) _)) rfl
              · have hj : j2 = l.length := by omega
                subst hj
                have HC := Lib.hid (HE.out.trans (convEnd_end (f := f) (n := n) (pr := pr) (i := i) (Nat.le_refl _)))
                have e0 : decide ((l.length : Int) ≤ (l.length : Int)) = true := decide_eq_true (by omega)
                go_upto_region 27 with (fail)
                go_region_with (go_at_call 18; refine (CF.out _ _ _).mono ?_; rintro e w' ⟨rfl, rfl⟩)
                all_goals go_wp2_with fail
                all_goals try rw [Exit.noGoto_ret]
                all_goals refine bodyPost_ret (v := .tuple #[.agg (partCells (.slice none 0 0) ⟨[], 0, f, n, pr⟩), .int .i64 0, .agg #[.int .i64 3, .int .i64 l.length, .int .i64 5]]) (by simp [results, Tryz.results20, go_sem, partCells]) rfl ?_
                all_goals exact rconv_err HC.out (by repeat' first | exact Below.refl _ _ | (refine Below.drew ?_) | (refine Below.alloc ?_ (by simp <;> omega) _)) _ rfl
      · have hd := HD.out.symm
        rw [Bool.and_eq_true, decide_eq_true_eq] at hd
        have hlt := hd.1
        obtain ⟨b, off, rfl, hc0⟩ := HLW.out.head j hlt
        have hb := lt_of_cell hc0
        obtain ⟨x, hx⟩ : ∃ x, (l.getD j 0).toNat = x := ⟨_, rfl⟩
        rw [hx] at hc0 hd
        have HX := Lib.hid hx
        have hfl := hd.2
        clear hx hd HD
        rcases fl_cases x with ⟨hx, hfl, hset⟩ | ⟨hx, hfl, hset⟩ | ⟨hx, hfl, hset⟩ | ⟨hx, hfl, hset⟩ | ⟨hx, hfl, hset⟩ | ⟨⟨h1, h2, h3, h4, h5⟩, hno⟩
        · have HF := Lib.hid (flags_yes' (k := kk) hlt HX.out hfl (hset f))
          have e45 := beqT (x := x) (n := 45) hx
          clear hfl hset hx
          simp only [Int.cast_ofNat_Int] at e45
          go_wp2_with fail
          go_roundw
          case rel => have hj := HJ.out; exact ⟨kk + 1, { f with minus := true }, by omega, by go_num, (by rw [show i + (kk + 1) = j + 1 by have := HJ.out; omega]; exact HF.out.trans HR.out), rfl⟩
          case measure => simp [intOf]; omega
        · have HF := Lib.hid (flags_yes' (k := kk) hlt HX.out hfl (hset f))
          have e45 := beqF (x := x) (n := 45) (by omega)
          have e43 := beqT (x := x) (n := 43) hx
          clear hfl hset hx
          simp only [Int.cast_ofNat_Int] at e45 e43
          go_wp2_with fail
          go_roundw
          case rel => have hj := HJ.out; exact ⟨kk + 1, { f with plus := true }, by omega, by go_num, (by rw [show i + (kk + 1) = j + 1 by have := HJ.out; omega]; exact HF.out.trans HR.out), rfl⟩
          case measure => simp [intOf]; omega
        · have HF := Lib.hid (flags_yes' (k := kk) hlt HX.out hfl (hset f))
          have e45 := beqF (x := x) (n := 45) (by omega)
          have e43 := beqF (x := x) (n := 43) (by omega)
          have e32 := beqT (x := x) (n := 32) hx
          clear hfl hset hx
          simp only [Int.cast_ofNat_Int] at e45 e43 e32
          go_wp2_with fail
          go_roundw
          case rel => have hj := HJ.out; exact ⟨kk + 1, { f with space := true }, by omega, by go_num, (by rw [show i + (kk + 1) = j + 1 by have := HJ.out; omega]; exact HF.out.trans HR.out), rfl⟩
          case measure => simp [intOf]; omega
        · have HF := Lib.hid (flags_yes' (k := kk) hlt HX.out hfl (hset f))
          have e45 := beqF (x := x) (n := 45) (by omega)
          have e43 := beqF (x := x) (n := 43) (by omega)
          have e32 := beqF (x := x) (n := 32) (by omega)
          have e48 := beqT (x := x) (n := 48) hx
          clear hfl hset hx
          simp only [Int.cast_ofNat_Int] at e45 e43 e32 e48
          go_wp2_with fail
          go_roundw
          case rel => have hj := HJ.out; exact ⟨kk + 1, { f with zero := true }, by omega, by go_num, (by rw [show i + (kk + 1) = j + 1 by have := HJ.out; omega]; exact HF.out.trans HR.out), rfl⟩
          case measure => simp [intOf]; omega
        · have HF := Lib.hid (flags_yes' (k := kk) hlt HX.out hfl (hset f))
          have e45 := beqF (x := x) (n := 45) (by omega)
          have e43 := beqF (x := x) (n := 43) (by omega)
          have e32 := beqF (x := x) (n := 32) (by omega)
          have e48 := beqF (x := x) (n := 48) (by omega)
          clear hfl hset hx
          simp only [Int.cast_ofNat_Int] at e45 e43 e32 e48
          go_wp2_with fail
          go_roundw
          case rel => have hj := HJ.out; exact ⟨kk + 1, { f with alt := true }, by omega, by go_num, (by rw [show i + (kk + 1) = j + 1 by have := HJ.out; omega]; exact HF.out.trans HR.out), rfl⟩
          case measure => simp [intOf]; omega
        · rw [hno] at hfl
          cases hfl
end Go.Proofs.YtppcjmbblkbkdaaGreatDoor

/- The walk of pidginref14.Parse: the parts that shape.Parse tells, or the code and place of its error. Conditions as typed. -/
namespace Go.Proofs.YtppcjmbblkbkdaaGreatDoor
open Go.RowKit Pg

theorem wpList_rbyte {wr : World} {ops : Array Oper} {rest : List Oper} {o : Oper} {a : Act} {Q : Exit → Act → World → Prop} (hgd : o.guard = none) (s x : Operand)
    (ho : o.op = .call { callee := .builtin .append, args := #[s, x], argTypes := #[25, 25] }) {B : Nat} {lv tv : Value} {L : List Part} {lit : List UInt8} {K : Nat} {vs : List Value} (c : UInt8) (h : RMid B wr lv L tv lit K vs) (hl : lit.length ≤ 5000)
    (hs : a.eval s = tv) (hx : a.eval x = .slice (some ⟨wr.heap.size, 0, none⟩) 1 1)
    (hn : ∀ tv' w', RMid B w' lv L tv' (lit ++ [c]) K vs → Below B wr w' → wpList Tryz.prog ops Q rest (a.put o.dst tv') w') : wpList Tryz.prog ops Q (o :: rest) a (wr.alloc (.cells #[.int .u8 c.toNat] 5)) := by
  refine wpList_plain hgd fun K' hK => ?_
  obtain ⟨v', w', hr, h2, h3⟩ := h.byte hl c o.type
  unfold Oper.wp execOp
  simp only [ho, resolve, invoke, builtin, Sem.run_bind, Sem.run_pure, Result.andThen_ok, List.map_toArray, List.map_cons, List.map_nil, hs, hx, hr]
  exact hK _ _ (hn v' w' h2 h3)
theorem wpList_rpart {wr : World} {ops : Array Oper} {rest : List Oper} {o : Oper} {a : Act} {Q : Exit → Act → World → Prop} (hgd : o.guard = none) (s x : Operand)
    (ho : o.op = .call { callee := .builtin .append, args := #[s, x], argTypes := #[33, 33] }) {B : Nat} {lv tv : Value} {L : List Part} {lit : List UInt8} {K : Nat} {vs : List Value} (u : Value) (p : Part) (h : RMid B wr lv L tv lit K vs) (hL : L.length ≤ 5000) (hu : LitR wr wr.heap.size u p.lit) (hone : ∃ a n c, u = .slice a n c) (cs : Array Value) (hcs : cs = partCells u p)
    (hs : a.eval s = lv) (s0 : Nat) (hx : a.eval x = .slice (some ⟨s0, 0, none⟩) 1 1) (hs0 : wr.heap.size = s0)
    (hn : ∀ lv' w', (∃ K' vs', RMid B w' lv' (L ++ [p]) (.slice none 0 0) [] K' vs') → Below B wr w' → (wr.alloc (.cells (partCells u p) 59)).grownBy w' lv.ownBlock → wpList Tryz.prog ops Q rest (a.put o.dst lv') w') : wpList Tryz.prog ops Q (o :: rest) a (wr.alloc (.cells cs 59)) := by
  refine wpList_plain hgd fun K' hK => ?_
  subst hcs hs0
  obtain ⟨v', w', hr, h2, h3, h4⟩ := h.part hL u p hu hone o.type
  unfold Oper.wp execOp
  simp only [ho, resolve, invoke, builtin, Sem.run_bind, Sem.run_pure, Result.andThen_ok, List.map_toArray, List.map_cons, List.map_nil, hs, hx, hr]
  exact hK _ _ (hn v' w' h2 h3 h4)
/-- Bytes as a part, as the reference has it. -/
def litPart0 (l : List UInt8) : Part := ⟨l, 0, fl0, 0, 0⟩
theorem rnorm_lit (l : List UInt8) : norm (litPart l) = litPart0 l := rfl
theorem rnorm_conv {p : Part} (h : p.conv ≠ 0) : norm p = p := by unfold norm; rw [if_neg h]
theorem render_norm (L : List Part) (lit : List UInt8) : (render L lit).map norm = if lit.length = 0 then L.map norm else L.map norm ++ [litPart0 lit] := by
  unfold render
  split
  · rfl
  · rw [List.map_append]; rfl

/-- What pidginref14.Parse tells. -/
def RParsePost (w : World) (r : Except (Nat × Nat) (List Part)) (e : Ending) (w' : World) : Prop :=
  Below w.heap.size w w' ∧ match r with
  | .error (c, q) => e = .returned (.tuple #[.slice none 0 0, .agg #[.int .i64 c, .int .i64 q, .int .i64 5]])
  | .ok L => ∃ v : Value, e = .returned (.tuple #[v, .agg #[.int .i64 0, .int .i64 0, .int .i64 0]]) ∧ PartsC w.heap.size w' v (L.map norm)
theorem rparse_err {w : World} {r : Except (Nat × Nat) (List Part)} {e : Ending} {w' : World} {c q : Nat} (h : r = .error (c, q)) (hb : Below w.heap.size w w') (he : e = .returned (.tuple #[.slice none 0 0, .agg #[.int .i64 c, .int .i64 q, .int .i64 5]])) : RParsePost w r e w' := by
  subst h; exact ⟨hb, he⟩
theorem rparse_ok {w : World} {r : Except (Nat × Nat) (List Part)} {e : Ending} {w' : World} {L : List Part} (h : r = .ok L) (hb : Below w.heap.size w w') (v : Value) (he : e = .returned (.tuple #[v, .agg #[.int .i64 0, .int .i64 0, .int .i64 0]])) (hp : PartsC w.heap.size w' v (L.map norm)) : RParsePost w r e w' := by
  subst h; exact ⟨hb, v, he, hp⟩
/-- What the loop keeps. -/
structure RefP (w : World) (l : List UInt8) (k : Nat) (L : List Part) (lit : List UInt8) (n : Nat) (lv tv : Value) (wr : World) : Prop where
  le : l.length ≤ k + n
  eq : parseF n l k L lit = parse l
  mid : ∃ K vs, RMid w.heap.size wr lv (L.map norm) tv lit K vs
  bel : Below w.heap.size w wr
  hL : L.length ≤ 2 * k
  hlit : lit.length ≤ k
  nl : lit.length = 0 → tv = .slice none 0 0
theorem RefP.byte {w wr w1 w2 : World} {l : List UInt8} {k m k' : Nat} {L : List Part} {lit : List UInt8} {b : UInt8} {lv tv tv' : Value} {K : Nat} {vs : List Value} (h : RefP w l k L lit (m + 1) lv tv wr) (hk : k < k') (heq : parseF (m + 1) l k L lit = parseF m l k' L (lit ++ [b]))
    (hb : Below w.heap.size w w1) (hm : RMid w.heap.size w2 lv (L.map norm) tv' (lit ++ [b]) K vs) (hb2 : Below w.heap.size w1 w2) : RefP w l k' L (lit ++ [b]) m lv tv' w2 :=
  ⟨by have := h.le; omega, heq.symm.trans h.eq, ⟨K, vs, hm⟩, hb.trans hb2, by have := h.hL; omega, by have := h.hlit; simp; omega, fun h0 => by simp at h0⟩

theorem RefP.conv {w wr w1 w2 : World} {l : List UInt8} {k m k' : Nat} {L : List Part} {lit : List UInt8} {p : Part} {lv tv lv' : Value} {K : Nat} {vs : List Value} (h : RefP w l k L lit (m + 1) lv tv wr) (hk : k < k') (hp0 : p.conv ≠ 0) (heq : parseF (m + 1) l k L lit = parseF m l k' (render L lit ++ [p]) [])
    (hb : Below w.heap.size w w1) (hm : RMid w.heap.size w2 lv' ((render L lit).map norm ++ [p]) (.slice none 0 0) [] K vs) (hb2 : Below w.heap.size w1 w2) : RefP w l k' (render L lit ++ [p]) [] m lv' (.slice none 0 0) w2 :=
  ⟨by have := h.le; omega, heq.symm.trans h.eq, ⟨K, vs, by rw [List.map_append, List.map_cons, List.map_nil, rnorm_conv hp0]; exact hm⟩, hb.trans hb2, by have := h.hL; have := render_length L lit; simp; omega, by simp, fun _ => rfl⟩
theorem set3 {W : World} {g : Nat} {t : TypeId} {a0 a1 a2 : Value} (h : Blk W g t #[a0, a1, a2]) (x y z : Value) : Blk (((W.setCell ⟨g, 0, none⟩ x).setCell ⟨g, 1, none⟩ y).setCell ⟨g, 2, none⟩ z) g t #[x, y, z] := by
  have := ((h.set_ 0 x).set_ 1 y).set_ 2 z
  simpa using this
theorem belowR (w : World) (o : Obj) : Below w.heap.size w (w.alloc o) := (Below.refl _ _).alloc (Nat.le_refl _) o
theorem ownsRow_setS {e : TypeId} {w : World} {B size n : Nat} {v : Value} {xs : List Value} (h : w.ownsRow B e size v n xs) {a : Addr} {t : TypeId} {cs : Array Value} (hb : Blk w a.block t cs) (ht : e ≠ t) (u : Value) : (w.setCell a u).ownsRow B e size v n xs := by
  refine ⟨h.1, ?_⟩
  rcases h.2 with h2 | ⟨g, cap, cur, hv, hb', hg, r⟩
  · exact .inl h2
  · exact .inr ⟨g, cap, cur, hv, hb', by rw [Below.heap_setCell _ _ _ _ (Ne.symm (hb.ne_ (g' := g) (t' := e) hg (Ne.symm ht)))]; exact hg, r⟩
theorem PartsC.setCell {B : Nat} {w : World} {v : Value} {P : List Part} (h : PartsC B w v P) {a : Addr} {t : TypeId} {cs : Array Value} (hb : Blk w a.block t cs) (h1 : t ≠ 5) (h2 : 59 ≠ t) (u : Value) : PartsC B (w.setCell a u) v P := by
  obtain ⟨vs, k1, k2, k3⟩ := h
  exact ⟨vs, k1, fun i hi hi' => by rw [size_setCell]; exact (k2 i hi hi').kept (U8Kept.setCell hb h1 u), ownsRow_setS k3 hb h2 u⟩
theorem PartsC.set3 {B : Nat} {W : World} {v : Value} {P : List Part} (h : PartsC B W v P) {g : Nat} {cs : Array Value} (hk : Blk W g 35 cs) (x y z : Value) : PartsC B (((W.setCell ⟨g, 0, none⟩ x).setCell ⟨g, 1, none⟩ y).setCell ⟨g, 2, none⟩ z) v P :=
  ((h.setCell (a := ⟨g, 0, none⟩) hk (by decide) (by decide) x).setCell (a := ⟨g, 1, none⟩) (hk.set_ 0 x) (by decide) (by decide) y).setCell (a := ⟨g, 2, none⟩) ((hk.set_ 0 x).set_ 1 y) (by decide) (by decide) z
theorem PartsC.base {B B1 : Nat} {w : World} {v : Value} {P : List Part} (h : PartsC B w v P) (hB : B1 ≤ B) : PartsC B1 w v P := by
  obtain ⟨vs, k1, k2, k3⟩ := h
  exact ⟨vs, k1, k2, ownsRow_base k3 hB⟩

set_option maxRecDepth 100000 in
set_option maxHeartbeats 8000000 in
/-- pidginref14.Parse. -/
theorem ref_Parse (a : Option Addr) (cap : Nat) (l : List UInt8) (w : World) (hl : Bs w a cap l) :
    Calls Tryz.prog 8 #[.slice a l.length cap] w (RParsePost w (parse l)) := by
  have HL := Lib.hid hl
  have hlc := hl.1
  have hcm := hl.2.1
  unfold maxLen at hcm
  have CF := Lib.hid ref_fault
  clear hl
  by_cases hlen : 1024 < l.length
  · have HP : Hid (parse l = .error (2, 0)) := by show parse l = _; unfold parse; rw [if_pos hlen]
    have hd : decide (1024 < (l.length : Int)) = true := decide_eq_true (by omega)
    clear hlen
    go_enter Tryz.func8, Tryz.ntmps8
    go_wp2_with (go_at_call 18; refine (CF.out _ _ _).mono ?_; rintro e w' ⟨rfl, rfl⟩)
    try rw [Exit.noGoto_ret]
    refine bodyPost_ret (v := .tuple #[.slice none 0 0, .agg #[.int .i64 2, .int .i64 0, .int .i64 5]]) (by simp [results, Tryz.results8, go_sem]) rfl ?_
    exact rparse_err HP.out ((((Below.refl _ _).alloc (Nat.le_refl _) _).alloc (by simp) _).alloc (by simp; omega) _) rfl
  have hl1 : l.length ≤ 1024 := by omega
  have HP : Hid (parse l = parseF l.length l 0 [] []) := by show parse l = _; unfold parse; rw [if_neg hlen]
  have hd : decide (1024 < (l.length : Int)) = false := decide_eq_false (by omega)
  have bW := belowR w (.cells #[.int .i64 0, .int .i64 0, .int .i64 0] 35)
  have HLW := Lib.hid (HL.out.below bW (Nat.le_refl _))
  have BW := Lib.hid bW
  clear hlen bW
  go_enter Tryz.func8, Tryz.ntmps8
  go_wp2_with fail
  go_loopw [4, 5, 6] (fun lv tv t wr => ∃ (k n : Nat) (L : List Part) (lit : List UInt8), k ≤ l.length ∧ t = .int .i64 k ∧ Hid (RefP (w.alloc (.cells #[.int .i64 0, .int .i64 0, .int .i64 0] 35)) l k L lit n lv tv wr)) (fun _ _ t _ => l.length - (intOf t).toNat)
  case atStart => exact ⟨0, l.length, [], [], by omega, rfl, ⟨by omega, HP.out.symm, ⟨_, _, RMid.nil _⟩, Below.refl _ _, by simp, by simp, fun _ => rfl⟩⟩
  case round =>
    obtain ⟨k, n, L, lit, hk, rfl, HR⟩ := hrel
    obtain ⟨K, vs, hmid⟩ := HR.out.mid
    have HMID := Lib.hid hmid
    have hL := HR.out.hL
    have hlit := HR.out.hlit
    have HB := Lib.hid HR.out.bel
    have hszr := HB.out.size
    rw [World.size_alloc] at hszr
    have bk3 := (Blk.new w 35 #[.int .i64 0, .int .i64 0, .int .i64 0]).below HB.out (by simp)
    have z0 : wr.cell? ⟨w.heap.size, 0, none⟩ = some (.int .i64 0) := by rw [bk3.cell 0]; rfl
    have z1 : wr.cell? ⟨w.heap.size, 1, none⟩ = some (.int .i64 0) := by rw [bk3.cell 1]; rfl
    have z2 : wr.cell? ⟨w.heap.size, 2, none⟩ = some (.int .i64 0) := by rw [bk3.cell 2]; rfl
    have y0 := bk3.frozen 0
    have y1 := bk3.frozen 1
    have y2 := bk3.frozen 2
    have HK := Lib.hid bk3
    have HLR := Lib.hid (HLW.out.below HB.out (Nat.le_refl _))
    have HBF := Lib.hid (BW.out.trans (HB.out.mono BW.out.size))
    obtain ⟨ta, tcap, htv, ht1, ht2, _⟩ := ownsRow_form hmid.last
    subst htv
    unfold maxLen at ht2
    clear bk3 hmid
    by_cases hlt : k < l.length
    · obtain ⟨m, rfl⟩ : ∃ m, n = m + 1 := ⟨n - 1, by have := HR.out.le; omega⟩
      obtain ⟨b0, o0, rfl, hc0⟩ := HLR.out.head k hlt
      obtain ⟨c, hc⟩ : ∃ c, l.getD k 0 = c := ⟨_, rfl⟩
      rw [hc] at hc0
      have HC := Lib.hid hc
      clear hc
      by_cases h92 : c.toNat = 92
      · have e92 := beqT h92
        have hx92 : (l.getD k 0).toNat = 92 := by rw [HC.out]; exact h92
        simp only [Int.cast_ofNat_Int] at e92
        have C := ref_Escape _ cap l k hlt (by omega) wr HLR.out
        have hel := esc_le (l.drop (k + 1))
        rw [List.length_drop] at hel
        have HE0 := Lib.hid (parseF_esc0 (m := m) (L := L) (lit := lit) hlt hx92)
        have HE1 := Lib.hid (parseF_esc (m := m) (L := L) (lit := lit) hlt hx92)
        clear hx92 h92
        generalize esc (l.drop (k + 1)) = ek at *
        obtain ⟨c1, ke⟩ := ek
        simp only [] at hel C HE0 HE1
        by_cases h0 : ke = 0
        · have HE := Lib.hid (HR.out.eq.symm.trans (HE0.out h0))
          rw [if_pos h0, if_pos h0] at C
          have C := Lib.hid C
          clear h0 HE0 HE1
          have bkW := (HK.out.alloc (.cells #[.int .i64 10, .int .i64 k, .int .i64 5] 35)).alloc (.cells #[.int .i64 10, .int .i64 k, .int .i64 5] 35)
          have zz0 := bkW.cell 0
          have zz1 := bkW.cell 1
          have zz2 := bkW.cell 2
          have yy0 := bkW.frozen 0
          have yy1 := bkW.frozen 1
          have yy2 := bkW.frozen 2
          have HKW := Lib.hid bkW
          clear bkW
          go_wp2_with (first | (go_at_call 19; refine C.out.mono ?_; rintro e w' ⟨rfl, rfl⟩) | (go_at_call 18; refine (CF.out _ _ _).mono ?_; rintro e w' ⟨rfl, rfl⟩))
          try rw [Exit.noGoto_ret]
          have b3 := set3 HKW.out (.int .i64 10) (.int .i64 k) (.int .i64 5)
          have q0 := b3.cell 0
          have q1 := b3.cell 1
          have q2 := b3.cell 2
          have hb5 := (((((HBF.out.alloc (by omega) (.cells #[.int .i64 10, .int .i64 k, .int .i64 5] 35)).alloc (by simp; omega) (.cells #[.int .i64 10, .int .i64 k, .int .i64 5] 35)).setCell (p := ⟨w.heap.size, 0, none⟩) (Nat.le_refl _) (.int .i64 10)).setCell (p := ⟨w.heap.size, 1, none⟩) (Nat.le_refl _) (.int .i64 k)).setCell (p := ⟨w.heap.size, 2, none⟩) (Nat.le_refl _) (.int .i64 5))
          generalize (World.setCell _ ⟨w.heap.size, 2, none⟩ _) = W3 at *
          refine bodyPost_ret (v := .tuple #[.slice none 0 0, .agg #[.int .i64 10, .int .i64 k, .int .i64 5]]) (by simp [results, Tryz.results8, go_sem, q0, q1, q2]) rfl ?_
          exact rparse_err HE.out hb5 rfl
        · have e0 : ((((ke + 1 : Nat) : Int)) == 0) = false := beq_eq_false_iff_ne.2 (by omega)
          have HE := Lib.hid (HE1.out h0)
          rw [if_neg h0, if_neg h0] at C
          obtain ⟨kf, hkf⟩ : ∃ kf, kf = ke + 1 := ⟨_, rfl⟩
          rw [← hkf] at e0 C HE
          have C := Lib.hid C
          have hke : 1 ≤ ke := by omega
          clear h0 HE0 HE1
          go_wp2_with (first | (go_at_call 19; refine C.out.mono ?_; rintro e w' ⟨rfl, rfl⟩) | (at_builtin; refine wpList_rbyte rfl (.tmp 45) (.tmp 47) rfl c1 HMID.out (by omega) rfl rfl ?_; intro tv2 w2 hm2 hb2; have HM2 := Lib.hid hm2; have HB2 := Lib.hid hb2; clear hm2 hb2))
          go_roundw
          case rel => exact ⟨k + kf, m, L, lit ++ [c1], by omega, by go_num, HR.out.byte (by omega) HE.out HB.out HM2.out HB2.out⟩
          case measure => simp [intOf]; omega
      · have e92 := beqF h92
        simp only [Int.cast_ofNat_Int] at e92
        by_cases h37 : c.toNat = 37
        · have e37 := beqT h37
          have hx37 : (l.getD k 0).toNat = 37 := by rw [HC.out]; exact h37
          simp only [Int.cast_ofNat_Int] at e37
          clear h92 h37
          by_cases hp : k + 1 < l.length ∧ (l.getD (k + 1) 0).toNat = 37
          · obtain ⟨hp1, hp2⟩ := hp
            have HE := Lib.hid (parseF_pct (m := m) (L := L) (lit := lit) hlt hx37 (conv_pct hp1 hp2) rfl)
            have hc1 := HLR.out.head (k + 1) hp1
            obtain ⟨_, _, hq, hc1⟩ := hc1
            simp only [Option.some.injEq, Addr.mk.injEq, and_true] at hq
            obtain ⟨rfl, rfl⟩ := hq
            rw [hp2] at hc1
            have e1 : decide ((k : Int) + 1 < (l.length : Int)) = true := decide_eq_true (by omega)
            clear hx37 hp2
            go_wp2_with (at_builtin; refine wpList_rbyte rfl (.tmp 73) (.tmp 74) rfl (37 : UInt8) HMID.out (by omega) rfl rfl ?_; intro tv2 w2 hm2 hb2; have HM2 := Lib.hid hm2; have HB2 := Lib.hid hb2; clear hm2 hb2)
            go_roundw
            case rel => exact ⟨k + 2, m, L, lit ++ [37], by omega, by go_num, HR.out.byte (by omega) HE.out HB.out HM2.out HB2.out⟩
            case measure => simp [intOf]; omega
          · have hp' : ¬ (k + 1 < l.length ∧ (l.getD (k + 1) 0).toNat = 37) := hp
            have C := ref_conversion _ cap l wr HLR.out (k + 1) (by omega) hp'
            simp only [Int.natCast_add, Int.cast_ofNat_Int] at C
            obtain ⟨D, hD⟩ : ∃ D : Bool, D = decide (k + 1 < l.length) := ⟨_, rfl⟩
            have e1 : decide ((k : Int) + 1 < (l.length : Int)) = D := by rw [hD]; exact decide_eq_decide.2 (by omega)
            have hcell : D = true → ∃ x : Nat, wr.cell? ⟨b0, o0 + (k + 1), none⟩ = some (.int .u8 x) ∧ ((x : Int) == 37) = false := fun h => by
              have hp1 : k + 1 < l.length := of_decide_eq_true (hD.symm.trans h)
              obtain ⟨_, _, hq, hc1⟩ := HLR.out.head (k + 1) hp1
              simp only [Option.some.injEq, Addr.mk.injEq, and_true] at hq
              obtain ⟨rfl, rfl⟩ := hq
              refine ⟨_, hc1, ?_⟩
              have := beqF (x := (l.getD (k + 1) 0).toNat) (n := 37) (fun h => hp ⟨hp1, h⟩)
              simpa using this
            have HCELL := Lib.hid hcell
            have HPN := Lib.hid hp'
            clear hD hp hp' hcell
            go_upto_region 15 with (fail)
            go_cut [52] from 16 to 108 (fun t wx => t = .bool false ∧ wx = wr)
            case first =>
              cases D
              · go_wp2_with fail
                go_meet
                exact ⟨rfl, rfl⟩
              · obtain ⟨x, hc1, e37'⟩ := HCELL.out rfl
                have hlt1 : (k : Int) + 1 < (l.length : Int) := of_decide_eq_true e1
                go_wp2_with fail
                go_meet
                exact ⟨rfl, rfl⟩
            case rest =>
              obtain ⟨rfl, hwc⟩ := hcut
              have hwc := hwc.symm
              subst hwc
              clear HCELL e1
              cases hcv : conv l (k + 1) with
              | error cq =>
                obtain ⟨cc, q⟩ := cq
                rw [hcv] at C
                have HE := Lib.hid (HR.out.eq.symm.trans (parseF_err hlt hx37 hcv))
                have hcc := conv_code hcv
                have ecc : ((cc : Int) != 0) = true := bne_iff_ne.2 (by omega)
                have C := Lib.hid C
                clear hcv hx37 hcc
                go_wp2_with fail
                refine C.out.mono ?_
                rintro e w1 ⟨hb1, p0, rfl⟩
                have bk3 := (HK.out.below hb1 HK.out.lt).alloc (.cells (partCells (.slice none 0 0) p0) 59)
                have bkW := bk3.alloc (.cells #[.int .i64 cc, .int .i64 q, .int .i64 5] 35)
                have hszw := hb1.size
                have hbW := (((HBF.out.trans (hb1.mono (by omega))).alloc (by omega) (.cells (partCells (.slice none 0 0) p0) 59)).alloc (by simp; omega) (.cells #[.int .i64 cc, .int .i64 q, .int .i64 5] 35))
                simp only [partCells] at bkW hbW ⊢
                have zz0 := bkW.cell 0
                have zz1 := bkW.cell 1
                have zz2 := bkW.cell 2
                have yy0 := bkW.frozen 0
                have yy1 := bkW.frozen 1
                have yy2 := bkW.frozen 2
                have HKW := Lib.hid bkW
                have HBW := Lib.hid hbW
                clear bk3 bkW hb1 hbW
                go_upto_region 21 with (fail)
                go_region
                all_goals go_wp2_with fail
                all_goals try rw [Exit.noGoto_ret]
                all_goals (
                  have b3 := set3 HKW.out (.int .i64 cc) (.int .i64 q) (.int .i64 5)
                  have q0 := b3.cell 0
                  have q1 := b3.cell 1
                  have q2 := b3.cell 2
                  have hb5 := (((HBW.out).setCell (p := ⟨w.heap.size, 0, none⟩) (Nat.le_refl _) (.int .i64 cc)).setCell (p := ⟨w.heap.size, 1, none⟩) (Nat.le_refl _) (.int .i64 q)).setCell (p := ⟨w.heap.size, 2, none⟩) (Nat.le_refl _) (.int .i64 5)
                  generalize hW3 : (World.setCell (World.setCell (World.setCell (World.alloc (World.alloc w1 (.cells #[.slice none 0 0, .int .u8 p0.conv, .bool p0.fl.minus, .bool p0.fl.plus, .bool p0.fl.space, .bool p0.fl.zero, .bool p0.fl.alt, .int .i64 p0.width, .int .i64 p0.prec] 59)) (.cells #[.int .i64 cc, .int .i64 q, .int .i64 5] 35)) ⟨w.heap.size, 0, none⟩ (.int .i64 cc)) ⟨w.heap.size, 1, none⟩ (.int .i64 q)) ⟨w.heap.size, 2, none⟩ (.int .i64 5)) = W3 at *
                  refine bodyPost_ret (v := .tuple #[.slice none 0 0, .agg #[.int .i64 cc, .int .i64 q, .int .i64 5]]) (by simp [results, Tryz.results8, go_sem, q0, q1, q2]) rfl ?_
                  exact rparse_err HE.out hb5.drew rfl)
              | ok pj =>
                obtain ⟨p, j⟩ := pj
                rw [hcv] at C
                obtain ⟨hp0, hplit, hij, hj⟩ := conv_facts hcv
                have HE := Lib.hid (parseF_conv (m := m) (L := L) (lit := lit) hlt hx37 hcv (conv_ne37 hcv HPN.out))
                have HP0 := Lib.hid hp0
                have HLT := Lib.hid hplit
                have HBF1 := Lib.hid HB.out
                have C := Lib.hid C
                clear hcv hx37 hp0 hplit
                go_wp2_with fail
                refine C.out.mono ?_
                rintro e w1 ⟨hb1, rfl⟩
                have hszw := hb1.size
                have hmw := ((HMID.out.below hb1 (Nat.le_refl _)).below (belowR w1 (.cells (partCells (.slice none 0 0) p) 59)) (Nat.le_refl _)).below (belowR _ (.cells #[.int .i64 0, .int .i64 0, .int .i64 0] 35)) (Nat.le_refl _)
                have bk9 := (Blk.new w1 59 (partCells (.slice none 0 0) p)).alloc (.cells #[.int .i64 0, .int .i64 0, .int .i64 0] 35)
                have hbW := ((HBF1.out.trans (hb1.mono (by rw [World.size_alloc]; omega))).alloc (by rw [World.size_alloc]; omega) (.cells (partCells (.slice none 0 0) p) 59)).alloc (by rw [World.size_alloc, World.size_alloc]; omega) (.cells #[.int .i64 0, .int .i64 0, .int .i64 0] 35)
                have hrl : ∀ g, u4.ownBlock = some g → g < wr.heap.size := fun g hg => (HMID.out.row.lt g hg).2
                simp only [partCells] at bk9 hmw hbW ⊢
                have HMW := Lib.hid hmw
                have HK9 := Lib.hid bk9
                have HBW := Lib.hid hbW
                have HRL := Lib.hid hrl
                clear hmw bk9 hb1 hbW hrl
                by_cases hl0 : lit.length = 0
                · have e0 : ¬ 0 < lit.length := by omega
                  have hnil := HR.out.nl hl0
                  have hrd : (render L lit).map norm = L.map norm := by rw [render_norm, if_pos hl0]
                  have HRD := Lib.hid hrd
                  have HNIL := Lib.hid hnil
                  clear hl0 hnil hrd
                  go_wp2_with (at_builtin; refine wpList_rpart rfl (.tmp 104) (.tmp 106) rfl (.slice none 0 0) p HMW.out (by rw [List.length_map]; omega) (by rw [HLT.out]; exact LitR.nil _ _) ⟨none, 0, 0, rfl⟩ _ rfl rfl _ rfl (by simp) ?_; intro lv2 w2 hm2 hb2 hg2; have HM2 := Lib.hid hm2; have HB2 := Lib.hid hb2; clear hm2 hb2 hg2)
                  go_roundw
                  case rel =>
                    obtain ⟨K2, vs2, hm2⟩ := HM2.out
                    have hfin := HR.out.conv (by omega) HP0.out HE.out HBW.out (by rw [HRD.out]; exact hm2) HB2.out
                    rw [← HNIL.out] at hfin
                    exact ⟨j, m, render L lit ++ [p], [], by omega, rfl, hfin⟩
                  case measure => simp [intOf]; omega
                · have e0 : 0 < lit.length := by omega
                  have hrd : (render L lit).map norm = L.map norm ++ [litPart0 lit] := by rw [render_norm, if_neg hl0]
                  have HRD := Lib.hid hrd
                  clear hl0 hrd
                  go_wp2_with (first
                    | (at_builtin; refine wpList_rpart rfl (.tmp 99) (.tmp 102) rfl (.slice ta lit.length tcap) (litPart0 lit) HMW.out (by rw [List.length_map]; omega) (LitR.own HMW.out.last) ⟨ta, lit.length, tcap, rfl⟩ _ rfl rfl _ rfl (by simp) ?_; intro lv2 w2 hm2 hb2 hg2; obtain ⟨K2, vs2, hm2⟩ := hm2; obtain ⟨x0, x1, x2, x3, x4, x5, x6, x7, x8⟩ := allCells (v := .slice none 0 0) (p := p) ((HK9.out.alloc _).grown hg2 (fun he => by have := HRL.out _ he.symm; omega)); have HM2 := Lib.hid hm2; have HB2 := Lib.hid hb2; clear hm2 hb2 hg2)
                    | (at_builtin; refine wpList_rpart rfl (.tmp 104) (.tmp 106) rfl (.slice none 0 0) p HM2.out (by rw [List.length_append, List.length_map]; show _ + 1 ≤ _; omega) (by rw [HLT.out]; exact LitR.nil _ _) ⟨none, 0, 0, rfl⟩ _ rfl rfl _ rfl (by simp) ?_; intro lv3 w3 hm3 hb3 hg3; have HM3 := Lib.hid hm3; have HB3 := Lib.hid hb3; clear hm3 hb3 hg3))
                  go_roundw
                  case rel =>
                    obtain ⟨K3, vs3, hm3⟩ := HM3.out
                    exact ⟨j, m, render L lit ++ [p], [], by omega, rfl, HR.out.conv (by omega) HP0.out HE.out HBW.out (by rw [HRD.out]; exact hm3) (HB2.out.trans HB3.out)⟩
                  case measure => simp [intOf]; omega
        · have e37 := beqF h37
          have hx1 : (l.getD k 0).toNat ≠ 92 := by rw [HC.out]; exact h92
          have hx2 : (l.getD k 0).toNat ≠ 37 := by rw [HC.out]; exact h37
          simp only [Int.cast_ofNat_Int] at e37
          have hE := parseF_byte (m := m) (L := L) (lit := lit) hlt hx1 hx2
          rw [HC.out] at hE
          have HE := Lib.hid hE
          clear h92 h37 hx1 hx2 hE
          go_wp2_with (at_builtin; refine wpList_rbyte rfl (.tmp 20) (.tmp 25) rfl c HMID.out (by omega) rfl rfl ?_; intro tv2 w2 hm2 hb2; have HM2 := Lib.hid hm2; have HB2 := Lib.hid hb2; clear hm2 hb2)
          go_roundw
          case rel => exact ⟨k + 1, m, L, lit ++ [c], by omega, by go_num, HR.out.byte (by omega) HE.out HB.out HM2.out HB2.out⟩
          case measure => simp [intOf]; omega
    · have HE : Hid (parse l = .ok (render L lit)) := HR.out.eq.symm.trans (parseF_end hlt)
      by_cases hl0 : lit.length = 0
      · have e0 : ¬ 0 < lit.length := by omega
        have hpc : PartsC w.heap.size wr u4 ((render L lit).map norm) := by
          rw [render_norm, if_pos hl0]
          exact HMID.out.parts.base (by simp)
        have HPC := Lib.hid hpc
        clear hl0 hpc
        go_wp2_with fail
        try rw [Exit.noGoto_ret]
        have b3 := set3 HK.out (.int .i64 0) (.int .i64 0) (.int .i64 0)
        have q0 := b3.cell 0
        have q1 := b3.cell 1
        have q2 := b3.cell 2
        have hb5 := ((HBF.out.setCell (p := ⟨w.heap.size, 0, none⟩) (Nat.le_refl _) (.int .i64 0)).setCell (p := ⟨w.heap.size, 1, none⟩) (Nat.le_refl _) (.int .i64 0)).setCell (p := ⟨w.heap.size, 2, none⟩) (Nat.le_refl _) (.int .i64 0)
        have hp5 := HPC.out.set3 HK.out (.int .i64 0) (.int .i64 0) (.int .i64 0)
        generalize (World.setCell _ ⟨w.heap.size, 2, none⟩ _) = W3 at *
        refine bodyPost_ret (v := .tuple #[u4, .agg #[.int .i64 0, .int .i64 0, .int .i64 0]]) (by simp [results, Tryz.results8, go_sem, q0, q1, q2]) rfl ?_
        exact rparse_ok HE.out hb5 _ rfl hp5
      · have e0 : 0 < lit.length := by omega
        have hrd : (render L lit).map norm = L.map norm ++ [litPart0 lit] := by rw [render_norm, if_neg hl0]
        have HRD := Lib.hid hrd
        clear hl0 hrd
        go_wp2_with (at_builtin; refine wpList_rpart rfl (.tmp 112) (.tmp 115) rfl (.slice ta lit.length tcap) (litPart0 lit) HMID.out (by rw [List.length_map]; omega) (LitR.own HMID.out.last) ⟨ta, lit.length, tcap, rfl⟩ _ rfl rfl _ rfl (by simp) ?_; intro lv2 w2 hm2 hb2 hg2; obtain ⟨K2, vs2, hm2⟩ := hm2; have bk2 := HK.out.below hb2 (by simp); have zz0 := bk2.cell 0; have zz1 := bk2.cell 1; have zz2 := bk2.cell 2; have yy0 := bk2.frozen 0; have yy1 := bk2.frozen 1; have yy2 := bk2.frozen 2; have HK2 := Lib.hid bk2; have HM2 := Lib.hid hm2; have HB2 := Lib.hid hb2; clear hm2 hb2 hg2 bk2)
        try rw [Exit.noGoto_ret]
        have hpc : PartsC w.heap.size w2 lv2 ((render L lit).map norm) := by
          rw [HRD.out]
          exact HM2.out.parts.base (by simp)
        have HPC := Lib.hid hpc
        have b3 := set3 HK2.out (.int .i64 0) (.int .i64 0) (.int .i64 0)
        have q0 := b3.cell 0
        have q1 := b3.cell 1
        have q2 := b3.cell 2
        have hb5 := (((HBF.out.trans (HB2.out.mono (by simp))).setCell (p := ⟨w.heap.size, 0, none⟩) (Nat.le_refl _) (.int .i64 0)).setCell (p := ⟨w.heap.size, 1, none⟩) (Nat.le_refl _) (.int .i64 0)).setCell (p := ⟨w.heap.size, 2, none⟩) (Nat.le_refl _) (.int .i64 0)
        have hp5 := HPC.out.set3 HK2.out (.int .i64 0) (.int .i64 0) (.int .i64 0)
        generalize (World.setCell _ ⟨w.heap.size, 2, none⟩ _) = W3 at *
        refine bodyPost_ret (v := .tuple #[lv2, .agg #[.int .i64 0, .int .i64 0, .int .i64 0]]) (by simp [results, Tryz.results8, go_sem, q0, q1, q2]) rfl ?_
        exact rparse_ok HE.out hb5 _ rfl hp5
end Go.Proofs.YtppcjmbblkbkdaaGreatDoor
