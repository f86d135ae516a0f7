/- Towards the walks of pidginref14.conversion and pidginref14.Parse: plain facts, and what the parser holds. Conditions as typed. -/
import Derived.Test.YtppcjmbblkbkdaaDoorRefIn
import Derived.Test.YtppcjmbblkbkdaaDoorRefEsc
import Derived.Test.YtppcjmbblkbkdaaDoorPlain
import Derived.Test.YtppcjmbblkbkdaaDoorParse
import Derived.Test.YtppcjmbblkbkdaaDoorPush
namespace Go.Proofs.YtppcjmbblkbkdaaDoor
open Go.RowKit Pg

theorem inFl (x : Nat) : isIn x [45, 43, 32, 48, 35] = isFl x := by
  rw [Bool.eq_iff_iff]
  simp [isIn, isFl]
  omega
theorem inConv (x : Nat) : isIn x [99, 115, 98, 100, 105, 111, 117, 120, 88] = (isConv x || x == 105) := by
  rw [Bool.eq_iff_iff]
  simp [isIn, isConv]
  omega
theorem digitsL_over_is (base : Nat) (l : List UInt8) : ∀ n k o, (o = true → n = maxI) → (digitsL base l n k o).2.2 = true → (digitsL base l n k o).1 = maxI := by
  induction l with
  | nil => intro n k o h h2; exact h h2
  | cons c t ih =>
    intro n k o h
    unfold digitsL
    split
    · split
      · exact ih _ _ _ fun _ => rfl
      · exact ih _ _ _ fun h0 => by simp at h0
    · exact h
theorem number_iff (l : List UInt8) : number l = if 1000 < (digits 10 l).1 then none else some ((digits 10 l).1, (digits 10 l).2.1) := by
  unfold number
  by_cases h : 1000 < (digits 10 l).1
  · rw [if_pos h, if_pos (.inr h)]
  · rw [if_neg h, if_neg]
    rintro (h1 | h1)
    · have := digitsL_over_is 10 l 0 0 false (by simp) h1
      unfold digits maxI at *
      omega
    · exact h h1
/-- The letter at the end, as the reference asks for it. -/
theorem convEnd_in {l : List UInt8} {i j x : Nat} {f : Fl} {n : Nat} {pr : Int} (h : j < l.length) (hx : (l.getD j 0).toNat = x) (h37 : x = 37 → i < j) :
    convEnd l i f n pr j = if isIn x [99, 115, 98, 100, 105, 111, 117, 120, 88] = true then .ok (⟨[], if x = 105 then 100 else x, f, n, pr⟩, j + 1) else .error (3, j) := by
  rw [inConv]
  by_cases h1 : x = 37
  · rw [convEnd_bad h hx h1 (h37 h1), if_neg]
    subst h1
    decide
  · by_cases h2 : x = 105
    · rw [convEnd_i h hx h2, if_pos (by simp [h2]), if_pos h2]
    · by_cases h3 : isConv x = true
      · rw [convEnd_letter h hx h1 h3, if_pos (by simp [h3]), if_neg h2]
      · rw [convEnd_no h hx h1 (by simpa using h3) h2, if_neg (by simp [h2, h3])]
theorem conv_pct {l : List UInt8} {i : Nat} (h : i < l.length) (hx : (l.getD i 0).toNat = 37) : conv l i = .ok (⟨[], 37, fl0, 0, -1⟩, i + 1) := by
  have hg : l.getD i 0 = l[i] := getD_at h
  have hn : number (l.drop (i + 0)) = some (0, 0) := by
    rw [Nat.add_zero, List.drop_eq_getElem_cons h]
    refine number_no ?_ _
    rw [hg] at hx
    have := dig_cases l[i]
    omega
  have e1 := conv_flags (f := fl0) (k := 0) (_root_.Go.Proofs.YtppcjmbblkbkdaaDoor.flags_no' h hx (by decide))
  have e2 := convWidth_ok (i := i) (f := fl0) hn
  have e3 : convPrec l i fl0 0 (i + 0 + 0) = convEnd l i fl0 0 (-1) i := convPrec_nil (show ¬ (i < l.length ∧ (l.getD i 0).toNat = 46) by rw [hx]; omega)
  rw [e1, e2, e3]
  exact convEnd_pct (j := i) h hx rfl (by omega)
theorem conv_ne37 {l : List UInt8} {i : Nat} {p : Part} {j : Nat} (h : conv l i = .ok (p, j)) (hne : ¬ (i < l.length ∧ (l.getD i 0).toNat = 37)) : p.conv ≠ 37 := by
  have hend : ∀ f n pr i2, i ≤ i2 → convEnd l i f n pr i2 = .ok (p, j) → p.conv ≠ 37 := by
    intro f n pr i2 h2 h
    unfold convEnd at h
    split at h
    · cases h
    · split at h
      · split at h
        · cases h
        · next h3 h4 h5 =>
          exact absurd ⟨by omega, by rw [show i = i2 by omega]; exact h4⟩ hne
      · split at h
        · next h4 h5 =>
          cases h
          exact h4
        · split at h
          · cases h; exact (by show (100 : Nat) ≠ 37; decide)
          · cases h
  have hprec : ∀ f n i2, i ≤ i2 → convPrec l i f n i2 = .ok (p, j) → p.conv ≠ 37 := by
    intro f n i2 h2 h
    unfold convPrec at h
    split at h
    · cases hn : number (l.drop (i2 + 1)) with
      | none => rw [hn] at h; cases h
      | some nk => rw [hn] at h; exact hend _ _ _ _ (by omega) h
    · exact hend _ _ _ _ h2 h
  unfold conv convWidth at h
  cases hn : number (l.drop (i + (flags (l.drop i) fl0 0).2)) with
  | none => rw [hn] at h; cases h
  | some nk => rw [hn] at h; exact hprec _ _ _ (by omega) h

/-- What pidginref14.conversion tells. -/
def RConvPost (w : World) (r : Except (Nat × Nat) (Part × Nat)) (e : Ending) (w' : World) : Prop :=
  Below w.heap.size w w' ∧ match r with
  | .error (c, q) => ∃ p0 : Part, e = .returned (.tuple #[.agg (partCells (.slice none 0 0) p0), .int .i64 0, .agg #[.int .i64 c, .int .i64 q, .int .i64 5]])
  | .ok (p, j) => e = .returned (.tuple #[.agg (partCells (.slice none 0 0) p), .int .i64 j, .agg #[.int .i64 0, .int .i64 0, .int .i64 0]])
theorem rconv_err {w : World} {r : Except (Nat × Nat) (Part × Nat)} {e : Ending} {w' : World} {c q : Nat} (h : r = .error (c, q)) (hb : Below w.heap.size w w') (p0 : Part) (he : e = .returned (.tuple #[.agg (partCells (.slice none 0 0) p0), .int .i64 0, .agg #[.int .i64 c, .int .i64 q, .int .i64 5]])) : RConvPost w r e w' := by
  subst h; exact ⟨hb, p0, he⟩
theorem rconv_ok {w : World} {r : Except (Nat × Nat) (Part × Nat)} {e : Ending} {w' : World} {p : Part} {j : Nat} (h : r = .ok (p, j)) (hb : Below w.heap.size w w') (he : e = .returned (.tuple #[.agg (partCells (.slice none 0 0) p), .int .i64 j, .agg #[.int .i64 0, .int .i64 0, .int .i64 0]])) : RConvPost w r e w' := by
  subst h; exact ⟨hb, he⟩

/-- What the reference's parser holds: parts that are done, bytes under way, which lie from block K on. -/
structure RMid (B : Nat) (w : World) (lv : Value) (L : List Part) (tv : Value) (lit : List UInt8) (K : Nat) (vs : List Value) : Prop where
  bK : B ≤ K
  kw : K ≤ w.heap.size
  len : vs.length = L.length
  row : w.ownsRow B 57 9 lv L.length (rowC vs L)
  lits : ∀ (i : Nat) (h : i < L.length) (h' : i < vs.length), LitR w K vs[i] L[i].lit
  last : w.ownsRow K 5 1 tv lit.length (u8s lit)
theorem RMid.nil (w : World) : RMid w.heap.size w (.slice none 0 0) [] (.slice none 0 0) [] w.heap.size [] :=
  ⟨Nat.le_refl _, Nat.le_refl _, rfl, World.ownsRow_nil _ _ _ _, fun i h => by simp at h, World.ownsRow_nil _ _ _ _⟩
theorem RMid.below {B B' : Nat} {w w' : World} {lv tv : Value} {L : List Part} {lit : List UInt8} {K : Nat} {vs : List Value} (h : RMid B w lv L tv lit K vs) (hb : Below B' w w') (hB : w.heap.size ≤ B') : RMid B w' lv L tv lit K vs :=
  ⟨h.bK, Nat.le_trans h.kw hb.size, h.len, ownsRow_below h.row hb hB, fun i h1 h2 => (h.lits i h1 h2).kept (U8Kept.below hb hB), ownsRow_below h.last hb hB⟩
theorem RMid.parts {B : Nat} {w : World} {lv tv : Value} {L : List Part} {lit : List UInt8} {K : Nat} {vs : List Value} (h : RMid B w lv L tv lit K vs) : PartsC B w lv L :=
  ⟨vs, h.len, fun i h1 h2 => (h.lits i h1 h2).more h.kw, h.row⟩
/-- A byte more. -/
theorem RMid.byte {B : Nat} {w : World} {lv tv : Value} {L : List Part} {lit : List UInt8} {K : Nat} {vs : List Value} (h : RMid B w lv L tv lit K vs) (hl : lit.length ≤ 5000) (c : UInt8) (ty : TypeId) :
    ∃ tv' w', (Builtin.append_ #[27, 27] ty #[tv, .slice (some ⟨w.heap.size, 0, none⟩) 1 1]).run Tryd.prog (w.alloc (.cells #[.int .u8 c.toNat] 5)) = .ok tv' w' ∧ RMid B w' lv L tv' (lit ++ [c]) K vs ∧ Below B w w' := by
  obtain ⟨v', w', h1, h2, h3, _⟩ := run_push_big (w := w.alloc (.cells #[.int .u8 c.toNat] 5)) (h.last.alloc _) (ad := ⟨w.heap.size, 0, none⟩) (cx := 1) (x := c) (news_at rfl #[.int .u8 c.toNat] 5 0 _ rfl) (by omega) (by rw [World.size_alloc]; have := h.kw; omega) ty
  have hsz := h3.size
  rw [World.size_alloc] at hsz
  have hBw : B ≤ w.heap.size := Nat.le_trans h.bK h.kw
  refine ⟨v', w', h1, ⟨h.bK, by have := h.kw; omega, h.len, ?_, fun i h4 h5 => ?_, ?_⟩, ?_⟩
  · refine (h.row.alloc _).kept h3 ?_
    rcases h.row.2 with ⟨rfl, _⟩ | ⟨g, cap, cur, rfl, _, hg, _⟩
    · exact .inl rfl
    · refine .inr fun he => ?_
      exact own_blk_ne h.last (g := g) hg (by decide) he.symm
  · exact (h.lits i h4 h5).kept ((U8Kept.alloc _ w _).trans (U8Kept.grown h3 fun k hk => (h.last.lt k hk).1))
  · rw [List.length_append]; exact h2
  · exact ((Below.refl B w).alloc hBw _).grown h3 (by rw [World.size_alloc]; omega) (fun k hk => Nat.le_trans h.bK (h.last.lt k hk).1)
/-- A part more; its bytes lie where they may. -/
theorem RMid.part {B : Nat} {w : World} {lv tv : Value} {L : List Part} {lit : List UInt8} {K : Nat} {vs : List Value} (h : RMid B w lv L tv lit K vs) (hL : L.length ≤ 5000) (u : Value) (p : Part) (hu : LitR w w.heap.size u p.lit) (hone : ∃ a n c, u = .slice a n c) (ty : TypeId) :
    ∃ lv' w', (Builtin.append_ #[33, 33] ty #[lv, .slice (some ⟨w.heap.size, 0, none⟩) 1 1]).run Tryd.prog (w.alloc (.cells (partCells u p) 57)) = .ok lv' w' ∧
      (∃ K' vs', RMid B w' lv' (L ++ [p]) (.slice none 0 0) [] K' vs') ∧ Below B w w' ∧ (w.alloc (.cells (partCells u p) 57)).grownBy w' lv.ownBlock := by
  obtain ⟨xa, xn, xc, rfl⟩ := hone
  obtain ⟨i9, hi9, hy0, hy1, hy2⟩ := info_parts Tryd.infoPart
  have hBw : B ≤ w.heap.size := Nat.le_trans h.bK h.kw
  obtain ⟨v', w', h1, h2, h3, _, h4⟩ := run_append_own_at (P := Tryd.prog) (w := w.alloc (.cells (partCells (.slice xa xn xc) p) 57)) B 33 ty 57 i9 _ 9 48 Tryd.underlying33 hi9 hy0 hy1 hy2 rfl (by omega) lv L.length (rowC vs L) (h.row.alloc _) ⟨w.heap.size, 0, none⟩ 1 1 (partCells (.slice xa xn xc) p).toList rfl
    (news_at rfl _ _) (by simp [partCells, Value.oneCell']) (by unfold maxLen; omega) (by omega) (by rw [World.size_alloc]; omega)
  have hsz := h3.size
  rw [World.size_alloc] at hsz
  refine ⟨v', w', h1, ⟨w'.heap.size, vs ++ [.slice xa xn xc], by omega, Nat.le_refl _, by simp [h.len], ?_, ?_, World.ownsRow_nil _ _ _ _⟩, ?_⟩
  · rw [rowC_append vs L (.slice xa xn xc) p h.len, List.length_append]
    exact h2
  · have k1 : U8Kept w.heap.size w w' := (U8Kept.alloc _ w _).trans (U8Kept.grownOther h3 (fun k cur hk hh => by
      rcases h.row.2 with ⟨rfl, _⟩ | ⟨g', cap', cur', rfl, _, hg', _⟩
      · simp [Value.ownBlock] at hk
      · simp [Value.ownBlock] at hk
        subst hk
        have hlt := Blk.lt (t := 57) hg'
        rw [Below.heap_alloc w _ _ hlt, hg'] at hh
        simp at hh))
    intro i hi hi'
    by_cases hil : i < L.length
    · have hiv : i < vs.length := by rw [h.len]; exact hil
      rw [List.getElem_append_left hil, List.getElem_append_left hiv]
      exact (((h.lits i hil hiv).more h.kw).kept k1).more (by omega)
    · have e : i = L.length := by simp at hi; omega
      subst e
      rw [List.getElem_append_right (Nat.le_refl _), List.getElem_append_right (by rw [h.len]; exact Nat.le_refl _)]
      simp only [h.len, Nat.sub_self, List.getElem_cons_zero]
      exact (hu.kept k1).more (by omega)
  · exact ⟨((Below.refl B w).alloc hBw _).grown h3 (by rw [World.size_alloc]; omega) (fun k hk => (h.row.lt k hk).1), h3⟩
end Go.Proofs.YtppcjmbblkbkdaaDoor
