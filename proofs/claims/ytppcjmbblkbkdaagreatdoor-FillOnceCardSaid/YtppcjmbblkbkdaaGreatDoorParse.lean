/- The walk of shape.Parse. Conditions as typed. -/
import Derived.Test.YtppcjmbblkbkdaaGreatDoorPut2
import Derived.Test.YtppcjmbblkbkdaaGreatDoorConv
import Derived.Deep.RegionHeld3
namespace Go.Proofs.YtppcjmbblkbkdaaGreatDoor
open Go.RowKit Pg

theorem Mid.below {B B' : Nat} {w w' : World} {F : Nat} {L : List Part} {lit : List UInt8} {K g cap : Nat} {v : Value} {vs : List Value} (h : Mid B w F L lit K g cap v vs) (hb : Below B' w w') (hB : w.heap.size ≤ B') : Mid B w' F L lit K g cap v vs :=
  ⟨h.bF, h.bK, h.fm.below hb (by have := h.fm.lt; omega), h.len, ownsRow_below h.row hb hB, fun i hi hi' => (h.lits i hi hi').kept (U8Kept.below hb hB), ownsRow_below h.last hb hB⟩
theorem FmtW.below {B B' : Nat} {w w' : World} {F : Nat} {L : List Part} {lit : List UInt8} (h : FmtW B w F L lit) (hb : Below B' w w') (hB : w.heap.size ≤ B') : FmtW B w' F L lit := by
  rcases h with ⟨h1, h2⟩ | ⟨h1, K, g, cap, v, vs, h2⟩
  · exact .inl ⟨h1, h2.below hb hB⟩
  · exact .inr ⟨h1, K, g, cap, v, vs, h2.below hb hB⟩

/-- The last part is a conversion. -/
def LastC (L : List Part) : Prop := ∀ m (h : m < L.length), L.length = m + 1 → L[m].conv ≠ 0
theorem LastC.nil : LastC [] := fun m h => by simp at h
theorem LastC.add (L : List Part) (p : Part) (hp : p.conv ≠ 0) : LastC (L ++ [p]) := fun m h hm => by
  have e : m = L.length := by simp at hm; omega
  subst e
  simpa using hp

/-- (*shape.Format).put. -/
theorem put_any (B : Nat) (w : World) (F : Nat) (L : List Part) (lit : List UInt8) (b : UInt8) (h : FmtW B w F L lit) (hl : L.length ≤ 5000) (hlit : lit.length ≤ 5000) (hB : B ≤ w.heap.size) (hlast : LastC L) :
    Calls Tryz.prog 27 #[.pointer (some ⟨F, 0, none⟩), .int .u8 b.toNat] w (PutPost B w F L (lit ++ [b])) := by
  rcases h with ⟨rfl, h1, v, h2, h3⟩ | ⟨h1, K, g, cap, v, vs, h2⟩
  · exact put_new B w F L b h1 v h2 h3 hl hB hlast
  · refine put_more B w F L lit b K g cap v vs h2 hl hlit hB ?_
    rcases h2.last.2 with ⟨_, h0⟩ | ⟨g', _, _, _, hk, hg, _⟩
    · exact absurd (List.eq_nil_of_length_eq_zero h0) h1
    · have := Blk.lt (t := 5) hg; omega

/-- A conversion is put behind the parts. -/
theorem FmtC.add {B : Nat} {w w1 : World} {F : Nat} {P : List Part} {sv : Value} {g cap : Nat} {X : Array Value} (hBF : B ≤ F) (hf : Blk w F 76 #[sv]) (vs : List Value) (hvs : vs.length = P.length) (hl : ∀ (i : Nat) (h : i < P.length) (h' : i < vs.length), LitR w w.heap.size vs[i] P[i].lit) (hrow : w.ownsRow B 59 9 sv P.length (rowC vs P)) (hBw : B ≤ w.heap.size) (p : Part) (hp : p.lit = [])
    (hown : w1.ownsRow B 59 9 (.slice (some ⟨g, 0, none⟩) (P.length + 1) cap) (P.length + 1) (rowC vs P ++ (partCells (.slice none 0 0) p).toList)) (hg : (w.alloc (.cells X 59)).drew.grownBy w1 sv.ownBlock) :
    FmtC B (w1.setCell ⟨F, 0, none⟩ (.slice (some ⟨g, 0, none⟩) (P.length + 1) cap)) F (P ++ [p]) ∧ Below B w (w1.setCell ⟨F, 0, none⟩ (.slice (some ⟨g, 0, none⟩) (P.length + 1) cap)) := by
  have hs := hg.size
  rw [show (w.alloc (.cells X 59)).drew.heap.size = w.heap.size + 1 from by show (w.alloc _).heap.size = _; simp] at hs
  have hvF : sv.ownBlock ≠ some F := own_blk_ne hrow hf (by decide)
  have hf1 : Blk w1 F 76 #[sv] := ((hf.alloc (.cells X 59)).drew).grown hg (Ne.symm hvF)
  have hr := hrow.lt
  have k1 : U8Kept w.heap.size w w1 := ((U8Kept.alloc _ w _).trans (U8Kept.drew _ _)).trans (U8Kept.grownOther hg (fun k cur hk hh => by
    rcases hrow.2 with ⟨rfl, _⟩ | ⟨g', cap', cur', rfl, _, hg', _⟩
    · simp [Value.ownBlock] at hk
    · simp [Value.ownBlock] at hk
      subst hk
      have hlt := Blk.lt (t := 59) hg'
      have hh' : (w.alloc (.cells X 59)).heap[g']? = some (.cells cur 5 (0, 0)) := hh
      rw [Below.heap_alloc w _ _ hlt, hg'] at hh'
      simp at hh'))
  refine ⟨⟨hBF, _, by simpa using hf1.set_ 0 _, vs ++ [.slice none 0 0], by simp [hvs], fun i h h' => ?_, ?_⟩, ?_⟩
  · by_cases hil : i < P.length
    · have hiv : i < vs.length := by rw [hvs]; exact hil
      rw [List.getElem_append_left hil, List.getElem_append_left hiv]
      exact ((hl i hil hiv).kept (k1.trans (U8Kept.setCell (a := ⟨F, 0, none⟩) hf1 (by decide) _))).more (by rw [size_setCell]; omega)
    · have e : i = P.length := by simp at h; omega
      subst e
      rw [List.getElem_append_right (Nat.le_refl _), List.getElem_append_right (by rw [hvs]; exact Nat.le_refl _)]
      simp only [hvs, Nat.sub_self, List.getElem_cons_zero, hp]
      exact LitR.nil _ _
  · rw [rowC_append vs P _ p hvs, List.length_append]
    exact ownsRow_setFmt hown (a := ⟨F, 0, none⟩) hf1 _
  · exact ((((Below.refl B w).alloc hBw _).drew).grown hg (by show B ≤ (w.alloc _).heap.size; simp; omega) (fun k hk => (hr k hk).1)).setCell hBF _

theorem addFacts {w w1 : World} {X : Array Value} {row : Option Nat} {F : Nat} {x : Value} (hg : (w.alloc (.cells X 59)).drew.grownBy w1 row) (hF : F < w.heap.size) (h1 : row ≠ some F)
    (hx : w.cell? ⟨F, 0, none⟩ = some x) (hz : w.frozen? ⟨F, 0, none⟩ = false) : w1.cell? ⟨F, 0, none⟩ = some x ∧ w1.frozen? ⟨F, 0, none⟩ = false := by
  have e : w1.heap[F]? = w.heap[F]? := (hg.block F (by show F < (w.alloc _).heap.size; simp; omega) (Ne.symm h1)).trans (Below.heap_alloc w _ F hF)
  exact ⟨(World.cell?_of_block (w := w) (a := ⟨F, 0, none⟩) e).trans hx, (World.frozen?_of_block (w := w) (a := ⟨F, 0, none⟩) e).trans hz⟩

def ParsePost (w : World) (A : Nat → Addr) (r : Except (Nat × Nat) (List Part)) (e : Ending) (w' : World) : Prop :=
  Below w.heap.size w w' ∧ match r with
  | .error (c, p) => ∃ v : Value, e = .returned (.tuple #[.pointer none, v]) ∧ ErrAt w' A v c p
  | .ok L => ∃ F : Nat, e = .returned (.tuple #[.pointer (some ⟨F, 0, none⟩), .nilIface]) ∧ FmtC w.heap.size w' F L

/-- What the loop of Parse keeps. -/
structure RelP (w : World) (l : List UInt8) (k : Nat) (L : List Part) (lit : List UInt8) (n : Nat) (wr : World) : Prop where
  le : l.length ≤ k + n
  eq : parseF n l k L lit = parse l
  fm : FmtW w.heap.size wr w.heap.size L lit
  bel : Below w.heap.size w wr
  hL : L.length ≤ 2 * k
  hlit : lit.length ≤ k
  last : LastC L

theorem conv_facts {l : List UInt8} {i : Nat} {p : Part} {j : Nat} (h : conv l i = .ok (p, j)) : p.conv ≠ 0 ∧ p.lit = [] ∧ i < j ∧ j ≤ l.length := by
  have hend : ∀ f n pr i2, i ≤ i2 → convEnd l i f n pr i2 = .ok (p, j) → p.conv ≠ 0 ∧ p.lit = [] ∧ i < j ∧ j ≤ l.length := by
    intro f n pr i2 h2 h
    unfold convEnd at h
    split at h
    · cases h
    · split at h
      · split at h
        · cases h
        · cases h; exact ⟨(by show (37 : Nat) ≠ 0; decide), rfl, by omega, by omega⟩
      · split at h
        · next h4 =>
          cases h
          refine ⟨fun h0 => ?_, rfl, by omega, by omega⟩
          simp only [] at h0
          rw [h0] at h4
          exact absurd h4 (by decide)
        · split at h
          · cases h; exact ⟨(by show (100 : Nat) ≠ 0; decide), rfl, by omega, by omega⟩
          · cases h
  have hprec : ∀ f n i2, i ≤ i2 → convPrec l i f n i2 = .ok (p, j) → p.conv ≠ 0 ∧ p.lit = [] ∧ i < j ∧ j ≤ l.length := by
    intro f n i2 h2 h
    unfold convPrec at h
    split at h
    · cases hn : number (l.drop (i2 + 1)) with
      | none => rw [hn] at h; cases h
      | some nk => rw [hn] at h; exact hend _ _ _ _ (by omega) h
    · exact hend _ _ _ _ h2 h
  unfold conv convWidth at h
  cases hn : number (l.drop (i + (flags (l.drop i) fl0 0).2)) with
  | none => rw [hn] at h; cases h
  | some nk => rw [hn] at h; exact hprec _ _ _ (by omega) h

theorem parseF_end {n : Nat} {l : List UInt8} {k : Nat} {L : List Part} {lit : List UInt8} (h : ¬ k < l.length) : parseF n l k L lit = .ok (render L lit) := by
  cases n with
  | zero => rfl
  | succ n => rw [parseF, if_neg h]
theorem parseF_esc0 {m : Nat} {l : List UInt8} {k : Nat} {L : List Part} {lit : List UInt8} (h : k < l.length) (hx : (l.getD k 0).toNat = 92) (he : (esc (l.drop (k + 1))).2 = 0) : parseF (m + 1) l k L lit = .error (10, k) := by
  rw [parseF, if_pos h, if_pos hx, if_pos he]
theorem parseF_esc {m : Nat} {l : List UInt8} {k : Nat} {L : List Part} {lit : List UInt8} (h : k < l.length) (hx : (l.getD k 0).toNat = 92) (he : (esc (l.drop (k + 1))).2 ≠ 0) :
    parseF (m + 1) l k L lit = parseF m l (k + ((esc (l.drop (k + 1))).2 + 1)) L (lit ++ [(esc (l.drop (k + 1))).1]) := by
  rw [parseF, if_pos h, if_pos hx, if_neg he]
theorem parseF_byte {m : Nat} {l : List UInt8} {k : Nat} {L : List Part} {lit : List UInt8} (h : k < l.length) (hx : (l.getD k 0).toNat ≠ 92) (hx2 : (l.getD k 0).toNat ≠ 37) : parseF (m + 1) l k L lit = parseF m l (k + 1) L (lit ++ [l.getD k 0]) := by
  rw [parseF, if_pos h, if_neg hx, if_neg hx2]
theorem parseF_err {m : Nat} {l : List UInt8} {k : Nat} {L : List Part} {lit : List UInt8} {e : Nat × Nat} (h : k < l.length) (hx : (l.getD k 0).toNat = 37) (hc : conv l (k + 1) = .error e) : parseF (m + 1) l k L lit = .error e := by
  rw [parseF, if_pos h, if_neg (by omega), if_pos hx, hc]
theorem parseF_pct {m : Nat} {l : List UInt8} {k : Nat} {L : List Part} {lit : List UInt8} {p : Part} {j : Nat} (h : k < l.length) (hx : (l.getD k 0).toNat = 37) (hc : conv l (k + 1) = .ok (p, j)) (hp : p.conv = 37) : parseF (m + 1) l k L lit = parseF m l j L (lit ++ [37]) := by
  rw [parseF, if_pos h, if_neg (by omega), if_pos hx, hc]
  simp only [hp, if_true]
theorem parseF_conv {m : Nat} {l : List UInt8} {k : Nat} {L : List Part} {lit : List UInt8} {p : Part} {j : Nat} (h : k < l.length) (hx : (l.getD k 0).toNat = 37) (hc : conv l (k + 1) = .ok (p, j)) (hp : p.conv ≠ 37) : parseF (m + 1) l k L lit = parseF m l j (render L lit ++ [p]) [] := by
  rw [parseF, if_pos h, if_neg (by omega), if_pos hx, hc]
  simp only [hp, if_false]
theorem parse_ok {w : World} {A : Nat → Addr} {r : Except (Nat × Nat) (List Part)} {e : Ending} {w' : World} {L : List Part} (h : r = .ok L) (hb : Below w.heap.size w w') (F : Nat) (he : e = .returned (.tuple #[.pointer (some ⟨F, 0, none⟩), .nilIface])) (hF : FmtC w.heap.size w' F L) : ParsePost w A r e w' := by
  subst h; exact ⟨hb, F, he, hF⟩
theorem parse_err {w : World} {A : Nat → Addr} {r : Except (Nat × Nat) (List Part)} {e : Ending} {w' : World} {c q : Nat} (h : r = .error (c, q)) (hb : Below w.heap.size w w') (v : Value) (he : e = .returned (.tuple #[.pointer none, v])) (hE : ErrAt w' A v c q) : ParsePost w A r e w' := by
  subst h; exact ⟨hb, v, he, hE⟩
theorem render_length (L : List Part) (lit : List UInt8) : (render L lit).length ≤ L.length + 1 := by unfold render; split <;> simp
/-- The round's end: a byte was put. -/
theorem RelP.put {w wr w1 w2 : World} {l : List UInt8} {k m k' : Nat} {L : List Part} {lit : List UInt8} {b : UInt8} (h : RelP w l k L lit (m + 1) wr) (hk : k < k') (heq : parseF (m + 1) l k L lit = parseF m l k' L (lit ++ [b])) (hb : Below w.heap.size w w1)
    (hf : FmtW w.heap.size w2 w.heap.size L (lit ++ [b])) (hb2 : Below w.heap.size w1 w2) : RelP w l k' L (lit ++ [b]) m w2 :=
  ⟨by have := h.le; omega, heq.symm.trans h.eq, hf, hb.trans hb2, by have := h.hL; omega, by have := h.hlit; simp; omega, h.last⟩
theorem RelP.conv' {w wr w1 w2 : World} {l : List UInt8} {k m k' : Nat} {L P : List Part} {lit : List UInt8} {p : Part} (h : RelP w l k L lit (m + 1) wr) (hk : k < k') (heq : parseF (m + 1) l k L lit = parseF m l k' (P ++ [p]) []) (hp : p.conv ≠ 0) (hb : Below w.heap.size w w1)
    (hf : FmtC w.heap.size w2 w.heap.size (P ++ [p])) (hb2 : Below w.heap.size w1 w2) (hP : P.length ≤ L.length + 1) : RelP w l k' (P ++ [p]) [] m w2 :=
  ⟨by have := h.le; omega, heq.symm.trans h.eq, .inl ⟨rfl, hf⟩, hb.trans hb2, by have := h.hL; simp; omega, by simp, LastC.add _ _ hp⟩
theorem RelP.conv {w wr w1 w2 : World} {l : List UInt8} {k m k' : Nat} {L : List Part} {lit : List UInt8} {p : Part} (h : RelP w l k L lit (m + 1) wr) (hk : k < k') (heq : parseF (m + 1) l k L lit = parseF m l k' (render L lit ++ [p]) []) (hp : p.conv ≠ 0) (hb : Below w.heap.size w w1)
    (hf : FmtC w.heap.size w2 w.heap.size (render L lit ++ [p])) (hb2 : Below w.heap.size w1 w2) : RelP w l k' (render L lit ++ [p]) [] m w2 :=
  ⟨by have := h.le; omega, heq.symm.trans h.eq, .inl ⟨rfl, hf⟩, hb.trans hb2, by have := h.hL; have := render_length L lit; simp; omega, by simp, LastC.add _ _ hp⟩
theorem shape_Escape_cut (a : Option Addr) (cap : Nat) (l : List UInt8) (w : World) (hl : Bs w a cap l) (k : Nat) (hk : k ≤ l.length) :
    Calls Tryz.prog 26 #[.slice (cutA a cap k) (l.length - k) (cap - k)] w fun e w' => e = .returned (.tuple #[.int .u8 (esc (l.drop k)).1.toNat, .int .i64 (esc (l.drop k)).2]) ∧ w = w' := by
  have := shape_Escape (cutA a cap k) (cap - k) (l.drop k) w (hl.cut k hk)
  rwa [List.length_drop] at this
theorem esc_le (l : List UInt8) : (esc l).2 ≤ l.length := by
  unfold esc
  split
  · simp
  · split
    · have := (digits_le 8 (by omega) (l.take 3)).2
      simp at this ⊢
      omega
    · simp only []; omega

set_option maxRecDepth 100000 in
set_option maxHeartbeats 8000000 in
theorem shape_Parse (a : Option Addr) (cap : Nat) (l : List UInt8) (w : World) (hl : Bs w a cap l) (A : Nat → Addr) (hS : Sents0 w A) :
    Calls Tryz.prog 13 #[.slice a l.length cap] w (ParsePost w A (parse l)) := by
  have HL := Lib.hid hl
  have hlc := hl.1
  have hcm := hl.2.1
  unfold maxLen at hcm
  have HS := Lib.hid hS
  clear hl hS
  by_cases hlen : 1024 < l.length
  · have HP : Hid (parse l = .error (2, 0)) := by show parse l = _; unfold parse; rw [if_pos hlen]
    have F := Lib.hid (shape_fail w A HS.out 2 (by omega) (by omega) 0)
    have hd : decide (1024 < (l.length : Int)) = true := decide_eq_true (by omega)
    go_enter Tryz.func13, Tryz.ntmps13
    go_wp2_with (go_at_call 25; refine F.out.mono ?_; rintro e w' ⟨rfl, rfl⟩)
    go_ret2
    exact parse_err HP.out (below_failW _ _ _) _ rfl (failW_err w A HS.out 2 (by omega) (by omega) 0)
  have hl1 : l.length ≤ 1024 := by omega
  have HP : Hid (parse l = parseF l.length l 0 [] []) := by show parse l = _; unfold parse; rw [if_neg hlen]
  have hd : decide (1024 < (l.length : Int)) = false := decide_eq_false (by omega)
  clear hlen
  go_enter Tryz.func13, Tryz.ntmps13
  go_wp2_with fail
  go_loopw [5] (fun t wr => ∃ (k n : Nat) (L : List Part) (lit : List UInt8), k ≤ l.length ∧ t = .int .i64 k ∧ Hid (RelP w l k L lit n wr)) (fun t _ => l.length - (intOf t).toNat)
  case atStart =>
    refine ⟨0, l.length, [], [], by omega, rfl, ⟨by omega, HP.out.symm, .inl ⟨rfl, Nat.le_refl _, _, Blk.new w _ _, [], rfl, fun i h => by simp at h, World.ownsRow_nil _ _ _ _⟩, (Below.refl _ _).alloc (Nat.le_refl _) _, by simp, by simp, LastC.nil⟩⟩
  case round =>
    obtain ⟨k, n, L, lit, hk, rfl, HR⟩ := hrel
    by_cases hlt : k < l.length
    · obtain ⟨m, rfl⟩ : ∃ m, n = m + 1 := ⟨n - 1, by have := HR.out.le; omega⟩
      have HLR := Lib.hid (HL.out.below HR.out.bel (Nat.le_refl _))
      have HSR := Lib.hid (HS.out.kept HR.out.bel (Nat.le_refl _))
      have hL := HR.out.hL
      have hlit := HR.out.hlit
      have hB : w.heap.size ≤ wr.heap.size := HR.out.bel.size
      have HB0 : ∃ b0 o0, a = some ⟨b0, o0, none⟩ ∧ wr.cell? ⟨b0, o0 + k, none⟩ = some (.int .u8 (l.getD k 0).toNat) := HLR.out.head k hlt
      obtain ⟨b0, o0, rfl, hc0⟩ := HB0
      obtain ⟨x, hx⟩ : ∃ x, (l.getD k 0).toNat = x := ⟨_, rfl⟩
      rw [hx] at hc0
      have HX := Lib.hid hx
      clear hx
      by_cases h92 : x = 92
      · have e92 := beqT h92
        have HX92 : Hid ((l.getD k 0).toNat = 92) := HX.out.trans h92
        simp only [Int.cast_ofNat_Int] at e92
        have hcut := run_cutFrom (P := Tryz.prog) Tryz.underlying25 u8_size (some ⟨b0, o0, none⟩) l cap (k + 1) (by omega) ((k : Int) + 1) (by omega)
        have C := Lib.hid (shape_Escape_cut _ cap l wr HLR.out (k + 1) (by omega))
        have hel := esc_le (l.drop (k + 1))
        rw [List.length_drop] at hel
        have HE0 := Lib.hid (parseF_esc0 (m := m) (L := L) (lit := lit) hlt HX92.out)
        have HE1 := Lib.hid (parseF_esc (m := m) (L := L) (lit := lit) hlt HX92.out)
        clear h92
        generalize esc (l.drop (k + 1)) = ek at *
        obtain ⟨c, ke⟩ := ek
        simp only [] at hel C HE0 HE1
        by_cases h0 : ke = 0
        · have e0 := beqT h0
          simp only [Int.cast_ofNat_Int] at e0
          have HE := Lib.hid (HR.out.eq.symm.trans (HE0.out h0))
          have F := Lib.hid (shape_fail wr A HSR.out 10 (by omega) (by omega) k)
          clear h0 HE0 HE1
          go_wp2_with (first | (go_at_call 26; refine C.out.mono ?_; rintro e w' ⟨rfl, rfl⟩) | (go_at_call 25; refine F.out.mono ?_; rintro e w' ⟨rfl, rfl⟩))
          go_ret2
          exact parse_err HE.out (HR.out.bel.trans ((below_failW _ _ _).mono hB)) _ rfl (failW_err wr A HSR.out 10 (by omega) (by omega) k)
        · have e0 := beqF h0
          simp only [Int.cast_ofNat_Int] at e0
          have HE := Lib.hid (HE1.out h0)
          have P := Lib.hid (put_any w.heap.size wr w.heap.size L lit c HR.out.fm (by omega) (by omega) hB HR.out.last)
          have hke : 1 ≤ ke := by omega
          clear h0 HE0 HE1
          go_wp2_with (first | (go_at_call 26; refine C.out.mono ?_; rintro e w' ⟨rfl, rfl⟩) | (go_at_call 27; refine P.out.mono ?_; rintro e w2 ⟨rfl, hf2, hb2⟩; have HF2 := Lib.hid hf2; have HB2 := Lib.hid hb2; clear hf2 hb2))
          go_roundw
          case rel => exact ⟨k + (ke + 1), m, L, lit ++ [c], by omega, by go_num, HR.out.put (by omega) HE.out HR.out.bel HF2.out HB2.out⟩
          case measure => simp [intOf]; omega
      · have e92 := beqF h92
        simp only [Int.cast_ofNat_Int] at e92
        by_cases h37 : x = 37
        · have e37 := beqT h37
          have HX37 : Hid ((l.getD k 0).toNat = 37) := HX.out.trans h37
          simp only [Int.cast_ofNat_Int] at e37
          have C := Lib.hid (shape_conversion _ cap l wr HLR.out A HSR.out (k + 1) (by omega))
          simp only [Int.natCast_add, Int.cast_ofNat_Int] at C
          clear h92 h37
          cases hcv : conv l (k + 1) with
          | error cq =>
            obtain ⟨cc, q⟩ := cq
            rw [hcv] at C
            have HE := Lib.hid (HR.out.eq.symm.trans (parseF_err hlt HX37.out hcv))
            clear hcv
            go_wp2_with fail
            refine C.out.mono ?_
            rintro e w1 ⟨hb1, q0, kk, v, rfl, hE⟩
            have HB1 := Lib.hid hb1
            have HER := Lib.hid hE
            obtain ⟨bb, hch, _⟩ := hE
            obtain ⟨tv, xv, hv⟩ := hch.iface
            clear hb1 hch
            subst hv
            simp only [partCells]
            go_wp2_with fail
            go_ret2
            have bN : Below w1.heap.size w1 (w1.alloc (.cells (partCells (.slice none 0 0) q0) 59)) := (Below.refl _ _).alloc (Nat.le_refl _) _
            exact parse_err HE.out ((HR.out.bel.trans (HB1.out.mono hB)).trans (bN.mono (Nat.le_trans hB HB1.out.size))) _ rfl (HER.out.kept bN (Nat.le_refl _))
          | ok pj =>
            obtain ⟨p, j⟩ := pj
            rw [hcv] at C
            obtain ⟨hp0, hplit, hij, hj⟩ := conv_facts hcv
            by_cases hp37 : p.conv = 37
            · have HE := Lib.hid (parseF_pct (m := m) (L := L) (lit := lit) hlt HX37.out hcv hp37)
              have ep := beqT hp37
              simp only [Int.cast_ofNat_Int] at ep
              clear hcv hp0 hplit hp37
              go_wp2_with fail
              refine C.out.mono ?_
              rintro e w1 ⟨hb1, rfl⟩
              have bN : Below wr.heap.size wr (w1.alloc (.cells (partCells (.slice none 0 0) p) 59)) := hb1.alloc hb1.size _
              have HBN := Lib.hid (HR.out.bel.trans (bN.mono hB))
              have P := Lib.hid (put_any w.heap.size _ w.heap.size L lit 37 (HR.out.fm.below bN (Nat.le_refl _)) (by omega) (by omega) HBN.out.size HR.out.last)
              clear hb1 bN
              simp only [partCells] at P HBN ⊢
              go_wp2_with fail
              refine P.out.mono ?_
              rintro e w2 ⟨rfl, hf2, hb2⟩
              have HF2 := Lib.hid hf2
              have HB2 := Lib.hid hb2
              clear hf2 hb2
              go_wp2_with fail
              go_roundw
              case rel => exact ⟨j, m, L, lit ++ [37], by omega, rfl, HR.out.put (by omega) HE.out HBN.out HF2.out HB2.out⟩
              case measure => simp [intOf]; omega
            · have HE := Lib.hid (parseF_conv (m := m) (L := L) (lit := lit) hlt HX37.out hcv hp37)
              have ep := beqF hp37
              simp only [Int.cast_ofNat_Int] at ep
              have HP0 := Lib.hid hp0
              have HPL := Lib.hid hplit
              clear hcv hp0 hplit hp37
              go_wp2_with fail
              refine C.out.mono ?_
              rintro e w1 ⟨hb1, rfl⟩
              have bN : Below wr.heap.size wr (w1.alloc (.cells (partCells (.slice none 0 0) p) 59)) := hb1.alloc hb1.size _
              have HBN := Lib.hid (HR.out.bel.trans (bN.mono hB))
              have hfc := (HR.out.fm.below bN (Nat.le_refl _)).shut
              have hnb := Blk.new w1 59 (partCells (.slice none 0 0) p)
              clear hb1 bN
              simp only [partCells] at HBN hfc hnb ⊢
              go_upto_region 21 with (fail)
              generalize w1.alloc (.cells #[.slice none 0 0, .int .u8 p.conv, .bool p.fl.minus, .bool p.fl.plus, .bool p.fl.space, .bool p.fl.zero, .bool p.fl.alt, .int .i64 p.width, .int .i64 p.prec] 59) = w2 at *
              generalize w1.heap.size = g2 at *
              obtain ⟨hBF, sv, hfb, vs, hvs, hlits, hrow⟩ := hfc
              obtain ⟨sa, scap, rfl, hsc, hsm, hsg⟩ := ownsRow_form hrow
              have hvF := own_blk_ne hrow hfb (by decide)
              have hFlt := hfb.lt
              have hg2lt := hnb.lt
              have hrl := render_length L lit
              have q0 : w2.cell? ⟨g2, 0, none⟩ = some (.slice none 0 0) := by rw [hnb.cell 0]; rfl
              have q1 : w2.cell? ⟨g2, 1, none⟩ = some (.int .u8 p.conv) := by rw [hnb.cell 1]; rfl
              have q2 : w2.cell? ⟨g2, 2, none⟩ = some (.bool p.fl.minus) := by rw [hnb.cell 2]; rfl
              have q3 : w2.cell? ⟨g2, 3, none⟩ = some (.bool p.fl.plus) := by rw [hnb.cell 3]; rfl
              have q4 : w2.cell? ⟨g2, 4, none⟩ = some (.bool p.fl.space) := by rw [hnb.cell 4]; rfl
              have q5 : w2.cell? ⟨g2, 5, none⟩ = some (.bool p.fl.zero) := by rw [hnb.cell 5]; rfl
              have q6 : w2.cell? ⟨g2, 6, none⟩ = some (.bool p.fl.alt) := by rw [hnb.cell 6]; rfl
              have q7 : w2.cell? ⟨g2, 7, none⟩ = some (.int .i64 p.width) := by rw [hnb.cell 7]; rfl
              have q8 : w2.cell? ⟨g2, 8, none⟩ = some (.int .i64 p.prec) := by rw [hnb.cell 8]; rfl
              have cF : w2.cell? ⟨w.heap.size, 0, none⟩ = some (.slice sa (render L lit).length scap) := by rw [hfb.cell 0]; rfl
              have HFB := Lib.hid hfb
              have HVS := Lib.hid hvs
              have HLITS := Lib.hid hlits
              have HROW := Lib.hid hrow
              have HVF := Lib.hid hvF
              have HCF := Lib.hid cF
              have HFZ : Hid (w2.frozen? ⟨w.heap.size, 0, none⟩ = false) := hfb.frozen _
              have HBF := Lib.hid hBF
              clear hfb hvs hlits hrow hvF hnb hsg hBF
              obtain ⟨i9, hi9, hy0, hy1, hy2⟩ := info_parts Tryz.infoPart
              have hB2 := HBN.out.size
              generalize render L lit = P at *
              go_region_law
                ((refine step_append_lies _ (by rfl) _ _ _ (by rfl) w.heap.size 59 i9 _ 9 48 Tryz.underlying33 hi9 hy0 hy1 hy2 rfl (by omega) (.slice sa P.length scap) P.length (rowC vs P) (by rfl) ((HROW.out.alloc _).drew)
                    ⟨w2.heap.size, 0, none⟩ 1 1 (partCells (.slice none 0 0) p).toList (by rfl) (by rfl) (World.news_of_block (cs := partCells (.slice none 0 0) p) (t := 59) (fr := (0, 0)) (heap_alloc_new w2 _)) (by simp [partCells, Value.oneCell'])
                    (by omega) (by unfold maxLen; omega) (by omega) (by simp; omega) (w2.heap.size + 1) (by simp) ?_; intro gg cap1 w3 hown1 hgrow hat hlt; obtain ⟨cc1, cc2⟩ := addFacts hgrow hFlt HVF.out HCF.out HFZ.out))
              all_goals go_wp2_with fail
              all_goals go_roundw
              case rel =>
                have R := FmtC.add HBF.out HFB.out vs HVS.out HLITS.out HROW.out hB2 p HPL.out hown1 hgrow
                exact ⟨j, m, P ++ [p], [], by omega, rfl, HR.out.conv' (by omega) HE.out HP0.out HBN.out R.1 R.2 (by omega)⟩
              case measure => simp [intOf]; omega
              case rel =>
                have R := FmtC.add HBF.out HFB.out vs HVS.out HLITS.out HROW.out hB2 p HPL.out hown1 hgrow
                exact ⟨j, m, P ++ [p], [], by omega, rfl, HR.out.conv' (by omega) HE.out HP0.out HBN.out R.1 R.2 (by omega)⟩
              case measure => simp [intOf]; omega
              case rel =>
                have R := FmtC.add HBF.out HFB.out vs HVS.out HLITS.out HROW.out hB2 p HPL.out hown1 hgrow
                exact ⟨j, m, P ++ [p], [], by omega, rfl, HR.out.conv' (by omega) HE.out HP0.out HBN.out R.1 R.2 (by omega)⟩
              case measure => simp [intOf]; omega
        · have e37 := beqF h37
          simp only [Int.cast_ofNat_Int] at e37
          have HE := Lib.hid (parseF_byte (m := m) (L := L) (lit := lit) hlt (fun h => h92 (HX.out.symm.trans h)) (fun h => h37 (HX.out.symm.trans h)))
          have P := Lib.hid (put_any w.heap.size wr w.heap.size L lit (l.getD k 0) HR.out.fm (by omega) (by omega) hB HR.out.last)
          rw [HX.out] at P
          clear h92 h37
          go_wp2_with (go_at_call 27; refine P.out.mono ?_; rintro e w2 ⟨rfl, hf2, hb2⟩; have HF2 := Lib.hid hf2; have HB2 := Lib.hid hb2; clear hf2 hb2)
          go_roundw
          case rel => exact ⟨k + 1, m, L, lit ++ [l.getD k 0], by omega, by go_num, HR.out.put (by omega) HE.out HR.out.bel HF2.out HB2.out⟩
          case measure => simp [intOf]; omega
    · have HE := Lib.hid (HR.out.eq.symm.trans (parseF_end hlt))
      go_wp2_with fail
      go_ret2
      exact parse_ok HE.out HR.out.bel _ rfl HR.out.fm.shut
end Go.Proofs.YtppcjmbblkbkdaaGreatDoor
