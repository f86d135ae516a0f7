/- The walk of pidginref14.Parse: the parts that shape.Parse tells, or the code and place of its error. Conditions as typed. -/
import Derived.Test.YtppcjmbblkbkdaaDoorRef7
import Derived.Test.YtppcjmbblkbkdaaDoorParts
import Derived.Test.YtppcjmbblkbkdaaDoorStrs
import Derived.Deep.CutRange
namespace Go.Proofs.YtppcjmbblkbkdaaDoor
open Go.RowKit Pg

theorem wpList_rbyte {wr : World} {ops : Array Oper} {rest : List Oper} {o : Oper} {a : Act} {Q : Exit → Act → World → Prop} (hgd : o.guard = none) (s x : Operand)
    (ho : o.op = .call { callee := .builtin .append, args := #[s, x], argTypes := #[27, 27] }) {B : Nat} {lv tv : Value} {L : List Part} {lit : List UInt8} {K : Nat} {vs : List Value} (c : UInt8) (h : RMid B wr lv L tv lit K vs) (hl : lit.length ≤ 5000)
    (hs : a.eval s = tv) (hx : a.eval x = .slice (some ⟨wr.heap.size, 0, none⟩) 1 1)
    (hn : ∀ tv' w', RMid B w' lv L tv' (lit ++ [c]) K vs → Below B wr w' → wpList Tryd.prog ops Q rest (a.put o.dst tv') w') : wpList Tryd.prog ops Q (o :: rest) a (wr.alloc (.cells #[.int .u8 c.toNat] 5)) := by
  refine wpList_plain hgd fun K' hK => ?_
  obtain ⟨v', w', hr, h2, h3⟩ := h.byte hl c o.type
  unfold Oper.wp execOp
  simp only [ho, resolve, invoke, builtin, Sem.run_bind, Sem.run_pure, Result.andThen_ok, List.map_toArray, List.map_cons, List.map_nil, hs, hx, hr]
  exact hK _ _ (hn v' w' h2 h3)
theorem wpList_rpart {wr : World} {ops : Array Oper} {rest : List Oper} {o : Oper} {a : Act} {Q : Exit → Act → World → Prop} (hgd : o.guard = none) (s x : Operand)
    (ho : o.op = .call { callee := .builtin .append, args := #[s, x], argTypes := #[33, 33] }) {B : Nat} {lv tv : Value} {L : List Part} {lit : List UInt8} {K : Nat} {vs : List Value} (u : Value) (p : Part) (h : RMid B wr lv L tv lit K vs) (hL : L.length ≤ 5000) (hu : LitR wr wr.heap.size u p.lit) (hone : ∃ a n c, u = .slice a n c) (cs : Array Value) (hcs : cs = partCells u p)
    (hs : a.eval s = lv) (s0 : Nat) (hx : a.eval x = .slice (some ⟨s0, 0, none⟩) 1 1) (hs0 : wr.heap.size = s0)
    (hn : ∀ lv' w', (∃ K' vs', RMid B w' lv' (L ++ [p]) (.slice none 0 0) [] K' vs') → Below B wr w' → (wr.alloc (.cells (partCells u p) 57)).grownBy w' lv.ownBlock → wpList Tryd.prog ops Q rest (a.put o.dst lv') w') : wpList Tryd.prog ops Q (o :: rest) a (wr.alloc (.cells cs 57)) := by
  refine wpList_plain hgd fun K' hK => ?_
  subst hcs hs0
  obtain ⟨v', w', hr, h2, h3, h4⟩ := h.part hL u p hu hone o.type
  unfold Oper.wp execOp
  simp only [ho, resolve, invoke, builtin, Sem.run_bind, Sem.run_pure, Result.andThen_ok, List.map_toArray, List.map_cons, List.map_nil, hs, hx, hr]
  exact hK _ _ (hn v' w' h2 h3 h4)
/-- Bytes as a part, as the reference has it. -/
def litPart0 (l : List UInt8) : Part := ⟨l, 0, fl0, 0, 0⟩
theorem rnorm_lit (l : List UInt8) : norm (litPart l) = litPart0 l := rfl
theorem rnorm_conv {p : Part} (h : p.conv ≠ 0) : norm p = p := by unfold norm; rw [if_neg h]
theorem render_norm (L : List Part) (lit : List UInt8) : (render L lit).map norm = if lit.length = 0 then L.map norm else L.map norm ++ [litPart0 lit] := by
  unfold render
  split
  · rfl
  · rw [List.map_append]; rfl

/-- What pidginref14.Parse tells. -/
def RParsePost (w : World) (r : Except (Nat × Nat) (List Part)) (e : Ending) (w' : World) : Prop :=
  Below w.heap.size w w' ∧ match r with
  | .error (c, q) => e = .returned (.tuple #[.slice none 0 0, .agg #[.int .i64 c, .int .i64 q, .int .i64 5]])
  | .ok L => ∃ v : Value, e = .returned (.tuple #[v, .agg #[.int .i64 0, .int .i64 0, .int .i64 0]]) ∧ PartsC w.heap.size w' v (L.map norm)
theorem rparse_err {w : World} {r : Except (Nat × Nat) (List Part)} {e : Ending} {w' : World} {c q : Nat} (h : r = .error (c, q)) (hb : Below w.heap.size w w') (he : e = .returned (.tuple #[.slice none 0 0, .agg #[.int .i64 c, .int .i64 q, .int .i64 5]])) : RParsePost w r e w' := by
  subst h; exact ⟨hb, he⟩
theorem rparse_ok {w : World} {r : Except (Nat × Nat) (List Part)} {e : Ending} {w' : World} {L : List Part} (h : r = .ok L) (hb : Below w.heap.size w w') (v : Value) (he : e = .returned (.tuple #[v, .agg #[.int .i64 0, .int .i64 0, .int .i64 0]])) (hp : PartsC w.heap.size w' v (L.map norm)) : RParsePost w r e w' := by
  subst h; exact ⟨hb, v, he, hp⟩
/-- What the loop keeps. -/
structure RefP (w : World) (l : List UInt8) (k : Nat) (L : List Part) (lit : List UInt8) (n : Nat) (lv tv : Value) (wr : World) : Prop where
  le : l.length ≤ k + n
  eq : parseF n l k L lit = parse l
  mid : ∃ K vs, RMid w.heap.size wr lv (L.map norm) tv lit K vs
  bel : Below w.heap.size w wr
  hL : L.length ≤ 2 * k
  hlit : lit.length ≤ k
  nl : lit.length = 0 → tv = .slice none 0 0
theorem RefP.byte {w wr w1 w2 : World} {l : List UInt8} {k m k' : Nat} {L : List Part} {lit : List UInt8} {b : UInt8} {lv tv tv' : Value} {K : Nat} {vs : List Value} (h : RefP w l k L lit (m + 1) lv tv wr) (hk : k < k') (heq : parseF (m + 1) l k L lit = parseF m l k' L (lit ++ [b]))
    (hb : Below w.heap.size w w1) (hm : RMid w.heap.size w2 lv (L.map norm) tv' (lit ++ [b]) K vs) (hb2 : Below w.heap.size w1 w2) : RefP w l k' L (lit ++ [b]) m lv tv' w2 :=
  ⟨by have := h.le; omega, heq.symm.trans h.eq, ⟨K, vs, hm⟩, hb.trans hb2, by have := h.hL; omega, by have := h.hlit; simp; omega, fun h0 => by simp at h0⟩

theorem RefP.conv {w wr w1 w2 : World} {l : List UInt8} {k m k' : Nat} {L : List Part} {lit : List UInt8} {p : Part} {lv tv lv' : Value} {K : Nat} {vs : List Value} (h : RefP w l k L lit (m + 1) lv tv wr) (hk : k < k') (hp0 : p.conv ≠ 0) (heq : parseF (m + 1) l k L lit = parseF m l k' (render L lit ++ [p]) [])
    (hb : Below w.heap.size w w1) (hm : RMid w.heap.size w2 lv' ((render L lit).map norm ++ [p]) (.slice none 0 0) [] K vs) (hb2 : Below w.heap.size w1 w2) : RefP w l k' (render L lit ++ [p]) [] m lv' (.slice none 0 0) w2 :=
  ⟨by have := h.le; omega, heq.symm.trans h.eq, ⟨K, vs, by rw [List.map_append, List.map_cons, List.map_nil, rnorm_conv hp0]; exact hm⟩, hb.trans hb2, by have := h.hL; have := render_length L lit; simp; omega, by simp, fun _ => rfl⟩
theorem set3 {W : World} {g : Nat} {t : TypeId} {a0 a1 a2 : Value} (h : Blk W g t #[a0, a1, a2]) (x y z : Value) : Blk (((W.setCell ⟨g, 0, none⟩ x).setCell ⟨g, 1, none⟩ y).setCell ⟨g, 2, none⟩ z) g t #[x, y, z] := by
  have := ((h.set_ 0 x).set_ 1 y).set_ 2 z
  simpa using this
theorem belowR (w : World) (o : Obj) : Below w.heap.size w (w.alloc o) := (Below.refl _ _).alloc (Nat.le_refl _) o
theorem ownsRow_setS {e : TypeId} {w : World} {B size n : Nat} {v : Value} {xs : List Value} (h : w.ownsRow B e size v n xs) {a : Addr} {t : TypeId} {cs : Array Value} (hb : Blk w a.block t cs) (ht : e ≠ t) (u : Value) : (w.setCell a u).ownsRow B e size v n xs := by
  refine ⟨h.1, ?_⟩
  rcases h.2 with h2 | ⟨g, cap, cur, hv, hb', hg, r⟩
  · exact .inl h2
  · exact .inr ⟨g, cap, cur, hv, hb', by rw [Below.heap_setCell _ _ _ _ (Ne.symm (hb.ne_ (g' := g) (t' := e) hg (Ne.symm ht)))]; exact hg, r⟩
theorem PartsC.setCell {B : Nat} {w : World} {v : Value} {P : List Part} (h : PartsC B w v P) {a : Addr} {t : TypeId} {cs : Array Value} (hb : Blk w a.block t cs) (h1 : t ≠ 5) (h2 : 57 ≠ t) (u : Value) : PartsC B (w.setCell a u) v P := by
  obtain ⟨vs, k1, k2, k3⟩ := h
  exact ⟨vs, k1, fun i hi hi' => by rw [size_setCell]; exact (k2 i hi hi').kept (U8Kept.setCell hb h1 u), ownsRow_setS k3 hb h2 u⟩
theorem PartsC.set3 {B : Nat} {W : World} {v : Value} {P : List Part} (h : PartsC B W v P) {g : Nat} {cs : Array Value} (hk : Blk W g 23 cs) (x y z : Value) : PartsC B (((W.setCell ⟨g, 0, none⟩ x).setCell ⟨g, 1, none⟩ y).setCell ⟨g, 2, none⟩ z) v P :=
  ((h.setCell (a := ⟨g, 0, none⟩) hk (by decide) (by decide) x).setCell (a := ⟨g, 1, none⟩) (hk.set_ 0 x) (by decide) (by decide) y).setCell (a := ⟨g, 2, none⟩) ((hk.set_ 0 x).set_ 1 y) (by decide) (by decide) z
theorem PartsC.base {B B1 : Nat} {w : World} {v : Value} {P : List Part} (h : PartsC B w v P) (hB : B1 ≤ B) : PartsC B1 w v P := by
  obtain ⟨vs, k1, k2, k3⟩ := h
  exact ⟨vs, k1, k2, ownsRow_base k3 hB⟩

set_option maxRecDepth 100000 in
set_option maxHeartbeats 8000000 in
/-- pidginref14.Parse. -/
theorem ref_Parse (a : Option Addr) (cap : Nat) (l : List UInt8) (w : World) (hl : Bs w a cap l) :
    Calls Tryd.prog 9 #[.slice a l.length cap] w (RParsePost w (parse l)) := by
  have HL := Lib.hid hl
  have hlc := hl.1
  have hcm := hl.2.1
  unfold maxLen at hcm
  have CF := Lib.hid ref_fault
  clear hl
  by_cases hlen : 1024 < l.length
  · have HP : Hid (parse l = .error (2, 0)) := by show parse l = _; unfold parse; rw [if_pos hlen]
    have hd : decide (1024 < (l.length : Int)) = true := decide_eq_true (by omega)
    clear hlen
    go_enter Tryd.func9, Tryd.ntmps9
    go_wp2_with (go_at_call 26; refine (CF.out _ _ _).mono ?_; rintro e w' ⟨rfl, rfl⟩)
    try rw [Exit.noGoto_ret]
    refine bodyPost_ret (v := .tuple #[.slice none 0 0, .agg #[.int .i64 2, .int .i64 0, .int .i64 5]]) (by simp [results, Tryd.results9, go_sem]) rfl ?_
    exact rparse_err HP.out ((((Below.refl _ _).alloc (Nat.le_refl _) _).alloc (by simp) _).alloc (by simp; omega) _) rfl
  have hl1 : l.length ≤ 1024 := by omega
  have HP : Hid (parse l = parseF l.length l 0 [] []) := by show parse l = _; unfold parse; rw [if_neg hlen]
  have hd : decide (1024 < (l.length : Int)) = false := decide_eq_false (by omega)
  have bW := belowR w (.cells #[.int .i64 0, .int .i64 0, .int .i64 0] 23)
  have HLW := Lib.hid (HL.out.below bW (Nat.le_refl _))
  have BW := Lib.hid bW
  clear hlen bW
  go_enter Tryd.func9, Tryd.ntmps9
  go_wp2_with fail
  go_loopw [4, 5, 6] (fun lv tv t wr => ∃ (k n : Nat) (L : List Part) (lit : List UInt8), k ≤ l.length ∧ t = .int .i64 k ∧ Hid (RefP (w.alloc (.cells #[.int .i64 0, .int .i64 0, .int .i64 0] 23)) l k L lit n lv tv wr)) (fun _ _ t _ => l.length - (intOf t).toNat)
  case atStart => exact ⟨0, l.length, [], [], by omega, rfl, ⟨by omega, HP.out.symm, ⟨_, _, RMid.nil _⟩, Below.refl _ _, by simp, by simp, fun _ => rfl⟩⟩
  case round =>
    obtain ⟨k, n, L, lit, hk, rfl, HR⟩ := hrel
    obtain ⟨K, vs, hmid⟩ := HR.out.mid
    have HMID := Lib.hid hmid
    have hL := HR.out.hL
    have hlit := HR.out.hlit
    have HB := Lib.hid HR.out.bel
    have hszr := HB.out.size
    rw [World.size_alloc] at hszr
    have bk3 := (Blk.new w 23 #[.int .i64 0, .int .i64 0, .int .i64 0]).below HB.out (by simp)
    have z0 : wr.cell? ⟨w.heap.size, 0, none⟩ = some (.int .i64 0) := by rw [bk3.cell 0]; rfl
    have z1 : wr.cell? ⟨w.heap.size, 1, none⟩ = some (.int .i64 0) := by rw [bk3.cell 1]; rfl
    have z2 : wr.cell? ⟨w.heap.size, 2, none⟩ = some (.int .i64 0) := by rw [bk3.cell 2]; rfl
    have y0 := bk3.frozen 0
    have y1 := bk3.frozen 1
    have y2 := bk3.frozen 2
    have HK := Lib.hid bk3
    have HLR := Lib.hid (HLW.out.below HB.out (Nat.le_refl _))
    have HBF := Lib.hid (BW.out.trans (HB.out.mono BW.out.size))
    obtain ⟨ta, tcap, htv, ht1, ht2, _⟩ := ownsRow_form hmid.last
    subst htv
    unfold maxLen at ht2
    clear bk3 hmid
    by_cases hlt : k < l.length
    · obtain ⟨m, rfl⟩ : ∃ m, n = m + 1 := ⟨n - 1, by have := HR.out.le; omega⟩
      obtain ⟨b0, o0, rfl, hc0⟩ := HLR.out.head k hlt
      obtain ⟨c, hc⟩ : ∃ c, l.getD k 0 = c := ⟨_, rfl⟩
      rw [hc] at hc0
      have HC := Lib.hid hc
      clear hc
      by_cases h92 : c.toNat = 92
      · have e92 := beqT h92
        have hx92 : (l.getD k 0).toNat = 92 := by rw [HC.out]; exact h92
        simp only [Int.cast_ofNat_Int] at e92
        have C := ref_Escape _ cap l k hlt (by omega) wr HLR.out
        have hel := esc_le (l.drop (k + 1))
        rw [List.length_drop] at hel
        have HE0 := Lib.hid (parseF_esc0 (m := m) (L := L) (lit := lit) hlt hx92)
        have HE1 := Lib.hid (parseF_esc (m := m) (L := L) (lit := lit) hlt hx92)
        clear hx92 h92
        generalize esc (l.drop (k + 1)) = ek at *
        obtain ⟨c1, ke⟩ := ek
        simp only [] at hel C HE0 HE1
        by_cases h0 : ke = 0
        · have HE := Lib.hid (HR.out.eq.symm.trans (HE0.out h0))
          rw [if_pos h0, if_pos h0] at C
          have C := Lib.hid C
          clear h0 HE0 HE1
          have bkW := (HK.out.alloc (.cells #[.int .i64 10, .int .i64 k, .int .i64 5] 23)).alloc (.cells #[.int .i64 10, .int .i64 k, .int .i64 5] 23)
          have zz0 := bkW.cell 0
          have zz1 := bkW.cell 1
          have zz2 := bkW.cell 2
          have yy0 := bkW.frozen 0
          have yy1 := bkW.frozen 1
          have yy2 := bkW.frozen 2
          have HKW := Lib.hid bkW
          clear bkW
          go_wp2_with (first | (go_at_call 27; refine C.out.mono ?_; rintro e w' ⟨rfl, rfl⟩) | (go_at_call 26; refine (CF.out _ _ _).mono ?_; rintro e w' ⟨rfl, rfl⟩))
          try rw [Exit.noGoto_ret]
          have b3 := set3 HKW.out (.int .i64 10) (.int .i64 k) (.int .i64 5)
          have q0 := b3.cell 0
          have q1 := b3.cell 1
          have q2 := b3.cell 2
          have hb5 := (((((HBF.out.alloc (by omega) (.cells #[.int .i64 10, .int .i64 k, .int .i64 5] 23)).alloc (by simp; omega) (.cells #[.int .i64 10, .int .i64 k, .int .i64 5] 23)).setCell (p := ⟨w.heap.size, 0, none⟩) (Nat.le_refl _) (.int .i64 10)).setCell (p := ⟨w.heap.size, 1, none⟩) (Nat.le_refl _) (.int .i64 k)).setCell (p := ⟨w.heap.size, 2, none⟩) (Nat.le_refl _) (.int .i64 5))
          generalize (World.setCell _ ⟨w.heap.size, 2, none⟩ _) = W3 at *
          refine bodyPost_ret (v := .tuple #[.slice none 0 0, .agg #[.int .i64 10, .int .i64 k, .int .i64 5]]) (by simp [results, Tryd.results9, go_sem, q0, q1, q2]) rfl ?_
          exact rparse_err HE.out hb5 rfl
        · have e0 : ((((ke + 1 : Nat) : Int)) == 0) = false := beq_eq_false_iff_ne.2 (by omega)
          have HE := Lib.hid (HE1.out h0)
          rw [if_neg h0, if_neg h0] at C
          obtain ⟨kf, hkf⟩ : ∃ kf, kf = ke + 1 := ⟨_, rfl⟩
          rw [← hkf] at e0 C HE
          have C := Lib.hid C
          have hke : 1 ≤ ke := by omega
          clear h0 HE0 HE1
          go_wp2_with (first | (go_at_call 27; refine C.out.mono ?_; rintro e w' ⟨rfl, rfl⟩) | (at_builtin; refine wpList_rbyte rfl (.tmp 45) (.tmp 47) rfl c1 HMID.out (by omega) rfl rfl ?_; intro tv2 w2 hm2 hb2; have HM2 := Lib.hid hm2; have HB2 := Lib.hid hb2; clear hm2 hb2))
          go_roundw
          case rel => exact ⟨k + kf, m, L, lit ++ [c1], by omega, by go_num, HR.out.byte (by omega) HE.out HB.out HM2.out HB2.out⟩
          case measure => simp [intOf]; omega
      · have e92 := beqF h92
        simp only [Int.cast_ofNat_Int] at e92
        by_cases h37 : c.toNat = 37
        · have e37 := beqT h37
          have hx37 : (l.getD k 0).toNat = 37 := by rw [HC.out]; exact h37
          simp only [Int.cast_ofNat_Int] at e37
          clear h92 h37
          by_cases hp : k + 1 < l.length ∧ (l.getD (k + 1) 0).toNat = 37
          · obtain ⟨hp1, hp2⟩ := hp
            have HE := Lib.hid (parseF_pct (m := m) (L := L) (lit := lit) hlt hx37 (conv_pct hp1 hp2) rfl)
            have hc1 := HLR.out.head (k + 1) hp1
            obtain ⟨_, _, hq, hc1⟩ := hc1
            simp only [Option.some.injEq, Addr.mk.injEq, and_true] at hq
            obtain ⟨rfl, rfl⟩ := hq
            rw [hp2] at hc1
            have e1 : decide ((k : Int) + 1 < (l.length : Int)) = true := decide_eq_true (by omega)
            clear hx37 hp2
            go_wp2_with (at_builtin; refine wpList_rbyte rfl (.tmp 73) (.tmp 74) rfl (37 : UInt8) HMID.out (by omega) rfl rfl ?_; intro tv2 w2 hm2 hb2; have HM2 := Lib.hid hm2; have HB2 := Lib.hid hb2; clear hm2 hb2)
            go_roundw
            case rel => exact ⟨k + 2, m, L, lit ++ [37], by omega, by go_num, HR.out.byte (by omega) HE.out HB.out HM2.out HB2.out⟩
            case measure => simp [intOf]; omega
          · have hp' : ¬ (k + 1 < l.length ∧ (l.getD (k + 1) 0).toNat = 37) := hp
            have C := ref_conversion _ cap l wr HLR.out (k + 1) (by omega) hp'
            simp only [Int.natCast_add, Int.cast_ofNat_Int] at C
            obtain ⟨D, hD⟩ : ∃ D : Bool, D = decide (k + 1 < l.length) := ⟨_, rfl⟩
            have e1 : decide ((k : Int) + 1 < (l.length : Int)) = D := by rw [hD]; exact decide_eq_decide.2 (by omega)
            have hcell : D = true → ∃ x : Nat, wr.cell? ⟨b0, o0 + (k + 1), none⟩ = some (.int .u8 x) ∧ ((x : Int) == 37) = false := fun h => by
              have hp1 : k + 1 < l.length := of_decide_eq_true (hD.symm.trans h)
              obtain ⟨_, _, hq, hc1⟩ := HLR.out.head (k + 1) hp1
              simp only [Option.some.injEq, Addr.mk.injEq, and_true] at hq
              obtain ⟨rfl, rfl⟩ := hq
              refine ⟨_, hc1, ?_⟩
              have := beqF (x := (l.getD (k + 1) 0).toNat) (n := 37) (fun h => hp ⟨hp1, h⟩)
              simpa using this
            have HCELL := Lib.hid hcell
            have HPN := Lib.hid hp'
            clear hD hp hp' hcell
            go_upto_region 15 with (fail)
            go_cut [52] from 16 to 108 (fun t wx => t = .bool false ∧ wx = wr)
            case first =>
              cases D
              · go_wp2_with fail
                go_meet
                exact ⟨rfl, rfl⟩
              · obtain ⟨x, hc1, e37'⟩ := HCELL.out rfl
                have hlt1 : (k : Int) + 1 < (l.length : Int) := of_decide_eq_true e1
                go_wp2_with fail
                go_meet
                exact ⟨rfl, rfl⟩
            case rest =>
              obtain ⟨rfl, hwc⟩ := hcut
              have hwc := hwc.symm
              subst hwc
              clear HCELL e1
              cases hcv : conv l (k + 1) with
              | error cq =>
                obtain ⟨cc, q⟩ := cq
                rw [hcv] at C
                have HE := Lib.hid (HR.out.eq.symm.trans (parseF_err hlt hx37 hcv))
                have hcc := conv_code hcv
                have ecc : ((cc : Int) != 0) = true := bne_iff_ne.2 (by omega)
                have C := Lib.hid C
                clear hcv hx37 hcc
                go_wp2_with fail
                refine C.out.mono ?_
                rintro e w1 ⟨hb1, p0, rfl⟩
                have bk3 := (HK.out.below hb1 HK.out.lt).alloc (.cells (partCells (.slice none 0 0) p0) 57)
                have bkW := bk3.alloc (.cells #[.int .i64 cc, .int .i64 q, .int .i64 5] 23)
                have hszw := hb1.size
                have hbW := (((HBF.out.trans (hb1.mono (by omega))).alloc (by omega) (.cells (partCells (.slice none 0 0) p0) 57)).alloc (by simp; omega) (.cells #[.int .i64 cc, .int .i64 q, .int .i64 5] 23))
                simp only [partCells] at bkW hbW ⊢
                have zz0 := bkW.cell 0
                have zz1 := bkW.cell 1
                have zz2 := bkW.cell 2
                have yy0 := bkW.frozen 0
                have yy1 := bkW.frozen 1
                have yy2 := bkW.frozen 2
                have HKW := Lib.hid bkW
                have HBW := Lib.hid hbW
                clear bk3 bkW hb1 hbW
                go_upto_region 21 with (fail)
                go_region
                all_goals go_wp2_with fail
                all_goals try rw [Exit.noGoto_ret]
                all_goals (
                  have b3 := set3 HKW.out (.int .i64 cc) (.int .i64 q) (.int .i64 5)
                  have q0 := b3.cell 0
                  have q1 := b3.cell 1
                  have q2 := b3.cell 2
                  have hb5 := (((HBW.out).setCell (p := ⟨w.heap.size, 0, none⟩) (Nat.le_refl _) (.int .i64 cc)).setCell (p := ⟨w.heap.size, 1, none⟩) (Nat.le_refl _) (.int .i64 q)).setCell (p := ⟨w.heap.size, 2, none⟩) (Nat.le_refl _) (.int .i64 5)
                  generalize hW3 : (World.setCell (World.setCell (World.setCell (World.alloc (World.alloc w1 (.cells #[.slice none 0 0, .int .u8 p0.conv, .bool p0.fl.minus, .bool p0.fl.plus, .bool p0.fl.space, .bool p0.fl.zero, .bool p0.fl.alt, .int .i64 p0.width, .int .i64 p0.prec] 57)) (.cells #[.int .i64 cc, .int .i64 q, .int .i64 5] 23)) ⟨w.heap.size, 0, none⟩ (.int .i64 cc)) ⟨w.heap.size, 1, none⟩ (.int .i64 q)) ⟨w.heap.size, 2, none⟩ (.int .i64 5)) = W3 at *
                  refine bodyPost_ret (v := .tuple #[.slice none 0 0, .agg #[.int .i64 cc, .int .i64 q, .int .i64 5]]) (by simp [results, Tryd.results9, go_sem, q0, q1, q2]) rfl ?_
                  exact rparse_err HE.out hb5.drew rfl)
              | ok pj =>
                obtain ⟨p, j⟩ := pj
                rw [hcv] at C
                obtain ⟨hp0, hplit, hij, hj⟩ := conv_facts hcv
                have HE := Lib.hid (parseF_conv (m := m) (L := L) (lit := lit) hlt hx37 hcv (conv_ne37 hcv HPN.out))
                have HP0 := Lib.hid hp0
                have HLT := Lib.hid hplit
                have HBF1 := Lib.hid HB.out
                have C := Lib.hid C
                clear hcv hx37 hp0 hplit
                go_wp2_with fail
                refine C.out.mono ?_
                rintro e w1 ⟨hb1, rfl⟩
                have hszw := hb1.size
                have hmw := ((HMID.out.below hb1 (Nat.le_refl _)).below (belowR w1 (.cells (partCells (.slice none 0 0) p) 57)) (Nat.le_refl _)).below (belowR _ (.cells #[.int .i64 0, .int .i64 0, .int .i64 0] 23)) (Nat.le_refl _)
                have bk9 := (Blk.new w1 57 (partCells (.slice none 0 0) p)).alloc (.cells #[.int .i64 0, .int .i64 0, .int .i64 0] 23)
                have hbW := ((HBF1.out.trans (hb1.mono (by rw [World.size_alloc]; omega))).alloc (by rw [World.size_alloc]; omega) (.cells (partCells (.slice none 0 0) p) 57)).alloc (by rw [World.size_alloc, World.size_alloc]; omega) (.cells #[.int .i64 0, .int .i64 0, .int .i64 0] 23)
                have hrl : ∀ g, u4.ownBlock = some g → g < wr.heap.size := fun g hg => (HMID.out.row.lt g hg).2
                simp only [partCells] at bk9 hmw hbW ⊢
                have HMW := Lib.hid hmw
                have HK9 := Lib.hid bk9
                have HBW := Lib.hid hbW
                have HRL := Lib.hid hrl
                clear hmw bk9 hb1 hbW hrl
                by_cases hl0 : lit.length = 0
                · have e0 : ¬ 0 < lit.length := by omega
                  have hnil := HR.out.nl hl0
                  have hrd : (render L lit).map norm = L.map norm := by rw [render_norm, if_pos hl0]
                  have HRD := Lib.hid hrd
                  have HNIL := Lib.hid hnil
                  clear hl0 hnil hrd
                  go_wp2_with (at_builtin; refine wpList_rpart rfl (.tmp 104) (.tmp 106) rfl (.slice none 0 0) p HMW.out (by rw [List.length_map]; omega) (by rw [HLT.out]; exact LitR.nil _ _) ⟨none, 0, 0, rfl⟩ _ rfl rfl _ rfl (by simp) ?_; intro lv2 w2 hm2 hb2 hg2; have HM2 := Lib.hid hm2; have HB2 := Lib.hid hb2; clear hm2 hb2 hg2)
                  go_roundw
                  case rel =>
                    obtain ⟨K2, vs2, hm2⟩ := HM2.out
                    have hfin := HR.out.conv (by omega) HP0.out HE.out HBW.out (by rw [HRD.out]; exact hm2) HB2.out
                    rw [← HNIL.out] at hfin
                    exact ⟨j, m, render L lit ++ [p], [], by omega, rfl, hfin⟩
                  case measure => simp [intOf]; omega
                · have e0 : 0 < lit.length := by omega
                  have hrd : (render L lit).map norm = L.map norm ++ [litPart0 lit] := by rw [render_norm, if_neg hl0]
                  have HRD := Lib.hid hrd
                  clear hl0 hrd
                  go_wp2_with (first
                    | (at_builtin; refine wpList_rpart rfl (.tmp 99) (.tmp 102) rfl (.slice ta lit.length tcap) (litPart0 lit) HMW.out (by rw [List.length_map]; omega) (LitR.own HMW.out.last) ⟨ta, lit.length, tcap, rfl⟩ _ rfl rfl _ rfl (by simp) ?_; intro lv2 w2 hm2 hb2 hg2; obtain ⟨K2, vs2, hm2⟩ := hm2; obtain ⟨x0, x1, x2, x3, x4, x5, x6, x7, x8⟩ := allCells (v := .slice none 0 0) (p := p) ((HK9.out.alloc _).grown hg2 (fun he => by have := HRL.out _ he.symm; omega)); have HM2 := Lib.hid hm2; have HB2 := Lib.hid hb2; clear hm2 hb2 hg2)
                    | (at_builtin; refine wpList_rpart rfl (.tmp 104) (.tmp 106) rfl (.slice none 0 0) p HM2.out (by rw [List.length_append, List.length_map]; show _ + 1 ≤ _; omega) (by rw [HLT.out]; exact LitR.nil _ _) ⟨none, 0, 0, rfl⟩ _ rfl rfl _ rfl (by simp) ?_; intro lv3 w3 hm3 hb3 hg3; have HM3 := Lib.hid hm3; have HB3 := Lib.hid hb3; clear hm3 hb3 hg3))
                  go_roundw
                  case rel =>
                    obtain ⟨K3, vs3, hm3⟩ := HM3.out
                    exact ⟨j, m, render L lit ++ [p], [], by omega, rfl, HR.out.conv (by omega) HP0.out HE.out HBW.out (by rw [HRD.out]; exact hm3) (HB2.out.trans HB3.out)⟩
                  case measure => simp [intOf]; omega
        · have e37 := beqF h37
          have hx1 : (l.getD k 0).toNat ≠ 92 := by rw [HC.out]; exact h92
          have hx2 : (l.getD k 0).toNat ≠ 37 := by rw [HC.out]; exact h37
          simp only [Int.cast_ofNat_Int] at e37
          have hE := parseF_byte (m := m) (L := L) (lit := lit) hlt hx1 hx2
          rw [HC.out] at hE
          have HE := Lib.hid hE
          clear h92 h37 hx1 hx2 hE
          go_wp2_with (at_builtin; refine wpList_rbyte rfl (.tmp 20) (.tmp 25) rfl c HMID.out (by omega) rfl rfl ?_; intro tv2 w2 hm2 hb2; have HM2 := Lib.hid hm2; have HB2 := Lib.hid hb2; clear hm2 hb2)
          go_roundw
          case rel => exact ⟨k + 1, m, L, lit ++ [c], by omega, by go_num, HR.out.byte (by omega) HE.out HB.out HM2.out HB2.out⟩
          case measure => simp [intOf]; omega
    · have HE : Hid (parse l = .ok (render L lit)) := HR.out.eq.symm.trans (parseF_end hlt)
      by_cases hl0 : lit.length = 0
      · have e0 : ¬ 0 < lit.length := by omega
        have hpc : PartsC w.heap.size wr u4 ((render L lit).map norm) := by
          rw [render_norm, if_pos hl0]
          exact HMID.out.parts.base (by simp)
        have HPC := Lib.hid hpc
        clear hl0 hpc
        go_wp2_with fail
        try rw [Exit.noGoto_ret]
        have b3 := set3 HK.out (.int .i64 0) (.int .i64 0) (.int .i64 0)
        have q0 := b3.cell 0
        have q1 := b3.cell 1
        have q2 := b3.cell 2
        have hb5 := ((HBF.out.setCell (p := ⟨w.heap.size, 0, none⟩) (Nat.le_refl _) (.int .i64 0)).setCell (p := ⟨w.heap.size, 1, none⟩) (Nat.le_refl _) (.int .i64 0)).setCell (p := ⟨w.heap.size, 2, none⟩) (Nat.le_refl _) (.int .i64 0)
        have hp5 := HPC.out.set3 HK.out (.int .i64 0) (.int .i64 0) (.int .i64 0)
        generalize (World.setCell _ ⟨w.heap.size, 2, none⟩ _) = W3 at *
        refine bodyPost_ret (v := .tuple #[u4, .agg #[.int .i64 0, .int .i64 0, .int .i64 0]]) (by simp [results, Tryd.results9, go_sem, q0, q1, q2]) rfl ?_
        exact rparse_ok HE.out hb5 _ rfl hp5
      · have e0 : 0 < lit.length := by omega
        have hrd : (render L lit).map norm = L.map norm ++ [litPart0 lit] := by rw [render_norm, if_neg hl0]
        have HRD := Lib.hid hrd
        clear hl0 hrd
        go_wp2_with (at_builtin; refine wpList_rpart rfl (.tmp 112) (.tmp 115) rfl (.slice ta lit.length tcap) (litPart0 lit) HMID.out (by rw [List.length_map]; omega) (LitR.own HMID.out.last) ⟨ta, lit.length, tcap, rfl⟩ _ rfl rfl _ rfl (by simp) ?_; intro lv2 w2 hm2 hb2 hg2; obtain ⟨K2, vs2, hm2⟩ := hm2; have bk2 := HK.out.below hb2 (by simp); have zz0 := bk2.cell 0; have zz1 := bk2.cell 1; have zz2 := bk2.cell 2; have yy0 := bk2.frozen 0; have yy1 := bk2.frozen 1; have yy2 := bk2.frozen 2; have HK2 := Lib.hid bk2; have HM2 := Lib.hid hm2; have HB2 := Lib.hid hb2; clear hm2 hb2 hg2 bk2)
        try rw [Exit.noGoto_ret]
        have hpc : PartsC w.heap.size w2 lv2 ((render L lit).map norm) := by
          rw [HRD.out]
          exact HM2.out.parts.base (by simp)
        have HPC := Lib.hid hpc
        have b3 := set3 HK2.out (.int .i64 0) (.int .i64 0) (.int .i64 0)
        have q0 := b3.cell 0
        have q1 := b3.cell 1
        have q2 := b3.cell 2
        have hb5 := (((HBF.out.trans (HB2.out.mono (by simp))).setCell (p := ⟨w.heap.size, 0, none⟩) (Nat.le_refl _) (.int .i64 0)).setCell (p := ⟨w.heap.size, 1, none⟩) (Nat.le_refl _) (.int .i64 0)).setCell (p := ⟨w.heap.size, 2, none⟩) (Nat.le_refl _) (.int .i64 0)
        have hp5 := HPC.out.set3 HK2.out (.int .i64 0) (.int .i64 0) (.int .i64 0)
        generalize (World.setCell _ ⟨w.heap.size, 2, none⟩ _) = W3 at *
        refine bodyPost_ret (v := .tuple #[lv2, .agg #[.int .i64 0, .int .i64 0, .int .i64 0]]) (by simp [results, Tryd.results9, go_sem, q0, q1, q2]) rfl ?_
        exact rparse_ok HE.out hb5 _ rfl hp5
end Go.Proofs.YtppcjmbblkbkdaaDoor
