/- The walk of (*shape.Format).Text. Conditions as typed. -/
import Derived.Test.YtppcjmbblkbkdaaDoorParts
import Derived.Test.YtppcjmbblkbkdaaDoorBaseT
import Derived.Test.YtppcjmbblkbkdaaDoorShelf
import Derived.Deep.DeepCutAuto
namespace Go.Proofs.YtppcjmbblkbkdaaDoor
open Go.RowKit Pg

theorem Tryd.infoStr : (Tryd.prog.info? 9).map (fun i => (i.zero, i.size, i.bytes)) = some (some (.string ⟨#[]⟩), 1, 16) := by kernel_rfl
def strV (l : List UInt8) : Value := .string ⟨l.toArray⟩
/-- What the outer loop of Text keeps. -/
structure TextRel (w : World) (P : List Part) (k : Nat) (vo : Value) (wr : World) : Prop where
  row : wr.ownsRow w.heap.size 9 1 vo k ((P.take k).map fun p => strV (partText p))
  bel : Below w.heap.size w wr

theorem digs16 : ∀ d, d < 16 → digs 16 false d = [sign false d] := by
  intro d hd
  have : d = 0 ∨ d = 1 ∨ d = 2 ∨ d = 3 ∨ d = 4 ∨ d = 5 ∨ d = 6 ∨ d = 7 ∨ d = 8 ∨ d = 9 ∨ d = 10 ∨ d = 11 ∨ d = 12 ∨ d = 13 ∨ d = 14 ∨ d = 15 := by omega
  rcases this with rfl | rfl | rfl | rfl | rfl | rfl | rfl | rfl | rfl | rfl | rfl | rfl | rfl | rfl | rfl | rfl <;> rfl

theorem and15 : ∀ n : Nat, n < 256 → bits .and .u8 (n : Int) 15 = ((n % 16 : Nat) : Int) := by
  have h : ((List.range 256).all fun n : Nat => bits .and .u8 (n : Int) 15 == ((n % 16 : Nat) : Int)) = true := by kernel_rfl
  intro n hn
  simpa using List.all_eq_true.1 h n (List.mem_range.2 hn)
theorem u64_small {n : Nat} (h : n < 256) : IntKind.u64.wrap (n : Int) = (n : Int) := by rw [IntKind.wrap_u64]; omega
theorem u64_div16 {n : Nat} (h : n < 256) : IntKind.u64.wrap ((n : Int) / 16) = ((n / 16 : Nat) : Int) := by rw [IntKind.wrap_u64]; omega
theorem hex_take (l : List UInt8) (q : Nat) (h : q < l.length) : (l.take (q + 1)).flatMap hex = (l.take q).flatMap hex ++ hex (l.getD q 0) := by
  rw [List.take_succ_eq_append_getElem h, List.flatMap_append]; simp [h]
/-- The flags, each with its sign. -/
def flList (f : Fl) : List (Bool × UInt8) := [(f.minus, 45), (f.plus, 43), (f.space, 32), (f.zero, 48), (f.alt, 35)]
def flPre (f : Fl) (q : Nat) : List UInt8 := ((flList f).take q).flatMap fun x => if x.1 then [x.2] else []
theorem flPre5 (f : Fl) : flPre f 5 = flText f := by
  obtain ⟨a, b, c, d, e⟩ := f
  cases a <;> cases b <;> cases c <;> cases d <;> cases e <;> rfl
theorem flag_at (f : Fl) (q : Nat) (hq : q < 5) : ∃ (b : Bool) (c : UInt8), (∀ W, (Instr.index 78 (.agg #[.bool f.minus, .bool f.plus, .bool f.space, .bool f.zero, .bool f.alt]) (.int .i64 q)).run Tryd.prog W = .ok (.bool b) W) ∧
    (∀ W, (Instr.slice 9 (.string ⟨#[45, 43, 32, 48, 35]⟩) (some (.int .i64 q)) (some (.int .i64 ((q : Int) + 1))) none).run Tryd.prog W = .ok (.string ⟨#[c]⟩) W) ∧ flPre f (q + 1) = flPre f q ++ if b then [c] else [] := by
  obtain ⟨a, b, c, d, e⟩ := f
  have : q = 0 ∨ q = 1 ∨ q = 2 ∨ q = 3 ∨ q = 4 := by omega
  rcases this with rfl | rfl | rfl | rfl | rfl
  · exact ⟨a, 45, fun W => by kernel_rfl, fun W => by kernel_rfl, by cases a <;> rfl⟩
  · exact ⟨b, 43, fun W => by kernel_rfl, fun W => by kernel_rfl, by cases a <;> cases b <;> rfl⟩
  · exact ⟨c, 32, fun W => by kernel_rfl, fun W => by kernel_rfl, by cases a <;> cases b <;> cases c <;> rfl⟩
  · exact ⟨d, 48, fun W => by kernel_rfl, fun W => by kernel_rfl, by cases a <;> cases b <;> cases c <;> cases d <;> rfl⟩
  · exact ⟨e, 35, fun W => by kernel_rfl, fun W => by kernel_rfl, by cases a <;> cases b <;> cases c <;> cases d <;> cases e <;> rfl⟩
theorem flatMap_le (l : List (Bool × UInt8)) : (l.flatMap fun x => if x.1 then [x.2] else []).length ≤ l.length := by
  induction l with
  | nil => simp
  | cons x l ih =>
    rw [List.flatMap_cons, List.length_append, List.length_cons]
    obtain ⟨b, c⟩ := x
    cases b
    · show 0 + _ ≤ _; omega
    · show 1 + _ ≤ _; omega
theorem flPre_len (f : Fl) (q : Nat) : (flPre f q).length ≤ 5 := by
  have h1 := flatMap_le ((flList f).take q)
  have h2 : ((flList f).take q).length ≤ 5 := by rw [List.length_take]; exact Nat.min_le_right _ _
  unfold flPre
  omega

/-- A round of Text's end: a string is put behind strings. -/
theorem TextRel.next {w wo wx w3 : World} {P : List Part} {k gg cap3 : Nat} {vo : Value} {p : Part} {X : ByteArray} {C : Array Value} (h : TextRel w P k vo wo) (htk : (P.take (k + 1)).map (fun p => strV (partText p)) = (P.take k).map (fun p => strV (partText p)) ++ [strV (partText p)])
    (hb : Below wo.heap.size wo wx) (hX : X = ⟨(partText p).toArray⟩) (hown : w3.ownsRow w.heap.size 9 1 (.slice (some ⟨gg, 0, none⟩) (k + 1) cap3) (k + 1) ((P.take k).map (fun p => strV (partText p)) ++ [.string X])) (hg : (wx.alloc (.cells C 9)).grownBy w3 vo.ownBlock) :
    TextRel w P (k + 1) (.slice (some ⟨gg, 0, none⟩) (k + 1) cap3) w3 := by
  have h1 := h.bel.size
  have h2 := hb.size
  refine ⟨by rw [htk]; subst hX; exact hown, (h.bel.trans (hb.mono h1)).trans ?_⟩
  exact ((Below.refl w.heap.size wx).alloc (by omega) _).grown hg (by simp; omega) (fun j hj => (h.row.lt j hj).1)
theorem lit_text {p : Part} {S : ByteArray} (hpt : partText p = 34 :: (p.lit.flatMap hex ++ [34])) (hS : S = ⟨(p.lit.flatMap hex).toArray⟩) : (⟨#[34]⟩ : ByteArray) ++ S ++ ⟨#[34]⟩ = ⟨(partText p).toArray⟩ := by
  subst hS
  rw [hpt]
  have e1 := ByteArray.mk_append_mk [34] (p.lit.flatMap hex)
  have e2 := ByteArray.mk_append_mk (34 :: p.lit.flatMap hex) [34]
  exact (congrArg (· ++ (⟨#[34]⟩ : ByteArray)) e1).trans e2
theorem hexs_length (l : List UInt8) : (l.flatMap hex).length = 2 * l.length := by
  induction l with
  | nil => rfl
  | cons c t ih => rw [List.flatMap_cons, List.length_append, ih, List.length_cons]; show 2 + _ = _; omega
theorem flText_length (f : Fl) : (flText f).length ≤ 5 := by rw [← flPre5]; exact flPre_len f 5
theorem partText_length (p : Part) (h : p.lit.length ≤ 5000) : (partText p).length ≤ 19999 := by
  unfold partText
  split
  · simp only [List.length_cons, List.length_append, hexs_length, List.length_nil]; omega
  · have h1 := flText_length p.fl
    have h2 := digs_length 10 false p.width
    have h3 := digs_length 10 false p.prec.toNat
    simp only [List.length_cons, List.length_append, List.length_nil]
    have e1 : (if 0 < p.width then digs 10 false p.width else []).length ≤ 64 := by
      split
      · exact h2
      · exact Nat.zero_le _
    have e2 : (if 0 ≤ p.prec then 46 :: digs 10 false p.prec.toNat else []).length ≤ 65 := by
      split
      · rw [List.length_cons]; omega
      · exact Nat.zero_le _
    omega
theorem text_cons (p q : Part) (t : List Part) : text (p :: q :: t) = partText p ++ 32 :: text (q :: t) := rfl
theorem text_length : ∀ (P : List Part), (∀ p ∈ P, p.lit.length ≤ 5000) → (text P).length ≤ P.length * 20000
  | [], _ => by simp [text]
  | [p], h => by
    have := partText_length p (h p (by simp))
    show (partText p).length ≤ 1 * 20000
    omega
  | p :: q :: t, h => by
    have h1 := partText_length p (h p (by simp))
    have h2 := text_length (q :: t) (fun x hx => h x (by simp at hx ⊢; right; exact hx))
    rw [text_cons, List.length_append, List.length_cons]
    simp only [List.length_cons] at h2 ⊢
    omega
theorem text_join : ∀ (P : List Part), Lib.join (P.map partText) [32] = text P
  | [] => rfl
  | [p] => by simp [Lib.join, text, List.intercalate]
  | p :: q :: t => by
    have := text_join (q :: t)
    rw [text_cons, ← this]
    simp [Lib.join, List.intercalate]
theorem conv_text {p : Part} (h0 : p.conv ≠ 0) {S Tw Tp : ByteArray} (hS : S = ⟨(flText p.fl).toArray⟩) (hw : Tw = ⟨(if 0 < p.width then digs 10 false p.width else []).toArray⟩) (hp : Tp = ⟨(if 0 ≤ p.prec then 46 :: digs 10 false p.prec.toNat else []).toArray⟩) :
    (⟨#[37]⟩ : ByteArray) ++ (S ++ Tw ++ Tp) ++ ⟨#[UInt8.ofNat p.conv]⟩ = ⟨(partText p).toArray⟩ := by
  have e : partText p = 37 :: (flText p.fl ++ (if 0 < p.width then digs 10 false p.width else []) ++ (if 0 ≤ p.prec then 46 :: digs 10 false p.prec.toNat else []) ++ [UInt8.ofNat p.conv]) := by unfold partText; rw [if_neg h0]
  rw [e, hS, hw, hp, ByteArray.mk_append_mk, ByteArray.mk_append_mk]
  have e1 := ByteArray.mk_append_mk [37] (flText p.fl ++ (if 0 < p.width then digs 10 false p.width else []) ++ (if 0 ≤ p.prec then 46 :: digs 10 false p.prec.toNat else []))
  have e2 := ByteArray.mk_append_mk (37 :: (flText p.fl ++ (if 0 < p.width then digs 10 false p.width else []) ++ (if 0 ≤ p.prec then 46 :: digs 10 false p.prec.toNat else []))) [UInt8.ofNat p.conv]
  exact (congrArg (· ++ (⟨#[UInt8.ofNat p.conv]⟩ : ByteArray)) e1).trans e2
theorem ba_empty (S : ByteArray) : S ++ (⟨#[]⟩ : ByteArray) = S := by
  obtain ⟨⟨l⟩⟩ := S
  exact (ByteArray.mk_append_mk l []).trans (by rw [List.append_nil])

theorem conv1 (c : Nat) (hc : c < 256) (W : World) : (convert 27 9 (.slice (some ⟨W.heap.size, 0, none⟩) 1 1)).run Tryd.prog (W.alloc (.cells #[.int .u8 c] 5)) = .ok (.string ⟨#[UInt8.ofNat c]⟩) (W.alloc (.cells #[.int .u8 c] 5)) := by
  have e : ((UInt8.ofNat c).toNat : Int) = c := by rw [ofNat_u8]; omega
  exact run_convert_bytes_back (P := Tryd.prog) (W.alloc (.cells #[.int .u8 c] 5)) 27 9 5 ⟨W.heap.size, 0, none⟩ 1 [UInt8.ofNat c] Tryd.underlying27 Tryd.underlying5 Tryd.underlying9 (fun j hj => by
    have hj0 : j = 0 := by simpa using hj
    subst hj0
    rw [addr_add, cell_of_row _ W.heap.size 0 _ _ (0, 0) (heap_alloc_new W _)]
    show some (Value.int .u8 (c : Int)) = some (.int .u8 ((UInt8.ofNat c).toNat : Int))
    rw [e])
theorem blkCells {w : World} {g : Nat} {v0 v1 v2 v3 v4 v5 v6 v7 v8 : Value} (h : Blk w g 57 #[v0, v1, v2, v3, v4, v5, v6, v7, v8]) : w.cell? ⟨g, 1, none⟩ = some v1 ∧ w.cell? ⟨g, 7, none⟩ = some v7 ∧ w.cell? ⟨g, 8, none⟩ = some v8 := ⟨h.cell 1, h.cell 7, h.cell 8⟩

set_option maxRecDepth 100000 in
set_option maxHeartbeats 8000000 in
theorem shape_Text (B : Nat) (w : World) (F : Nat) (P : List Part) (h : FmtC B w F P) (hP : P.length ≤ 5000) (hlits : ∀ p ∈ P, p.lit.length ≤ 5000) (hconv : ∀ p ∈ P, p.conv < 256) (hprec : ∀ p ∈ P, p.width < 5000 ∧ p.prec < 5000) :
    Calls Tryd.prog 14 #[.pointer (some ⟨F, 0, none⟩)] w fun e w' => e = .returned (.string ⟨(text P).toArray⟩) ∧ Below w.heap.size w w' := by
  obtain ⟨i9, hi9, hy0, hy1, hy2⟩ := info_parts Tryd.infoStr
  obtain ⟨hBF, v, hf, hp⟩ := h
  obtain ⟨a, cap, rfl, hc, hm, hcell⟩ := hp.cells
  unfold maxLen at hm
  have cF : w.cell? ⟨F, 0, none⟩ = some (.slice a P.length cap) := by rw [hf.cell 0]; rfl
  have HC := Lib.hid hcell
  have HLIT := Lib.hid hlits
  have HCV := Lib.hid hconv
  have HPR := Lib.hid hprec
  have hFlt := hf.lt
  clear hf hp hcell hlits hconv hprec
  go_enter Tryd.func14, Tryd.ntmps14
  go_wp2
  go_loopw [3, 18] (fun t i wr => ∃ k : Nat, k ≤ P.length ∧ i = .int .i64 k ∧ Hid (TextRel w P k t wr)) (fun _ i _ => P.length - (intOf i).toNat)
  case atStart => exact ⟨0, Nat.zero_le _, rfl, World.ownsRow_nil _ _ _ _, Below.refl _ _⟩
  case round =>
    obtain ⟨k, hk, rfl, HR⟩ := hrel
    obtain ⟨wo, hwo⟩ : ∃ wo, wo = wr := ⟨_, rfl⟩
    subst hwo
    by_cases hlt : k < P.length
    · obtain ⟨g, la, lcap, rfl, hg, hlit, c0, c1, c2, c3, c4, c5, c6, c7, c8⟩ := HC.out k hlt
      have HB := Lib.hid HR.out.bel
      have hs := HB.out.size
      have d := fun (j : Nat) (u : Value) (hu : w.cell? ⟨g, j, none⟩ = some u) => (HB.out.cell (p := ⟨g, j, none⟩) hg).trans hu
      have d0 := d _ _ c0
      have d1 := d _ _ c1
      have d2 := d _ _ c2
      have d3 := d _ _ c3
      have d4 := d _ _ c4
      have d5 := d _ _ c5
      have d6 := d _ _ c6
      have d7 := d _ _ c7
      have d8 := d _ _ c8
      have HTK : Hid ((P.take (k + 1)).map (fun p => strV (partText p)) = (P.take k).map (fun p => strV (partText p)) ++ [strV (partText P[k])]) := by
        show (P.take (k + 1)).map _ = _
        rw [List.take_succ_eq_append_getElem hlt, List.map_append]; rfl
      have hll := HLIT.out P[k] (List.getElem_mem hlt)
      have HMEM : Hid (P[k] ∈ P) := List.getElem_mem hlt
      have HLR := Lib.hid ((hlit.kept (U8Kept.below HB.out (Nat.le_refl _))).more hs)
      clear d c0 c1 c2 c3 c4 c5 c6 c7 c8 hlit
      generalize P[k] = p at *
      by_cases h0 : p.conv = 0
      · have e0 : ((p.conv : Int) == 0) = true := beq_iff_eq.2 (by omega)
        have HPT : Hid (partText p = 34 :: (p.lit.flatMap hex ++ [34])) := by show partText p = _; unfold partText; rw [if_pos h0]
        clear h0
        obtain ⟨_, _, hx1, hbs⟩ := HLR.out.bs
        simp only [Value.slice.injEq] at hx1
        obtain ⟨rfl, _, rfl⟩ := hx1
        have HBS := Lib.hid hbs
        clear hbs
        go_wp2_with fail
        go_loopw [6, 28] (fun s j wx => ∃ (q : Nat) (S : ByteArray), q ≤ p.lit.length ∧ j = .int .i64 q ∧ s = .string S ∧ S.size = 2 * q ∧ Hid (S = ⟨((p.lit.take q).flatMap hex).toArray⟩ ∧ Below wo.heap.size wo wx)) (fun _ j _ => p.lit.length - (intOf j).toNat)
        case atStart => exact ⟨0, ⟨#[]⟩, Nat.zero_le _, rfl, rfl, rfl, rfl, (Below.refl _ _).alloc (Nat.le_refl _) _⟩
        case round =>
          obtain ⟨q, S, hq, rfl, rfl, hS, HS⟩ := hrel
          by_cases hql : q < p.lit.length
          · obtain ⟨bb, oo, rfl, hcq⟩ := HBS.out.head q hql
            have hcq' := (HS.out.2.cell (p := ⟨bb, oo + q, none⟩) (lt_of_cell hcq)).trans hcq
            clear hcq
            have HTQ := Lib.hid (hex_take p.lit q hql)
            generalize p.lit.getD q 0 = c at *
            have hcl := c.toNat_lt
            have hc16 : c.toNat / 16 < 16 := by omega
            have hc16' : c.toNat % 16 < 16 := by omega
            have hw1 := u64_div16 (n := c.toNat) (by omega)
            have hw2 := and15 c.toNat (by omega)
            have hw3 := u64_small (n := c.toNat % 16) (by omega)
            have C1 := Lib.hid (fun W => scan_Base (c.toNat / 16) 16 false W (by omega) (by omega) (by omega))
            have C2 := Lib.hid (fun W => scan_Base (c.toNat % 16) 16 false W (by omega) (by omega) (by omega))
            rw [digs16 _ hc16] at C1
            rw [digs16 _ hc16'] at C2
            simp only [Int.cast_ofNat_Int] at C1 C2
            have HX : Hid (hex c = [sign false (c.toNat / 16), sign false (c.toNat % 16)]) := rfl
            generalize c.toNat / 16 = x1 at *
            generalize c.toNat % 16 = x2 at *
            go_wp2_with fail
            refine (C1.out _).mono ?_
            rintro e w1 ⟨rfl, hb1⟩
            have HB1 := Lib.hid hb1
            clear hb1
            go_wp2_with fail
            refine (C2.out _).mono ?_
            rintro e w2 ⟨rfl, hb2⟩
            have HB2 := Lib.hid hb2
            clear hb2
            go_wp2_with fail
            go_roundw
            case rel =>
              refine ⟨q + 1, _, by omega, by go_num, rfl, (by rw [ByteArray.size_append', ByteArray.size_append', hS]; show 2 * q + (1 + 1) = _; omega), ?_, (HS.out.2.trans (HB1.out.mono HS.out.2.size)).trans (HB2.out.mono (Nat.le_trans HS.out.2.size HB1.out.size))⟩
              rw [HS.out.1]
              have e1 := ByteArray.mk_append_mk [sign false x1] [sign false x2]
              have e2 := ByteArray.mk_append_mk ((p.lit.take q).flatMap hex) [sign false x1, sign false x2]
              rw [HTQ.out, HX.out]
              exact (congrArg ((⟨((p.lit.take q).flatMap hex).toArray⟩ : ByteArray) ++ ·) e1).trans e2
            case measure => simp [intOf]; omega
          · have HTL : Hid (p.lit.take q = p.lit) := List.take_of_length_le (by omega)
            have HWX := Lib.hid HS.out.2
            have hwx := HWX.out.size
            have hS' : S.size ≤ 20000 := by omega
            go_wp2_with (at_builtin; refine wpList_append_lies _ rfl (.tmp 44) (.tmp 48) _ rfl w.heap.size 9 i9 _ 1 16 Tryd.underlying74 hi9 hy0 hy1 hy2 rfl (by omega) _ k ((P.take k).map fun p => strV (partText p)) rfl ((ownsRow_below HR.out.row HWX.out (Nat.le_refl _)).alloc _) ⟨wr.heap.size, 0, none⟩ 1 1 [.string (⟨#[34]⟩ ++ S ++ ⟨#[34]⟩)] rfl rfl (World.news_of_block (cs := #[.string (⟨#[34]⟩ ++ S ++ ⟨#[34]⟩)]) (t := 9) (fr := (0, 0)) (heap_alloc_new _ _)) (by simp [Value.oneCell']) (by omega) (by unfold maxLen; omega) (by omega) (by simp; omega) (wr.heap.size + 1) (by simp) ?_; intro gg cap3 w3 hown3 hgrow3 hat3 hlt3; have HOWN3 := Lib.hid hown3; have HGROW3 := Lib.hid hgrow3; clear hown3 hgrow3)
            go_roundw
            case rel => exact ⟨k + 1, by omega, by go_num, HR.out.next HTK.out HWX.out (lit_text HPT.out (HS.out.1.trans (by rw [HTL.out]))) HOWN3.out HGROW3.out⟩
            case measure => simp [intOf]; omega
      · have e0 : ((p.conv : Int) == 0) = false := beq_eq_false_iff_ne.2 (by omega)
        have H0 := Lib.hid h0
        have hcv := HCV.out _ HMEM.out
        have hpw := (HPR.out _ HMEM.out).1
        have hpp := (HPR.out _ HMEM.out).2
        have hcvt := fun W => conv1 p.conv hcv W
        have hln1 := digs_length 10 false p.width
        clear h0
        by_cases hwd : 0 < p.width
        · have HWD := Lib.hid hwd
          have ew : decide (0 < (p.width : Int)) = true := decide_eq_true (by omega)
          by_cases hpr : 0 ≤ p.prec
          · obtain ⟨pn, hpn⟩ := Int.eq_ofNat_of_zero_le hpr
            have HPN := Lib.hid hpn
            rw [hpn] at d8 hpp
            have hln2 := digs_length 10 false pn
            have ep : decide (0 ≤ (pn : Int)) = true := decide_eq_true (by omega)
            clear hpr hpn hwd
            go_wp2_with fail
            go_loop [6, 61] (fun s j => ∃ (q : Nat) (S : ByteArray), q ≤ 5 ∧ j = .int .i64 q ∧ s = .string S ∧ S.size ≤ 5 ∧ Hid (S = ⟨(flPre p.fl q).toArray⟩)) (fun _ j => 5 - (intOf j).toNat)
            case atStart => exact ⟨0, ⟨#[]⟩, by omega, rfl, rfl, by decide, rfl⟩
            case round =>
              obtain ⟨q, S, hq, rfl, rfl, hS, HS⟩ := hrel
              by_cases hq5 : q < 5
              · obtain ⟨b, c, hidx, hsl, hnx⟩ := flag_at p.fl q hq5
                have hfl := flPre_len p.fl (q + 1)
                have HNX := Lib.hid hnx
                clear hnx
                cases b
                · go_wp2
                  go_round
                  case rel => exact ⟨q + 1, S, by omega, by go_num, rfl, hS, HS.out.trans (by rw [HNX.out]; simp)⟩
                  case measure => simp [intOf]; omega
                · have HS2 : Hid (S ++ ⟨#[c]⟩ = ⟨(flPre p.fl (q + 1)).toArray⟩) := by
                    show S ++ (⟨#[c]⟩ : ByteArray) = _
                    rw [HS.out, HNX.out]
                    exact ByteArray.mk_append_mk (flPre p.fl q) [c]
                  have hsz : (S ++ (⟨#[c]⟩ : ByteArray)).size ≤ 5 := by
                    rw [HS2.out]
                    show (flPre p.fl (q + 1)).toArray.size ≤ 5
                    simpa using hfl
                  have HSZ := Lib.hid hsz
                  clear hsz
                  go_wp2
                  go_round
                  case rel => exact ⟨q + 1, _, by omega, by go_num, rfl, HSZ.out, HS2.out⟩
                  case measure => simp [intOf]; omega
              · obtain rfl : q = 5 := by omega
                have HSF : Hid (S = ⟨(flText p.fl).toArray⟩) := HS.out.trans (by rw [flPre5])
                have hbk0 : Blk (wo.alloc (.cells #[.slice la p.lit.length lcap, .int .u8 p.conv, .bool p.fl.minus, .bool p.fl.plus, .bool p.fl.space, .bool p.fl.zero, .bool p.fl.alt, .int .i64 p.width, .int .i64 pn] 57)) wo.heap.size 57 #[.slice la p.lit.length lcap, .int .u8 p.conv, .bool p.fl.minus, .bool p.fl.plus, .bool p.fl.space, .bool p.fl.zero, .bool p.fl.alt, .int .i64 p.width, .int .i64 pn] := Blk.new wo _ _
                have bw0 : Below wo.heap.size wo (wo.alloc (.cells #[.slice la p.lit.length lcap, .int .u8 p.conv, .bool p.fl.minus, .bool p.fl.plus, .bool p.fl.space, .bool p.fl.zero, .bool p.fl.alt, .int .i64 p.width, .int .i64 pn] 57)) := (Below.refl _ _).alloc (Nat.le_refl _) _
                have HBK0 := Lib.hid hbk0
                have HBW0 := Lib.hid bw0
                clear hbk0 bw0
                go_wp2_with fail
                refine (scan_Text_nat p.width _ (by omega)).mono ?_
                rintro e w4 ⟨rfl, hb4⟩
                have HBK1 := Lib.hid (HBK0.out.below hb4 HBK0.out.lt)
                have HBW1 := Lib.hid (HBW0.out.trans (hb4.mono HBW0.out.size))
                obtain ⟨z01, z07, z08⟩ := blkCells HBK1.out
                clear hb4
                go_wp2_with fail
                refine (scan_Text_nat pn _ (by omega)).mono ?_
                rintro e w5 ⟨rfl, hb5⟩
                have HBK2 := Lib.hid (HBK1.out.below hb5 HBK1.out.lt)
                have HBW2 := Lib.hid (HBW1.out.trans (hb5.mono HBW1.out.size))
                obtain ⟨z11, z17, z18⟩ := blkCells HBK2.out
                clear hb5
                have HWX : Hid (Below wo.heap.size wo (w5.alloc (.cells #[.int .u8 p.conv] 5))) := HBW2.out.alloc HBW2.out.size _
                have hwx := HWX.out.size
                simp only [World.size_alloc] at hwx
                have HX : Hid (((⟨#[37]⟩ : ByteArray) ++ (S ++ ⟨(digs 10 false p.width).toArray⟩ ++ (⟨#[46]⟩ ++ ⟨(digs 10 false pn).toArray⟩)) ++ ⟨#[UInt8.ofNat p.conv]⟩ : ByteArray) = ⟨(partText p).toArray⟩) := by
                  show ((⟨#[37]⟩ : ByteArray) ++ (S ++ ⟨(digs 10 false p.width).toArray⟩ ++ (⟨#[46]⟩ ++ ⟨(digs 10 false pn).toArray⟩)) ++ ⟨#[UInt8.ofNat p.conv]⟩ : ByteArray) = _
                  have := conv_text H0.out HSF.out (Tw := ⟨(digs 10 false p.width).toArray⟩) (Tp := (⟨#[46]⟩ ++ ⟨(digs 10 false pn).toArray⟩)) (by rw [if_pos HWD.out]) (by rw [if_pos (by rw [HPN.out]; omega), HPN.out, Int.toNat_natCast]; exact ByteArray.mk_append_mk [46] (digs 10 false pn))
                  exact this
                go_wp2_with (at_builtin; refine wpList_append_lies _ rfl (.tmp 90) (.tmp 98) _ rfl w.heap.size 9 i9 _ 1 16 Tryd.underlying74 hi9 hy0 hy1 hy2 rfl (by omega) _ k ((P.take k).map fun p => strV (partText p)) rfl ((ownsRow_below HR.out.row HWX.out (Nat.le_refl _)).alloc _) ⟨w5.heap.size + 1, 0, none⟩ 1 1 [.string (⟨#[37]⟩ ++ (S ++ ⟨(digs 10 false p.width).toArray⟩ ++ (⟨#[46]⟩ ++ ⟨(digs 10 false pn).toArray⟩)) ++ ⟨#[UInt8.ofNat p.conv]⟩)] rfl rfl (news_at (by simp) #[.string (⟨#[37]⟩ ++ (S ++ ⟨(digs 10 false p.width).toArray⟩ ++ (⟨#[46]⟩ ++ ⟨(digs 10 false pn).toArray⟩)) ++ ⟨#[UInt8.ofNat p.conv]⟩)] _) (by simp [Value.oneCell']) (by omega) (by unfold maxLen; omega) (by omega) (by simp; omega) (w5.heap.size + 1 + 1) (by simp) ?_; intro gg cap3 w3 hown3 hgrow3 hat3 hlt3; have HOWN3 := Lib.hid hown3; have HGROW3 := Lib.hid hgrow3; clear hown3 hgrow3)
                go_roundw
                case rel => exact ⟨k + 1, by omega, by go_num, HR.out.next HTK.out HWX.out HX.out HOWN3.out HGROW3.out⟩
                case measure => simp [intOf]; omega
          · have ep : decide (0 ≤ p.prec) = false := decide_eq_false hpr
            clear hwd
            go_wp2_with fail
            go_loop [6, 61] (fun s j => ∃ (q : Nat) (S : ByteArray), q ≤ 5 ∧ j = .int .i64 q ∧ s = .string S ∧ S.size ≤ 5 ∧ Hid (S = ⟨(flPre p.fl q).toArray⟩)) (fun _ j => 5 - (intOf j).toNat)
            case atStart => exact ⟨0, ⟨#[]⟩, by omega, rfl, rfl, by decide, rfl⟩
            case round =>
              obtain ⟨q, S, hq, rfl, rfl, hS, HS⟩ := hrel
              by_cases hq5 : q < 5
              · obtain ⟨b, c, hidx, hsl, hnx⟩ := flag_at p.fl q hq5
                have hfl := flPre_len p.fl (q + 1)
                have HNX := Lib.hid hnx
                clear hnx
                cases b
                · go_wp2
                  go_round
                  case rel => exact ⟨q + 1, S, by omega, by go_num, rfl, hS, HS.out.trans (by rw [HNX.out]; simp)⟩
                  case measure => simp [intOf]; omega
                · have HS2 : Hid (S ++ ⟨#[c]⟩ = ⟨(flPre p.fl (q + 1)).toArray⟩) := by
                    show S ++ (⟨#[c]⟩ : ByteArray) = _
                    rw [HS.out, HNX.out]
                    exact ByteArray.mk_append_mk (flPre p.fl q) [c]
                  have hsz : (S ++ (⟨#[c]⟩ : ByteArray)).size ≤ 5 := by
                    rw [HS2.out]
                    show (flPre p.fl (q + 1)).toArray.size ≤ 5
                    simpa using hfl
                  have HSZ := Lib.hid hsz
                  clear hsz
                  go_wp2
                  go_round
                  case rel => exact ⟨q + 1, _, by omega, by go_num, rfl, HSZ.out, HS2.out⟩
                  case measure => simp [intOf]; omega
              · obtain rfl : q = 5 := by omega
                have HSF : Hid (S = ⟨(flText p.fl).toArray⟩) := HS.out.trans (by rw [flPre5])
                have hbk0 : Blk (wo.alloc (.cells #[.slice la p.lit.length lcap, .int .u8 p.conv, .bool p.fl.minus, .bool p.fl.plus, .bool p.fl.space, .bool p.fl.zero, .bool p.fl.alt, .int .i64 p.width, .int .i64 p.prec] 57)) wo.heap.size 57 #[.slice la p.lit.length lcap, .int .u8 p.conv, .bool p.fl.minus, .bool p.fl.plus, .bool p.fl.space, .bool p.fl.zero, .bool p.fl.alt, .int .i64 p.width, .int .i64 p.prec] := Blk.new wo _ _
                have bw0 : Below wo.heap.size wo (wo.alloc (.cells #[.slice la p.lit.length lcap, .int .u8 p.conv, .bool p.fl.minus, .bool p.fl.plus, .bool p.fl.space, .bool p.fl.zero, .bool p.fl.alt, .int .i64 p.width, .int .i64 p.prec] 57)) := (Below.refl _ _).alloc (Nat.le_refl _) _
                have HBK0 := Lib.hid hbk0
                have HBW0 := Lib.hid bw0
                clear hbk0 bw0
                go_wp2_with fail
                refine (scan_Text_nat p.width _ (by omega)).mono ?_
                rintro e w4 ⟨rfl, hb4⟩
                have HBK1 := Lib.hid (HBK0.out.below hb4 HBK0.out.lt)
                have HBW1 := Lib.hid (HBW0.out.trans (hb4.mono HBW0.out.size))
                obtain ⟨z01, z07, z08⟩ := blkCells HBK1.out
                clear hb4
                have HWX : Hid (Below wo.heap.size wo (w4.alloc (.cells #[.int .u8 p.conv] 5))) := HBW1.out.alloc HBW1.out.size _
                have hwx := HWX.out.size
                simp only [World.size_alloc] at hwx
                have HX : Hid (((⟨#[37]⟩ : ByteArray) ++ (S ++ ⟨(digs 10 false p.width).toArray⟩) ++ ⟨#[UInt8.ofNat p.conv]⟩ : ByteArray) = ⟨(partText p).toArray⟩) := by
                  show ((⟨#[37]⟩ : ByteArray) ++ (S ++ ⟨(digs 10 false p.width).toArray⟩) ++ ⟨#[UInt8.ofNat p.conv]⟩ : ByteArray) = _
                  have := conv_text H0.out HSF.out (Tw := ⟨(digs 10 false p.width).toArray⟩) (Tp := ⟨#[]⟩) (by rw [if_pos HWD.out]) (by rw [if_neg (by omega)])
                  simpa only [ba_empty] using this
                go_wp2_with (at_builtin; refine wpList_append_lies _ rfl (.tmp 90) (.tmp 98) _ rfl w.heap.size 9 i9 _ 1 16 Tryd.underlying74 hi9 hy0 hy1 hy2 rfl (by omega) _ k ((P.take k).map fun p => strV (partText p)) rfl ((ownsRow_below HR.out.row HWX.out (Nat.le_refl _)).alloc _) ⟨w4.heap.size + 1, 0, none⟩ 1 1 [.string (⟨#[37]⟩ ++ (S ++ ⟨(digs 10 false p.width).toArray⟩) ++ ⟨#[UInt8.ofNat p.conv]⟩)] rfl rfl (news_at (by simp) #[.string (⟨#[37]⟩ ++ (S ++ ⟨(digs 10 false p.width).toArray⟩) ++ ⟨#[UInt8.ofNat p.conv]⟩)] _) (by simp [Value.oneCell']) (by omega) (by unfold maxLen; omega) (by omega) (by simp; omega) (w4.heap.size + 1 + 1) (by simp) ?_; intro gg cap3 w3 hown3 hgrow3 hat3 hlt3; have HOWN3 := Lib.hid hown3; have HGROW3 := Lib.hid hgrow3; clear hown3 hgrow3)
                go_roundw
                case rel => exact ⟨k + 1, by omega, by go_num, HR.out.next HTK.out HWX.out HX.out HOWN3.out HGROW3.out⟩
                case measure => simp [intOf]; omega
        · have HWD := Lib.hid hwd
          have ew : decide (0 < (p.width : Int)) = false := decide_eq_false (by omega)
          by_cases hpr : 0 ≤ p.prec
          · obtain ⟨pn, hpn⟩ := Int.eq_ofNat_of_zero_le hpr
            have HPN := Lib.hid hpn
            rw [hpn] at d8 hpp
            have hln2 := digs_length 10 false pn
            have ep : decide (0 ≤ (pn : Int)) = true := decide_eq_true (by omega)
            clear hpr hpn hwd
            go_wp2_with fail
            go_loop [6, 61] (fun s j => ∃ (q : Nat) (S : ByteArray), q ≤ 5 ∧ j = .int .i64 q ∧ s = .string S ∧ S.size ≤ 5 ∧ Hid (S = ⟨(flPre p.fl q).toArray⟩)) (fun _ j => 5 - (intOf j).toNat)
            case atStart => exact ⟨0, ⟨#[]⟩, by omega, rfl, rfl, by decide, rfl⟩
            case round =>
              obtain ⟨q, S, hq, rfl, rfl, hS, HS⟩ := hrel
              by_cases hq5 : q < 5
              · obtain ⟨b, c, hidx, hsl, hnx⟩ := flag_at p.fl q hq5
                have hfl := flPre_len p.fl (q + 1)
                have HNX := Lib.hid hnx
                clear hnx
                cases b
                · go_wp2
                  go_round
                  case rel => exact ⟨q + 1, S, by omega, by go_num, rfl, hS, HS.out.trans (by rw [HNX.out]; simp)⟩
                  case measure => simp [intOf]; omega
                · have HS2 : Hid (S ++ ⟨#[c]⟩ = ⟨(flPre p.fl (q + 1)).toArray⟩) := by
                    show S ++ (⟨#[c]⟩ : ByteArray) = _
                    rw [HS.out, HNX.out]
                    exact ByteArray.mk_append_mk (flPre p.fl q) [c]
                  have hsz : (S ++ (⟨#[c]⟩ : ByteArray)).size ≤ 5 := by
                    rw [HS2.out]
                    show (flPre p.fl (q + 1)).toArray.size ≤ 5
                    simpa using hfl
                  have HSZ := Lib.hid hsz
                  clear hsz
                  go_wp2
                  go_round
                  case rel => exact ⟨q + 1, _, by omega, by go_num, rfl, HSZ.out, HS2.out⟩
                  case measure => simp [intOf]; omega
              · obtain rfl : q = 5 := by omega
                have HSF : Hid (S = ⟨(flText p.fl).toArray⟩) := HS.out.trans (by rw [flPre5])
                have hbk0 : Blk (wo.alloc (.cells #[.slice la p.lit.length lcap, .int .u8 p.conv, .bool p.fl.minus, .bool p.fl.plus, .bool p.fl.space, .bool p.fl.zero, .bool p.fl.alt, .int .i64 p.width, .int .i64 pn] 57)) wo.heap.size 57 #[.slice la p.lit.length lcap, .int .u8 p.conv, .bool p.fl.minus, .bool p.fl.plus, .bool p.fl.space, .bool p.fl.zero, .bool p.fl.alt, .int .i64 p.width, .int .i64 pn] := Blk.new wo _ _
                have bw0 : Below wo.heap.size wo (wo.alloc (.cells #[.slice la p.lit.length lcap, .int .u8 p.conv, .bool p.fl.minus, .bool p.fl.plus, .bool p.fl.space, .bool p.fl.zero, .bool p.fl.alt, .int .i64 p.width, .int .i64 pn] 57)) := (Below.refl _ _).alloc (Nat.le_refl _) _
                have HBK0 := Lib.hid hbk0
                have HBW0 := Lib.hid bw0
                clear hbk0 bw0
                go_wp2_with fail
                refine (scan_Text_nat pn _ (by omega)).mono ?_
                rintro e w4 ⟨rfl, hb4⟩
                have HBK1 := Lib.hid (HBK0.out.below hb4 HBK0.out.lt)
                have HBW1 := Lib.hid (HBW0.out.trans (hb4.mono HBW0.out.size))
                obtain ⟨z01, z07, z08⟩ := blkCells HBK1.out
                clear hb4
                have HWX : Hid (Below wo.heap.size wo (w4.alloc (.cells #[.int .u8 p.conv] 5))) := HBW1.out.alloc HBW1.out.size _
                have hwx := HWX.out.size
                simp only [World.size_alloc] at hwx
                have HX : Hid (((⟨#[37]⟩ : ByteArray) ++ (S ++ (⟨#[46]⟩ ++ ⟨(digs 10 false pn).toArray⟩)) ++ ⟨#[UInt8.ofNat p.conv]⟩ : ByteArray) = ⟨(partText p).toArray⟩) := by
                  show ((⟨#[37]⟩ : ByteArray) ++ (S ++ (⟨#[46]⟩ ++ ⟨(digs 10 false pn).toArray⟩)) ++ ⟨#[UInt8.ofNat p.conv]⟩ : ByteArray) = _
                  have := conv_text H0.out HSF.out (Tw := ⟨#[]⟩) (Tp := (⟨#[46]⟩ ++ ⟨(digs 10 false pn).toArray⟩)) (by rw [if_neg HWD.out]) (by rw [if_pos (by rw [HPN.out]; omega), HPN.out, Int.toNat_natCast]; exact ByteArray.mk_append_mk [46] (digs 10 false pn))
                  simpa only [ba_empty] using this
                go_wp2_with (at_builtin; refine wpList_append_lies _ rfl (.tmp 90) (.tmp 98) _ rfl w.heap.size 9 i9 _ 1 16 Tryd.underlying74 hi9 hy0 hy1 hy2 rfl (by omega) _ k ((P.take k).map fun p => strV (partText p)) rfl ((ownsRow_below HR.out.row HWX.out (Nat.le_refl _)).alloc _) ⟨w4.heap.size + 1, 0, none⟩ 1 1 [.string (⟨#[37]⟩ ++ (S ++ (⟨#[46]⟩ ++ ⟨(digs 10 false pn).toArray⟩)) ++ ⟨#[UInt8.ofNat p.conv]⟩)] rfl rfl (news_at (by simp) #[.string (⟨#[37]⟩ ++ (S ++ (⟨#[46]⟩ ++ ⟨(digs 10 false pn).toArray⟩)) ++ ⟨#[UInt8.ofNat p.conv]⟩)] _) (by simp [Value.oneCell']) (by omega) (by unfold maxLen; omega) (by omega) (by simp; omega) (w4.heap.size + 1 + 1) (by simp) ?_; intro gg cap3 w3 hown3 hgrow3 hat3 hlt3; have HOWN3 := Lib.hid hown3; have HGROW3 := Lib.hid hgrow3; clear hown3 hgrow3)
                go_roundw
                case rel => exact ⟨k + 1, by omega, by go_num, HR.out.next HTK.out HWX.out HX.out HOWN3.out HGROW3.out⟩
                case measure => simp [intOf]; omega
          · have ep : decide (0 ≤ p.prec) = false := decide_eq_false hpr
            clear hwd
            go_wp2_with fail
            go_loop [6, 61] (fun s j => ∃ (q : Nat) (S : ByteArray), q ≤ 5 ∧ j = .int .i64 q ∧ s = .string S ∧ S.size ≤ 5 ∧ Hid (S = ⟨(flPre p.fl q).toArray⟩)) (fun _ j => 5 - (intOf j).toNat)
            case atStart => exact ⟨0, ⟨#[]⟩, by omega, rfl, rfl, by decide, rfl⟩
            case round =>
              obtain ⟨q, S, hq, rfl, rfl, hS, HS⟩ := hrel
              by_cases hq5 : q < 5
              · obtain ⟨b, c, hidx, hsl, hnx⟩ := flag_at p.fl q hq5
                have hfl := flPre_len p.fl (q + 1)
                have HNX := Lib.hid hnx
                clear hnx
                cases b
                · go_wp2
                  go_round
                  case rel => exact ⟨q + 1, S, by omega, by go_num, rfl, hS, HS.out.trans (by rw [HNX.out]; simp)⟩
                  case measure => simp [intOf]; omega
                · have HS2 : Hid (S ++ ⟨#[c]⟩ = ⟨(flPre p.fl (q + 1)).toArray⟩) := by
                    show S ++ (⟨#[c]⟩ : ByteArray) = _
                    rw [HS.out, HNX.out]
                    exact ByteArray.mk_append_mk (flPre p.fl q) [c]
                  have hsz : (S ++ (⟨#[c]⟩ : ByteArray)).size ≤ 5 := by
                    rw [HS2.out]
                    show (flPre p.fl (q + 1)).toArray.size ≤ 5
                    simpa using hfl
                  have HSZ := Lib.hid hsz
                  clear hsz
                  go_wp2
                  go_round
                  case rel => exact ⟨q + 1, _, by omega, by go_num, rfl, HSZ.out, HS2.out⟩
                  case measure => simp [intOf]; omega
              · obtain rfl : q = 5 := by omega
                have HSF : Hid (S = ⟨(flText p.fl).toArray⟩) := HS.out.trans (by rw [flPre5])
                have hbk0 : Blk (wo.alloc (.cells #[.slice la p.lit.length lcap, .int .u8 p.conv, .bool p.fl.minus, .bool p.fl.plus, .bool p.fl.space, .bool p.fl.zero, .bool p.fl.alt, .int .i64 p.width, .int .i64 p.prec] 57)) wo.heap.size 57 #[.slice la p.lit.length lcap, .int .u8 p.conv, .bool p.fl.minus, .bool p.fl.plus, .bool p.fl.space, .bool p.fl.zero, .bool p.fl.alt, .int .i64 p.width, .int .i64 p.prec] := Blk.new wo _ _
                have bw0 : Below wo.heap.size wo (wo.alloc (.cells #[.slice la p.lit.length lcap, .int .u8 p.conv, .bool p.fl.minus, .bool p.fl.plus, .bool p.fl.space, .bool p.fl.zero, .bool p.fl.alt, .int .i64 p.width, .int .i64 p.prec] 57)) := (Below.refl _ _).alloc (Nat.le_refl _) _
                have HBK0 := Lib.hid hbk0
                have HBW0 := Lib.hid bw0
                clear hbk0 bw0
                have HWX : Hid (Below wo.heap.size wo ((wo.alloc (.cells #[.slice la p.lit.length lcap, .int .u8 p.conv, .bool p.fl.minus, .bool p.fl.plus, .bool p.fl.space, .bool p.fl.zero, .bool p.fl.alt, .int .i64 p.width, .int .i64 p.prec] 57)).alloc (.cells #[.int .u8 p.conv] 5))) := HBW0.out.alloc HBW0.out.size _
                have hwx := HWX.out.size
                simp only [World.size_alloc] at hwx
                have HX : Hid (((⟨#[37]⟩ : ByteArray) ++ S ++ ⟨#[UInt8.ofNat p.conv]⟩ : ByteArray) = ⟨(partText p).toArray⟩) := by
                  show ((⟨#[37]⟩ : ByteArray) ++ S ++ ⟨#[UInt8.ofNat p.conv]⟩ : ByteArray) = _
                  have := conv_text H0.out HSF.out (Tw := ⟨#[]⟩) (Tp := ⟨#[]⟩) (by rw [if_neg HWD.out]) (by rw [if_neg (by omega)])
                  simpa only [ba_empty] using this
                have hcv0 := hcvt (wo.alloc (.cells #[.slice la p.lit.length lcap, .int .u8 p.conv, .bool p.fl.minus, .bool p.fl.plus, .bool p.fl.space, .bool p.fl.zero, .bool p.fl.alt, .int .i64 p.width, .int .i64 p.prec] 57))
                simp only [World.size_alloc] at hcv0
                go_wp2_with (at_builtin; refine wpList_append_lies _ rfl (.tmp 90) (.tmp 98) _ rfl w.heap.size 9 i9 _ 1 16 Tryd.underlying74 hi9 hy0 hy1 hy2 rfl (by omega) _ k ((P.take k).map fun p => strV (partText p)) rfl ((ownsRow_below HR.out.row HWX.out (Nat.le_refl _)).alloc _) ⟨wo.heap.size + 1 + 1, 0, none⟩ 1 1 [.string (⟨#[37]⟩ ++ S ++ ⟨#[UInt8.ofNat p.conv]⟩)] rfl rfl (news_at (by simp) #[.string (⟨#[37]⟩ ++ S ++ ⟨#[UInt8.ofNat p.conv]⟩)] _) (by simp [Value.oneCell']) (by omega) (by unfold maxLen; omega) (by omega) (by simp; omega) (wo.heap.size + 1 + 1 + 1) (by simp) ?_; intro gg cap3 w3 hown3 hgrow3 hat3 hlt3; have HOWN3 := Lib.hid hown3; have HGROW3 := Lib.hid hgrow3; clear hown3 hgrow3)
                go_roundw
                case rel => exact ⟨k + 1, by omega, by go_num, HR.out.next HTK.out HWX.out HX.out HOWN3.out HGROW3.out⟩
                case measure => simp [intOf]; omega
    · have hkl : k = P.length := by omega
      subst hkl
      have hrow := HR.out.row
      rw [List.take_length] at hrow
      obtain ⟨oa, ocap, hvo, hoc, hom, hog⟩ := ownsRow_form hrow
      subst hvo
      by_cases h0 : P.length = 0
      · have hPn : P = [] := List.eq_nil_of_length_eq_zero h0
        have C := Lib.hid (Tryd.strings_Join_none oa ocap ⟨#[32]⟩ wo)
        have HT : Hid (text P = []) := by rw [hPn]; rfl
        rw [h0]
        clear h0 hPn hog hoc hrow
        go_wp2_with (go_at_call 33; refine C.out.mono ?_; rintro e w1 ⟨rfl, rfl⟩)
        go_ret
        exact ⟨by rw [HT.out]; rfl, HR.out.bel⟩
      · obtain ⟨g0, rfl, hg0, _⟩ := hog (by omega)
        have hlen := text_length P HLIT.out
        have hcells : ∀ (j : Nat) x, (P.map fun p => (⟨(partText p).toArray⟩ : ByteArray))[j]? = some x → wo.cell? ⟨g0, 0 + j, none⟩ = some (.string x) := fun j x hx => by
          have hj : j < P.length := by
            have := (List.getElem?_eq_some_iff.1 hx).1
            simpa using this
          rw [Nat.zero_add, hrow.cellAt j (by omega)]
          simp [hj] at hx
          simp [hj, strV, hx]
        have C := Tryd.strings_Join g0 0 ocap (P.map fun p => (⟨(partText p).toArray⟩ : ByteArray)) ⟨#[32]⟩ wo hcells hg0 (by rw [List.length_map]; omega) (by rw [List.length_map]; exact hoc) (by
          rw [List.map_map]
          show (Lib.join (P.map partText) [32]).length ≤ _
          rw [text_join]; omega)
        have e1 : Lib.join ((P.map fun p => (⟨(partText p).toArray⟩ : ByteArray)).map (·.data.toList)) (ByteArray.mk #[32]).data.toList = text P := by
          rw [List.map_map]
          exact text_join P
        rw [e1, List.length_map] at C
        have HC2 := Lib.hid C
        clear C hrow hcells e1 hog h0
        go_wp2_with (go_at_call 33; refine HC2.out.mono ?_; rintro e w1 ⟨rfl, hb1⟩; have HB1 := Lib.hid hb1; clear hb1)
        go_ret
        exact ⟨rfl, HR.out.bel.trans (HB1.out.mono HR.out.bel.size)⟩
end Go.Proofs.YtppcjmbblkbkdaaDoor
