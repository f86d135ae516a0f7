/- The walk of pidginref14.Text: parts, written. Conditions as typed. -/
import Derived.Test.YtppcjmbblkbkdaaDoorRTextP
import Derived.Test.YtppcjmbblkbkdaaDoorHexW
import Derived.Test.YtppcjmbblkbkdaaDoorTextA
namespace Go.Proofs.YtppcjmbblkbkdaaDoor
open Go.RowKit Pg

/-- string(p.Lit) -/
theorem litStrE {K : Nat} {W : World} {v : Value} {l : List UInt8} (h : LitR W K v l) : (convert 27 9 v).run Tryd.prog W = .ok (.string ⟨l.toArray⟩) W := by
  obtain ⟨a, cap, rfl, hb⟩ := h.bs
  exact bsS hb
/-- The table of powers of ten. -/
def Pow (w : World) : Prop := Lib.TabIs Tryd.prog w "internal/strconv.uint64pow10" .u64 Lib.pow10Tab
theorem Pow.kept {w w' : World} (h : Pow w) (hb : Below w.heap.size w w') : Pow w' := TabIs.kept (g := 24) (by kernel_rfl) h hb
theorem itoa_nat (n : Nat) (hn : n < 5000) (w : World) (h : Pow w) :
    Calls Tryd.prog 19 #[.int .i64 n] w fun e w' => e = .returned (.string ⟨(digs 10 false n).toArray⟩) ∧ Below w.heap.size w w' := by
  refine (Tryd.strconv_Itoa n (by omega) (by omega) w h).mono ?_
  rintro e w' ⟨he, k, os, rfl⟩
  rw [itoa_digs n (by omega)] at he
  exact ⟨he, Lib.below_grow _ _ (Nat.le_refl _) k os⟩
/-- What the outer loop keeps. -/
structure RTx (w : World) (P : List Part) (k : Nat) (S : ByteArray) (wr : World) : Prop where
  eq : S = ⟨(text (P.take k)).toArray⟩
  bel : Below w.heap.size w wr
def tpre (P : List Part) (k : Nat) : List UInt8 := if k = 0 then [] else text (P.take k) ++ [32]
theorem text_take (P : List Part) (k : Nat) (h : k < P.length) : text (P.take (k + 1)) = tpre P k ++ partText P[k] := by
  have e : (P.take k).length = k := by rw [List.length_take]; omega
  rw [List.take_succ_eq_append_getElem h, text_snoc, e]
  rfl
theorem tpre0 {P : List Part} {k : Nat} {S : ByteArray} (h : S = ⟨(text (P.take k)).toArray⟩) (hk : ¬ 0 < k) : S = ⟨(tpre P k).toArray⟩ := by
  obtain rfl : k = 0 := by omega
  rw [h]; rfl
theorem tpreS {P : List Part} {k : Nat} {S : ByteArray} (h : S = ⟨(text (P.take k)).toArray⟩) (hk : 0 < k) : S ++ ⟨#[32]⟩ = ⟨(tpre P k).toArray⟩ := by
  unfold tpre
  rw [if_neg (by omega), h]
  exact ByteArray.mk_append_mk _ [32]
theorem lit_end {pre : List UInt8} {p : Part} {S0 X : ByteArray} (h0 : p.conv = 0) (hS : S0 = ⟨pre.toArray⟩) (hX : X = ⟨(p.lit.flatMap hex).toArray⟩) : S0 ++ ((⟨#[34]⟩ : ByteArray) ++ X ++ ⟨#[34]⟩) = ⟨(pre ++ partText p).toArray⟩ := by
  have e : partText p = 34 :: (p.lit.flatMap hex ++ [34]) := by unfold partText; rw [if_pos h0]
  rw [lit_text e hX, hS, ByteArray.mk_append_mk]
def tWid (p : Part) : List UInt8 := if 0 < p.width then digs 10 false p.width else []
def tPre (p : Part) : List UInt8 := if 0 ≤ p.prec then 46 :: digs 10 false p.prec.toNat else []
theorem conv_end {pre : List UInt8} {p : Part} {S0 S1 S2 S3 : ByteArray} (h0 : p.conv ≠ 0) (hS : S0 = ⟨pre.toArray⟩) (h1 : S1 = S0 ++ ⟨#[37]⟩ ++ ⟨(flPre p.fl 5).toArray⟩) (h2 : S2 = S1 ++ ⟨(tWid p).toArray⟩) (h3 : S3 = S2 ++ ⟨(tPre p).toArray⟩) :
    S3 ++ ⟨#[UInt8.ofNat p.conv]⟩ = ⟨(pre ++ partText p).toArray⟩ := by
  have e : partText p = 37 :: (flText p.fl ++ tWid p ++ tPre p ++ [UInt8.ofNat p.conv]) := by unfold partText tWid tPre; rw [if_neg h0]
  have m : ∀ l r : List UInt8, (⟨l.toArray⟩ : ByteArray) ++ ⟨r.toArray⟩ = ⟨(l ++ r).toArray⟩ := ByteArray.mk_append_mk
  subst h3 h2 h1 hS
  have a1 : (⟨pre.toArray⟩ : ByteArray) ++ ⟨#[37]⟩ = ⟨(pre ++ [37]).toArray⟩ := m pre [37]
  rw [a1, m, m, m]
  refine (m _ [UInt8.ofNat p.conv]).trans ?_
  rw [e, flPre5]
  congr 2
  simp
theorem tWid_len (p : Part) : (tWid p).length ≤ 64 := by
  unfold tWid
  split
  · exact digs_length 10 false _
  · exact Nat.zero_le _
theorem sizeA (l : List UInt8) : (⟨l.toArray⟩ : ByteArray).size = l.length := by show l.toArray.size = _; simp

set_option maxRecDepth 100000 in
set_option maxHeartbeats 16000000 in
/-- pidginref14.Text. -/
theorem ref_Text14 (B : Nat) (v : Value) (P : List Part) (w : World) (h : PartsC B w v P) (hT : Pow w) (hP : P.length ≤ 5000) (hlits : ∀ p ∈ P, p.lit.length ≤ 5000) (hconv : ∀ p ∈ P, p.conv < 256) (hprec : ∀ p ∈ P, p.width < 5000 ∧ p.prec < 5000) :
    Calls Tryd.prog 15 #[v] w fun e w' => e = .returned (.string ⟨(text P).toArray⟩) ∧ Below w.heap.size w w' := by
  obtain ⟨a, cap, rfl, hc, hm, hcell⟩ := h.cells
  unfold maxLen at hm
  have HC := Lib.hid hcell
  have HLIT := Lib.hid hlits
  have HCV := Lib.hid hconv
  have HPR := Lib.hid hprec
  have HT := Lib.hid hT
  clear h hcell hlits hconv hprec hT
  go_enter Tryd.func15, Tryd.ntmps15
  go_wp2_with fail
  go_loopw [3, 10] (fun t i wr => ∃ (k : Nat) (S : ByteArray), k ≤ P.length ∧ i = .int .i64 k ∧ t = .string S ∧ S.size ≤ 20000 * k ∧ Hid (RTx w P k S wr)) (fun _ i _ => P.length - (intOf i).toNat)
  case atStart => exact ⟨0, ⟨#[]⟩, Nat.zero_le _, rfl, rfl, by decide, rfl, Below.refl _ _⟩
  case round =>
    obtain ⟨k, S, hk, rfl, rfl, hS, HR⟩ := hrel
    obtain ⟨wo, hwo⟩ : ∃ wo, wo = wr := ⟨_, rfl⟩
    subst hwo
    by_cases hlt : k < P.length
    · obtain ⟨g, la, lcap, rfl, hg, hlit, c0, c1, c2, c3, c4, c5, c6, c7, c8⟩ := HC.out k hlt
      have HB := Lib.hid HR.out.bel
      have hs := HB.out.size
      have d := fun (j : Nat) (u : Value) (hu : w.cell? ⟨g, j, none⟩ = some u) => (HB.out.cell (p := ⟨g, j, none⟩) hg).trans hu
      have d0 := d _ _ c0
      have d1 := d _ _ c1
      have d2 := d _ _ c2
      have d3 := d _ _ c3
      have d4 := d _ _ c4
      have d5 := d _ _ c5
      have d6 := d _ _ c6
      have d7 := d _ _ c7
      have d8 := d _ _ c8
      have HTK := Lib.hid (text_take P k hlt)
      have hll := HLIT.out P[k] (List.getElem_mem hlt)
      have hcv := HCV.out P[k] (List.getElem_mem hlt)
      have hpw := (HPR.out P[k] (List.getElem_mem hlt)).1
      have hpp := (HPR.out P[k] (List.getElem_mem hlt)).2
      have HLR := Lib.hid ((hlit.kept (U8Kept.below HB.out (Nat.le_refl _))).more hs)
      clear d c0 c1 c2 c3 c4 c5 c6 c7 c8 hlit
      generalize P[k] = p at *
      obtain ⟨_, _, hx1, _⟩ := HLR.out.bs
      simp only [Value.slice.injEq] at hx1
      obtain ⟨rfl, _, rfl⟩ := hx1
      have HSE := Lib.hid HR.out.eq
      obtain ⟨WB, hWB⟩ : ∃ WB, WB = wo.alloc (.cells #[.slice la p.lit.length lcap, .int .u8 p.conv, .bool p.fl.minus, .bool p.fl.plus, .bool p.fl.space, .bool p.fl.zero, .bool p.fl.alt, .int .i64 p.width, .int .i64 p.prec] 57) := ⟨_, rfl⟩
      go_upto_if 16 with (fail)
      rw [← hWB]
      have hbB : Below wo.heap.size wo WB := by rw [hWB]; exact (Below.refl _ _).alloc (Nat.le_refl _) _
      have hkB : Blk WB wo.heap.size 57 (partCells (.slice la p.lit.length lcap) p) := by rw [hWB]; exact Blk.new _ _ _
      have HBB := Lib.hid (HB.out.trans (hbB.mono hs))
      have HLB := Lib.hid ((HLR.out.kept (U8Kept.below hbB (Nat.le_refl _))).more hbB.size)
      have hlB := hkB.lt
      clear hWB hbB
      go_cut [3] (fun sv wx => ∃ S0 : ByteArray, sv = .string S0 ∧ S0.size ≤ 20000 * k + 1 ∧ Hid (S0 = ⟨(tpre P k).toArray⟩) ∧ wx = WB)
      case first =>
        by_cases hk0 : 0 < k
        · have hs1 : (S ++ (⟨#[32]⟩ : ByteArray)).size ≤ 20000 * k + 1 := by rw [ByteArray.size_append]; show _ + 1 ≤ _; omega
          have HE := Lib.hid (tpreS HSE.out hk0)
          go_wp2_with fail
          go_meet
          exact ⟨_, rfl, hs1, HE, rfl⟩
        · have HE := Lib.hid (tpre0 HSE.out hk0)
          go_wp2_with fail
          go_meet
          exact ⟨_, rfl, by omega, HE, rfl⟩
      case rest =>
        obtain ⟨S0, rfl, hS0, HS0, hwc⟩ := hcut
        subst hwc
        obtain ⟨WA, hWA⟩ : ∃ x, x = wc := ⟨_, rfl⟩
        subst hWA
        obtain ⟨b0, b1, b2, b3, b4, b5, b6, b7, b8⟩ := allCells hkB
        have HKB := Lib.hid hkB
        clear hkB d0 d1 d2 d3 d4 d5 d6 d7 d8 HR HSE hS HLR
        by_cases h0 : p.conv = 0
        · have e0 : ((p.conv : Int) == 0) = true := beq_iff_eq.2 (by omega)
          have ks := litStrE HLB.out
          have CH := ref_Hex ⟨p.lit.toArray⟩ WA (by rw [sizeA]; omega)
          rw [bl_mk] at CH
          have hxl := hexs_length p.lit
          obtain ⟨X, hX⟩ : ∃ X : ByteArray, X = ⟨(p.lit.flatMap hex).toArray⟩ := ⟨_, rfl⟩
          have hXs : X.size ≤ 10000 := by rw [hX, sizeA]; omega
          rw [← hX] at CH
          have HEND := Lib.hid (lit_end (pre := tpre P k) h0 HS0.out hX)
          have hs3 : ((⟨#[34]⟩ : ByteArray) ++ X ++ ⟨#[34]⟩).size ≤ 10002 := by rw [ByteArray.size_append, ByteArray.size_append]; show 1 + _ + 1 ≤ _; omega
          have hs2 : ((⟨#[34]⟩ : ByteArray) ++ X).size ≤ 10001 := by rw [ByteArray.size_append]; show 1 + _ ≤ _; omega
          have hs4 : (S0 ++ ((⟨#[34]⟩ : ByteArray) ++ X ++ ⟨#[34]⟩)).size ≤ 20000 * (k + 1) := by rw [ByteArray.size_append]; omega
          have CH := Lib.hid CH
          clear hX h0
          go_wp2_with fail
          refine CH.out.mono ?_
          rintro e w1 ⟨rfl, hb1⟩
          have HB1 := Lib.hid (HBB.out.trans (hb1.mono HBB.out.size))
          clear hb1
          go_wp2_with fail
          go_roundw
          case rel => exact ⟨k + 1, _, by omega, by go_num, rfl, hs4, HEND.out.trans (by rw [HTK.out]), HB1.out⟩
          case measure => simp [intOf]; omega
        · have e0 : ((p.conv : Int) == 0) = false := beq_eq_false_iff_ne.2 (by omega)
          have H0 := Lib.hid h0
          have hs1 : (S0 ++ (⟨#[37]⟩ : ByteArray)).size ≤ 20000 * k + 2 := by rw [ByteArray.size_append]; show _ + 1 ≤ _; omega
          clear h0
          have HLEN := Lib.hid (flPre_len p.fl)
          go_wp2_with fail
          go_loop [3, 43] (fun sv j => ∃ (q : Nat) (S1 : ByteArray), q ≤ 5 ∧ j = .int .i64 q ∧ sv = .string S1 ∧ S1.size ≤ 20000 * k + 7 ∧ Hid (S1 = S0 ++ ⟨#[37]⟩ ++ ⟨(flPre p.fl q).toArray⟩)) (fun _ j => 5 - (intOf j).toNat)
          case atStart => exact ⟨0, _, by omega, rfl, rfl, by omega, (ba_empty _).symm⟩
          case round =>
            obtain ⟨q, S1, hq, rfl, rfl, hS1, HS1⟩ := hrel
            by_cases hq5 : q < 5
            · obtain ⟨bo, c, hidx, hsl, hnx⟩ := flag_at p.fl q hq5
              have HNX := Lib.hid hnx
              clear hnx
              cases bo
              · have HS2 : Hid (S1 = S0 ++ ⟨#[37]⟩ ++ ⟨(flPre p.fl (q + 1)).toArray⟩) := by
                  show S1 = _
                  rw [HNX.out, HS1.out]; simp
                go_wp2_with fail
                go_round
                case rel => exact ⟨q + 1, S1, by omega, by go_num, rfl, hS1, HS2⟩
                case measure => simp [intOf]; omega
              · have HS2 : Hid (S1 ++ ⟨#[c]⟩ = S0 ++ ⟨#[37]⟩ ++ ⟨(flPre p.fl (q + 1)).toArray⟩) := by
                  show S1 ++ (⟨#[c]⟩ : ByteArray) = _
                  rw [HNX.out, HS1.out]
                  rw [ByteArray.append_assoc]
                  exact congrArg (S0 ++ (⟨#[37]⟩ : ByteArray) ++ ·) (ByteArray.mk_append_mk (flPre p.fl q) [c])
                have hsz : (S1 ++ (⟨#[c]⟩ : ByteArray)).size ≤ 20000 * k + 7 := by
                  rw [HS2.out, ByteArray.size_append, sizeA (flPre p.fl (q + 1))]
                  have := HLEN.out (q + 1)
                  omega
                go_wp2_with fail
                go_round
                case rel => exact ⟨q + 1, _, by omega, by go_num, rfl, hsz, HS2⟩
                case measure => simp [intOf]; omega
            · obtain rfl : q = 5 := by omega
              go_upto_if 57 with (fail)
              go_cut [3] (fun sv wx => ∃ S2 : ByteArray, sv = .string S2 ∧ S2.size ≤ 20000 * k + 100 ∧ Hid (S2 = S1 ++ ⟨(tWid p).toArray⟩) ∧ Hid (Below WA.heap.size WA wx))
              case first =>
                by_cases hwd : 0 < p.width
                · have CI := itoa_nat p.width hpw WA (HT.out.kept HBB.out)
                  rw [show digs 10 false p.width = tWid p by unfold tWid; rw [if_pos hwd]] at CI
                  have CI := Lib.hid CI
                  have hs2 : (S1 ++ (⟨(tWid p).toArray⟩ : ByteArray)).size ≤ 20000 * k + 100 := by rw [ByteArray.size_append, sizeA (tWid p)]; have := tWid_len p; omega
                  have hs2' := hs2
                  rw [ByteArray.size_append] at hs2'
                  generalize hD : (⟨(tWid p).toArray⟩ : ByteArray) = D at *
                  go_wp2_with (go_at_call 19; refine CI.out.mono ?_; rintro e w1 ⟨rfl, hb1⟩; have HB1 := Lib.hid hb1; clear hb1)
                  go_meet
                  exact ⟨_, rfl, hs2, rfl, HB1⟩
                · have hs2 : S1.size ≤ 20000 * k + 100 := by omega
                  have HW : Hid (S1 = S1 ++ ⟨(tWid p).toArray⟩) := by
                    show S1 = _
                    unfold tWid; rw [if_neg hwd]; exact (ba_empty S1).symm
                  go_wp2_with fail
                  go_meet
                  exact ⟨_, rfl, hs2, HW, Below.refl _ _⟩
              case rest =>
                obtain ⟨S2, rfl, hS2, HS2, HBW⟩ := hcut
                obtain ⟨WC, hWC⟩ : ∃ x, x = wc := ⟨_, rfl⟩
                subst hWC
                obtain ⟨-, b1, -, -, -, -, -, b7, b8⟩ := allCells (HKB.out.below HBW.out hlB)
                have hsW := HBW.out.size
                go_upto_if 65 with (fail)
                go_cut [3] (fun sv wx => ∃ S3 : ByteArray, sv = .string S3 ∧ S3.size ≤ 20000 * k + 200 ∧ Hid (S3 = S2 ++ ⟨(tPre p).toArray⟩) ∧ Hid (Below WA.heap.size WA wx))
                case first =>
                  by_cases hpr : 0 ≤ p.prec
                  · obtain ⟨pn, hpn⟩ := Int.eq_ofNat_of_zero_le hpr
                    have CI := itoa_nat pn (by omega) WC (HT.out.kept (HBB.out.trans (HBW.out.mono HBB.out.size)))
                    have htp : tPre p = 46 :: digs 10 false pn := by unfold tPre; rw [if_pos hpr, hpn]; rfl
                    have hdl := digs_length 10 false pn
                    obtain ⟨D, hD⟩ : ∃ D : ByteArray, D = ⟨(digs 10 false pn).toArray⟩ := ⟨_, rfl⟩
                    have hDs : D.size ≤ 64 := by rw [hD, sizeA]; exact hdl
                    have HEQ : Hid (S2 ++ ((⟨#[46]⟩ : ByteArray) ++ D) = S2 ++ ⟨(tPre p).toArray⟩) := by
                      show S2 ++ _ = _
                      rw [htp, hD]
                      exact congrArg (S2 ++ ·) (ByteArray.mk_append_mk [46] (digs 10 false pn))
                    rw [← hD] at CI
                    have CI := Lib.hid CI
                    have hs2 : ((⟨#[46]⟩ : ByteArray) ++ D).size ≤ 65 := by rw [ByteArray.size_append]; show 1 + _ ≤ _; omega
                    have hs3 : (S2 ++ ((⟨#[46]⟩ : ByteArray) ++ D)).size ≤ 20000 * k + 200 := by rw [ByteArray.size_append]; omega
                    rw [hpn] at b8
                    have ep : decide (0 ≤ (pn : Int)) = true := decide_eq_true (by omega)
                    simp only [hpn] at *
                    clear hD htp hdl
                    go_wp2_with (go_at_call 19; refine CI.out.mono ?_; rintro e w1 ⟨rfl, hb1⟩; have HB1 := Lib.hid (HBW.out.trans (hb1.mono HBW.out.size)); clear hb1)
                    go_meet
                    exact ⟨_, rfl, hs3, HEQ, HB1⟩
                  · have ep : decide (0 ≤ p.prec) = false := decide_eq_false hpr
                    have HW : Hid (S2 = S2 ++ ⟨(tPre p).toArray⟩) := by
                      show S2 = _
                      unfold tPre; rw [if_neg hpr]; exact (ba_empty S2).symm
                    go_wp2_with fail
                    go_meet
                    exact ⟨_, rfl, by omega, HW, HBW⟩
                case rest =>
                  obtain ⟨S3, rfl, hS3, HS3, HBX⟩ := hcut
                  obtain ⟨WD, hWD⟩ : ∃ x, x = wc := ⟨_, rfl⟩
                  subst hWD
                  obtain ⟨-, d1, -, -, -, -, -, -, -⟩ := allCells (HKB.out.below HBX.out hlB)
                  have hcvt := fun W => conv1 p.conv hcv W
                  have HEND := Lib.hid (conv_end (pre := tpre P k) H0.out HS0.out HS1.out HS2.out HS3.out)
                  have hs4 : (S3 ++ (⟨#[UInt8.ofNat p.conv]⟩ : ByteArray)).size ≤ 20000 * (k + 1) := by rw [ByteArray.size_append]; show _ + 1 ≤ _; omega
                  have hbD := HBB.out.trans (HBX.out.mono HBB.out.size)
                  have HBD := Lib.hid (hbD.alloc hbD.size (.cells #[.int .u8 p.conv] 5))
                  clear hbD
                  go_wp2_with fail
                  go_roundw
                  case rel => exact ⟨k + 1, _, by omega, by go_num, rfl, hs4, HEND.out.trans (by rw [HTK.out]), HBD.out⟩
                  case measure => simp [intOf]; omega
    · obtain rfl : k = P.length := by omega
      have HX : Hid (S = ⟨(text P).toArray⟩) := by show S = _; have := HR.out.eq; rwa [List.take_length] at this
      have HBW := Lib.hid HR.out.bel
      have hx := HX.out
      clear HR HX hS
      subst hx
      go_wp2_with fail
      go_ret
      exact ⟨rfl, HBW.out⟩
end Go.Proofs.YtppcjmbblkbkdaaDoor
