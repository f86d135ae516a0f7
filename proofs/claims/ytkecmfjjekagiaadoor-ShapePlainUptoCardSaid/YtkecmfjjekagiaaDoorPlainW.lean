/- The walk of pidginlaw14.ShapePlain: it returns true, for at most 1048576 bytes. Conditions as typed. -/
import Derived.Test.YtkecmfjjekagiaaDoorPlain1
import Derived.Test.YtkecmfjjekagiaaDoorJoinWalk
import Derived.Test.YtkecmfjjekagiaaDoorNilWalk
import Derived.Test.YtkecmfjjekagiaaDoorParts
import Derived.Test.YtkecmfjjekagiaaDoorSame
import Derived.Test.YtkecmfjjekagiaaDoorPrintf
import Derived.StillTailTactics
namespace Go.Proofs.YtkecmfjjekagiaaDoor
open Go.RowKit Pg

theorem dbl_push (s : List UInt8) (c : UInt8) (h : c.toNat ≠ 37) : dbl (s ++ [c]) = dbl s ++ [c] := by
  rw [dbl_append, show dbl [c] = [c] by simp [dbl, h]]
theorem dbl_push2 (s : List UInt8) (c : UInt8) (h : c.toNat = 37) : dbl (s ++ [c]) = dbl s ++ [c] ++ [c] := by
  rw [dbl_append, show dbl [c] = [c, c] by simp [dbl, h], List.append_assoc]
  rfl

theorem dbl_ge (l : List UInt8) : l.length ≤ (dbl l).length := by
  induction l with
  | nil => exact Nat.le_refl _
  | cons c t ih =>
    rw [dbl_cons, List.length_append, List.length_cons]
    split <;> simp <;> omega

set_option maxRecDepth 100000 in
set_option maxHeartbeats 8000000 in
theorem shapePlain_walk (a : Option Addr) (cap : Nat) (l : List UInt8) (w : World) (A : Nat → Addr) (hS : Sents0 w A) (hl : Bs w a cap l) (hn : l.length ≤ 1048576) :
    Calls Tryd.prog 8 #[.slice a l.length cap] w fun e w' => e = .returned (.bool true) ∧ Below w.heap.size w w' := by
  have H0 := Lib.hid hl
  have HS := Lib.hid hS
  have c0 := hl.1
  have m0 := hl.2.1
  unfold maxLen at m0
  clear hl hS
  go_enter Tryd.func8, Tryd.ntmps8
  go_wp2_with fail
  go_loopw [3, 4, 12] (fun pv dv iv wr => ∃ k : Nat, k ≤ l.length ∧ iv = .int .i64 k ∧ Hid (PlRel w (dbl (noBs (l.take k))) (noBs (l.take k)) dv pv wr)) (fun _ _ iv _ => l.length - (intOf iv).toNat)
  case atStart => exact ⟨0, by omega, rfl, PlRel.nil w⟩
  case round =>
    obtain ⟨k, hk, rfl, HR⟩ := hrel
    by_cases hlt : k < l.length
    · obtain ⟨b, off, rfl, hc⟩ := (H0.out.below HR.out.bel (Nat.le_refl _)).2.2 k hlt
      have hnb := noBs_take l k hlt
      generalize l[k] = c at *
      have hS1 : (noBs (l.take k)).length ≤ k := by have := noBs_le (l.take k); rw [List.length_take] at this; omega
      have hD1 := dbl_le (noBs (l.take k))
      have HT : Hid (∃ T, T = noBs (l.take (k + 1))) := ⟨_, rfl⟩
      obtain ⟨T, hT⟩ := HT.out
      rw [← hT] at hnb
      have HTT := Lib.hid hT
      clear hT HT
      generalize noBs (l.take k) = S at *
      obtain ⟨x, hx⟩ : ∃ x, c.toNat = x := ⟨_, rfl⟩
      by_cases h92 : x = 92
      · have e92 := beqT h92
        simp only [Int.cast_ofNat_Int] at e92
        rw [hx, if_pos h92, List.append_nil] at hnb
        rw [hx] at hc
        have HNB := Lib.hid hnb
        clear hnb hx h92 hD1 hS1
        go_wp2_with fail
        go_roundw
        case rel => exact ⟨k + 1, by omega, by go_num, by rw [← HTT.out, HNB.out]; exact HR.out⟩
        case measure => simp [intOf]; omega
      · have e92 := beqF h92
        simp only [Int.cast_ofNat_Int] at e92
        rw [hx, if_neg h92] at hnb
        by_cases h37 : x = 37
        · have e37 := beqT h37
          simp only [Int.cast_ofNat_Int] at e37
          have hdd := dbl_push2 S c (hx.trans h37)
          have hl2 : (dbl S ++ [c]).length ≤ 100000000 := by rw [List.length_append]; show _ + 1 ≤ _; omega
          have hl1 : (dbl S).length ≤ 100000000 := by omega
          have hl3 : S.length ≤ 100000000 := by omega
          have HNB := Lib.hid hnb
          have HDD := Lib.hid hdd
          have e92' : ((c.toNat : Int) == 92) = false := by rw [hx]; exact e92
          have e37' : ((c.toNat : Int) == 37) = true := by rw [hx]; exact e37
          clear hnb hx h92 h37 hD1 hS1 hdd e92 e37
          go_wp2_with (first | (at_builtin; refine wpList_pushD rfl (.tmp 18) (.tmp 20) rfl (dbl S) S u4 u3 c HR.out hl1 rfl rfl ?_; intro dv1 w1 hm; have HM := Lib.hid hm; clear hm) | (at_builtin; refine wpList_pushD rfl (.tmp 24) (.tmp 26) rfl (dbl S ++ [c]) S dv1 u3 c HM.out hl2 rfl rfl ?_; intro dv2 w2 hm; have HM2 := Lib.hid hm; clear hm) | (at_builtin; refine wpList_pushP rfl (.tmp 28) (.tmp 30) rfl (dbl S ++ [c] ++ [c]) S dv2 u3 c HM2.out hl3 rfl rfl ?_; intro pv3 w3 hm; have HM3 := Lib.hid hm; clear hm))
          go_roundw
          case rel => exact ⟨k + 1, by omega, by go_num, by rw [← HTT.out, HNB.out, HDD.out]; exact HM3.out⟩
          case measure => simp [intOf]; omega
        · have e37 := beqF h37
          simp only [Int.cast_ofNat_Int] at e37
          have hdd := dbl_push S c (by rw [hx]; exact h37)
          have hl1 : (dbl S).length ≤ 100000000 := by omega
          have hl3 : S.length ≤ 100000000 := by omega
          have HNB := Lib.hid hnb
          have HDD := Lib.hid hdd
          have e92' : ((c.toNat : Int) == 92) = false := by rw [hx]; exact e92
          have e37' : ((c.toNat : Int) == 37) = false := by rw [hx]; exact e37
          clear hnb hx h92 h37 hD1 hS1 hdd e92 e37
          go_wp2_with (first | (at_builtin; refine wpList_pushD rfl (.tmp 18) (.tmp 20) rfl (dbl S) S u4 u3 c HR.out hl1 rfl rfl ?_; intro dv1 w1 hm; have HM := Lib.hid hm; clear hm) | (at_builtin; refine wpList_pushP rfl (.tmp 28) (.tmp 30) rfl (dbl S ++ [c]) S dv1 u3 c HM.out hl3 rfl rfl ?_; intro pv3 w3 hm; have HM3 := Lib.hid hm; clear hm))
          go_roundw
          case rel => exact ⟨k + 1, by omega, by go_num, by rw [← HTT.out, HNB.out, HDD.out]; exact HM3.out⟩
          case measure => simp [intOf]; omega
    · have hr := HR.out
      rw [List.take_of_length_le (by omega)] at hr
      have hS1 : (noBs l).length ≤ 1048576 := Nat.le_trans (noBs_le l) hn
      have hD1 := dbl_le (noBs l)
      have hmem : ∀ c ∈ noBs l, c.toNat ≠ 92 := fun c h => noBs_mem h
      generalize noBs l = S at *
      obtain ⟨da, dc, hdv, d1, d2, _⟩ := ownsRow_form hr.d
      obtain ⟨pa, pc, hpv, p1, p2, _⟩ := ownsRow_form hr.p
      subst hdv hpv
      have HRR := Lib.hid hr
      have HMEM := Lib.hid hmem
      clear hr HR hmem hn
      obtain ⟨dn, hdn⟩ : ∃ dn, (dbl S).length = dn := ⟨_, rfl⟩
      obtain ⟨pn, hpn⟩ : ∃ pn, S.length = pn := ⟨_, rfl⟩
      rw [hdn] at d1 hD1 ⊢
      rw [hpn] at p1 hD1 hS1 ⊢
      have HDN := Lib.hid hdn
      have HPN := Lib.hid hpn
      clear hdn hpn
      unfold maxLen at d2 p2
      have HSR := Lib.hid (HS.out.kept HRR.out.bel (Nat.le_refl _))
      have HBR := Lib.hid HRR.out.bel
      by_cases hbig : 1024 < dn
      · have e1 : decide (1024 < (dn : Int)) = true := decide_eq_true (by omega)
        have C := Lib.hid (shape_awake wr A HSR.out)
        clear hbig
        go_wp2_with (go_at_call 32; refine C.out.mono ?_; rintro e w' ⟨rfl, hb⟩; have HB := Lib.hid hb; clear hb)
        go_ret
        exact ⟨rfl, HBR.out.trans (HB.out.mono HBR.out.size)⟩
      · have e1 : decide (1024 < (dn : Int)) = false := decide_eq_false (by omega)
        have CP := shape_Parse da dc (dbl S) wr (ownBs' (HRR.out.d) rfl) A HSR.out
        rw [parse_dbl S HMEM.out (by rw [HDN.out]; omega), HDN.out] at CP
        have CP := Lib.hid CP
        have HD24 := Lib.hid (show dn ≤ 1024 by omega)
        clear hbig
        go_wp2_with fail
        refine CP.out.mono ?_
        rintro e w1 hp
        obtain ⟨F, rfl, hF, hb1⟩ := ParsePost.good hp
        have HF := Lib.hid hF
        have HB1 := Lib.hid (HBR.out.trans (hb1.mono HBR.out.size))
        have HOW := Lib.hid hb1
        clear hp hF hb1
        have hsz1 := HB1.out.size
        have k76 := fun (W : World) (h : Below w1.heap.size w1 W) => ownStr HRR.out.p rfl (HOW.out.trans (h.mono HOW.out.size)) (Nat.le_refl _)
        rw [HPN.out] at k76
        have K76 := Lib.hid k76
        clear k76
        by_cases h0 : pn = 0
        · have hrd : render [] S = [] := by unfold render; rw [if_pos (by rw [HPN.out]; exact h0)]
          have hF := HF.out
          rw [hrd] at hF
          have CQ := Lib.hid (shape_Parts _ w1 F [] hF (by decide) (by simp))
          have e0 : ((pn : Int) == 0) = true := beq_iff_eq.2 (by omega)
          clear h0 hrd hF
          go_wp2_with fail
          refine CQ.out.mono ?_
          rintro e w2 ⟨v, rfl, hpr⟩
          obtain ⟨qa, qcap, rfl, _, _, _⟩ := hpr.1.cells
          have HB2 := Lib.hid (HB1.out.trans (hpr.2.mono hsz1))
          have C := Lib.hid (shape_awake w2 A (HS.out.kept HB2.out (Nat.le_refl _)))
          clear hpr
          simp only [List.length_nil, List.take_nil, List.map_nil]
          go_wp2_with (go_at_call 32; refine C.out.mono ?_; rintro e w3 ⟨rfl, hb⟩; have HB3 := Lib.hid hb; clear hb)
          go_ret
          exact ⟨rfl, HB2.out.trans (HB3.out.mono HB2.out.size)⟩
        · have hrd : render [] S = [litPart S] := by unfold render; rw [if_neg (by rw [HPN.out]; exact h0)]; rfl
          have hF := HF.out
          rw [hrd] at hF
          have hsl : S.length ≤ 5000 := by rw [HPN.out]; have := dbl_ge S; rw [HPN.out, HDN.out] at this; have := HD24.out; omega
          have CQ := Lib.hid (shape_Parts _ w1 F [litPart S] hF (by simp) (by simpa [litPart] using hsl))
          have HF1 := Lib.hid hF
          have e0 : ((pn : Int) == 0) = false := beq_eq_false_iff_ne.2 (by omega)
          clear h0 hrd hF hsl
          go_wp2_with fail
          refine CQ.out.mono ?_
          rintro e w2 ⟨v, rfl, hpr⟩
          have HB2 := Lib.hid (HB1.out.trans (hpr.2.mono hsz1))
          have HP2 := Lib.hid hpr.2
          have hpc : PartsC w1.heap.size w2 v [⟨S, 0, fl0, 0, 0⟩] := hpr.1
          obtain ⟨qa, qcap, rfl, hq1, hq2, hq⟩ := hpc.cells
          obtain ⟨g, la, lcap, rfl, hg, hlr, x0, x1, _, _, _, _, _, _, _⟩ := hq 0 (by simp)
          have k74 := litStr hlr
          simp only [List.getElem_cons_zero, HPN.out, Nat.zero_mul, Nat.zero_add, List.length_cons, List.length_nil] at k74 x0 x1 hq1 ⊢
          have k76 := K76.out w2 HP2.out
          unfold maxLen at hq2
          have hw0 : wants [litPart S] = 0 := rfl
          have CW := fun (W : World) (hb : Below w2.heap.size w2 W) => shape_Wants _ W F [litPart S] (HF1.out.below (HP2.out.trans (hb.mono HP2.out.size)) (Nat.le_refl _)) (by simp)
          simp only [hw0] at CW
          have CW := Lib.hid CW
          have hlr2 : LitR w2.drew w2.drew.heap.size (.slice la S.length lcap) S := hlr
          have k74d := litStr hlr2
          have k76d := K76.out w2.drew HP2.out.drew
          rw [HPN.out] at k74d
          clear hpr hpc hq hlr hlr2 hw0
          have CA := Lib.hid (fun (W : World) (hb : Below w2.heap.size w2 W) => shape_awake W A (HS.out.kept (HB2.out.trans (hb.mono HB2.out.size)) (Nat.le_refl _)))
          have x0d : w2.drew.cell? ⟨g, 0, none⟩ = some (.slice la pn lcap) := x0
          have x1d : w2.drew.cell? ⟨g, 1, none⟩ = some (.int .u8 (0 : Nat)) := x1
          go_upto_region 19 with fail
          go_still_tail 22, (by kernel_rfl)
          go_wp2_with (first
            | (go_at_call 31; refine (CW.out _ (by first | exact Below.refl _ _ | exact (Below.refl _ _).drew)).mono ?_; rintro e w3 ⟨rfl, hb3⟩; have hbx : Below w2.heap.size w2 w3 := (by first | exact hb3 | exact ((Below.refl _ _).drew).trans hb3); have HB3 := Lib.hid hbx; clear hb3 hbx)
            | (go_at_call 32; refine (CA.out _ HB3.out).mono ?_; rintro e w4 ⟨rfl, hb4⟩; have HB4 := Lib.hid hb4; clear hb4))
          go_ret
          exact ⟨rfl, HB2.out.trans ((HB3.out.trans (HB4.out.mono HB3.out.size)).mono HB2.out.size)⟩
end Go.Proofs.YtkecmfjjekagiaaDoor
