/- The walk of ShapeParses: it returns true. Conditions as typed. -/
import Derived.Test.YtppcjmbblkbkdaaDoorRef9
import Derived.Test.YtppcjmbblkbkdaaDoorSameP
import Derived.Test.YtppcjmbblkbkdaaDoorNilWalk
import Derived.Test.YtppcjmbblkbkdaaDoorRTextW
import Derived.Test.YtppcjmbblkbkdaaDoorRefWants
import Derived.StillTailTactics
namespace Go.Proofs.YtppcjmbblkbkdaaDoor
open Go.RowKit Pg

/-- fault.Tell of an error of a code at a place, in a format. -/
theorem tell_errL (w : World) (A : Nat → Addr) (hS : Sents w A) (v : Value) (c : Nat) (p : Int) (h : ErrAt w A v c p) :
    Calls Tryd.prog 10 #[v] w fun e w' => e = .returned (.agg #[.int .i64 c, .int .i64 p, .int .i64 5]) ∧ Below w.heap.size w w' := by
  obtain ⟨b, hc, hb⟩ := h
  have := fault_Tell w A hS b c hb _ v hc
  exact this
/-- What a call leaves of a block behind which it began. -/
theorem blk_behind {W w' : World} {t : TypeId} {cs : Array Value} (hb : Below (W.alloc (.cells cs t)).heap.size (W.alloc (.cells cs t)) w') : Blk w' W.heap.size t cs := (Blk.new W t cs).below hb (by rw [World.size_alloc]; exact Nat.lt_succ_self _)
theorem blk_behindD {W w' : World} {t : TypeId} {cs : Array Value} (hb : Below (W.alloc (.cells cs t)).drew.heap.size (W.alloc (.cells cs t)).drew w') : Blk w' W.heap.size t cs := (Blk.new W t cs).drew.below hb (by show _ < (W.alloc _).heap.size; rw [World.size_alloc]; exact Nat.lt_succ_self _)
theorem bel_behind {W w' : World} {o : Obj} (hb : Below (W.alloc o).heap.size (W.alloc o) w') : Below W.heap.size W w' := (belowS W o).trans (hb.mono (belowS W o).size)
theorem bel_behindD {W w' : World} {o : Obj} (hb : Below (W.alloc o).drew.heap.size (W.alloc o).drew w') : Below W.heap.size W w' := (belowS W o).drew.trans (hb.mono (belowS W o).size)
theorem norm_conv (p : Part) : (norm p).conv = p.conv := by unfold norm; split <;> rfl
theorem norm_lit (p : Part) : (norm p).lit = p.lit := by unfold norm; split <;> rfl
theorem norm_small {p : Part} (h : p.lit.length ≤ 1024 ∧ p.conv < 256 ∧ p.width ≤ 1000 ∧ p.prec ≤ 1000) : (norm p).width < 5000 ∧ (norm p).prec < 5000 := by
  unfold norm
  split
  · exact ⟨by show p.width < 5000; omega, by show (0 : Int) < 5000; omega⟩
  · omega
theorem wants_norm (P : List Part) : wants (P.map norm) = wants P := by
  unfold wants
  induction P with
  | nil => rfl
  | cons p t ih =>
    rw [List.map_cons, List.filter_cons, List.filter_cons, norm_conv]
    split
    · rw [List.length_cons, List.length_cons, ih]
    · exact ih

set_option maxRecDepth 100000 in
set_option maxHeartbeats 8000000 in
theorem shapeParses_walk (a : Option Addr) (c : Nat) (l : List UInt8) (w : World) (A : Nat → Addr) (hS : Sents w A) (hT : Pow w) (hbs : Bs w a c l) :
    Calls Tryd.prog 4 #[.slice a l.length c] w fun e w' => e = .returned (.bool true) ∧ Below w.heap.size w w' := by
  have HS := Lib.hid hS
  have HT := Lib.hid hT
  have HBS := Lib.hid hbs
  have CP := shape_Parse a c l w hbs A hS.toSents0
  have hc1 := hbs.1
  have hc2 := hbs.2.1
  unfold maxLen at hc2
  clear hbs hS hT
  go_enter Tryd.func4, Tryd.ntmps4
  cases hp : parse l with
  | error cq =>
    obtain ⟨cc, q⟩ := cq
    rw [hp] at CP
    have CP := Lib.hid CP
    have HCC := Lib.hid (parse_code hp)
    have ecc : ((cc : Int) != 0) = true := bne_iff_ne.2 (by have := HCC.out; omega)
    have HP := Lib.hid hp
    clear hp
    go_wp2_with fail
    refine CP.out.mono ?_
    rintro e w5 ⟨hb5, v, rfl, hE⟩
    obtain ⟨ty, x, rfl⟩ : ∃ t x, v = .iface t x := by obtain ⟨b, hc, _⟩ := hE; exact hc.iface
    have HB5 := Lib.hid (hb5)
    have HE := Lib.hid hE
    have CR := ref_Parse a c l w5 (HBS.out.below hb5 (Nat.le_refl _))
    rw [HP.out] at CR
    have CR := Lib.hid CR
    clear hb5 hE
    go_wp2_with fail
    refine CR.out.mono ?_
    rintro e w6 ⟨hb6, rfl⟩
    have HB6 := Lib.hid (HB5.out.trans (hb6.mono HB5.out.size))
    have CT := Lib.hid (fun (W : World) (hb : Below w6.heap.size w6 W) => tell_errL W A (HS.out.kept (HB6.out.trans (hb.mono HB6.out.size)) (Nat.le_refl _)) _ cc q ((HE.out.kept hb6 (Nat.le_refl _)).kept hb (Nat.le_refl _)))
    clear hb6
    go_upto_region 3 with (fail)
    go_cut [25] (fun c wx => c = .bool true ∧ Hid (Below w6.heap.size w6 wx) ∧ Hid (Blk wx w6.heap.size 23 #[.int .i64 cc, .int .i64 q, .int .i64 5]))
    case first =>
      go_region_with (go_at_call 10; refine (CT.out _ (by first | exact belowS w6 _ | exact (belowS w6 _).drew)).mono ?_; rintro e w7 ⟨rfl, hb7⟩; have bk7 : Blk w7 w6.heap.size 23 #[.int .i64 cc, .int .i64 q, .int .i64 5] := (by first | exact blk_behind hb7 | exact blk_behindD hb7); have HB7 : Hid (Below w6.heap.size w6 w7) := (by first | exact bel_behind hb7 | exact bel_behindD hb7); have q0 := bk7.cell 0; have q1 := bk7.cell 1; have q2 := bk7.cell 2; have HK7 := Lib.hid bk7; clear hb7 bk7)
      all_goals (
        go_wp2_with fail
        go_meet
        exact ⟨rfl, HB7, HK7⟩)
    case rest =>
      obtain ⟨rfl, HB7, HK7⟩ := hcut
      obtain ⟨w7, hw7⟩ : ∃ w7, w7 = wc := ⟨_, rfl⟩
      subst hw7
      have q0 := HK7.out.cell 0
      have q1 := HK7.out.cell 1
      have q2 := HK7.out.cell 2
      have hlt6 := HK7.out.lt
      have HBA := Lib.hid (HB6.out.trans (HB7.out.mono HB6.out.size))
      have CA := Lib.hid (fun (W : World) (hb : Below w6.heap.size w6 W) => shape_awake W A (HS.out.kept (HB6.out.trans (hb.mono HB6.out.size)) (Nat.le_refl _)).toSents0)
      go_upto_region 4 with (fail)
      go_region_with (first
        | (go_at_call 10; refine (CT.out _ (by first | exact HB7.out | exact HB7.out.drew)).mono ?_; rintro e w8 ⟨rfl, hb8⟩; have hbx : Below w7.heap.size w7 w8 := (by first | exact hb8 | exact ((Below.refl _ _).drew).trans hb8); have HB8 := Lib.hid (HB7.out.trans (hbx.mono HB7.out.size)); have bk8 := HK7.out.below hbx hlt6; have u0 := bk8.cell 0; have u1 := bk8.cell 1; have u2 := bk8.cell 2; clear hb8 hbx bk8)
        | (go_at_call 11; refine (CA.out _ HB8.out).mono ?_; rintro e w9 ⟨rfl, hb9⟩; have HB9 := Lib.hid (HB8.out.trans (hb9.mono HB8.out.size)); clear hb9))
      all_goals go_wp2_with fail
      all_goals go_ret
      all_goals exact ⟨rfl, HB6.out.trans (HB9.out.mono HB6.out.size)⟩
  | ok P =>
    rw [hp] at CP
    have CP := Lib.hid CP
    have HGP := Lib.hid (parse_goodS hp)
    have HP := Lib.hid hp
    clear hp
    go_wp2_with fail
    refine CP.out.mono ?_
    rintro e w5 ⟨hb5, F, rfl, hF⟩
    have HB5 := Lib.hid (hb5)
    have HF := Lib.hid hF
    have CR := ref_Parse a c l w5 (HBS.out.below hb5 (Nat.le_refl _))
    rw [HP.out] at CR
    have CR := Lib.hid CR
    clear hb5 hF
    go_wp2_with fail
    refine CR.out.mono ?_
    rintro e w6 ⟨hb6, v2, rfl, hpc⟩
    have HB6 := Lib.hid (HB5.out.trans (hb6.mono HB5.out.size))
    have HF6 := Lib.hid (HF.out.below hb6 (Nat.le_refl _))
    have HPC := Lib.hid hpc
    have ct := fun (W : World) => fault_Tell_nil W
    simp only [fv] at ct
    have CT := Lib.hid ct
    clear ct
    clear hb6 hpc
    go_upto_region 3 with (fail)
    go_cut [25] (fun c wx => c = .bool false ∧ Hid (Below w6.heap.size w6 wx) ∧ Hid (Blk wx w6.heap.size 23 #[.int .i64 0, .int .i64 0, .int .i64 0]))
    case first =>
      go_region_with (go_at_call 10; refine (CT.out _).mono ?_; rintro e w7 ⟨rfl, hb7⟩; have bk7 : Blk w7 w6.heap.size 23 #[.int .i64 0, .int .i64 0, .int .i64 0] := (by first | exact blk_behind hb7 | exact blk_behindD hb7); have HB7 : Hid (Below w6.heap.size w6 w7) := (by first | exact bel_behind hb7 | exact bel_behindD hb7); have q0 := bk7.cell 0; have q1 := bk7.cell 1; have q2 := bk7.cell 2; have HK7 := Lib.hid bk7; clear hb7 bk7)
      all_goals (
        go_wp2_with fail
        go_meet
        exact ⟨rfl, HB7, HK7⟩)
    case rest =>
      obtain ⟨rfl, HB7, HK7⟩ := hcut
      obtain ⟨w7, hw7⟩ : ∃ w7, w7 = wc := ⟨_, rfl⟩
      subst hw7
      have HB67 := Lib.hid (HB6.out.trans (HB7.out.mono HB6.out.size))
      have CPA := shape_Parts _ w7 F P (HF6.out.below HB7.out (Nat.le_refl _)) (by have := HGP.out.1; omega) (fun p h => by have := (HGP.out.2 p h).1; omega)
      have CPA := Lib.hid CPA
      have HPC7 := Lib.hid (HPC.out.below HB7.out (Nat.le_refl _))
      clear HK7
      go_wp2_with fail
      refine CPA.out.mono ?_
      rintro e w8 ⟨v1, rfl, hpr⟩
      have hpc1 := hpr.1
      rw [List.take_length] at hpc1
      have HB8 := Lib.hid (HB67.out.trans (hpr.2.mono HB67.out.size))
      have CS := Lib.hid (ref_SameParts _ _ w8 v1 v2 (P.map norm) hpc1 (HPC7.out.below hpr.2 (Nat.le_refl _)) (by rw [List.length_map]; have := HGP.out.1; omega))
      have hb8 := hpr.2
      have HF8 := Lib.hid ((HF6.out.below HB7.out (Nat.le_refl _)).below hb8 (Nat.le_refl _))
      have HPC8 := Lib.hid (HPC7.out.below hb8 (Nat.le_refl _))
      have hPl := HGP.out.1
      have HPL := Lib.hid (show P.length ≤ 5000 by omega)
      clear hpr hpc1 hb8 hPl
      go_wp2_with fail
      refine CS.out.mono ?_
      rintro e w9 ⟨rfl, hb9⟩
      have HB9 := Lib.hid (HB8.out.trans (hb9.mono HB8.out.size))
      have HF9 := Lib.hid (HF8.out.below hb9 (Nat.le_refl _))
      have HPC9 := Lib.hid (HPC8.out.below hb9 (Nat.le_refl _))
      have CX := Lib.hid (shape_Text _ w9 F P HF9.out HPL.out (fun p h => by have := (HGP.out.2 p h).1; omega) (fun p h => (HGP.out.2 p h).2.1) (fun p h => by have := (HGP.out.2 p h).2.2; omega))
      clear hb9
      go_wp2_with fail
      refine CX.out.mono ?_
      rintro e w10 ⟨rfl, hb10⟩
      have HB10 := Lib.hid (HB9.out.trans (hb10.mono HB9.out.size))
      have HF10 := Lib.hid (HF9.out.below hb10 (Nat.le_refl _))
      have HPC10 := Lib.hid (HPC9.out.below hb10 (Nat.le_refl _))
      have CY := ref_Text14 _ v2 (P.map norm) w10 HPC10.out (HT.out.kept HB10.out) (by rw [List.length_map]; exact HPL.out)
        (fun p h => by obtain ⟨q, hq, rfl⟩ := List.mem_map.1 h; rw [norm_lit]; have := (HGP.out.2 q hq).1; omega)
        (fun p h => by obtain ⟨q, hq, rfl⟩ := List.mem_map.1 h; rw [norm_conv]; exact (HGP.out.2 q hq).2.1)
        (fun p h => by obtain ⟨q, hq, rfl⟩ := List.mem_map.1 h; exact norm_small (HGP.out.2 q hq))
      rw [text_norm] at CY
      have CY := Lib.hid CY
      obtain ⟨T, hTx⟩ : ∃ T : ByteArray, T = ⟨(text P).toArray⟩ := ⟨_, rfl⟩
      rw [← hTx] at CY ⊢
      clear hTx hb10
      go_wp2_with fail
      refine CY.out.mono ?_
      rintro e w11 ⟨rfl, hb11⟩
      have HB11 := Lib.hid (HB10.out.trans (hb11.mono HB10.out.size))
      have HF11 := Lib.hid (HF10.out.below hb11 (Nat.le_refl _))
      have HPC11 := Lib.hid (HPC10.out.below hb11 (Nat.le_refl _))
      have CW := Lib.hid (shape_Wants _ w11 F P HF11.out HPL.out)
      clear hb11
      go_wp2_with fail
      refine CW.out.mono ?_
      rintro e w12 ⟨rfl, hb12⟩
      have HB12 := Lib.hid (HB11.out.trans (hb12.mono HB11.out.size))
      have CV := ref_Wants _ w12 v2 (P.map norm) (HPC11.out.below hb12 (Nat.le_refl _)) (by rw [List.length_map]; exact HPL.out)
      rw [wants_norm] at CV
      have CV := Lib.hid CV
      clear hb12
      go_wp2_with fail
      refine CV.out.mono ?_
      rintro e w13 ⟨rfl, hb13⟩
      have HB13 := Lib.hid (HB12.out.trans (hb13.mono HB12.out.size))
      have CA := Lib.hid (shape_awake w13 A (HS.out.kept HB13.out (Nat.le_refl _)).toSents0)
      clear hb13
      go_wp2_with (go_at_call 11; refine CA.out.mono ?_; rintro e w14 ⟨rfl, hb14⟩; have HB14 := Lib.hid (HB13.out.trans (hb14.mono HB13.out.size)); clear hb14)
      go_ret
      exact ⟨rfl, HB14.out⟩
end Go.Proofs.YtppcjmbblkbkdaaDoor
