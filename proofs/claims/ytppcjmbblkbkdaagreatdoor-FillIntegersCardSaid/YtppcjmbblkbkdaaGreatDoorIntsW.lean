/- The walk of pidginlaw15.FillIntegers: it returns true. Conditions as typed. -/
import Derived.Test.YtppcjmbblkbkdaaGreatDoorGreatP
import Derived.OpenShut
namespace Go.Proofs.YtppcjmbblkbkdaaGreatDoor
open Go.RowKit Pg

/-- A number brought into a range by a modulus that is one more. -/
theorem ixP (z : Int) : ∃ p : Int, -1 ≤ p ∧ p ≤ 39 ∧ wrap64 ((wrap64 (z.tmod 40 + 40)).tmod 41 - 1) = p := by
  have a := Int.lt_tmod_of_pos z (show (0 : Int) < 40 by omega)
  have b := Int.tmod_lt_of_pos z (show (0 : Int) < 40 by omega)
  have hw : wrap64 (z.tmod 40 + 40) = z.tmod 40 + 40 := IntWalk.wrap64_in _ ⟨by omega, by omega⟩
  rw [hw, Int.tmod_eq_emod_of_nonneg (by omega)]
  have c := Int.emod_lt_of_pos (z.tmod 40 + 40) (show (0 : Int) < 41 by omega)
  have d := Int.emod_nonneg (z.tmod 40 + 40) (show (41 : Int) ≠ 0 by omega)
  exact ⟨_, by omega, by omega, IntWalk.wrap64_in _ ⟨by omega, by omega⟩⟩
theorem run_one1 (L : List Part) (o : List UInt8) (h : o.length ≤ 1024) : run L [o] = .ok (runF 2 L [o] ⟨[], [], false⟩) := by
  have e : tooLong [o] 0 = none := by unfold tooLong; rw [if_neg (by omega)]; rfl
  unfold run
  rw [if_neg (by simp), e]
  rfl
theorem run_nil1 (o : List UInt8) (h : o.length ≤ 1024) : run [] [o] = .ok ⟨[], [], false⟩ := by
  rw [run_one1 [] o h]
  simp [runF, once]
/-- pidginref14.Run without parts. -/
theorem ref_Run0 (W : World) (ao : Option Addr) (capo : Nat) (D : ByteArray) (hO : Ss W ao capo [D]) (hD : D.size ≤ 1024) :
    Calls Tryz.prog 9 #[.slice none 0 0, .slice ao 1 capo] W fun e w' => Below W.heap.size W w' ∧ ∃ (xo xc : Value), e = .returned (.tuple #[.agg #[xo, xc, .bool false], .agg #[.int .i64 0, .int .i64 0, .int .i64 0]]) ∧ w'.ownsRow W.heap.size 5 1 xo 0 (u8s []) ∧ w'.ownsRow W.heap.size 3 1 xc 0 (i64s []) := by
  have h := ref_RunL 0 (.slice none 0 0) [] [] rfl W (PartsC.nil _ _) ao capo [D] hO
  rw [show ([D] : List ByteArray).map bl = [bl D] from rfl, run_nil1 (bl D) (by rw [bl_length]; exact hD)] at h
  exact h
theorem PrS.errX {w wx : World} {A : Nat → Addr} {v : Value} {gr gf gx c q B m1 m2 d1 d2 : Nat} {b1 b2 : Option Addr} (hS : Sents w A) (hE : ErrAt wx A v c q) (bf : Blk wx gf 35 #[.int .i64 c, .int .i64 q, .int .i64 5]) (br : Blk wx gr 28 #[.slice none 0 0, .slice none 0 0, .bool false])
    (xo : wx.ownsRow B 5 1 (.slice b1 m1 d1) m1 (u8s [])) (xc : wx.ownsRow B 3 1 (.slice b2 m2 d2) m2 (i64s [])) (hm1 : m1 = 0) (hm2 : m2 = 0)
    (bx : Blk wx gx 28 #[.slice b1 m1 d1, .slice b2 m2 d2, .bool false]) (bel : Below w.heap.size w wx) : PrS w v gr gf gx c q 5 wx :=
  ⟨fun W hb => tell_errP W A (hS.kept (bel.trans (hb.mono bel.size)) (Nat.le_refl _)) v c q (hE.kept hb (Nat.le_refl _)), bf, ⟨_, _, _, _, _, _, br, bx, fun W hb => by
    have := ref_Same W none none b1 b2 0 0 m1 m2 0 0 d1 d2 [] [] [] [] false false rfl rfl hm1 hm2 (Bs.empty W) (Is.empty W) (own_read xo hm1 hb (Nat.le_refl _)) ((Is.own xc hm2).below hb (Nat.le_refl _))
    simpa using this⟩, bel⟩
/-- One sign of a constant text, cut out. -/
theorem sign5 (k : Nat) (hk : k < 5) : ∃ c : UInt8, ∀ W, (Instr.slice 9 (.string ⟨#[45, 43, 32, 48, 35]⟩) (some (.int .i64 k)) (some (.int .i64 ((k : Int) + 1))) none).run Tryz.prog W = .ok (.string ⟨#[c]⟩) W := by
  have : k = 0 ∨ k = 1 ∨ k = 2 ∨ k = 3 ∨ k = 4 := by omega
  rcases this with rfl | rfl | rfl | rfl | rfl
  · exact ⟨45, fun W => by kernel_rfl⟩
  · exact ⟨43, fun W => by kernel_rfl⟩
  · exact ⟨32, fun W => by kernel_rfl⟩
  · exact ⟨48, fun W => by kernel_rfl⟩
  · exact ⟨35, fun W => by kernel_rfl⟩
theorem sign7 (k : Nat) (hk : k < 6) : ∃ c : UInt8, ∀ W, (Instr.slice 9 (.string ⟨#[100, 105, 111, 117, 120, 32, 88]⟩) (some (.int .i64 k)) (some (.int .i64 ((k : Int) + 1))) none).run Tryz.prog W = .ok (.string ⟨#[c]⟩) W := by
  have : k = 0 ∨ k = 1 ∨ k = 2 ∨ k = 3 ∨ k = 4 ∨ k = 5 := by omega
  rcases this with rfl | rfl | rfl | rfl | rfl | rfl
  · exact ⟨100, fun W => by kernel_rfl⟩
  · exact ⟨105, fun W => by kernel_rfl⟩
  · exact ⟨111, fun W => by kernel_rfl⟩
  · exact ⟨117, fun W => by kernel_rfl⟩
  · exact ⟨120, fun W => by kernel_rfl⟩
  · exact ⟨32, fun W => by kernel_rfl⟩

set_option maxRecDepth 100000 in
set_option maxHeartbeats 8000000 in
/-- FillIntegers: it returns true. -/
theorem fillIntegers_walk (z0 z1 z2 z3 z4 : Int) (w : World) (A : Nat → Addr) (hS : Sents w A) (_h0 : (Lit.int .i64 z0).wf = true) (_h1 : (Lit.int .i64 z1).wf = true) (_h2 : (Lit.int .i64 z2).wf = true) (_h3 : (Lit.int .i64 z3).wf = true) (_h4 : (Lit.int .i64 z4).wf = true) :
    Calls Tryz.prog 3 #[.int .i64 z0, .int .i64 z1, .int .i64 z2, .int .i64 z3, .int .i64 z4] w fun e w' => e = .returned (.bool true) ∧ Below w.heap.size w w' := by
  obtain ⟨q2, hq2, hz2⟩ := ixS z2 40 (by omega) (by omega)
  obtain ⟨pv, hp1, hp2, hz3⟩ := ixP z3
  obtain ⟨q4, hq4, hz4⟩ := ixS z4 6 (by omega) (by omega)
  have hb0 := bounds_i64 _h0
  have HS := Lib.hid hS
  have CW := Lib.hid (fun (W : World) => text_size q2 W (by omega))
  have CP := Lib.hid (fun (h : 0 ≤ pv) (W : World) => text_any pv W (by omega) (by omega))
  have CN := Lib.hid (fun (W : World) => text_any z0 W hb0.1 hb0.2)
  obtain ⟨c7, hc7⟩ := sign7 q4 (by omega)
  clear hS _h0 _h1 _h2 _h3 _h4 hb0
  go_enter Tryz.func3, Tryz.ntmps3
  go_wp2_with fail
  go_loopw [11, 23] (fun tv iv wr => ∃ (i : Nat) (T : ByteArray), i ≤ 5 ∧ tv = .string T ∧ iv = .int .i64 i ∧ T.size ≤ 1 + i ∧ Hid (Below w.heap.size w wr)) (fun _ iv _ => 5 - (intOf iv).toNat)
  case atStart => exact ⟨0, ⟨#[37]⟩, by omega, rfl, rfl, by decide, Below.refl _ _⟩
  case round =>
    obtain ⟨i, T, hi, rfl, rfl, hT, HB⟩ := hrel
    by_cases hlt : i < 5
    · obtain ⟨c5, hc5⟩ := sign5 i hlt
      have hu : IntKind.u64.wrap (i : Int) = (i : Int) := by rw [IntKind.wrap_u64]; omega
      have hs1 : (T ++ (⟨#[c5]⟩ : ByteArray)).size ≤ 1 + (i + 1) := by rw [ByteArray.size_append]; show _ + 1 ≤ _; omega
      go_upto_if 31 with (fail)
      go_wp2_with fail
      all_goals go_roundw
      all_goals first
        | exact ⟨i + 1, _, by omega, rfl, by go_num, hs1, HB⟩
        | exact ⟨i + 1, _, by omega, rfl, by go_num, (show T.size ≤ 1 + (i + 1) by omega), HB⟩
        | (simp [intOf]; omega)
    · obtain rfl : i = 5 := by omega
      have hT6 : T.size ≤ 6 := by omega
      have hszr := HB.out.size
      clear hT
      go_upto_if 49 with (fail)
      simp only [hz3, Int.cast_ofNat_Int]
      go_cut [11] (fun tv wx => ∃ T1 : ByteArray, tv = .string T1 ∧ T1.size ≤ 71 ∧ Hid (Below w.heap.size w wx))
      case first =>
        by_cases hq : 0 < q2
        · go_wp2_with (go_at_call 6; refine (CW.out _).mono ?_; rintro e w1 ⟨D, hD, rfl, hb1⟩; have s1 : (T ++ D).size ≤ 71 := (by rw [ByteArray.size_append]; omega); have HB1 := Lib.hid (HB.out.trans (hb1.mono HB.out.size)); clear hb1)
          go_meet
          exact ⟨_, rfl, s1, HB1⟩
        · go_wp2_with fail
          go_meet
          exact ⟨_, rfl, by omega, HB⟩
      case rest =>
        obtain ⟨T1, rfl, hT1, HB1⟩ := hcut
        obtain ⟨wr1, hwr1⟩ : ∃ wr1, wr1 = wc := ⟨_, rfl⟩
        subst hwr1
        clear hT6 HB hszr
        go_upto_if 55 with (fail)
        go_cut [11] (fun tv wx => ∃ T2 : ByteArray, tv = .string T2 ∧ T2.size ≤ 137 ∧ Hid (Below w.heap.size w wx))
        case first =>
          by_cases hp0 : 0 ≤ pv
          · go_wp2_with (go_at_call 6; refine (CP.out hp0 _).mono ?_; rintro e w1 ⟨D, hD, rfl, hb1⟩; have s0 : ((⟨#[46]⟩ : ByteArray) ++ D).size ≤ 66 := (by rw [ByteArray.size_append]; show 1 + _ ≤ _; omega); have s1 : (T1 ++ ((⟨#[46]⟩ : ByteArray) ++ D)).size ≤ 137 := (by rw [ByteArray.size_append]; omega); have HB2 := Lib.hid (HB1.out.trans (hb1.mono HB1.out.size)); clear hb1)
            go_meet
            exact ⟨_, rfl, s1, HB2⟩
          · go_wp2_with fail
            go_meet
            exact ⟨_, rfl, by omega, HB1⟩
        case rest =>
          obtain ⟨T2, rfl, hT2, HB2⟩ := hcut
          obtain ⟨wr2, hwr2⟩ : ∃ wr2, wr2 = wc := ⟨_, rfl⟩
          subst hwr2
          have s7 : (T2 ++ (⟨#[c7]⟩ : ByteArray)).size ≤ 138 := by rw [ByteArray.size_append]; show _ + 1 ≤ _; omega
          have s7' : 1 ≤ (T2 ++ (⟨#[c7]⟩ : ByteArray)).size := by rw [ByteArray.size_append]; show 1 ≤ _ + 1; omega
          clear hT1 HB1
          go_upto_if 72 with (fail)
          go_cut [11] (fun tv wx => ∃ T3 : ByteArray, tv = .string T3 ∧ T3.size ≤ 140 ∧ Hid (Below w.heap.size w wx))
          case first =>
            obtain ⟨T7, hT7⟩ : ∃ T7, T7 = T2 ++ (⟨#[c7]⟩ : ByteArray) := ⟨_, rfl⟩
            rw [← hT7] at s7 s7' ⊢
            clear hT7
            by_cases h5 : q4 = 5
            · subst h5
              obtain ⟨m, hm⟩ : ∃ m, T7.size = m + 1 := ⟨T7.size - 1, by omega⟩
              have rs : ∀ W, (Instr.slice 9 (.string T7) none (some (.int .i64 (m : Int))) none).run Tryz.prog W = .ok (.string (T7.extract 0 m)) W := fun W => by
                rw [run_slice_string_to_if W 9 T7 .i64 _ Tryz.underlying9, if_pos (by omega)]; rfl
              have hme : ((T7.size : Nat) : Int) - 1 = (m : Int) := by omega
              have s8 : (T7.extract 0 m ++ (⟨#[88]⟩ : ByteArray)).size ≤ 140 := by rw [ByteArray.size_append, ByteArray.size_extract]; show _ + 1 ≤ _; omega
              go_wp2_with fail
              go_meet
              exact ⟨_, rfl, s8, HB2⟩
            · have e5 := eqF h5
              simp only [Int.cast_ofNat_Int] at e5
              go_wp2_with fail
              go_meet
              exact ⟨_, rfl, by omega, HB2⟩
          case rest =>
            obtain ⟨T, rfl, hT3, HB3⟩ := hcut
            obtain ⟨wr3, hwr3⟩ : ∃ wr3, wr3 = wc := ⟨_, rfl⟩
            subst hwr3
            have hTm : T.size ≤ maxLen := by unfold maxLen; omega
            clear s7 s7' hT2 HB2
            go_wp2_with fail
            refine (CN.out _).mono ?_
            rintro e w4 ⟨D, hD, rfl, hb4⟩
            obtain ⟨ao, hao⟩ : ∃ ao : Option Addr, ao = some ⟨w4.heap.size, 0, none⟩ := ⟨_, rfl⟩
            have hb40 := HB3.out.trans (hb4.mono HB3.out.size)
            have hb0 := hb40.alloc hb40.size (.cells #[.string D] 9)
            have HO0 : Ss (w4.alloc (.cells #[.string D] 9)) (some ⟨w4.heap.size, 0, none⟩) 1 [D] := ⟨Nat.le_refl _, by unfold maxLen; omega, fun i hi => by
              have hi0 : i = 0 := by simpa using hi
              subst hi0
              exact ⟨w4.heap.size, 0, rfl, by rw [cell_of_row _ w4.heap.size _ _ _ (0, 0) (heap_alloc_new w4 _)]; rfl⟩⟩
            have HB0 := Lib.hid hb0
            have HS0 := Lib.hid (HS.out.kept hb0 (Nat.le_refl _))
            have HO0 := Lib.hid HO0
            clear hb4 hb40 hb0 HB3
            go_upto_region 18 with (fail)
            rw [← hao] at HO0 ⊢
            generalize w4.alloc (.cells #[.string D] 9) = w0 at HB0 HS0 HO0 ⊢
            clear hao
            obtain ⟨X1, gc1, rc1, hbs1, hbx1⟩ := conv_bytes w0 T hTm
            have CPF := fill_Printf X1 A (HS0.out.kept hbx1 (Nat.le_refl _)).toSents0 _ gc1 (bl T) hbs1 ao 1 [D] (HO0.out.below hbx1 (Nat.le_refl _))
            rw [bl_length, show ([D] : List ByteArray).map bl = [bl D] from rfl, show ([D] : List ByteArray).length = 1 from rfl] at CPF
            have HBX1 := Lib.hid hbx1
            clear hbs1 hbx1
            cases hp : parse (bl T) with
            | error cq =>
              obtain ⟨c, q⟩ := cq
              rw [printf_err hp] at CPF
              have CPF := Lib.hid CPF
              have HP := Lib.hid hp
              clear hp
              go_wp2_with fail
              refine CPF.out.mono ?_
              rintro e w1 ⟨hb1, v, rfl, hE⟩
              obtain ⟨ty, x, rfl⟩ : ∃ t x, v = .iface t x := by obtain ⟨b, hc, _⟩ := hE; exact hc.iface
              obtain ⟨X2, gc2, rc2, hbs2, hbx2⟩ := conv_bytes (w1.alloc (.cells #[.slice none 0 0, .slice none 0 0, .bool false] 28)) T hTm
              have CR := ref_Parse _ gc2 (bl T) X2 hbs2
              rw [HP.out, bl_length, World.size_alloc] at CR
              rw [World.size_alloc] at rc2
              have CR := Lib.hid CR
              have HBX2 := Lib.hid hbx2
              clear hbs2 hbx2
              have HE := Lib.hid hE
              have HB1 := Lib.hid (HBX1.out.trans (hb1.mono HBX1.out.size))
              clear hb1 hE
              go_wp2_with fail
              refine CR.out.mono ?_
              rintro e w2 ⟨hb2, rfl⟩
              have b1 := belowS w1 (.cells #[.slice none 0 0, .slice none 0 0, .bool false] 28)
              have b1x := b1.trans (HBX2.out.mono b1.size)
              have b12 := b1x.trans (hb2.mono b1x.size)
              have b3 := belowS w2 (.cells #[.int .i64 c, .int .i64 q, .int .i64 5] 35)
              have b13 := b12.trans (b3.mono b12.size)
              have HB13 := Lib.hid b13
              have B03 := HB1.out.trans (b13.mono HB1.out.size)
              have CQ := Lib.hid (ref_Run0 (w2.alloc (.cells #[.int .i64 c, .int .i64 q, .int .i64 5] 35)) ao 1 D (HO0.out.below B03 (Nat.le_refl _)) (by omega))
              have brx := blk_behind HBX2.out
              have HBF := Lib.hid (Blk.new w2 35 #[.int .i64 c, .int .i64 q, .int .i64 5])
              have HBR := Lib.hid ((brx.below hb2 brx.lt).alloc (.cells #[.int .i64 c, .int .i64 q, .int .i64 5] 35))
              have hs12 : w1.heap.size < w2.heap.size := by have h1 := HBX2.out.size; have h2 := hb2.size; rw [World.size_alloc] at h1; omega
              clear b1 b1x b12 b3 b13 hb2 B03 CR brx 
              go_wp2_with fail
              refine CQ.out.mono ?_
              rintro e w3 ⟨hb3, xo, xc, rfl, hxo, hxc⟩
              obtain ⟨xa, xac, rfl, _⟩ := ownsRow_form hxo
              obtain ⟨ya, yac, rfl, _⟩ := ownsRow_form hxc
              have hs23 : w2.heap.size < w3.heap.size := by have h1 := hb3.size; rw [World.size_alloc] at h1; omega
              have bb : Below w3.heap.size w3 ((w3.alloc (.cells #[.slice xa 0 xac, .slice ya 0 yac, .bool false] 28)).alloc (.cells #[.int .i64 0, .int .i64 0, .int .i64 0] 35)) := ((Below.refl _ _).alloc (Nat.le_refl _) _).alloc (by simp) _
              have kf2 := ((HBF.out.below hb3 HBF.out.lt).alloc (.cells #[.slice xa 0 xac, .slice ya 0 yac, .bool false] 28)).alloc (.cells #[.int .i64 0, .int .i64 0, .int .i64 0] 35)
              have kr2 := ((HBR.out.below hb3 HBR.out.lt).alloc (.cells #[.slice xa 0 xac, .slice ya 0 yac, .bool false] 28)).alloc (.cells #[.int .i64 0, .int .i64 0, .int .i64 0] 35)
              have kx2 := (Blk.new w3 28 #[.slice xa 0 xac, .slice ya 0 yac, .bool false]).alloc (.cells #[.int .i64 0, .int .i64 0, .int .i64 0] 35)
              have kg2 := Blk.new (w3.alloc (.cells #[.slice xa 0 xac, .slice ya 0 yac, .bool false] 28)) 35 #[.int .i64 0, .int .i64 0, .int .i64 0]
              rw [World.size_alloc] at kg2
              have xo2 := ownsRow_below hxo bb (Nat.le_refl _)
              have xc2 := ownsRow_below hxc bb (Nat.le_refl _)
              have b16 := (HB13.out.trans (hb3.mono HB13.out.size)).trans (bb.mono (HB13.out.trans (hb3.mono HB13.out.size)).size)
              have HPS := Lib.hid (PrS.errX (w := w0) HS0.out (HE.out.kept b16 (Nat.le_refl _)) kf2 kr2 xo2 xc2 rfl rfl kx2 (HB1.out.trans (b16.mono HB1.out.size)))
              have HBG := Lib.hid kg2
              clear bb  hxo hxc xo2 xc2 hb3 kf2 kx2 kr2 kg2 b16 HBF HBR CQ HE
              go_upto_region 21 with (fail)
              generalize (w3.alloc (.cells #[.slice xa 0 xac, .slice ya 0 yac, .bool false] 28)).alloc (.cells #[.int .i64 0, .int .i64 0, .int .i64 0] 35) = W6 at HPS HBG ⊢
              have qg0 := HBG.out.cell 0
              have qg1 := HBG.out.cell 1
              have qg2 := HBG.out.cell 2
              have HPX := Lib.hid HPS.out.bel
              obtain ⟨r0, r1, r2, x0, x1, x2, br, bx, hsm⟩ := HPS.out.same
              have bf := HPS.out.bf
              have qf0 := bf.cell 0
              have qf1 := bf.cell 1
              have qf2 := bf.cell 2
              have qr0 := br.cell 0
              have qr1 := br.cell 1
              have qr2 := br.cell 2
              have qx0 := bx.cell 0
              have qx1 := bx.cell 1
              have qx2 := bx.cell 2
              have CT := Lib.hid HPS.out.tell
              have CS := Lib.hid hsm
              have CA := Lib.hid (fun (W : World) (hb : Below W6.heap.size W6 W) => fill_awake W A (HS0.out.kept (HPX.out.trans (hb.mono HPX.out.size)) (Nat.le_refl _)).toSents0)
              have HBF := Lib.hid bf
              have HBR := Lib.hid br
              have HBX := Lib.hid bx
              clear bf br bx hsm HPS
              go_upto_region 21 with (fail)
              go_region_with (first
                | (go_at_call 10; refine (CT.out _ (by first | exact Below.refl _ _ | exact (Below.refl _ _).drew)).mono ?_; rintro e w7 ⟨rfl, hb7⟩; have hbx : Below W6.heap.size W6 w7 := (by first | exact hb7 | exact ((Below.refl _ _).drew).trans hb7); have j1 := HBF.out.below hbx HBF.out.lt; have j2 := HBR.out.below hbx HBR.out.lt; have j3 := HBX.out.below hbx HBX.out.lt; have jf0 := j1.cell 0; have jf1 := j1.cell 1; have jf2 := j1.cell 2; have jr0 := j2.cell 0; have jr1 := j2.cell 1; have jr2 := j2.cell 2; have jx0 := j3.cell 0; have jx1 := j3.cell 1; have jx2 := j3.cell 2; have j4 := HBG.out.below hbx HBG.out.lt; have jg0 := j4.cell 0; have jg1 := j4.cell 1; have jg2 := j4.cell 2; have HB7 := Lib.hid hbx; clear hb7 hbx j1 j2 j3 j4)
                | (go_at_call 11; refine (CS.out _ HB7.out).mono ?_; rintro e w8 ⟨rfl, hb8⟩; have HB8 := Lib.hid (HB7.out.trans (hb8.mono HB7.out.size)); clear hb8)
                | (go_at_call 12; refine (CA.out _ HB8.out).mono ?_; rintro e w9 ⟨rfl, hb9⟩; have HB9 := Lib.hid (HB8.out.trans (hb9.mono HB8.out.size)); clear hb9))
              all_goals go_wp2_with fail
              all_goals go_ret
              all_goals exact ⟨rfl, HB0.out.trans ((HPX.out.trans (HB9.out.mono HPX.out.size)).mono HB0.out.size)⟩
            | ok L =>
              rw [printf_ok hp] at CPF
              have HP := Lib.hid hp
              have CRR := fun (B : Nat) (v : Value) (W : World) (hpc : PartsC B W v (L.map norm)) (hs : Ss W ao 1 [D]) => ref_RunL B v (bl T) L HP.out W hpc ao 1 [D] hs
              clear hp
              rw [run_one1 L (bl D) (by rw [bl_length]; omega)] at CPF
              simp only [show ([D] : List ByteArray).map bl = [bl D] from rfl, show ([D] : List ByteArray).length = 1 from rfl, run_one1 L (bl D) (by rw [bl_length]; omega)] at CRR
              obtain ⟨r1, hr1⟩ : ∃ r1, r1 = runF 2 L [bl D] ⟨[], [], false⟩ := ⟨_, rfl⟩
              rw [← hr1] at CPF
              simp only [← hr1] at CRR
              clear hr1
              have CPF := Lib.hid CPF
              have CRR := Lib.hid CRR
              go_wp2_with fail
              refine CPF.out.mono ?_
              rintro e w1 ⟨hb1, vo, vc, rfl, ho, hc⟩
              obtain ⟨no, hno⟩ : ∃ no, no = r1.out.length := ⟨_, rfl⟩
              obtain ⟨nc, hnc⟩ : ∃ nc, nc = r1.codes.length := ⟨_, rfl⟩
              rw [← hno] at ho
              rw [← hnc] at hc
              obtain ⟨oa, oc, rfl, _⟩ := ownsRow_form ho
              obtain ⟨ca, cc, rfl, _⟩ := ownsRow_form hc
              obtain ⟨X2, gc2, rc2, hbs2, hbx2⟩ := conv_bytes (w1.alloc (.cells #[.slice oa no oc, .slice ca nc cc, .bool r1.stop] 28)) T hTm
              have CR := ref_Parse _ gc2 (bl T) X2 hbs2
              rw [HP.out, bl_length, World.size_alloc] at CR
              rw [World.size_alloc] at rc2
              have CR := Lib.hid CR
              have HBX2 := Lib.hid hbx2
              clear hbs2 hbx2
              have HHO := Lib.hid ho
              have HHC := Lib.hid hc
              have HNO := Lib.hid hno
              have HNC := Lib.hid hnc
              have HB1 := Lib.hid (HBX1.out.trans (hb1.mono HBX1.out.size))
              clear hb1 ho hc hno hnc
              go_wp2_with fail
              refine CR.out.mono ?_
              rintro e w2 ⟨hb2, pv, rfl, hpc⟩
              have b1 := belowS w1 (.cells #[.slice oa no oc, .slice ca nc cc, .bool r1.stop] 28)
              have b1x := b1.trans (HBX2.out.mono b1.size)
              have b12 := b1x.trans (hb2.mono b1x.size)
              have b3 := belowS w2 (.cells #[.int .i64 0, .int .i64 0, .int .i64 0] 35)
              have b13 := b12.trans (b3.mono b12.size)
              have HB13 := Lib.hid b13
              have B03 := HB1.out.trans (b13.mono HB1.out.size)
              have CQ := Lib.hid (CRR.out _ _ _ (hpc.below b3 (Nat.le_refl _)) (HO0.out.below B03 (Nat.le_refl _)))
              have brx := blk_behind HBX2.out
              have HBF := Lib.hid (Blk.new w2 35 #[.int .i64 0, .int .i64 0, .int .i64 0])
              have HBR := Lib.hid ((brx.below hb2 brx.lt).alloc (.cells #[.int .i64 0, .int .i64 0, .int .i64 0] 35))
              have hs12 : w1.heap.size < w2.heap.size := by have h1 := HBX2.out.size; have h2 := hb2.size; rw [World.size_alloc] at h1; omega
              clear b1 b1x b12 b3 b13 hb2 B03 CR brx hpc
              go_wp2_with fail
              refine CQ.out.mono ?_
              rintro e w3 ⟨hb3, xo, xc, rfl, hxo, hxc⟩
              obtain ⟨mo, hmo⟩ : ∃ mo, mo = r1.out.length := ⟨_, rfl⟩
              obtain ⟨mc, hmc⟩ : ∃ mc, mc = r1.codes.length := ⟨_, rfl⟩
              rw [← hmo] at hxo
              rw [← hmc] at hxc
              obtain ⟨xa, xac, rfl, _⟩ := ownsRow_form hxo
              obtain ⟨ya, yac, rfl, _⟩ := ownsRow_form hxc
              have hs23 : w2.heap.size < w3.heap.size := by have h1 := hb3.size; rw [World.size_alloc] at h1; omega
              have bb : Below w3.heap.size w3 ((w3.alloc (.cells #[.slice xa mo xac, .slice ya mc yac, .bool r1.stop] 28)).alloc (.cells #[.int .i64 0, .int .i64 0, .int .i64 0] 35)) := ((Below.refl _ _).alloc (Nat.le_refl _) _).alloc (by simp) _
              have kf2 := ((HBF.out.below hb3 HBF.out.lt).alloc (.cells #[.slice xa mo xac, .slice ya mc yac, .bool r1.stop] 28)).alloc (.cells #[.int .i64 0, .int .i64 0, .int .i64 0] 35)
              have kr2 := ((HBR.out.below hb3 HBR.out.lt).alloc (.cells #[.slice xa mo xac, .slice ya mc yac, .bool r1.stop] 28)).alloc (.cells #[.int .i64 0, .int .i64 0, .int .i64 0] 35)
              have kx2 := (Blk.new w3 28 #[.slice xa mo xac, .slice ya mc yac, .bool r1.stop]).alloc (.cells #[.int .i64 0, .int .i64 0, .int .i64 0] 35)
              have kg2 := Blk.new (w3.alloc (.cells #[.slice xa mo xac, .slice ya mc yac, .bool r1.stop] 28)) 35 #[.int .i64 0, .int .i64 0, .int .i64 0]
              rw [World.size_alloc] at kg2
              have xo2 := ownsRow_below hxo bb (Nat.le_refl _)
              have xc2 := ownsRow_below hxc bb (Nat.le_refl _)
              have b16 := (HB13.out.trans (hb3.mono HB13.out.size)).trans (bb.mono (HB13.out.trans (hb3.mono HB13.out.size)).size)
              have HPS := Lib.hid (PrS.ok (w := w0) (ownsRow_below HHO.out b16 (Nat.le_refl _)) (ownsRow_below HHC.out b16 (Nat.le_refl _)) xo2 xc2 HNO.out HNC.out hmo hmc kf2 kr2 kx2 (HB1.out.trans (b16.mono HB1.out.size)))
              have HBG := Lib.hid kg2
              clear bb hmo hmc hxo hxc xo2 xc2 hb3 kf2 kx2 kr2 kg2 b16 HBF HBR CQ 
              go_upto_region 21 with (fail)
              generalize (w3.alloc (.cells #[.slice xa mo xac, .slice ya mc yac, .bool r1.stop] 28)).alloc (.cells #[.int .i64 0, .int .i64 0, .int .i64 0] 35) = W6 at HPS HBG ⊢
              have qg0 := HBG.out.cell 0
              have qg1 := HBG.out.cell 1
              have qg2 := HBG.out.cell 2
              have HPX := Lib.hid HPS.out.bel
              obtain ⟨r0, r1, r2, x0, x1, x2, br, bx, hsm⟩ := HPS.out.same
              have bf := HPS.out.bf
              have qf0 := bf.cell 0
              have qf1 := bf.cell 1
              have qf2 := bf.cell 2
              have qr0 := br.cell 0
              have qr1 := br.cell 1
              have qr2 := br.cell 2
              have qx0 := bx.cell 0
              have qx1 := bx.cell 1
              have qx2 := bx.cell 2
              have CT := Lib.hid HPS.out.tell
              have CS := Lib.hid hsm
              have CA := Lib.hid (fun (W : World) (hb : Below W6.heap.size W6 W) => fill_awake W A (HS0.out.kept (HPX.out.trans (hb.mono HPX.out.size)) (Nat.le_refl _)).toSents0)
              have HBF := Lib.hid bf
              have HBR := Lib.hid br
              have HBX := Lib.hid bx
              clear bf br bx hsm HPS
              go_upto_region 21 with (fail)
              go_region_with (first
                | (go_at_call 10; refine (CT.out _ (by first | exact Below.refl _ _ | exact (Below.refl _ _).drew)).mono ?_; rintro e w7 ⟨rfl, hb7⟩; have hbx : Below W6.heap.size W6 w7 := (by first | exact hb7 | exact ((Below.refl _ _).drew).trans hb7); have j1 := HBF.out.below hbx HBF.out.lt; have j2 := HBR.out.below hbx HBR.out.lt; have j3 := HBX.out.below hbx HBX.out.lt; have jf0 := j1.cell 0; have jf1 := j1.cell 1; have jf2 := j1.cell 2; have jr0 := j2.cell 0; have jr1 := j2.cell 1; have jr2 := j2.cell 2; have jx0 := j3.cell 0; have jx1 := j3.cell 1; have jx2 := j3.cell 2; have j4 := HBG.out.below hbx HBG.out.lt; have jg0 := j4.cell 0; have jg1 := j4.cell 1; have jg2 := j4.cell 2; have HB7 := Lib.hid hbx; clear hb7 hbx j1 j2 j3 j4)
                | (go_at_call 11; refine (CS.out _ HB7.out).mono ?_; rintro e w8 ⟨rfl, hb8⟩; have HB8 := Lib.hid (HB7.out.trans (hb8.mono HB7.out.size)); clear hb8)
                | (go_at_call 12; refine (CA.out _ HB8.out).mono ?_; rintro e w9 ⟨rfl, hb9⟩; have HB9 := Lib.hid (HB8.out.trans (hb9.mono HB8.out.size)); clear hb9))
              all_goals go_wp2_with fail
              all_goals go_ret
              all_goals exact ⟨rfl, HB0.out.trans ((HPX.out.trans (HB9.out.mono HPX.out.size)).mono HB0.out.size)⟩
end Go.Proofs.YtppcjmbblkbkdaaGreatDoor
