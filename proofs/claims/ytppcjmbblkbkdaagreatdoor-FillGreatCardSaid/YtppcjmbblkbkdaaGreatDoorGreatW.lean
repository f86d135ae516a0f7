/- The walk of pidginlaw15.FillGreat: it returns true. Conditions as typed. -/
import Derived.Test.YtppcjmbblkbkdaaGreatDoorGreatP
namespace Go.Proofs.YtppcjmbblkbkdaaGreatDoor
open Go.RowKit Pg

set_option maxRecDepth 100000 in
set_option maxHeartbeats 8000000 in
/-- FillGreat: it returns true. -/
theorem fillGreat_walk (z0 z1 z2 : Int) (S : ByteArray) (w : World) (A : Nat → Addr) (hS : Sents w A) (_h0 : (Lit.int .i64 z0).wf = true) (_h1 : (Lit.int .i64 z1).wf = true) (_h2 : (Lit.int .i64 z2).wf = true) (_hs : S.size ≤ maxLen) :
    Calls Tryz.prog 4 #[.int .i64 z0, .int .i64 z1, .int .i64 z2, .string S] w fun e w' => e = .returned (.bool true) ∧ Below w.heap.size w w' := by
  obtain ⟨q0, hq0, hz0⟩ := ixS z0 1000 (by omega) (by omega)
  obtain ⟨q1, hq1, hz1⟩ := ixS z1 120 (by omega) (by omega)
  obtain ⟨q2, hq2, hz2⟩ := ixS z2 70 (by omega) (by omega)
  obtain ⟨i2, hi2, hx0, hx1, hx2⟩ := info_parts Tryz.infoStr
  have HS := Lib.hid hS
  have CT := Lib.hid (fun (W : World) => text_size (q0 + 1) W (by omega))
  have hsm := _hs
  unfold maxLen at hsm
  clear hS _hs
  go_enter Tryz.func4, Tryz.ntmps4
  go_wp2_with fail
  go_loopw [9, 30] (fun tv iv wr => ∃ (i : Nat) (T : ByteArray), i ≤ q1 ∧ tv = .string T ∧ iv = .int .i64 i ∧ T.size ≤ 70 * i ∧ Hid (Below w.heap.size w wr)) (fun _ iv _ => q1 - (intOf iv).toNat)
  case atStart => exact ⟨0, ⟨#[]⟩, by omega, rfl, rfl, by decide, Below.refl _ _⟩
  case round =>
    obtain ⟨i, T, hi, rfl, rfl, hT, HB⟩ := hrel
    by_cases hlt : i < q1
    · go_wp2_with fail
      refine (CT.out _).mono ?_
      rintro e w1 ⟨D, hD, rfl, hb1⟩
      have s1 : ((⟨#[37]⟩ : ByteArray) ++ D).size ≤ 66 := by rw [ByteArray.size_append]; show 1 + D.size ≤ 66; omega
      have s2 : ((⟨#[37]⟩ : ByteArray) ++ D ++ ⟨#[115]⟩).size ≤ 67 := by rw [ByteArray.size_append]; show _ + 1 ≤ 67; omega
      have s3 : (T ++ ((⟨#[37]⟩ : ByteArray) ++ D ++ ⟨#[115]⟩)).size ≤ 70 * (i + 1) := by rw [ByteArray.size_append]; omega
      have HB1 := Lib.hid (HB.out.trans (hb1.mono HB.out.size))
      clear hb1
      go_wp2_with fail
      go_roundw
      case rel => exact ⟨i + 1, _, by omega, rfl, by go_num, s3, HB1⟩
      case measure => simp [intOf]; omega
    · obtain rfl : i = q1 := by omega
      have hszr := HB.out.size
      go_wp2_with fail
      go_loopw [10, 40] (fun lv iv wr => ∃ (ops : List ByteArray) (n : Nat), n = ops.length ∧ n ≤ q2 ∧ iv = .int .i64 n ∧ (∃ a c, lv = .slice a n c) ∧ Hid (wr.ownsRow w.heap.size 9 1 lv n (ops.map Value.string)) ∧ Hid (Below w.heap.size w wr)) (fun _ iv _ => q2 - (intOf iv).toNat)
      case atStart => exact ⟨[], 0, rfl, by omega, rfl, ⟨none, 0, rfl⟩, World.ownsRow_nil _ _ _ _, HB.out⟩
      case round =>
        obtain ⟨ops, n, hn, hnq, rfl, ⟨ao, capo, rfl⟩, HR, HB2⟩ := hrel
        have HN := Lib.hid hn
        have hszr2 := HB2.out.size
        clear hn
        by_cases hlt2 : n < q2
        · go_wp2_with (at_builtin; refine wpList_append_lies _ rfl (.tmp 42) (.tmp 44) _ rfl w.heap.size 9 i2 _ 1 16 Tryz.underlying24 hi2 hx0 hx1 hx2 rfl (by omega) (.slice ao n capo) n (ops.map Value.string) rfl (HR.out.alloc _) ⟨wr.heap.size, 0, none⟩ 1 1 [.string S] rfl rfl (World.news_of_block (cs := #[.string S]) (t := 9) (fr := (0, 0)) (heap_alloc_new wr _)) (by simp [Value.oneCell']) (by omega) (by unfold maxLen; omega) (by omega) (by simp; omega) (wr.heap.size + 1) (by simp) ?_; intro gg cap3 w8 hown3 hgrow3 hat3 hlt3; have HB8 := Lib.hid ((HB2.out.alloc hszr2 (.cells #[.string S] 9)).grown hgrow3 (by rw [World.size_alloc]; omega) (fun j hj => (HR.out.lt j hj).1)); have HOWN3 := Lib.hid hown3; clear hown3 hgrow3 hat3)
          go_roundw
          case rel => exact ⟨ops ++ [S], n + 1, by rw [List.length_append, ← HN.out]; rfl, by omega, by go_num, ⟨_, _, rfl⟩, by show World.ownsRow _ _ _ _ _ _ _; rw [List.map_append]; exact HOWN3.out, HB8⟩
          case measure => simp [intOf]; omega
        · have hso := Ss.own HR.out HN.out
          have hT9 : T.size ≤ 9000 := by omega
          have hTm : T.size ≤ maxLen := by unfold maxLen; omega
          have hoc := hso.1
          have hom := hso.2.1
          rw [← HN.out] at hoc
          unfold maxLen at hom
          obtain ⟨w0, hw0⟩ : ∃ w0, w0 = wr := ⟨_, rfl⟩
          subst hw0
          have HS0 := Lib.hid (HS.out.kept HB2.out (Nat.le_refl _))
          have HO0 := Lib.hid hso
          have HB0 := HB2
          have hn := HN.out
          subst hn
          clear hso HN
          go_upto_if 49 with (fail)
          go_cut [3] (fun _ wx => wx = w0)
          case first =>
            by_cases hbig : 1100 < S.size
            · have ebig : decide (1100 < (S.size : Int)) = true := decide_eq_true (by omega)
              have ebj : ¬ (S.size : Int) ≤ 1100 := by omega
              have ebk : (1100 : Int) < (S.size : Int) := by omega
              have ebl : ¬ S.size ≤ 1100 := by omega
              have rs : ∀ W, (Instr.slice 9 (.string S) none (some (.int .i64 1100)) none).run Tryz.prog W = .ok (.string (S.extract 0 1100)) W := fun W => by
                rw [run_slice_string_to_if W 9 S .i64 _ Tryz.underlying9, if_pos (by omega)]; rfl
              clear hbig
              go_wp2_with fail
              go_meet
              exact rfl
            · have ebig : decide (1100 < (S.size : Int)) = false := decide_eq_false (by omega)
              have ebj : (S.size : Int) ≤ 1100 := by omega
              have ebk : ¬ (1100 : Int) < (S.size : Int) := by omega
              have ebl : S.size ≤ 1100 := by omega
              clear hbig
              go_wp2_with fail
              go_meet
              exact rfl
          case rest =>
            have hw : wc = w0 := hcut
            subst hw
            obtain ⟨w0, hw0⟩ : ∃ w0, w0 = wc := ⟨_, rfl⟩
            subst hw0
            obtain ⟨X1, gc1, rc1, hbs1, hbx1⟩ := conv_bytes w0 T hTm
            have CPF := fill_Printf X1 A (HS0.out.kept hbx1 (Nat.le_refl _)).toSents0 _ gc1 (bl T) hbs1 ao capo ops (HO0.out.below hbx1 (Nat.le_refl _))
            rw [bl_length] at CPF
            have HBX1 := Lib.hid hbx1
            clear hbs1 hbx1
            cases hp : parse (bl T) with
            | error cq =>
              obtain ⟨c, q⟩ := cq
              rw [printf_err hp] at CPF
              have CPF := Lib.hid CPF
              have hcc := parse_code hp
              have ecc : ((c : Int) == 0) = false := beq_eq_false_iff_ne.2 (by omega)
              have HP := Lib.hid hp
              clear hp hcc
              go_wp2_with fail
              refine CPF.out.mono ?_
              rintro e w1 ⟨hb1, v, rfl, hE⟩
              obtain ⟨ty, x, rfl⟩ : ∃ t x, v = .iface t x := by obtain ⟨b, hc, _⟩ := hE; exact hc.iface
              obtain ⟨X2, gc2, rc2, hbs2, hbx2⟩ := conv_bytes (w1.alloc (.cells #[.slice none 0 0, .slice none 0 0, .bool false] 28)) T hTm
              have CR := ref_Parse _ gc2 (bl T) X2 hbs2
              rw [HP.out, bl_length, World.size_alloc] at CR
              rw [World.size_alloc] at rc2
              have CR := Lib.hid CR
              have HBX2 := Lib.hid hbx2
              clear hbs2 hbx2
              have HE := Lib.hid hE
              have HB1 := Lib.hid (HBX1.out.trans (hb1.mono HBX1.out.size))
              clear hE hb1
              go_wp2_with fail
              refine CR.out.mono ?_
              rintro e w2 ⟨hb2, rfl⟩
              have b1 := belowS w1 (.cells #[.slice none 0 0, .slice none 0 0, .bool false] 28)
              have b1x := b1.trans (HBX2.out.mono b1.size)
              have b12 := b1x.trans (hb2.mono b1x.size)
              have b3 : Below w2.heap.size w2 ((w2.alloc (.cells #[.int .i64 c, .int .i64 q, .int .i64 5] 35)).alloc (.cells #[.slice none 0 0, .slice none 0 0, .bool false] 28)) := ((Below.refl _ _).alloc (Nat.le_refl _) _).alloc (by simp) _
              have b13 := b12.trans (b3.mono b12.size)
              have bx := Blk.new (w2.alloc (.cells #[.int .i64 c, .int .i64 q, .int .i64 5] 35)) 28 #[.slice none 0 0, .slice none 0 0, .bool false]
              rw [World.size_alloc] at bx
              have brx := blk_behind HBX2.out
              have HPS := Lib.hid (PrS.err (w := w0) (gr := w1.heap.size) (gf := w2.heap.size) (gx := w2.heap.size + 1) HS0.out (HE.out.kept b13 (Nat.le_refl _)) ((Blk.new w2 35 _).alloc _) (((brx.below hb2 brx.lt).alloc _).alloc _) bx (HB1.out.trans (b13.mono HB1.out.size)))
              clear b1 b1x b12 b3 b13 bx hb2 brx
              go_upto_region 19 with (fail)
              generalize (w2.alloc (.cells #[.int .i64 c, .int .i64 q, .int .i64 5] 35)).alloc (.cells #[.slice none 0 0, .slice none 0 0, .bool false] 28) = W6 at HPS ⊢
              have HPX := Lib.hid HPS.out.bel
              obtain ⟨r0, r1, r2, x0, x1, x2, br, bx, hsm⟩ := HPS.out.same
              have bf := HPS.out.bf
              have qf0 := bf.cell 0
              have qf1 := bf.cell 1
              have qf2 := bf.cell 2
              have qr0 := br.cell 0
              have qr1 := br.cell 1
              have qr2 := br.cell 2
              have qx0 := bx.cell 0
              have qx1 := bx.cell 1
              have qx2 := bx.cell 2
              have CT := Lib.hid HPS.out.tell
              have CS := Lib.hid hsm
              have CA := Lib.hid (fun (W : World) (hb : Below W6.heap.size W6 W) => fill_awake W A (HS0.out.kept (HPX.out.trans (hb.mono HPX.out.size)) (Nat.le_refl _)).toSents0)
              have HBF := Lib.hid bf
              have HBR := Lib.hid br
              have HBX := Lib.hid bx
              clear bf br bx hsm HPS
              go_upto_region 19 with (fail)
              go_region_with (first
                | (go_at_call 10; refine (CT.out _ (by first | exact Below.refl _ _ | exact (Below.refl _ _).drew)).mono ?_; rintro e w7 ⟨rfl, hb7⟩; have hbx : Below W6.heap.size W6 w7 := (by first | exact hb7 | exact ((Below.refl _ _).drew).trans hb7); have j1 := HBF.out.below hbx HBF.out.lt; have j2 := HBR.out.below hbx HBR.out.lt; have j3 := HBX.out.below hbx HBX.out.lt; have jf0 := j1.cell 0; have jf1 := j1.cell 1; have jf2 := j1.cell 2; have jr0 := j2.cell 0; have jr1 := j2.cell 1; have jr2 := j2.cell 2; have jx0 := j3.cell 0; have jx1 := j3.cell 1; have jx2 := j3.cell 2; have HB7 := Lib.hid hbx; clear hb7 hbx j1 j2 j3)
                | (go_at_call 11; refine (CS.out _ HB7.out).mono ?_; rintro e w8 ⟨rfl, hb8⟩; have HB8 := Lib.hid (HB7.out.trans (hb8.mono HB7.out.size)); clear hb8)
                | (go_at_call 12; refine (CA.out _ HB8.out).mono ?_; rintro e w9 ⟨rfl, hb9⟩; have HB9 := Lib.hid (HB8.out.trans (hb9.mono HB8.out.size)); clear hb9))
              all_goals go_wp2_with fail
              all_goals go_ret
              all_goals exact ⟨rfl, HB0.out.trans ((HPX.out.trans (HB9.out.mono HPX.out.size)).mono HB0.out.size)⟩
            | ok L =>
              rw [printf_ok hp] at CPF
              have HP := Lib.hid hp
              have CRR := fun (B : Nat) (v : Value) (W : World) (hpc : PartsC B W v (L.map norm)) (hs : Ss W ao capo ops) => ref_RunL B v (bl T) L HP.out W hpc ao capo ops hs
              clear hp
              cases hr : run L (ops.map bl) with
              | error cq =>
                obtain ⟨c, q⟩ := cq
                rw [hr] at CPF
                simp only [hr] at CRR
                have CPF := Lib.hid CPF
                have CRR := Lib.hid CRR
                clear hr
                go_wp2_with fail
                refine CPF.out.mono ?_
                rintro e w1 ⟨hb1, v, rfl, hE⟩
                obtain ⟨ty, x, rfl⟩ : ∃ t x, v = .iface t x := by obtain ⟨b, hc, _⟩ := hE; exact hc.iface
                obtain ⟨X2, gc2, rc2, hbs2, hbx2⟩ := conv_bytes (w1.alloc (.cells #[.slice none 0 0, .slice none 0 0, .bool false] 28)) T hTm
                have CR := ref_Parse _ gc2 (bl T) X2 hbs2
                rw [HP.out, bl_length, World.size_alloc] at CR
                rw [World.size_alloc] at rc2
                have CR := Lib.hid CR
                have HBX2 := Lib.hid hbx2
                clear hbs2 hbx2
                have HE := Lib.hid hE
                have HB1 := Lib.hid (HBX1.out.trans (hb1.mono HBX1.out.size))
                clear hE hb1
                go_wp2_with fail
                refine CR.out.mono ?_
                rintro e w2 ⟨hb2, pv, rfl, hpc⟩
                have b1 := belowS w1 (.cells #[.slice none 0 0, .slice none 0 0, .bool false] 28)
                have b1x := b1.trans (HBX2.out.mono b1.size)
                have b12 := b1x.trans (hb2.mono b1x.size)
                have b3 : Below w2.heap.size w2 ((w2.alloc (.cells #[.int .i64 0, .int .i64 0, .int .i64 0] 35)).alloc (.cells #[.slice none 0 0, .slice none 0 0, .bool false] 28)) := ((Below.refl _ _).alloc (Nat.le_refl _) _).alloc (by simp) _
                have b13 := b12.trans (b3.mono b12.size)
                have B03 := HB1.out.trans (b13.mono HB1.out.size)
                have HB13 := Lib.hid b13
                have CQ := Lib.hid (CRR.out _ _ _ (hpc.below b3 (Nat.le_refl _)) (HO0.out.below B03 (Nat.le_refl _)))
                have bx := Blk.new (w2.alloc (.cells #[.int .i64 0, .int .i64 0, .int .i64 0] 35)) 28 #[.slice none 0 0, .slice none 0 0, .bool false]
                rw [World.size_alloc] at bx
                have brx := blk_behind HBX2.out
                have HBX := Lib.hid bx
                have HBF := Lib.hid ((Blk.new w2 35 #[.int .i64 0, .int .i64 0, .int .i64 0]).alloc (.cells #[.slice none 0 0, .slice none 0 0, .bool false] 28))
                have HBR := Lib.hid (((brx.below hb2 brx.lt).alloc (.cells #[.int .i64 0, .int .i64 0, .int .i64 0] 35)).alloc (.cells #[.slice none 0 0, .slice none 0 0, .bool false] 28))
                have hs12 : w1.heap.size < w2.heap.size := by have h1 := HBX2.out.size; have h2 := hb2.size; rw [World.size_alloc] at h1; omega
                clear b1 b1x b12 b3 b13 bx hb2 hpc B03 CR brx
                go_wp2_with fail
                refine CQ.out.mono ?_
                rintro e w3 ⟨hb3, rfl⟩
                have kx := HBX.out.below hb3 HBX.out.lt
                have kf := HBF.out.below hb3 HBF.out.lt
                have kr := HBR.out.below hb3 HBR.out.lt
                have z0 := kx.cell 0
                have z1 := kx.cell 1
                have z2 := kx.cell 2
                have zf0 := kx.frozen 0
                have zf1 := kx.frozen 1
                have zf2 := kx.frozen 2
                have y0 := kf.cell 0
                have y1 := kf.cell 1
                have y2 := kf.cell 2
                have yf0 := kf.frozen 0
                have yf1 := kf.frozen 1
                have yf2 := kf.frozen 2
                have kx' := set3F kx (.slice none 0 0) (.slice none 0 0) (.bool false)
                have kf' := kf.far3 (show w2.heap.size ≠ w2.heap.size + 1 by omega) (.slice none 0 0) (.slice none 0 0) (.bool false)
                have kr' := kr.far3 (show w1.heap.size ≠ w2.heap.size + 1 by omega) (.slice none 0 0) (.slice none 0 0) (.bool false)
                have kf2 := set3F kf' (.int .i64 c) (.int .i64 q) (.int .i64 5)
                have kx2 := kx'.far3 (show w2.heap.size + 1 ≠ w2.heap.size by omega) (.int .i64 c) (.int .i64 q) (.int .i64 5)
                have kr2 := kr'.far3 (show w1.heap.size ≠ w2.heap.size by omega) (.int .i64 c) (.int .i64 q) (.int .i64 5)
                have b14 := HB13.out.trans (hb3.mono HB13.out.size)
                have b16 := below_set3 (below_set3 b14 (show w1.heap.size ≤ w2.heap.size + 1 by omega) (.slice none 0 0) (.slice none 0 0) (.bool false)) (show w1.heap.size ≤ w2.heap.size by omega) (.int .i64 c) (.int .i64 q) (.int .i64 5)
                have HPS := Lib.hid (PrS.err (w := w0) HS0.out (HE.out.kept b16 (Nat.le_refl _)) kf2 kr2 kx2 (HB1.out.trans (b16.mono HB1.out.size)))
                clear hb3 kx kf kr kx' kf' kr' kf2 kx2 kr2 b14 b16 HBX HBF HBR HE CQ
                go_upto_region 19 with (fail)
                generalize (World.setCell _ ⟨w2.heap.size, 2, none⟩ _) = W6 at HPS ⊢
                have HPX := Lib.hid HPS.out.bel
                obtain ⟨r0, r1, r2, x0, x1, x2, br, bx, hsm⟩ := HPS.out.same
                have bf := HPS.out.bf
                have qf0 := bf.cell 0
                have qf1 := bf.cell 1
                have qf2 := bf.cell 2
                have qr0 := br.cell 0
                have qr1 := br.cell 1
                have qr2 := br.cell 2
                have qx0 := bx.cell 0
                have qx1 := bx.cell 1
                have qx2 := bx.cell 2
                have CT := Lib.hid HPS.out.tell
                have CS := Lib.hid hsm
                have CA := Lib.hid (fun (W : World) (hb : Below W6.heap.size W6 W) => fill_awake W A (HS0.out.kept (HPX.out.trans (hb.mono HPX.out.size)) (Nat.le_refl _)).toSents0)
                have HBF := Lib.hid bf
                have HBR := Lib.hid br
                have HBX := Lib.hid bx
                clear bf br bx hsm HPS
                go_upto_region 19 with (fail)
                go_region_with (first
                  | (go_at_call 10; refine (CT.out _ (by first | exact Below.refl _ _ | exact (Below.refl _ _).drew)).mono ?_; rintro e w7 ⟨rfl, hb7⟩; have hbx : Below W6.heap.size W6 w7 := (by first | exact hb7 | exact ((Below.refl _ _).drew).trans hb7); have j1 := HBF.out.below hbx HBF.out.lt; have j2 := HBR.out.below hbx HBR.out.lt; have j3 := HBX.out.below hbx HBX.out.lt; have jf0 := j1.cell 0; have jf1 := j1.cell 1; have jf2 := j1.cell 2; have jr0 := j2.cell 0; have jr1 := j2.cell 1; have jr2 := j2.cell 2; have jx0 := j3.cell 0; have jx1 := j3.cell 1; have jx2 := j3.cell 2; have HB7 := Lib.hid hbx; clear hb7 hbx j1 j2 j3)
                  | (go_at_call 11; refine (CS.out _ HB7.out).mono ?_; rintro e w8 ⟨rfl, hb8⟩; have HB8 := Lib.hid (HB7.out.trans (hb8.mono HB7.out.size)); clear hb8)
                  | (go_at_call 12; refine (CA.out _ HB8.out).mono ?_; rintro e w9 ⟨rfl, hb9⟩; have HB9 := Lib.hid (HB8.out.trans (hb9.mono HB8.out.size)); clear hb9))
                all_goals go_wp2_with fail
                all_goals go_ret
                all_goals exact ⟨rfl, HB0.out.trans ((HPX.out.trans (HB9.out.mono HPX.out.size)).mono HB0.out.size)⟩
              | ok r1 =>
                rw [hr] at CPF
                simp only [hr] at CRR
                have CPF := Lib.hid CPF
                have CRR := Lib.hid CRR
                clear hr
                go_wp2_with fail
                refine CPF.out.mono ?_
                rintro e w1 ⟨hb1, vo, vc, rfl, ho, hc⟩
                obtain ⟨no, hno⟩ : ∃ no, no = r1.out.length := ⟨_, rfl⟩
                obtain ⟨nc, hnc⟩ : ∃ nc, nc = r1.codes.length := ⟨_, rfl⟩
                rw [← hno] at ho
                rw [← hnc] at hc
                obtain ⟨oa, oc, rfl, _⟩ := ownsRow_form ho
                obtain ⟨ca, cc, rfl, _⟩ := ownsRow_form hc
                obtain ⟨X2, gc2, rc2, hbs2, hbx2⟩ := conv_bytes (w1.alloc (.cells #[.slice oa no oc, .slice ca nc cc, .bool r1.stop] 28)) T hTm
                have CR := ref_Parse _ gc2 (bl T) X2 hbs2
                rw [HP.out, bl_length, World.size_alloc] at CR
                rw [World.size_alloc] at rc2
                have CR := Lib.hid CR
                have HBX2 := Lib.hid hbx2
                clear hbs2 hbx2
                have HHO := Lib.hid ho
                have HHC := Lib.hid hc
                have HNO := Lib.hid hno
                have HNC := Lib.hid hnc
                have HB1 := Lib.hid (HBX1.out.trans (hb1.mono HBX1.out.size))
                clear ho hc hno hnc hb1
                go_wp2_with fail
                refine CR.out.mono ?_
                rintro e w2 ⟨hb2, pv, rfl, hpc⟩
                have b1 := belowS w1 (.cells #[.slice oa no oc, .slice ca nc cc, .bool r1.stop] 28)
                have b1x := b1.trans (HBX2.out.mono b1.size)
                have b12 := b1x.trans (hb2.mono b1x.size)
                have b3 : Below w2.heap.size w2 ((w2.alloc (.cells #[.int .i64 0, .int .i64 0, .int .i64 0] 35)).alloc (.cells #[.slice none 0 0, .slice none 0 0, .bool false] 28)) := ((Below.refl _ _).alloc (Nat.le_refl _) _).alloc (by simp) _
                have b13 := b12.trans (b3.mono b12.size)
                have B03 := HB1.out.trans (b13.mono HB1.out.size)
                have HB13 := Lib.hid b13
                have CQ := Lib.hid (CRR.out _ _ _ (hpc.below b3 (Nat.le_refl _)) (HO0.out.below B03 (Nat.le_refl _)))
                have bx := Blk.new (w2.alloc (.cells #[.int .i64 0, .int .i64 0, .int .i64 0] 35)) 28 #[.slice none 0 0, .slice none 0 0, .bool false]
                rw [World.size_alloc] at bx
                have brx := blk_behind HBX2.out
                have HBX := Lib.hid bx
                have HBF := Lib.hid ((Blk.new w2 35 #[.int .i64 0, .int .i64 0, .int .i64 0]).alloc (.cells #[.slice none 0 0, .slice none 0 0, .bool false] 28))
                have HBR := Lib.hid (((brx.below hb2 brx.lt).alloc (.cells #[.int .i64 0, .int .i64 0, .int .i64 0] 35)).alloc (.cells #[.slice none 0 0, .slice none 0 0, .bool false] 28))
                have hs12 : w1.heap.size < w2.heap.size := by have h1 := HBX2.out.size; have h2 := hb2.size; rw [World.size_alloc] at h1; omega
                clear b1 b1x b12 b3 b13 bx hb2 hpc B03 CR brx
                go_wp2_with fail
                refine CQ.out.mono ?_
                rintro e w3 ⟨hb3, xo, xc, rfl, hxo, hxc⟩
                obtain ⟨mo, hmo⟩ : ∃ mo, mo = r1.out.length := ⟨_, rfl⟩
                obtain ⟨mc, hmc⟩ : ∃ mc, mc = r1.codes.length := ⟨_, rfl⟩
                rw [← hmo] at hxo
                rw [← hmc] at hxc
                obtain ⟨xa, xac, rfl, _⟩ := ownsRow_form hxo
                obtain ⟨ya, yac, rfl, _⟩ := ownsRow_form hxc
                have kx := HBX.out.below hb3 HBX.out.lt
                have kf := HBF.out.below hb3 HBF.out.lt
                have kr := HBR.out.below hb3 HBR.out.lt
                have z0 := kx.cell 0
                have z1 := kx.cell 1
                have z2 := kx.cell 2
                have zf0 := kx.frozen 0
                have zf1 := kx.frozen 1
                have zf2 := kx.frozen 2
                have y0 := kf.cell 0
                have y1 := kf.cell 1
                have y2 := kf.cell 2
                have yf0 := kf.frozen 0
                have yf1 := kf.frozen 1
                have yf2 := kf.frozen 2
                have kx' := set3F kx (.slice xa mo xac) (.slice ya mc yac) (.bool r1.stop)
                have kf' := kf.far3 (show w2.heap.size ≠ w2.heap.size + 1 by omega) (.slice xa mo xac) (.slice ya mc yac) (.bool r1.stop)
                have kr' := kr.far3 (show w1.heap.size ≠ w2.heap.size + 1 by omega) (.slice xa mo xac) (.slice ya mc yac) (.bool r1.stop)
                have kf2 := set3F kf' (.int .i64 0) (.int .i64 0) (.int .i64 0)
                have kx2 := kx'.far3 (show w2.heap.size + 1 ≠ w2.heap.size by omega) (.int .i64 0) (.int .i64 0) (.int .i64 0)
                have kr2 := kr'.far3 (show w1.heap.size ≠ w2.heap.size by omega) (.int .i64 0) (.int .i64 0) (.int .i64 0)
                have b14 := HB13.out.trans (hb3.mono HB13.out.size)
                have b16 := below_set3 (below_set3 b14 (show w1.heap.size ≤ w2.heap.size + 1 by omega) (.slice xa mo xac) (.slice ya mc yac) (.bool r1.stop)) (show w1.heap.size ≤ w2.heap.size by omega) (.int .i64 0) (.int .i64 0) (.int .i64 0)
                have xo2 := ownsRow_set3 (ownsRow_set3 hxo kx (by decide) (.slice xa mo xac) (.slice ya mc yac) (.bool r1.stop)) kf' (by decide) (.int .i64 0) (.int .i64 0) (.int .i64 0)
                have xc2 := ownsRow_set3 (ownsRow_set3 hxc kx (by decide) (.slice xa mo xac) (.slice ya mc yac) (.bool r1.stop)) kf' (by decide) (.int .i64 0) (.int .i64 0) (.int .i64 0)
                have HPS := Lib.hid (PrS.ok (w := w0) (ownsRow_below HHO.out b16 (Nat.le_refl _)) (ownsRow_below HHC.out b16 (Nat.le_refl _)) xo2 xc2 HNO.out HNC.out hmo hmc kf2 kr2 kx2 (HB1.out.trans (b16.mono HB1.out.size)))
                clear hmo hmc hxo hxc xo2 xc2 hb3 kx kf kr kx' kf' kr' kf2 kx2 kr2 b14 b16 HBX HBF HBR CQ
                go_upto_region 19 with (fail)
                generalize (World.setCell _ ⟨w2.heap.size, 2, none⟩ _) = W6 at HPS ⊢
                have HPX := Lib.hid HPS.out.bel
                obtain ⟨r0, r1, r2, x0, x1, x2, br, bx, hsm⟩ := HPS.out.same
                have bf := HPS.out.bf
                have qf0 := bf.cell 0
                have qf1 := bf.cell 1
                have qf2 := bf.cell 2
                have qr0 := br.cell 0
                have qr1 := br.cell 1
                have qr2 := br.cell 2
                have qx0 := bx.cell 0
                have qx1 := bx.cell 1
                have qx2 := bx.cell 2
                have CT := Lib.hid HPS.out.tell
                have CS := Lib.hid hsm
                have CA := Lib.hid (fun (W : World) (hb : Below W6.heap.size W6 W) => fill_awake W A (HS0.out.kept (HPX.out.trans (hb.mono HPX.out.size)) (Nat.le_refl _)).toSents0)
                have HBF := Lib.hid bf
                have HBR := Lib.hid br
                have HBX := Lib.hid bx
                clear bf br bx hsm HPS
                go_upto_region 19 with (fail)
                go_region_with (first
                  | (go_at_call 10; refine (CT.out _ (by first | exact Below.refl _ _ | exact (Below.refl _ _).drew)).mono ?_; rintro e w7 ⟨rfl, hb7⟩; have hbx : Below W6.heap.size W6 w7 := (by first | exact hb7 | exact ((Below.refl _ _).drew).trans hb7); have j1 := HBF.out.below hbx HBF.out.lt; have j2 := HBR.out.below hbx HBR.out.lt; have j3 := HBX.out.below hbx HBX.out.lt; have jf0 := j1.cell 0; have jf1 := j1.cell 1; have jf2 := j1.cell 2; have jr0 := j2.cell 0; have jr1 := j2.cell 1; have jr2 := j2.cell 2; have jx0 := j3.cell 0; have jx1 := j3.cell 1; have jx2 := j3.cell 2; have HB7 := Lib.hid hbx; clear hb7 hbx j1 j2 j3)
                  | (go_at_call 11; refine (CS.out _ HB7.out).mono ?_; rintro e w8 ⟨rfl, hb8⟩; have HB8 := Lib.hid (HB7.out.trans (hb8.mono HB7.out.size)); clear hb8)
                  | (go_at_call 12; refine (CA.out _ HB8.out).mono ?_; rintro e w9 ⟨rfl, hb9⟩; have HB9 := Lib.hid (HB8.out.trans (hb9.mono HB8.out.size)); clear hb9))
                all_goals go_wp2_with fail
                all_goals go_ret
                all_goals exact ⟨rfl, HB0.out.trans ((HPX.out.trans (HB9.out.mono HPX.out.size)).mono HB0.out.size)⟩
end Go.Proofs.YtppcjmbblkbkdaaGreatDoor
