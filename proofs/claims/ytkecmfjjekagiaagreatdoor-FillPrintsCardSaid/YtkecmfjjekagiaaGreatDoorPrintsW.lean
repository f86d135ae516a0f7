/- The walk of pidginlaw15.FillPrints: it returns true. Conditions as typed. -/
import Derived.Test.YtkecmfjjekagiaaGreatDoorRefC
import Derived.Test.YtkecmfjjekagiaaGreatDoorSame
import Derived.Test.YtkecmfjjekagiaaGreatDoorRefD
import Derived.Test.YtkecmfjjekagiaaGreatDoorTell
namespace Go.Proofs.YtkecmfjjekagiaaGreatDoor
open Go.RowKit Pg

/-- fault.Tell of an error of a code at a place, in a format. -/
theorem tell_errP (w : World) (A : Nat → Addr) (hS : Sents w A) (v : Value) (c : Nat) (p : Int) (h : ErrAt w A v c p) :
    Calls Tryz.prog 10 #[v] w fun e w' => e = .returned (.agg #[.int .i64 c, .int .i64 p, .int .i64 5]) ∧ Below w.heap.size w w' := by
  obtain ⟨b, hc, hb⟩ := h
  have := fault_Tell w A hS b c hb _ v hc
  exact this
/-- What a call leaves of a block behind which it began. -/
theorem blk_behind {W w' : World} {t : TypeId} {cs : Array Value} (hb : Below (W.alloc (.cells cs t)).heap.size (W.alloc (.cells cs t)) w') : Blk w' W.heap.size t cs := (Blk.new W t cs).below hb (by rw [World.size_alloc]; exact Nat.lt_succ_self _)
/-- The state ahead of the last line: what Tell tells of the error, and what lies in the blocks of r, f, x. -/
structure PrS (w : World) (ev : Value) (gr gf gx : Nat) (c q la : Int) (wx : World) : Prop where
  tell : ∀ W, Below wx.heap.size wx W → Calls Tryz.prog 10 #[ev] W fun e w' => e = .returned (.agg #[.int .i64 c, .int .i64 q, .int .i64 la]) ∧ Below W.heap.size W w'
  bf : Blk wx gf 33 #[.int .i64 c, .int .i64 q, .int .i64 la]
  same : ∃ r0 r1 r2 x0 x1 x2 : Value, Blk wx gr 26 #[r0, r1, r2] ∧ Blk wx gx 26 #[x0, x1, x2] ∧ ∀ W, Below wx.heap.size wx W → Calls Tryz.prog 11 #[.agg #[r0, r1, r2], .agg #[x0, x1, x2]] W fun e w' => e = .returned (.bool true) ∧ Below W.heap.size W w'
  bel : Below w.heap.size w wx
theorem same_zero (W : World) : Calls Tryz.prog 11 #[.agg #[.slice none 0 0, .slice none 0 0, .bool false], .agg #[.slice none 0 0, .slice none 0 0, .bool false]] W fun e w' => e = .returned (.bool true) ∧ Below W.heap.size W w' := by
  have := ref_Same W none none none none 0 0 0 0 0 0 0 0 [] [] [] [] false false rfl rfl rfl rfl (Bs.empty W) (Is.empty W) (Bs.empty W) (Is.empty W)
  simpa using this
/-- Bytes of a row of their own, read in a world behind. -/
theorem own_read {w W : World} {B K n cap : Nat} {a : Option Addr} {l : List UInt8} (h : w.ownsRow B 5 1 (.slice a n cap) n (u8s l)) (hn : n = l.length) (hb : Below K w W) (hK : w.heap.size ≤ K) : Bs W a cap l := by
  subst hn
  exact (own_bs h).below hb hK
theorem same_rows {wx W : World} {B1 B2 n1 n2 m1 m2 c1 c2 d1 d2 : Nat} {a1 a2 b1 b2 : Option Addr} {r : Out} (ho : wx.ownsRow B1 5 1 (.slice a1 n1 c1) n1 (u8s r.out)) (hc : wx.ownsRow B1 3 1 (.slice a2 n2 c2) n2 (i64s r.codes)) (xo : wx.ownsRow B2 5 1 (.slice b1 m1 d1) m1 (u8s r.out)) (xc : wx.ownsRow B2 3 1 (.slice b2 m2 d2) m2 (i64s r.codes)) (hn1 : n1 = r.out.length) (hn2 : n2 = r.codes.length) (hm1 : m1 = r.out.length) (hm2 : m2 = r.codes.length) (hb : Below wx.heap.size wx W) :
    Calls Tryz.prog 11 #[.agg #[.slice a1 n1 c1, .slice a2 n2 c2, .bool r.stop], .agg #[.slice b1 m1 d1, .slice b2 m2 d2, .bool r.stop]] W fun e w' => e = .returned (.bool true) ∧ Below W.heap.size W w' := by
  have := ref_Same W a1 a2 b1 b2 n1 n2 m1 m2 c1 c2 d1 d2 r.out r.out r.codes r.codes r.stop r.stop hn1 hn2 hm1 hm2 (own_read ho hn1 hb (Nat.le_refl _)) ((Is.own hc hn2).below hb (Nat.le_refl _)) (own_read xo hm1 hb (Nat.le_refl _)) ((Is.own xc hm2).below hb (Nat.le_refl _))
  simpa using this
theorem PrS.err {w wx : World} {A : Nat → Addr} {v : Value} {gr gf gx c q : Nat} (hS : Sents w A) (hE : ErrAt wx A v c q) (bf : Blk wx gf 33 #[.int .i64 c, .int .i64 q, .int .i64 5]) (br : Blk wx gr 26 #[.slice none 0 0, .slice none 0 0, .bool false]) (bx : Blk wx gx 26 #[.slice none 0 0, .slice none 0 0, .bool false]) (bel : Below w.heap.size w wx) : PrS w v gr gf gx c q 5 wx :=
  ⟨fun W hb => tell_errP W A (hS.kept (bel.trans (hb.mono bel.size)) (Nat.le_refl _)) v c q (hE.kept hb (Nat.le_refl _)), bf, ⟨_, _, _, _, _, _, br, bx, fun _ _ => same_zero _⟩, bel⟩
theorem tell_nil0 (W : World) : Calls Tryz.prog 10 #[.nilIface] W fun e w' => e = .returned (.agg #[.int .i64 0, .int .i64 0, .int .i64 0]) ∧ Below W.heap.size W w' := by
  have ct := fault_Tell_nil W
  simp only [fv] at ct
  exact ct
theorem PrS.ok {w wx : World} {gr gf gx B1 B2 n1 n2 m1 m2 c1 c2 d1 d2 : Nat} {a1 a2 b1 b2 : Option Addr} {r : Out} (ho : wx.ownsRow B1 5 1 (.slice a1 n1 c1) n1 (u8s r.out)) (hc : wx.ownsRow B1 3 1 (.slice a2 n2 c2) n2 (i64s r.codes)) (xo : wx.ownsRow B2 5 1 (.slice b1 m1 d1) m1 (u8s r.out)) (xc : wx.ownsRow B2 3 1 (.slice b2 m2 d2) m2 (i64s r.codes)) (hn1 : n1 = r.out.length) (hn2 : n2 = r.codes.length) (hm1 : m1 = r.out.length) (hm2 : m2 = r.codes.length)
    (bf : Blk wx gf 33 #[.int .i64 0, .int .i64 0, .int .i64 0]) (br : Blk wx gr 26 #[.slice a1 n1 c1, .slice a2 n2 c2, .bool r.stop]) (bx : Blk wx gx 26 #[.slice b1 m1 d1, .slice b2 m2 d2, .bool r.stop]) (bel : Below w.heap.size w wx) : PrS w .nilIface gr gf gx 0 0 0 wx :=
  ⟨fun _ _ => tell_nil0 _, bf, ⟨_, _, _, _, _, _, br, bx, fun _ hb => same_rows ho hc xo xc hn1 hn2 hm1 hm2 hb⟩, bel⟩
theorem printf_err {l : List UInt8} {O : List (List UInt8)} {e : Nat × Nat} (h : parse l = .error e) : printf l O = .error e := by unfold printf; rw [h]
theorem printf_ok {l : List UInt8} {O : List (List UInt8)} {L : List Part} (h : parse l = .ok L) : printf l O = run L O := by unfold printf; rw [h]
theorem norm_letter {L : List Part} (h : ∀ p ∈ L, p.conv ≠ 0 → Letter p.conv) : ∀ p ∈ L.map norm, p.conv ≠ 0 → p.conv = 99 ∨ p.conv = 115 ∨ p.conv = 98 ∨ p.conv = 100 ∨ p.conv = 117 ∨ p.conv = 111 ∨ p.conv = 120 ∨ p.conv = 88 := by
  intro p hp h0
  obtain ⟨q, hq, rfl⟩ := List.mem_map.1 hp
  rw [norm_conv] at h0 ⊢
  exact h q hq h0
/-- pidginref14.Run of what a format is parsed to. -/
theorem ref_RunL (B : Nat) (v : Value) (l : List UInt8) (L : List Part) (hl : parse l = .ok L) (w : World) (hp : PartsC B w v (L.map norm)) (a : Option Addr) (cap : Nat) (ops : List ByteArray) (hO : Ss w a cap ops) :
    Calls Tryz.prog 9 #[v, .slice a ops.length cap] w (RRunPost w (run L (ops.map bl))) := by
  obtain ⟨hg1, hg2⟩ := parse_good hl
  have := ref_Run B v (L.map norm) w hp (by rw [List.length_map]; omega)
    (fun p hp => by obtain ⟨q, hq, rfl⟩ := List.mem_map.1 hp; rw [norm_lit]; have := (hg2 q hq).1; omega)
    (fun p hp => by
      obtain ⟨q, hq, rfl⟩ := List.mem_map.1 hp
      have hg := hg2 q hq
      unfold GoodP at hg
      unfold norm
      split
      · exact ⟨by show q.width ≤ 5000; omega, by show (0 : Int) < 5000; omega⟩
      · omega)
    (norm_letter (parse_letter hl)) a cap ops hO
  rwa [run_norm] at this

set_option maxRecDepth 100000 in
set_option maxHeartbeats 8000000 in
/-- FillPrints: it returns true. -/
theorem fillPrints_walk (a : Option Addr) (cap : Nat) (l : List UInt8) (ao : Option Addr) (capo : Nat) (ops : List ByteArray) (w : World) (A : Nat → Addr) (hS : Sents w A) (hl : Bs w a cap l) (hO : Ss w ao capo ops) :
    Calls Tryz.prog 3 #[.slice a l.length cap, .slice ao ops.length capo] w fun e w' => e = .returned (.bool true) ∧ Below w.heap.size w w' := by
  have HS := Lib.hid hS
  have HL := Lib.hid hl
  have HO := Lib.hid hO
  cases hp : parse l with
  | error cq =>
    obtain ⟨c, q⟩ := cq
    have CPF := fill_Printf w A hS.toSents0 a cap l hl ao capo ops hO
    rw [printf_err hp] at CPF
    have CPF := Lib.hid CPF
    have hcc := parse_code hp
    have ecc : ((c : Int) == 0) = false := beq_eq_false_iff_ne.2 (by omega)
    have HP := Lib.hid hp
    clear hp hcc hS hl hO
    go_enter Tryz.func3, Tryz.ntmps3
    go_wp2_with fail
    refine CPF.out.mono ?_
    rintro e w1 ⟨hb1, v, rfl, hE⟩
    obtain ⟨ty, x, rfl⟩ : ∃ t x, v = .iface t x := by obtain ⟨b, hc, _⟩ := hE; exact hc.iface
    have CR := ref_Parse a cap l (w1.alloc (.cells #[.slice none 0 0, .slice none 0 0, .bool false] 26)) ((HL.out.below hb1 (Nat.le_refl _)).below (belowS w1 _) (Nat.le_refl _))
    rw [HP.out] at CR
    have CR := Lib.hid CR
    have HE := Lib.hid hE
    have HB1 := Lib.hid hb1
    clear hE hb1
    go_wp2_with fail
    refine CR.out.mono ?_
    rintro e w2 ⟨hb2, rfl⟩
    have b1 := belowS w1 (.cells #[.slice none 0 0, .slice none 0 0, .bool false] 26)
    have b12 := b1.trans (hb2.mono b1.size)
    have b3 : Below w2.heap.size w2 ((w2.alloc (.cells #[.int .i64 c, .int .i64 q, .int .i64 5] 33)).alloc (.cells #[.slice none 0 0, .slice none 0 0, .bool false] 26)) := ((Below.refl _ _).alloc (Nat.le_refl _) _).alloc (by simp) _
    have b13 := b12.trans (b3.mono b12.size)
    have bx := Blk.new (w2.alloc (.cells #[.int .i64 c, .int .i64 q, .int .i64 5] 33)) 26 #[.slice none 0 0, .slice none 0 0, .bool false]
    rw [World.size_alloc] at bx
    have HPS := Lib.hid (PrS.err (gr := w1.heap.size) (gf := w2.heap.size) (gx := w2.heap.size + 1) HS.out (HE.out.kept b13 (Nat.le_refl _)) ((Blk.new w2 33 _).alloc _) ((((blk_behind hb2).alloc _).alloc _)) bx (HB1.out.trans (b13.mono HB1.out.size)))
    clear b1 b12 b3 b13 bx hb2
    go_upto_region 6 with (fail)
    generalize (w2.alloc (.cells #[.int .i64 c, .int .i64 q, .int .i64 5] 33)).alloc (.cells #[.slice none 0 0, .slice none 0 0, .bool false] 26) = W6 at HPS ⊢
    have HPX := Lib.hid HPS.out.bel
    obtain ⟨r0, r1, r2, x0, x1, x2, br, bx, hsm⟩ := HPS.out.same
    have bf := HPS.out.bf
    have qf0 := bf.cell 0
    have qf1 := bf.cell 1
    have qf2 := bf.cell 2
    have qr0 := br.cell 0
    have qr1 := br.cell 1
    have qr2 := br.cell 2
    have qx0 := bx.cell 0
    have qx1 := bx.cell 1
    have qx2 := bx.cell 2
    have CT := Lib.hid HPS.out.tell
    have CS := Lib.hid hsm
    have CA := Lib.hid (fun (W : World) (hb : Below W6.heap.size W6 W) => fill_awake W A (HS.out.kept (HPX.out.trans (hb.mono HPX.out.size)) (Nat.le_refl _)).toSents0)
    have HBF := Lib.hid bf
    have HBR := Lib.hid br
    have HBX := Lib.hid bx
    clear bf br bx hsm HPS
    go_upto_region 6 with (fail)
    go_region_with (first
      | (go_at_call 10; refine (CT.out _ (by first | exact Below.refl _ _ | exact (Below.refl _ _).drew)).mono ?_; rintro e w7 ⟨rfl, hb7⟩; have hbx : Below W6.heap.size W6 w7 := (by first | exact hb7 | exact ((Below.refl _ _).drew).trans hb7); have j1 := HBF.out.below hbx HBF.out.lt; have j2 := HBR.out.below hbx HBR.out.lt; have j3 := HBX.out.below hbx HBX.out.lt; have jf0 := j1.cell 0; have jf1 := j1.cell 1; have jf2 := j1.cell 2; have jr0 := j2.cell 0; have jr1 := j2.cell 1; have jr2 := j2.cell 2; have jx0 := j3.cell 0; have jx1 := j3.cell 1; have jx2 := j3.cell 2; have HB7 := Lib.hid hbx; clear hb7 hbx j1 j2 j3)
      | (go_at_call 11; refine (CS.out _ HB7.out).mono ?_; rintro e w8 ⟨rfl, hb8⟩; have HB8 := Lib.hid (HB7.out.trans (hb8.mono HB7.out.size)); clear hb8)
      | (go_at_call 12; refine (CA.out _ HB8.out).mono ?_; rintro e w9 ⟨rfl, hb9⟩; have HB9 := Lib.hid (HB8.out.trans (hb9.mono HB8.out.size)); clear hb9))
    all_goals go_wp2_with fail
    all_goals go_ret
    all_goals exact ⟨rfl, HPX.out.trans (HB9.out.mono HPX.out.size)⟩
  | ok L =>
    have CPF := fill_Printf w A hS.toSents0 a cap l hl ao capo ops hO
    rw [printf_ok hp] at CPF
    have HP := Lib.hid hp
    have CRR := fun (B : Nat) (v : Value) (W : World) (hpc : PartsC B W v (L.map norm)) (hs : Ss W ao capo ops) => ref_RunL B v l L HP.out W hpc ao capo ops hs
    clear hp hS hl hO
    cases hr : run L (ops.map bl) with
    | error cq =>
      obtain ⟨c, q⟩ := cq
      rw [hr] at CPF
      simp only [hr] at CRR
      have CPF := Lib.hid CPF
      have CRR := Lib.hid CRR
      clear hr
      go_enter Tryz.func3, Tryz.ntmps3
      go_wp2_with fail
      refine CPF.out.mono ?_
      rintro e w1 ⟨hb1, v, rfl, hE⟩
      obtain ⟨ty, x, rfl⟩ : ∃ t x, v = .iface t x := by obtain ⟨b, hc, _⟩ := hE; exact hc.iface
      have CR := ref_Parse a cap l (w1.alloc (.cells #[.slice none 0 0, .slice none 0 0, .bool false] 26)) ((HL.out.below hb1 (Nat.le_refl _)).below (belowS w1 _) (Nat.le_refl _))
      rw [HP.out] at CR
      have CR := Lib.hid CR
      have HE := Lib.hid hE
      have HB1 := Lib.hid hb1
      clear hE hb1
      go_wp2_with fail
      refine CR.out.mono ?_
      rintro e w2 ⟨hb2, pv, rfl, hpc⟩
      have b1 := belowS w1 (.cells #[.slice none 0 0, .slice none 0 0, .bool false] 26)
      have b12 := b1.trans (hb2.mono b1.size)
      have b3 : Below w2.heap.size w2 ((w2.alloc (.cells #[.int .i64 0, .int .i64 0, .int .i64 0] 33)).alloc (.cells #[.slice none 0 0, .slice none 0 0, .bool false] 26)) := ((Below.refl _ _).alloc (Nat.le_refl _) _).alloc (by simp) _
      have b13 := b12.trans (b3.mono b12.size)
      have B03 := HB1.out.trans (b13.mono HB1.out.size)
      have HB13 := Lib.hid b13
      have CQ := Lib.hid (CRR.out _ _ _ (hpc.below b3 (Nat.le_refl _)) (HO.out.below B03 (Nat.le_refl _)))
      have bx := Blk.new (w2.alloc (.cells #[.int .i64 0, .int .i64 0, .int .i64 0] 33)) 26 #[.slice none 0 0, .slice none 0 0, .bool false]
      rw [World.size_alloc] at bx
      have HBX := Lib.hid bx
      have HBF := Lib.hid ((Blk.new w2 33 #[.int .i64 0, .int .i64 0, .int .i64 0]).alloc (.cells #[.slice none 0 0, .slice none 0 0, .bool false] 26))
      have HBR := Lib.hid (((blk_behind hb2).alloc (.cells #[.int .i64 0, .int .i64 0, .int .i64 0] 33)).alloc (.cells #[.slice none 0 0, .slice none 0 0, .bool false] 26))
      have hs12 := hb2.size
      rw [World.size_alloc] at hs12
      clear b1 b12 b3 b13 bx hb2 hpc B03 CR
      go_wp2_with fail
      refine CQ.out.mono ?_
      rintro e w3 ⟨hb3, rfl⟩
      have kx := HBX.out.below hb3 HBX.out.lt
      have kf := HBF.out.below hb3 HBF.out.lt
      have kr := HBR.out.below hb3 HBR.out.lt
      have z0 := kx.cell 0
      have z1 := kx.cell 1
      have z2 := kx.cell 2
      have zf0 := kx.frozen 0
      have zf1 := kx.frozen 1
      have zf2 := kx.frozen 2
      have kx' := set3F kx (.slice none 0 0) (.slice none 0 0) (.bool false)
      have kf' := kf.far3 (show w2.heap.size ≠ w2.heap.size + 1 by omega) (.slice none 0 0) (.slice none 0 0) (.bool false)
      have kr' := kr.far3 (show w1.heap.size ≠ w2.heap.size + 1 by omega) (.slice none 0 0) (.slice none 0 0) (.bool false)
      have y0 := kf.cell 0
      have y1 := kf.cell 1
      have y2 := kf.cell 2
      have yf0 := kf.frozen 0
      have yf1 := kf.frozen 1
      have yf2 := kf.frozen 2
      have kf2 := set3F kf' (.int .i64 c) (.int .i64 q) (.int .i64 5)
      have kx2 := kx'.far3 (show w2.heap.size + 1 ≠ w2.heap.size by omega) (.int .i64 c) (.int .i64 q) (.int .i64 5)
      have kr2 := kr'.far3 (show w1.heap.size ≠ w2.heap.size by omega) (.int .i64 c) (.int .i64 q) (.int .i64 5)
      have b14 := HB13.out.trans (hb3.mono HB13.out.size)
      have b16 := below_set3 (below_set3 b14 (show w1.heap.size ≤ w2.heap.size + 1 by omega) (.slice none 0 0) (.slice none 0 0) (.bool false)) (show w1.heap.size ≤ w2.heap.size by omega) (.int .i64 c) (.int .i64 q) (.int .i64 5)
      have HPS := Lib.hid (PrS.err HS.out (HE.out.kept b16 (Nat.le_refl _)) kf2 kr2 kx2 (HB1.out.trans (b16.mono HB1.out.size)))
      clear hb3 kx kf kr kx' kf' kr' kf2 kx2 kr2 b14 b16 HBX HBF HBR HE CQ
      go_upto_region 6 with (fail)
      generalize (World.setCell _ ⟨w2.heap.size, 2, none⟩ _) = W6 at HPS ⊢
      have HPX := Lib.hid HPS.out.bel
      obtain ⟨r0, r1, r2, x0, x1, x2, br, bx, hsm⟩ := HPS.out.same
      have bf := HPS.out.bf
      have qf0 := bf.cell 0
      have qf1 := bf.cell 1
      have qf2 := bf.cell 2
      have qr0 := br.cell 0
      have qr1 := br.cell 1
      have qr2 := br.cell 2
      have qx0 := bx.cell 0
      have qx1 := bx.cell 1
      have qx2 := bx.cell 2
      have CT := Lib.hid HPS.out.tell
      have CS := Lib.hid hsm
      have CA := Lib.hid (fun (W : World) (hb : Below W6.heap.size W6 W) => fill_awake W A (HS.out.kept (HPX.out.trans (hb.mono HPX.out.size)) (Nat.le_refl _)).toSents0)
      have HBF := Lib.hid bf
      have HBR := Lib.hid br
      have HBX := Lib.hid bx
      clear bf br bx hsm HPS
      go_upto_region 6 with (fail)
      go_region_with (first
        | (go_at_call 10; refine (CT.out _ (by first | exact Below.refl _ _ | exact (Below.refl _ _).drew)).mono ?_; rintro e w7 ⟨rfl, hb7⟩; have hbx : Below W6.heap.size W6 w7 := (by first | exact hb7 | exact ((Below.refl _ _).drew).trans hb7); have j1 := HBF.out.below hbx HBF.out.lt; have j2 := HBR.out.below hbx HBR.out.lt; have j3 := HBX.out.below hbx HBX.out.lt; have jf0 := j1.cell 0; have jf1 := j1.cell 1; have jf2 := j1.cell 2; have jr0 := j2.cell 0; have jr1 := j2.cell 1; have jr2 := j2.cell 2; have jx0 := j3.cell 0; have jx1 := j3.cell 1; have jx2 := j3.cell 2; have HB7 := Lib.hid hbx; clear hb7 hbx j1 j2 j3)
        | (go_at_call 11; refine (CS.out _ HB7.out).mono ?_; rintro e w8 ⟨rfl, hb8⟩; have HB8 := Lib.hid (HB7.out.trans (hb8.mono HB7.out.size)); clear hb8)
        | (go_at_call 12; refine (CA.out _ HB8.out).mono ?_; rintro e w9 ⟨rfl, hb9⟩; have HB9 := Lib.hid (HB8.out.trans (hb9.mono HB8.out.size)); clear hb9))
      all_goals go_wp2_with fail
      all_goals go_ret
      all_goals exact ⟨rfl, HPX.out.trans (HB9.out.mono HPX.out.size)⟩
    | ok r1 =>
      rw [hr] at CPF
      simp only [hr] at CRR
      have CPF := Lib.hid CPF
      have CRR := Lib.hid CRR
      clear hr
      go_enter Tryz.func3, Tryz.ntmps3
      go_wp2_with fail
      refine CPF.out.mono ?_
      rintro e w1 ⟨hb1, vo, vc, rfl, ho, hc⟩
      obtain ⟨no, hno⟩ : ∃ no, no = r1.out.length := ⟨_, rfl⟩
      obtain ⟨nc, hnc⟩ : ∃ nc, nc = r1.codes.length := ⟨_, rfl⟩
      rw [← hno] at ho
      rw [← hnc] at hc
      obtain ⟨oa, oc, rfl, _⟩ := ownsRow_form ho
      obtain ⟨ca, cc, rfl, _⟩ := ownsRow_form hc
      have CR := ref_Parse a cap l (w1.alloc (.cells #[.slice oa no oc, .slice ca nc cc, .bool r1.stop] 26)) ((HL.out.below hb1 (Nat.le_refl _)).below (belowS w1 _) (Nat.le_refl _))
      rw [HP.out] at CR
      have CR := Lib.hid CR
      have HHO := Lib.hid ho
      have HHC := Lib.hid hc
      have HNO := Lib.hid hno
      have HNC := Lib.hid hnc
      have HB1 := Lib.hid hb1
      clear ho hc hno hnc hb1
      go_wp2_with fail
      refine CR.out.mono ?_
      rintro e w2 ⟨hb2, pv, rfl, hpc⟩
      have b1 := belowS w1 (.cells #[.slice oa no oc, .slice ca nc cc, .bool r1.stop] 26)
      have b12 := b1.trans (hb2.mono b1.size)
      have b3 : Below w2.heap.size w2 ((w2.alloc (.cells #[.int .i64 0, .int .i64 0, .int .i64 0] 33)).alloc (.cells #[.slice none 0 0, .slice none 0 0, .bool false] 26)) := ((Below.refl _ _).alloc (Nat.le_refl _) _).alloc (by simp) _
      have b13 := b12.trans (b3.mono b12.size)
      have B03 := HB1.out.trans (b13.mono HB1.out.size)
      have HB13 := Lib.hid b13
      have CQ := Lib.hid (CRR.out _ _ _ (hpc.below b3 (Nat.le_refl _)) (HO.out.below B03 (Nat.le_refl _)))
      have bx := Blk.new (w2.alloc (.cells #[.int .i64 0, .int .i64 0, .int .i64 0] 33)) 26 #[.slice none 0 0, .slice none 0 0, .bool false]
      rw [World.size_alloc] at bx
      have HBX := Lib.hid bx
      have HBF := Lib.hid ((Blk.new w2 33 #[.int .i64 0, .int .i64 0, .int .i64 0]).alloc (.cells #[.slice none 0 0, .slice none 0 0, .bool false] 26))
      have HBR := Lib.hid (((blk_behind hb2).alloc (.cells #[.int .i64 0, .int .i64 0, .int .i64 0] 33)).alloc (.cells #[.slice none 0 0, .slice none 0 0, .bool false] 26))
      have hs12 := hb2.size
      rw [World.size_alloc] at hs12
      clear b1 b12 b3 b13 bx hb2 hpc B03 CR
      go_wp2_with fail
      refine CQ.out.mono ?_
      rintro e w3 ⟨hb3, xo, xc, rfl, hxo, hxc⟩
      obtain ⟨mo, hmo⟩ : ∃ mo, mo = r1.out.length := ⟨_, rfl⟩
      obtain ⟨mc, hmc⟩ : ∃ mc, mc = r1.codes.length := ⟨_, rfl⟩
      rw [← hmo] at hxo
      rw [← hmc] at hxc
      obtain ⟨xa, xac, rfl, _⟩ := ownsRow_form hxo
      obtain ⟨ya, yac, rfl, _⟩ := ownsRow_form hxc
      have kx := HBX.out.below hb3 HBX.out.lt
      have kf := HBF.out.below hb3 HBF.out.lt
      have kr := HBR.out.below hb3 HBR.out.lt
      have z0 := kx.cell 0
      have z1 := kx.cell 1
      have z2 := kx.cell 2
      have zf0 := kx.frozen 0
      have zf1 := kx.frozen 1
      have zf2 := kx.frozen 2
      have y0 := kf.cell 0
      have y1 := kf.cell 1
      have y2 := kf.cell 2
      have yf0 := kf.frozen 0
      have yf1 := kf.frozen 1
      have yf2 := kf.frozen 2
      have kx' := set3F kx (.slice xa mo xac) (.slice ya mc yac) (.bool r1.stop)
      have kf' := kf.far3 (show w2.heap.size ≠ w2.heap.size + 1 by omega) (.slice xa mo xac) (.slice ya mc yac) (.bool r1.stop)
      have kr' := kr.far3 (show w1.heap.size ≠ w2.heap.size + 1 by omega) (.slice xa mo xac) (.slice ya mc yac) (.bool r1.stop)
      have kf2 := set3F kf' (.int .i64 0) (.int .i64 0) (.int .i64 0)
      have kx2 := kx'.far3 (show w2.heap.size + 1 ≠ w2.heap.size by omega) (.int .i64 0) (.int .i64 0) (.int .i64 0)
      have kr2 := kr'.far3 (show w1.heap.size ≠ w2.heap.size by omega) (.int .i64 0) (.int .i64 0) (.int .i64 0)
      have xo2 := ownsRow_set3 (ownsRow_set3 hxo kx (by decide) (.slice xa mo xac) (.slice ya mc yac) (.bool r1.stop)) kf' (by decide) (.int .i64 0) (.int .i64 0) (.int .i64 0)
      have xc2 := ownsRow_set3 (ownsRow_set3 hxc kx (by decide) (.slice xa mo xac) (.slice ya mc yac) (.bool r1.stop)) kf' (by decide) (.int .i64 0) (.int .i64 0) (.int .i64 0)
      have b14 := HB13.out.trans (hb3.mono HB13.out.size)
      have b16 := below_set3 (below_set3 b14 (show w1.heap.size ≤ w2.heap.size + 1 by omega) (.slice xa mo xac) (.slice ya mc yac) (.bool r1.stop)) (show w1.heap.size ≤ w2.heap.size by omega) (.int .i64 0) (.int .i64 0) (.int .i64 0)
      have HPS := Lib.hid (PrS.ok (ownsRow_below HHO.out b16 (Nat.le_refl _)) (ownsRow_below HHC.out b16 (Nat.le_refl _)) xo2 xc2 HNO.out HNC.out hmo hmc kf2 kr2 kx2 (HB1.out.trans (b16.mono HB1.out.size)))
      clear hmo hmc hxo hxc xo2 xc2 hb3 kx kf kr kx' kf' kr' kf2 kx2 kr2 b14 b16 HBX HBF HBR CQ
      go_upto_region 6 with (fail)
      generalize (World.setCell _ ⟨w2.heap.size, 2, none⟩ _) = W6 at HPS ⊢
      have HPX := Lib.hid HPS.out.bel
      obtain ⟨r0, r1, r2, x0, x1, x2, br, bx, hsm⟩ := HPS.out.same
      have bf := HPS.out.bf
      have qf0 := bf.cell 0
      have qf1 := bf.cell 1
      have qf2 := bf.cell 2
      have qr0 := br.cell 0
      have qr1 := br.cell 1
      have qr2 := br.cell 2
      have qx0 := bx.cell 0
      have qx1 := bx.cell 1
      have qx2 := bx.cell 2
      have CT := Lib.hid HPS.out.tell
      have CS := Lib.hid hsm
      have CA := Lib.hid (fun (W : World) (hb : Below W6.heap.size W6 W) => fill_awake W A (HS.out.kept (HPX.out.trans (hb.mono HPX.out.size)) (Nat.le_refl _)).toSents0)
      have HBF := Lib.hid bf
      have HBR := Lib.hid br
      have HBX := Lib.hid bx
      clear bf br bx hsm HPS
      go_upto_region 6 with (fail)
      go_region_with (first
        | (go_at_call 10; refine (CT.out _ (by first | exact Below.refl _ _ | exact (Below.refl _ _).drew)).mono ?_; rintro e w7 ⟨rfl, hb7⟩; have hbx : Below W6.heap.size W6 w7 := (by first | exact hb7 | exact ((Below.refl _ _).drew).trans hb7); have j1 := HBF.out.below hbx HBF.out.lt; have j2 := HBR.out.below hbx HBR.out.lt; have j3 := HBX.out.below hbx HBX.out.lt; have jf0 := j1.cell 0; have jf1 := j1.cell 1; have jf2 := j1.cell 2; have jr0 := j2.cell 0; have jr1 := j2.cell 1; have jr2 := j2.cell 2; have jx0 := j3.cell 0; have jx1 := j3.cell 1; have jx2 := j3.cell 2; have HB7 := Lib.hid hbx; clear hb7 hbx j1 j2 j3)
        | (go_at_call 11; refine (CS.out _ HB7.out).mono ?_; rintro e w8 ⟨rfl, hb8⟩; have HB8 := Lib.hid (HB7.out.trans (hb8.mono HB7.out.size)); clear hb8)
        | (go_at_call 12; refine (CA.out _ HB8.out).mono ?_; rintro e w9 ⟨rfl, hb9⟩; have HB9 := Lib.hid (HB8.out.trans (hb9.mono HB8.out.size)); clear hb9))
      all_goals go_wp2_with fail
      all_goals go_ret
      all_goals exact ⟨rfl, HPX.out.trans (HB9.out.mono HPX.out.size)⟩
end Go.Proofs.YtkecmfjjekagiaaGreatDoor
