/- The walk of pidginlaw14.ShapeFlags, its loop: under way. Conditions as typed. -/
import Derived.Test.YtkecmfjjekagiaaDoorFlags1
import Derived.Deep.CutRange
import Derived.Test.YtkecmfjjekagiaaDoorFlagsP
import Derived.Test.YtkecmfjjekagiaaDoorFillNilWalk
import Derived.Test.YtkecmfjjekagiaaDoorNilWalk
namespace Go.Proofs.YtkecmfjjekagiaaDoor
open Go.RowKit Pg

/-- The k-th flag's byte. -/
def flb : Nat → UInt8
  | 0 => 45
  | 1 => 43
  | 2 => 32
  | 3 => 48
  | _ => 35
theorem idxFl (W : World) : ∀ k : Nat, k < 5 → (Instr.index 9 (.string ⟨#[45, 43, 32, 48, 35]⟩) (.int .u8 (k : Int))).run Tryd.prog W = .ok (.int .u8 (flb k).toNat) W
  | 0, _ => by kernel_rfl
  | 1, _ => by kernel_rfl
  | 2, _ => by kernel_rfl
  | 3, _ => by kernel_rfl
  | 4, _ => by kernel_rfl
theorem flb_is (k : Nat) : isFl (flb k).toNat = true := by
  unfold flb
  split <;> decide
/-- The flags that the loop has read. -/
def flagsOf (l : List UInt8) : List UInt8 := l.map fun c => flb (c.toNat % 5)

theorem ixn (z m : Int) (h0 : 0 < m) (h1 : m ≤ 5000) : ∃ k : Nat, (k : Int) < m ∧ (wrap64 (z.tmod m + m)).tmod m = (k : Int) := by
  have a := Int.lt_tmod_of_pos z h0
  have b := Int.tmod_lt_of_pos z h0
  have hw : wrap64 (z.tmod m + m) = z.tmod m + m := IntWalk.wrap64_in _ ⟨by omega, by omega⟩
  refine ⟨((z.tmod m + m) % m).toNat, ?_, ?_⟩
  · have := Int.emod_lt_of_pos (z.tmod m + m) h0
    have := Int.emod_nonneg (z.tmod m + m) (show m ≠ 0 by omega)
    omega
  · rw [hw, Int.tmod_eq_emod_of_nonneg (by omega)]
    have := Int.emod_nonneg (z.tmod m + m) (show m ≠ 0 by omega)
    omega
theorem one_later (cv : UInt8) {W w1 : World} (hb : Below (W.alloc (.cells #[.int .u8 cv.toNat] 5)).heap.size (W.alloc (.cells #[.int .u8 cv.toNat] 5)) w1) (s : Nat) (hs : W.heap.size = s) :
    (convert 44 9 (.slice (some ⟨s, 0, none⟩) 1 1)).run Tryd.prog w1 = .ok (.string ⟨#[UInt8.ofNat cv.toNat]⟩) w1 := by
  subst hs
  have h := bsStr ((Bs.mark W 5 (0, 0) [cv] (by show 1 ≤ maxLen; decide)).below hb (Nat.le_refl _))
  rw [UInt8.ofNat_toNat]
  exact h
theorem flagsOf_is (l : List UInt8) : ∀ c ∈ flagsOf l, isFl c.toNat = true := by
  intro c hc
  unfold flagsOf at hc
  obtain ⟨d, _, rfl⟩ := List.mem_map.1 hc
  exact flb_is _
/-- What shape.Parse tells of a string turned into bytes. -/
def ParseAt (W : World) (A : Nat → Addr) (r : Except (Nat × Nat) (List Part)) (e : Ending) (w' : World) : Prop :=
  Below W.heap.size W w' ∧ match r with
  | .error (c, p) => ∃ v : Value, e = .returned (.tuple #[.pointer none, v]) ∧ ErrAt w' A v c p
  | .ok L => ∃ B F : Nat, e = .returned (.tuple #[.pointer (some ⟨F, 0, none⟩), .nilIface]) ∧ FmtC B w' F L
theorem ParsePost.down {W X : World} {A : Nat → Addr} {r : Except (Nat × Nat) (List Part)} {e : Ending} {w' : World} (h : ParsePost X A r e w') (hb : Below W.heap.size W X) : ParseAt W A r e w' := by
  obtain ⟨h1, h2⟩ := h
  refine ⟨hb.trans (h1.mono hb.size), ?_⟩
  cases r with
  | error cp => exact h2
  | ok L => obtain ⟨F, h3, h4⟩ := h2; exact ⟨_, F, h3, h4⟩
theorem ParseAt.err {W : World} {A : Nat → Addr} {c p : Nat} {e : Ending} {w' : World} (h : ParseAt W A (.error (c, p)) e w') : ∃ t x, e = .returned (.tuple #[.pointer none, .iface t x]) ∧ ErrAt w' A (.iface t x) c p ∧ Below W.heap.size W w' := by
  obtain ⟨hb, v, rfl, hE⟩ := h
  obtain ⟨t, x, rfl⟩ : ∃ t x, v = .iface t x := by obtain ⟨b, hc, _⟩ := hE; exact hc.iface
  exact ⟨t, x, rfl, hE, hb⟩
theorem ParseAt.good {W : World} {A : Nat → Addr} {L : List Part} {e : Ending} {w' : World} (h : ParseAt W A (.ok L) e w') : ∃ B F, e = .returned (.tuple #[.pointer (some ⟨F, 0, none⟩), .nilIface]) ∧ FmtC B w' F L ∧ Below W.heap.size W w' := by
  obtain ⟨hb, B, F, rfl, h⟩ := h
  exact ⟨B, F, rfl, h, hb⟩
theorem parse_conv (W : World) (A : Nat → Addr) (hS : Sents0 W A) (S : ByteArray) (hz : S.size ≤ maxLen) :
    ∃ X gc n, (convert 9 44 (.string S)).run Tryd.prog W = .ok (.slice (some ⟨W.heap.size, 0, none⟩) n gc) X ∧
      Calls Tryd.prog 33 #[.slice (some ⟨W.heap.size, 0, none⟩) n gc] X (ParseAt W A (parse (bl S))) := by
  have rc := Lib.run_convert_string_bytes (P := Tryd.prog) W 9 44 5 S Tryd.underlying9 Tryd.underlying44 Tryd.underlying5
  have hbw := bytes_below W S
  have hbs := bytes_bs W S hz
  refine ⟨_, _, _, rc, ?_⟩
  have C := shape_Parse _ _ (bl S) _ hbs A (hS.kept hbw (Nat.le_refl _))
  rw [bl_length] at C
  exact C.mono fun _ _ h => h.down hbw

set_option maxRecDepth 100000 in
set_option maxHeartbeats 4000000 in
/-- ShapeFlags: it returns true. -/
theorem shapeFlags_walk (a0 : Option Addr) (cap0 : Nat) (l0 : List UInt8) (z : Int) (cv : UInt8) (w : World) (A : Nat → Addr) (hS : Sents w A) (h0 : Bs w a0 cap0 l0) :
    Calls Tryd.prog 9 #[.slice a0 l0.length cap0, .int .i64 z, .int .u8 cv.toNat] w fun e w' => e = .returned (.bool true) ∧ Below w.heap.size w w' := by
  have H0 := Lib.hid h0
  have HS := Lib.hid hS
  clear hS
  have c0 := h0.1
  have m0 := h0.2.1
  unfold maxLen at m0
  obtain ⟨Z, hzz⟩ : ∃ Z, Z = z.tmod 900 + 1 := ⟨_, rfl⟩
  have t1 := Int.lt_tmod_of_pos z (show (0 : Int) < 900 by omega)
  have t2 := Int.tmod_lt_of_pos z (show (0 : Int) < 900 by omega)
  have hw1 : wrap64 (z.tmod 900 + 1) = Z := by rw [hzz]; exact IntWalk.wrap64_in _ ⟨by omega, by omega⟩
  have hw2 : IntKind.i64.wrap (z.tmod 900 + 1) = Z := by rw [IntKind.wrap_i64]; omega
  clear h0
  go_enter Tryd.func9, Tryd.ntmps9
  go_wp2_with fail
  go_loopw [7, 8, 9] (fun lv bv iv wr => ∃ (k : Nat) (ab : Option Addr) (cb : Nat), k ≤ l0.length ∧ k ≤ 30 ∧ iv = .int .i64 k ∧ bv = .slice ab k cb ∧ Hid (FlRel w (flagsOf (l0.take k)) lv ab cb wr)) (fun _ _ iv _ => l0.length - (intOf iv).toNat)
  case atStart => exact ⟨0, none, 0, by omega, by omega, rfl, rfl, FlRel.nil w⟩
  case round =>
    obtain ⟨k, ab, cb, hk, hk30, rfl, rfl, HR⟩ := hrel
    go_upto_region 3 with (fail)
    go_cut [25] from 18 to 41 (fun t wx => ∃ D : Bool, Hid (D = (decide (k < l0.length) && decide (k < 30))) ∧ t = .bool D ∧ wx = wr)
    case first =>
      by_cases h1 : k < l0.length
      · have e1 : decide ((k : Int) < l0.length) = true := decide_eq_true (by omega)
        by_cases h2 : k < 30
        · have e2 : decide ((k : Int) < 30) = true := decide_eq_true (by omega)
          have HD : Hid (true = (decide (k < l0.length) && decide (k < 30))) := by show _ = _; rw [decide_eq_true h1, decide_eq_true h2]; rfl
          go_wp2_with fail
          go_meet
          exact ⟨true, HD, rfl, rfl⟩
        · have e2 : decide ((k : Int) < 30) = false := decide_eq_false (by omega)
          have HD : Hid (false = (decide (k < l0.length) && decide (k < 30))) := by show _ = _; rw [decide_eq_true h1, decide_eq_false h2]; rfl
          go_wp2_with fail
          go_meet
          exact ⟨false, HD, rfl, rfl⟩
      · have e1 : decide ((k : Int) < l0.length) = false := decide_eq_false (by omega)
        have HD : Hid (false = (decide (k < l0.length) && decide (k < 30))) := by show _ = _; rw [decide_eq_false h1]; rfl
        go_wp2_with fail
        go_meet
        exact ⟨false, HD, rfl, rfl⟩
    case rest =>
      obtain ⟨D, HD, rfl, rfl⟩ := hcut
      cases D
      · clear HD
        obtain ⟨wl, hwl⟩ : ∃ wl, wl = wc := ⟨_, rfl⟩
        subst hwl
        go_upto_region 8 with (fail)
        have hfl : (flagsOf (l0.take k)).length = k := by unfold flagsOf; rw [List.length_map, List.length_take]; omega
        have hfs := flagsOf_is (l0.take k)
        generalize flagsOf (l0.take k) = L at *
        obtain ⟨q, hq, hqz⟩ := ixn Z 2000 (by omega) (by omega)
        have C14 := fun W => digits14 Z q (by omega) hqz W
        obtain ⟨LS, hLS⟩ : ∃ LS : ByteArray, ⟨L.toArray⟩ = LS := ⟨_, rfl⟩
        obtain ⟨DS, hDS⟩ : ∃ DS : ByteArray, ⟨(dtx q).toArray⟩ = DS := ⟨_, rfl⟩
        obtain ⟨CS, hCS⟩ : ∃ CS : ByteArray, ⟨#[UInt8.ofNat cv.toNat]⟩ = CS := ⟨_, rfl⟩
        have hL30 : LS.size ≤ 30 := by rw [← hLS]; show L.toArray.size ≤ 30; rw [List.size_toArray]; omega
        have hD64 : DS.size ≤ 64 := by rw [← hDS]; show (dtx q).toArray.size ≤ 64; rw [List.size_toArray]; exact digs_length 10 false q
        have hC1 : CS.size = 1 := by rw [← hCS]; rfl
        have hLD : (LS ++ DS).size ≤ 94 := by rw [ByteArray.size_append]; omega
        have hLDC : (LS ++ DS ++ CS).size ≤ 95 := by rw [ByteArray.size_append]; omega
        simp only [hDS] at C14
        obtain ⟨la, lc, hlv, l1, l2, _⟩ := ownsRow_form HR.out.l
        subst hlv
        have kL := fun (W : World) (hb : Below wl.heap.size wl W) => ownStr HR.out.l rfl hb (Nat.le_refl _)
        have kC := fun (W : World) => oneByte cv.toNat cv.toNat_lt W
        simp only [hLS, hfl] at kL
        simp only [hCS] at kC
        unfold maxLen at l2
        rw [hfl] at l1 ⊢
        have k0 := kL wl.drew ((Below.refl _ _).drew)
        have kd := oneByteAt cv.toNat cv.toNat_lt wl.drew wl.heap.size rfl
        have kA := kL (wl.drew.alloc (.cells #[.int .u8 cv.toNat] 5)) (((Below.refl _ _).drew).alloc (Nat.le_refl _) _)
        rw [hCS] at kd
        have kA2 := kL ((wl.alloc (.cells #[.int .u8 cv.toNat] 5)).drew) (((Below.refl _ _).alloc (Nat.le_refl _) _).drew)
        have kd2 := one_later (W := wl) (w1 := (wl.alloc (.cells #[.int .u8 cv.toNat] 5)).drew) cv ((Below.refl _ _).drew) wl.heap.size rfl
        rw [hCS] at kd2
        have HKL := Lib.hid kL
        have HFS := Lib.hid hfs
        have HFL := Lib.hid hfl
        have HLS := Lib.hid hLS
        have HDS := Lib.hid hDS
        have HCS := Lib.hid hCS
        have C14 := Lib.hid C14
        clear kL hfs hfl hLS hDS hCS hqz hzz
        go_cut [11] (fun sv wx => sv = .string (LS ++ DS ++ CS) ∧ Hid (Below wl.heap.size wl wx))
        case first =>
          go_region_with (go_at_call 34; refine (C14.out _).mono ?_; rintro e w1 ⟨rfl, hb1⟩; have hbx : Below wl.heap.size wl w1 := (by first | exact hb1 | exact ((Below.refl wl.heap.size wl).drew).trans hb1 | exact (((Below.refl wl.heap.size wl).drew).alloc (Nat.le_refl _) _).trans (hb1.mono (by show _ ≤ (World.alloc _ _).heap.size; rw [World.size_alloc]; exact Nat.le_succ _))); have k1 := HKL.out w1 hbx; have k1a := HKL.out (w1.alloc (.cells #[.int .u8 cv.toNat] 5)) (hbx.alloc hbx.size _); have HB1 := Lib.hid hbx; (first | (have hbz : Below wl.drew.heap.size wl.drew w1 := hb1; clear hbz) | go_must (have k2 := one_later (W := wl.drew) cv hb1 wl.heap.size rfl; rw [HCS.out] at k2)); clear hb1 hbx)
          all_goals (
            go_wp2_with fail
            go_meet
            exact ⟨rfl, by first | exact HB1.out | exact HB1.out.alloc HB1.out.size _⟩)
        case rest =>
          obtain ⟨rfl, HB2⟩ := hcut
          obtain ⟨w0, hw0⟩ : ∃ w0, w0 = wc := ⟨_, rfl⟩
          subst hw0
          obtain ⟨KS, hKS⟩ : ∃ KS : ByteArray, ⟨L.reverse.toArray⟩ = KS := ⟨_, rfl⟩
          have hK30 : KS.size ≤ 30 := by rw [← hKS]; show L.reverse.toArray.size ≤ 30; rw [List.size_toArray, List.length_reverse, HFL.out]; exact hk30
          have hbT : bl (LS ++ DS ++ CS) = L ++ (dtx q ++ [cv]) := by
            rw [bl_app, bl_app, ← HLS.out, ← HDS.out, ← HCS.out, bl_mk, bl_mk, UInt8.ofNat_toNat, List.append_assoc]
            rfl
          have hbK : bl KS = L.reverse := by rw [← hKS, bl_mk]
          obtain ⟨T, hT⟩ : ∃ T, T = LS ++ DS ++ CS := ⟨_, rfl⟩
          rw [← hT] at hbT hLDC ⊢
          have hz1 : ((⟨#[37]⟩ : ByteArray) ++ T).size ≤ 100 := by rw [ByteArray.size_append]; show 1 + T.size ≤ 100; omega
          have hz2' : ((⟨#[37]⟩ : ByteArray) ++ KS).size ≤ 31 := by rw [ByteArray.size_append]; show 1 + KS.size ≤ 31; omega
          have hz2 : ((⟨#[37]⟩ : ByteArray) ++ KS ++ T).size ≤ 200 := by rw [ByteArray.size_append]; omega
          have e1 : bl ((⟨#[37]⟩ : ByteArray) ++ T) = 37 :: (L ++ (dtx q ++ [cv])) := by rw [bl_app, hbT]; rfl
          have e2 : bl ((⟨#[37]⟩ : ByteArray) ++ KS ++ T) = 37 :: (L.reverse ++ (L ++ (dtx q ++ [cv]))) := by rw [bl_app, bl_app, hbT, hbK]; rfl
          have hlaw := flags_law L (dtx q ++ [cv]) HFS.out (by rw [HFL.out]; exact hk30) (by rw [List.length_append]; have := digs_length 10 false q; show (digs 10 false q).length + 1 ≤ 100; omega)
          rw [← e1, ← e2] at hlaw
          have kB := fun (W : World) (hb : Below wl.heap.size wl W) => ownStr HR.out.b (List.length_reverse).symm hb (Nat.le_refl _)
          simp only [hKS, HFL.out] at kB
          have KB := Lib.hid kB
          have HBA := Lib.hid (HR.out.bel.trans (HB2.out.mono HR.out.bel.size))
          have HLAW := Lib.hid hlaw
          have HSW := Lib.hid (HS.out.kept HBA.out (Nat.le_refl _))
          obtain ⟨X1, g1, n1, rc1, C1⟩ := parse_conv w0 A HSW.out.toSents0 _ (show ((⟨#[37]⟩ : ByteArray) ++ T).size ≤ maxLen by unfold maxLen; omega)
          have C1 := Lib.hid C1
          clear k0 kd kA kd2 kA2 C14 hKS hbT hbK hT e1 e2 hlaw kB kC hC1 hD64 hL30 hLD hw1 hw2 t1 t2
          rcases HLAW.out with ⟨P, p1, p2⟩ | ⟨c, pp, pq, p1, p2⟩
          · have P2 := Lib.hid p2
            have hgp := parse_good p1
            have HGP := Lib.hid hgp
            have C1 := C1.out
            rw [p1] at C1
            have C1 := Lib.hid C1
            clear p1 p2 hgp
            go_wp2_with fail
            refine C1.out.mono ?_
            rintro e w1 hp
            obtain ⟨B1, F1, rfl, hF1, hb1⟩ := hp.good
            have k1 := KB.out w1 (HB2.out.trans (hb1.mono HB2.out.size))
            have HB1 := Lib.hid (HBA.out.trans (hb1.mono HBA.out.size))
            have HF1 := Lib.hid hF1
            obtain ⟨X2, g2, n2, rc2, C2⟩ := parse_conv w1 A (HS.out.kept HB1.out (Nat.le_refl _)).toSents0 _ (show ((⟨#[37]⟩ : ByteArray) ++ KS ++ T).size ≤ maxLen by unfold maxLen; omega)
            rw [P2.out] at C2
            have C2 := Lib.hid C2
            clear hp hF1 hb1
            go_wp2_with fail
            refine C2.out.mono ?_
            rintro e w2 hp
            obtain ⟨B2, F2, rfl, hF2, hb2⟩ := hp.good
            have HB3 := Lib.hid (HB1.out.trans (hb2.mono HB1.out.size))
            have CT1 := Lib.hid (shape_Text B1 w2 F1 P (HF1.out.below hb2 (Nat.le_refl _)) (by have := HGP.out.1; omega) (fun p h => by have := (HGP.out.2 p h).1; omega) (fun p h => (HGP.out.2 p h).2.1) (fun p h => by have := (HGP.out.2 p h).2.2; omega))
            have CT2 := Lib.hid (fun (W : World) (hb : Below w2.heap.size w2 W) => shape_Text B2 W F2 P (hF2.below hb (Nat.le_refl _)) (by have := HGP.out.1; omega) (fun p h => by have := (HGP.out.2 p h).1; omega) (fun p h => (HGP.out.2 p h).2.1) (fun p h => by have := (HGP.out.2 p h).2.2; omega))
            obtain ⟨TX, hTX⟩ : ∃ TX : ByteArray, ⟨(text P).toArray⟩ = TX := ⟨_, rfl⟩
            rw [hTX] at CT1 CT2
            clear hp hF2 hb2 hTX rc1 rc2
            go_wp2_with fail
            refine CT1.out.mono ?_
            rintro e w3 ⟨rfl, hb3⟩
            have HT3 := Lib.hid hb3
            clear hb3
            go_wp2_with fail
            refine (CT2.out _ HT3.out).mono ?_
            rintro e w4 ⟨rfl, hb4⟩
            have HB4 := Lib.hid (HB3.out.trans ((HT3.out.trans (hb4.mono HT3.out.size)).mono HB3.out.size))
            have CA := Lib.hid (shape_awake w4 A (HS.out.kept HB4.out (Nat.le_refl _)).toSents0)
            clear hb4
            go_wp2_with (go_at_call 32; refine CA.out.mono ?_; rintro e w5 ⟨rfl, hb5⟩; have HB5 := Lib.hid hb5; clear hb5)
            go_ret
            exact ⟨rfl, HB4.out.trans (HB5.out.mono HB4.out.size)⟩
          · have P2 := Lib.hid p2
            have C1 := C1.out
            rw [p1] at C1
            have C1 := Lib.hid C1
            clear p1 p2
            go_wp2_with fail
            refine C1.out.mono ?_
            rintro e w1 hp
            obtain ⟨ty1, x1, rfl, hE1, hb1⟩ := hp.err
            have k1 := KB.out w1 (HB2.out.trans (hb1.mono HB2.out.size))
            have HB1 := Lib.hid (HBA.out.trans (hb1.mono HBA.out.size))
            have HE1 := Lib.hid hE1
            obtain ⟨X2, g2, n2, rc2, C2⟩ := parse_conv w1 A (HS.out.kept HB1.out (Nat.le_refl _)).toSents0 _ (show ((⟨#[37]⟩ : ByteArray) ++ KS ++ T).size ≤ maxLen by unfold maxLen; omega)
            rw [P2.out] at C2
            have C2 := Lib.hid C2
            clear hp hE1 hb1
            go_wp2_with fail
            refine C2.out.mono ?_
            rintro e w2 hp
            obtain ⟨ty2, x2, rfl, hE2, hb2⟩ := hp.err
            have HB3 := Lib.hid (HB1.out.trans (hb2.mono HB1.out.size))
            have CT1 := Lib.hid (tell_err w2 A (HS.out.kept HB3.out (Nat.le_refl _)) _ c pp (HE1.out.kept hb2 (Nat.le_refl _)))
            have CT2 := Lib.hid (fun (W : World) (hb : Below w2.heap.size w2 W) => tell_err W A (HS.out.kept (HB3.out.trans (hb.mono HB3.out.size)) (Nat.le_refl _)) _ c pq (hE2.kept hb (Nat.le_refl _)))
            clear hp hE2 hb2 rc1 rc2
            go_wp2_with fail
            refine CT1.out.mono ?_
            rintro e w3 ⟨rfl, hb3⟩
            have HT3 := Lib.hid hb3
            clear hb3
            go_wp2_with fail
            refine (CT2.out _ HT3.out).mono ?_
            rintro e w4 ⟨rfl, hb4⟩
            have HB4 := Lib.hid (HB3.out.trans ((HT3.out.trans (hb4.mono HT3.out.size)).mono HB3.out.size))
            have CA := Lib.hid (fun (W : World) (hb : Below w4.heap.size w4 W) => shape_awake W A (HS.out.kept (HB4.out.trans (hb.mono HB4.out.size)) (Nat.le_refl _)).toSents0)
            clear hb4
            have bA := (BelowA w4 (.cells #[.int .i64 c, .int .i64 pp, .int .i64 5] 26)).alloc (by simp) (.cells #[.int .i64 c, .int .i64 pq, .int .i64 5] 26)
            have BA := Lib.hid bA
            clear bA
            go_wp2_with (go_at_call 32; refine (CA.out _ BA.out).mono ?_; rintro e w5 ⟨rfl, hb5⟩; have HB5 := Lib.hid hb5; clear hb5)
            go_ret
            exact ⟨rfl, HB4.out.trans ((BA.out.trans (HB5.out.mono BA.out.size)).mono HB4.out.size)⟩
      · have hd := HD.out.symm
        rw [Bool.and_eq_true, decide_eq_true_eq, decide_eq_true_eq] at hd
        obtain ⟨h1, h2⟩ := hd
        clear HD
        obtain ⟨b, off, rfl, hc⟩ := (H0.out.below HR.out.bel (Nat.le_refl _)).2.2 k h1
        have HX : Hid (∃ x, x = l0[k].toNat) := ⟨_, rfl⟩
        obtain ⟨x, hx⟩ := HX.out
        rw [← hx] at hc
        have HXX := Lib.hid hx
        clear hx HX
        have ki := fun W => idxFl W (x % 5) (by omega)
        have ev : ((x % 5 : Nat) : Int) = (x : Int) % 5 := by omega
        simp only [ev] at ki
        clear ev
        have em : (x : Int).tmod 5 = (x : Int) % 5 := Int.tmod_eq_emod_of_nonneg (by omega)
        generalize hcc : flb (x % 5) = c at *
        have HCC := Lib.hid hcc
        clear hcc
        have hfl : (flagsOf (l0.take k)).length = k := by unfold flagsOf; rw [List.length_map, List.length_take]; omega
        have hft : flagsOf (l0.take (k + 1)) = flagsOf (l0.take k) ++ [c] := by
          unfold flagsOf
          rw [List.take_succ_eq_append_getElem h1, List.map_append, ← HCC.out, HXX.out]
          rfl
        have HFT := Lib.hid hft
        have HFL := Lib.hid hfl
        clear hft hfl
        generalize flagsOf (l0.take k) = L at *
        go_wp2_with (first | (at_builtin; refine wpList_push1 rfl (.tmp 34) (.tmp 36) rfl L u7 ab cb c HR.out (by rw [HFL.out]; omega) rfl rfl ?_; intro lv' w1 hm; have HM := Lib.hid hm; clear hm) | (at_builtin; refine wpList_push2 rfl (.tmp 39) (.tmp 40) rfl L lv' ab cb c HM.out (by rw [HFL.out]; omega) k HFL.out rfl rfl ?_; intro g' cap' w2 hr2; have HR2 := Lib.hid hr2; clear hr2))
        go_roundw
        case rel => exact ⟨k + 1, _, _, by omega, by omega, by go_num, rfl, by rw [HFT.out]; exact HR2.out⟩
        case measure => simp [intOf]; omega
end Go.Proofs.YtkecmfjjekagiaaDoor
