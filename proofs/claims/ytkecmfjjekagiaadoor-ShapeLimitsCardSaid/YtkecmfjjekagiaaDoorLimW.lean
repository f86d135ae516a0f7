/- The walk of pidginlaw14.ShapeLimits: it returns true. Conditions as typed. -/
import Derived.Test.YtkecmfjjekagiaaDoorRef9
import Derived.Test.YtkecmfjjekagiaaDoorRowM
import Derived.Test.YtkecmfjjekagiaaDoorSameP
import Derived.Test.YtkecmfjjekagiaaDoorNilWalk
import Derived.StillTailTactics
namespace Go.Proofs.YtkecmfjjekagiaaDoor
open Go.RowKit Pg

/-- fault.Tell of an error of a code at a place, in a format. -/
theorem tell_errL (w : World) (A : Nat → Addr) (hS : Sents w A) (v : Value) (c : Nat) (p : Int) (h : ErrAt w A v c p) :
    Calls Tryd.prog 22 #[v] w fun e w' => e = .returned (.agg #[.int .i64 c, .int .i64 p, .int .i64 5]) ∧ Below w.heap.size w w' := by
  obtain ⟨b, hc, hb⟩ := h
  have := fault_Tell w A hS b c hb _ v hc
  exact this
/-- What a call leaves of a block behind which it began. -/
theorem blk_behind {W w' : World} {t : TypeId} {cs : Array Value} (hb : Below (W.alloc (.cells cs t)).heap.size (W.alloc (.cells cs t)) w') : Blk w' W.heap.size t cs := (Blk.new W t cs).below hb (by rw [World.size_alloc]; exact Nat.lt_succ_self _)
theorem blk_behindD {W w' : World} {t : TypeId} {cs : Array Value} (hb : Below (W.alloc (.cells cs t)).drew.heap.size (W.alloc (.cells cs t)).drew w') : Blk w' W.heap.size t cs := (Blk.new W t cs).drew.below hb (by show _ < (W.alloc _).heap.size; rw [World.size_alloc]; exact Nat.lt_succ_self _)
theorem bel_behind {W w' : World} {o : Obj} (hb : Below (W.alloc o).heap.size (W.alloc o) w') : Below W.heap.size W w' := (belowS W o).trans (hb.mono (belowS W o).size)
theorem bel_behindD {W w' : World} {o : Obj} (hb : Below (W.alloc o).drew.heap.size (W.alloc o).drew w') : Below W.heap.size W w' := (belowS W o).drew.trans (hb.mono (belowS W o).size)
def lenOf : Value → Nat
  | .slice _ n _ => n
  | _ => 0
theorem RowM.base {B B1 : Nat} {w : World} {v : Value} {l : List UInt8} (h : RowM B w v l) (hB : B1 ≤ B) : RowM B1 w v l := by
  obtain ⟨g, cap, cur, fz, h1, h2, h3⟩ := h
  exact ⟨g, cap, cur, fz, h1, by omega, h3⟩
theorem RowM.lt {B : Nat} {w : World} {v : Value} {l : List UInt8} (h : RowM B w v l) : B ≤ w.heap.size := by
  obtain ⟨g, cap, cur, fz, h1, h2, h3, _⟩ := h
  omega

set_option maxRecDepth 100000 in
set_option maxHeartbeats 8000000 in
theorem limits_core (z1 z2 z3 : Int) (cv : UInt8) (w : World) (A : Nat → Addr) (hS : Sents w A) :
    Calls Tryd.prog 10 #[.int .i64 z1, .int .i64 z2, .int .i64 z3, .int .u8 cv.toNat] w fun e w' => e = .returned (.bool true) ∧ Below w.heap.size w w' := by
  obtain ⟨k, hk, hkz⟩ := ixS z3 1100 (by omega) (by omega)
  obtain ⟨q1, hq1, hz1⟩ := ixS z1 2000 (by omega) (by omega)
  obtain ⟨q2, hq2, hz2⟩ := ixS z2 2000 (by omega) (by omega)
  have C1 := fun W => digitsS z1 q1 (by omega) hz1 W
  have C2 := fun W => digitsS z2 q2 (by omega) hz2 W
  obtain ⟨D1, hD1⟩ : ∃ D : ByteArray, ⟨(dtx q1).toArray⟩ = D := ⟨_, rfl⟩
  obtain ⟨D2, hD2⟩ : ∃ D : ByteArray, ⟨(dtx q2).toArray⟩ = D := ⟨_, rfl⟩
  have hd1 : D1.size ≤ 64 := by rw [← hD1]; show (dtx q1).toArray.size ≤ 64; rw [List.size_toArray]; exact digs_length 10 false q1
  have hd2 : D2.size ≤ 64 := by rw [← hD2]; show (dtx q2).toArray.size ≤ 64; rw [List.size_toArray]; exact digs_length 10 false q2
  simp only [hD1] at C1
  simp only [hD2] at C2
  have s1 : ((⟨#[37]⟩ : ByteArray) ++ D1).size ≤ 65 := by rw [ByteArray.size_append]; show 1 + D1.size ≤ 65; omega
  have s2 : ((⟨#[37]⟩ : ByteArray) ++ D1 ++ ⟨#[46]⟩).size ≤ 66 := by rw [ByteArray.size_append]; show _ + 1 ≤ 66; omega
  have s3 : ((⟨#[37]⟩ : ByteArray) ++ D1 ++ ⟨#[46]⟩ ++ D2).size ≤ 130 := by rw [ByteArray.size_append]; omega
  have C1 := Lib.hid C1
  have C2 := Lib.hid C2
  have HS := Lib.hid hS
  clear hz1 hz2 hD1 hD2 hS
  go_enter Tryd.func10, Tryd.ntmps10
  go_wp2_with fail
  refine (C1.out _).mono ?_
  rintro e w1 ⟨rfl, hb1⟩
  have HB1 := Lib.hid hb1
  clear hb1 hkz
  go_wp2_with fail
  refine (C2.out _).mono ?_
  rintro e w2 ⟨rfl, hb2⟩
  have HB2 := Lib.hid (HB1.out.trans (hb2.mono HB1.out.size))
  have rc := Lib.run_convert_string_bytes (P := Tryd.prog) w2 9 44 5 ((⟨#[37]⟩ : ByteArray) ++ D1 ++ ⟨#[46]⟩ ++ D2) Tryd.underlying9 Tryd.underlying44 Tryd.underlying5
  have hrm := RowM.conv w2 ((⟨#[37]⟩ : ByteArray) ++ D1 ++ ⟨#[46]⟩ ++ D2) (by unfold maxLen; omega)
  have hbw := HB2.out.trans ((bytes_below w2 ((⟨#[37]⟩ : ByteArray) ++ D1 ++ ⟨#[46]⟩ ++ D2)).mono HB2.out.size)
  obtain ⟨X, hX⟩ : ∃ X, X = Lib.bytesWorld w2 5 ((⟨#[37]⟩ : ByteArray) ++ D1 ++ ⟨#[46]⟩ ++ D2) := ⟨_, rfl⟩
  obtain ⟨l0, hl0⟩ : ∃ l0, l0 = bl ((⟨#[37]⟩ : ByteArray) ++ D1 ++ ⟨#[46]⟩ ++ D2) := ⟨_, rfl⟩
  obtain ⟨n0, hn0⟩ : ∃ n0, n0 = ((⟨#[37]⟩ : ByteArray) ++ D1 ++ ⟨#[46]⟩ ++ D2).size := ⟨_, rfl⟩
  have hl0n : l0.length = n0 := by rw [hl0, bl_length, hn0]
  have hn130 : n0 ≤ 130 := by omega
  rw [← hX, ← hn0] at rc hrm
  rw [← hl0] at hrm
  rw [← hX] at hbw
  generalize grownCap w2 n0 0 5 = gc at *
  have HRM := Lib.hid (hrm.base (show w.heap.size ≤ w2.heap.size from HB2.out.size))
  have HBX := Lib.hid hbw
  have hl130 : l0.length ≤ 130 := by omega
  have hszX : w.heap.size ≤ X.heap.size := hbw.size
  clear hb2 hbw hrm hX hl0 hn0 hl0n
  go_wp2_with (at_builtin; refine wpList_pushM rfl (.tmp 26) (.tmp 28) rfl cv HRM.out hszX (by omega) rfl rfl ?_; intro v3 w3 hm3 hb3; have HM3 := Lib.hid hm3; have HB3 := Lib.hid (HBX.out.trans hb3); clear hm3 hb3)
  go_loopw [9] (fun bv wr => ∃ l : List UInt8, l.length ≤ 1300 ∧ (∃ a c, bv = .slice a l.length c) ∧ Hid (RowM w.heap.size wr bv l) ∧ Hid (Below w.heap.size w wr)) (fun bv _ => k - lenOf bv)
  case atStart =>
    obtain ⟨a, c, hv, _⟩ := HM3.out.slice
    exact ⟨l0 ++ [cv], by rw [List.length_append]; show _ + 1 ≤ _; omega, ⟨a, c, hv⟩, HM3.out, HB3.out⟩
  case round =>
    obtain ⟨l, hl, ⟨a, c, rfl⟩, HM, HB⟩ := hrel
    have hszr := HB.out.size
    by_cases hlt : l.length < k
    · have e1 : decide ((l.length : Int) < (k : Int)) = true := decide_eq_true (by omega)
      go_wp2_with (at_builtin; refine wpList_pushM rfl (.tmp 34) (.tmp 35) rfl (120 : UInt8) HM.out hszr (by omega) rfl rfl ?_; intro v4 w4 hm4 hb4; have HM4 := Lib.hid hm4; have HB4 := Lib.hid (HB.out.trans hb4); clear hm4 hb4)
      go_roundw
      case rel =>
        obtain ⟨a', c', hv, _⟩ := HM4.out.slice
        exact ⟨l ++ [120], by rw [List.length_append]; show _ + 1 ≤ _; omega, ⟨a', c', hv⟩, HM4.out, HB4.out⟩
      case measure =>
        obtain ⟨a', c', hv, _⟩ := HM4.out.slice
        subst hv
        simp [lenOf]; omega
    · have e1 : decide ((l.length : Int) < (k : Int)) = false := decide_eq_false (by omega)
      obtain ⟨a', c', hv, hbs⟩ := HM.out.slice
      simp only [Value.slice.injEq, true_and] at hv
      obtain ⟨rfl, rfl⟩ := hv
      have HBS := Lib.hid hbs
      have CP := shape_Parse a c l wr hbs A (HS.out.kept HB.out (Nat.le_refl _)).toSents0
      have hc1 := hbs.1
      have hc2 := hbs.2.1
      unfold maxLen at hc2
      clear hbs
      cases hp : parse l with
      | error cq =>
        obtain ⟨cc, q⟩ := cq
        rw [hp] at CP
        have CP := Lib.hid CP
        have HCC := Lib.hid (parse_code hp)
        have ecc : ((cc : Int) != 0) = true := bne_iff_ne.2 (by have := HCC.out; omega)
        have HP := Lib.hid hp
        clear hp
        go_wp2_with fail
        refine CP.out.mono ?_
        rintro e w5 ⟨hb5, v, rfl, hE⟩
        obtain ⟨ty, x, rfl⟩ : ∃ t x, v = .iface t x := by obtain ⟨b, hc, _⟩ := hE; exact hc.iface
        have HB5 := Lib.hid (HB.out.trans (hb5.mono HB.out.size))
        have HE := Lib.hid hE
        have CR := ref_Parse a c l w5 (HBS.out.below hb5 (Nat.le_refl _))
        rw [HP.out] at CR
        have CR := Lib.hid CR
        clear hb5 hE
        go_wp2_with fail
        refine CR.out.mono ?_
        rintro e w6 ⟨hb6, rfl⟩
        have HB6 := Lib.hid (HB5.out.trans (hb6.mono HB5.out.size))
        have CT := Lib.hid (fun (W : World) (hb : Below w6.heap.size w6 W) => tell_errL W A (HS.out.kept (HB6.out.trans (hb.mono HB6.out.size)) (Nat.le_refl _)) _ cc q ((HE.out.kept hb6 (Nat.le_refl _)).kept hb (Nat.le_refl _)))
        clear hb6
        go_upto_region 8 with (fail)
        go_cut [55] (fun c wx => c = .bool true ∧ Hid (Below w6.heap.size w6 wx) ∧ Hid (Blk wx w6.heap.size 26 #[.int .i64 cc, .int .i64 q, .int .i64 5]))
        case first =>
          go_region_with (go_at_call 22; refine (CT.out _ (by first | exact belowS w6 _ | exact (belowS w6 _).drew)).mono ?_; rintro e w7 ⟨rfl, hb7⟩; have bk7 : Blk w7 w6.heap.size 26 #[.int .i64 cc, .int .i64 q, .int .i64 5] := (by first | exact blk_behind hb7 | exact blk_behindD hb7); have HB7 : Hid (Below w6.heap.size w6 w7) := (by first | exact bel_behind hb7 | exact bel_behindD hb7); have q0 := bk7.cell 0; have q1 := bk7.cell 1; have q2 := bk7.cell 2; have HK7 := Lib.hid bk7; clear hb7 bk7)
          all_goals (
            go_wp2_with fail
            go_meet
            exact ⟨rfl, HB7, HK7⟩)
        case rest =>
          obtain ⟨rfl, HB7, HK7⟩ := hcut
          obtain ⟨w7, hw7⟩ : ∃ w7, w7 = wc := ⟨_, rfl⟩
          subst hw7
          have q0 := HK7.out.cell 0
          have q1 := HK7.out.cell 1
          have q2 := HK7.out.cell 2
          have hlt6 := HK7.out.lt
          have HBA := Lib.hid (HB6.out.trans (HB7.out.mono HB6.out.size))
          have CA := Lib.hid (fun (W : World) (hb : Below w6.heap.size w6 W) => shape_awake W A (HS.out.kept (HB6.out.trans (hb.mono HB6.out.size)) (Nat.le_refl _)).toSents0)
          go_upto_region 9 with (fail)
          go_region_with (first
            | (go_at_call 22; refine (CT.out _ (by first | exact HB7.out | exact HB7.out.drew)).mono ?_; rintro e w8 ⟨rfl, hb8⟩; have hbx : Below w7.heap.size w7 w8 := (by first | exact hb8 | exact ((Below.refl _ _).drew).trans hb8); have HB8 := Lib.hid (HB7.out.trans (hbx.mono HB7.out.size)); have bk8 := HK7.out.below hbx hlt6; have u0 := bk8.cell 0; have u1 := bk8.cell 1; have u2 := bk8.cell 2; clear hb8 hbx bk8)
            | (go_at_call 32; refine (CA.out _ HB8.out).mono ?_; rintro e w9 ⟨rfl, hb9⟩; have HB9 := Lib.hid (HB8.out.trans (hb9.mono HB8.out.size)); clear hb9))
          all_goals go_wp2_with fail
          all_goals go_ret
          all_goals exact ⟨rfl, HB6.out.trans (HB9.out.mono HB6.out.size)⟩
      | ok P =>
        rw [hp] at CP
        have CP := Lib.hid CP
        have HGP := Lib.hid (parse_goodS hp)
        have HP := Lib.hid hp
        clear hp
        go_wp2_with fail
        refine CP.out.mono ?_
        rintro e w5 ⟨hb5, F, rfl, hF⟩
        have HB5 := Lib.hid (HB.out.trans (hb5.mono HB.out.size))
        have HF := Lib.hid hF
        have CR := ref_Parse a c l w5 (HBS.out.below hb5 (Nat.le_refl _))
        rw [HP.out] at CR
        have CR := Lib.hid CR
        clear hb5 hF
        go_wp2_with fail
        refine CR.out.mono ?_
        rintro e w6 ⟨hb6, v2, rfl, hpc⟩
        have HB6 := Lib.hid (HB5.out.trans (hb6.mono HB5.out.size))
        have HF6 := Lib.hid (HF.out.below hb6 (Nat.le_refl _))
        have HPC := Lib.hid hpc
        have ct := fun (W : World) => fault_Tell_nil W
        simp only [fv] at ct
        have CT := Lib.hid ct
        clear ct
        clear hb6 hpc
        go_upto_region 8 with (fail)
        go_cut [55] (fun c wx => c = .bool false ∧ Hid (Below w6.heap.size w6 wx) ∧ Hid (Blk wx w6.heap.size 26 #[.int .i64 0, .int .i64 0, .int .i64 0]))
        case first =>
          go_region_with (go_at_call 22; refine (CT.out _).mono ?_; rintro e w7 ⟨rfl, hb7⟩; have bk7 : Blk w7 w6.heap.size 26 #[.int .i64 0, .int .i64 0, .int .i64 0] := (by first | exact blk_behind hb7 | exact blk_behindD hb7); have HB7 : Hid (Below w6.heap.size w6 w7) := (by first | exact bel_behind hb7 | exact bel_behindD hb7); have q0 := bk7.cell 0; have q1 := bk7.cell 1; have q2 := bk7.cell 2; have HK7 := Lib.hid bk7; clear hb7 bk7)
          all_goals (
            go_wp2_with fail
            go_meet
            exact ⟨rfl, HB7, HK7⟩)
        case rest =>
          obtain ⟨rfl, HB7, HK7⟩ := hcut
          obtain ⟨w7, hw7⟩ : ∃ w7, w7 = wc := ⟨_, rfl⟩
          subst hw7
          have HB67 := Lib.hid (HB6.out.trans (HB7.out.mono HB6.out.size))
          have CPA := shape_Parts _ w7 F P (HF6.out.below HB7.out (Nat.le_refl _)) (by have := HGP.out.1; omega) (fun p h => by have := (HGP.out.2 p h).1; omega)
          have CPA := Lib.hid CPA
          have HPC7 := Lib.hid (HPC.out.below HB7.out (Nat.le_refl _))
          clear HK7
          go_wp2_with fail
          refine CPA.out.mono ?_
          rintro e w8 ⟨v1, rfl, hpr⟩
          have hpc1 := hpr.1
          rw [List.take_length] at hpc1
          have HB8 := Lib.hid (HB67.out.trans (hpr.2.mono HB67.out.size))
          have CS := Lib.hid (ref_SameParts _ _ w8 v1 v2 (P.map norm) hpc1 (HPC7.out.below hpr.2 (Nat.le_refl _)) (by rw [List.length_map]; have := HGP.out.1; omega))
          clear hpr hpc1
          go_wp2_with fail
          refine CS.out.mono ?_
          rintro e w9 ⟨rfl, hb9⟩
          have HB9 := Lib.hid (HB8.out.trans (hb9.mono HB8.out.size))
          have CA := Lib.hid (shape_awake w9 A (HS.out.kept HB9.out (Nat.le_refl _)).toSents0)
          clear hb9
          go_wp2_with (go_at_call 32; refine CA.out.mono ?_; rintro e w10 ⟨rfl, hb10⟩; have HB10 := Lib.hid (HB9.out.trans (hb10.mono HB9.out.size)); clear hb10)
          go_ret
          exact ⟨rfl, HB10.out⟩
end Go.Proofs.YtkecmfjjekagiaaDoor
