/- The walks of pidginref14.Once and of pidginlaw15.FillOnce: it returns true. Conditions as typed. -/
import Derived.Test.YtppcjmbblkbkdaaGreatDoorPrintsP
import Derived.Test.YtppcjmbblkbkdaaGreatDoorOnce2
namespace Go.Proofs.YtppcjmbblkbkdaaGreatDoor
open Go.RowKit Pg

theorem blk_behindD {W w' : World} {t : TypeId} {cs : Array Value} (hb : Below (W.alloc (.cells cs t)).drew.heap.size (W.alloc (.cells cs t)).drew w') : Blk w' W.heap.size t cs := (Blk.new W t cs).drew.below hb (by show _ < (W.alloc _).heap.size; rw [World.size_alloc]; exact Nat.lt_succ_self _)
theorem bel_behind {W w' : World} {o : Obj} (hb : Below (W.alloc o).heap.size (W.alloc o) w') : Below W.heap.size W w' := (belowS W o).trans (hb.mono (belowS W o).size)
theorem bel_behindD {W w' : World} {o : Obj} (hb : Below (W.alloc o).drew.heap.size (W.alloc o).drew w') : Below W.heap.size W w' := (belowS W o).drew.trans (hb.mono (belowS W o).size)

set_option maxRecDepth 100000 in
set_option maxHeartbeats 8000000 in
/-- pidginref14.Once of what a format is parsed to. -/
theorem ref_Once (B : Nat) (v : Value) (l : List UInt8) (L : List Part) (hl : parse l = .ok L) (w : World) (hp : PartsC B w v (L.map norm)) (a : Option Addr) (cap : Nat) (ops : List ByteArray) (hO : Ss w a cap ops) (hops : ∀ S ∈ ops, S.size ≤ 140737488351232) (r1 : Out) (tk : Nat) (on : Bool) (hx : once L (ops.map bl) ⟨[], [], false⟩ 0 = (r1, tk, on)) :
    Calls Tryz.prog 15 #[v, .slice a ops.length cap] w (OnceTold w r1 tk) := by
  obtain ⟨hg1, hg2⟩ := parse_good hl
  have hb1 := belowS w (.cells #[.slice none 0 0, .slice none 0 0, .bool false] 28)
  have CO : Calls Tryz.prog 21 #[v, .slice a ops.length cap, .int .i64 0] (w.alloc (.cells #[.slice none 0 0, .slice none 0 0, .bool false] 28)) (ROncePost (w.alloc (.cells #[.slice none 0 0, .slice none 0 0, .bool false] 28)) (L.map norm) (ops.map bl) ⟨[], [], false⟩) :=
    ref_once B v (L.map norm) (w.alloc (.cells #[.slice none 0 0, .slice none 0 0, .bool false] 28)) (hp.below hb1 (Nat.le_refl _)) (by rw [List.length_map]; omega)
    (fun p hp => by obtain ⟨q, hq, rfl⟩ := List.mem_map.1 hp; rw [norm_lit]; have := (hg2 q hq).1; omega)
    (fun p hp => by
      obtain ⟨q, hq, rfl⟩ := List.mem_map.1 hp
      have hg := hg2 q hq
      unfold GoodP at hg
      unfold norm
      split
      · exact ⟨by show q.width ≤ 5000; omega, by show (0 : Int) < 5000; omega⟩
      · omega)
    (norm_letter (parse_letter hl)) a cap ops (hO.below hb1 (Nat.le_refl _)) hops ⟨[], [], false⟩ (by simp) rfl
  have CO := Lib.hid CO
  have HX : Hid (once (L.map norm) (ops.map bl) ⟨[], [], false⟩ 0 = (r1, tk, on)) := by show _ = _; rw [once_norm]; exact hx
  have HB1 := Lib.hid hb1
  clear hl hp hO hops hx hg2 hb1
  go_enter Tryz.func15, Tryz.ntmps15
  go_wp2_with fail
  refine CO.out.mono ?_
  rintro e w4 ⟨o, c, st, t, go, vo, vc, rfl, hb, hvo, hvc, hEQ, htk, hcl, hgo⟩
  rw [HX.out] at hEQ
  simp only [List.nil_append, Prod.mk.injEq] at hEQ
  obtain ⟨rfl, rfl, rfl⟩ := hEQ
  obtain ⟨oa, oc, rfl, _⟩ := ownsRow_form hvo
  obtain ⟨ca, cc, rfl, _⟩ := ownsRow_form hvc
  have hk := (Blk.new w 28 #[.slice none 0 0, .slice none 0 0, .bool false]).below hb (by rw [World.size_alloc]; exact Nat.lt_succ_self _)
  have z0 := hk.cell 0
  have z1 := hk.cell 1
  have z2 := hk.cell 2
  have f0 := hk.frozen 0
  have f1 := hk.frozen 1
  have f2 := hk.frozen 2
  have HK := Lib.hid hk
  have HHO := Lib.hid hvo
  have HHC := Lib.hid hvc
  have HBW := Lib.hid (HB1.out.trans (hb.mono HB1.out.size))
  clear hk hvo hvc hb htk hcl hgo
  go_wp2_with fail
  try rw [Exit.noGoto_ret]
  refine bodyPost_ret (v := .tuple #[.agg #[.slice oa o.length oc, .slice ca c.length cc, .bool st], .int .i64 tk]) (by simp [results, Tryz.results15, go_sem, z0, z1, z2]) rfl ?_
  exact once_ok_end (r1 := ⟨o, c, st⟩) HK.out HBW.out HHO.out HHC.out HB1.out.size _ _ _

set_option maxRecDepth 100000 in
set_option maxHeartbeats 8000000 in
/-- FillOnce: it returns true. -/
theorem fillOnce_walk (a : Option Addr) (cap : Nat) (l : List UInt8) (ao : Option Addr) (capo : Nat) (ops : List ByteArray) (w : World) (A : Nat → Addr) (hS : Sents w A) (hl : Bs w a cap l) (hO : Ss w ao capo ops) (hsz : ∀ S ∈ ops, S.size ≤ 140737488351232) :
    Calls Tryz.prog 5 #[.slice a l.length cap, .slice ao ops.length capo] w fun e w' => e = .returned (.bool true) ∧ Below w.heap.size w w' := by
  have HS := Lib.hid hS
  have HL := Lib.hid hl
  have HO := Lib.hid hO
  have HSZ := Lib.hid hsz
  have CP := shape_Parse a cap l w hl A hS.toSents0
  cases hp : parse l with
  | error cq =>
    obtain ⟨cc, q⟩ := cq
    rw [hp] at CP
    have CP := Lib.hid CP
    have HCC := Lib.hid (parse_code hp)
    have ecc : ((cc : Int) != 0) = true := bne_iff_ne.2 (by have := HCC.out; omega)
    have HP := Lib.hid hp
    clear hp hS hl hO hsz
    go_enter Tryz.func5, Tryz.ntmps5
    go_wp2_with fail
    refine CP.out.mono ?_
    rintro e w5 ⟨hb5, v, rfl, hE⟩
    obtain ⟨ty, x, rfl⟩ : ∃ t x, v = .iface t x := by obtain ⟨b, hc, _⟩ := hE; exact hc.iface
    have HB5 := Lib.hid hb5
    have HE := Lib.hid hE
    have CR := ref_Parse a cap l w5 (HL.out.below hb5 (Nat.le_refl _))
    rw [HP.out] at CR
    have CR := Lib.hid CR
    clear hb5 hE
    go_wp2_with fail
    refine CR.out.mono ?_
    rintro e w6 ⟨hb6, rfl⟩
    have HB6 := Lib.hid (HB5.out.trans (hb6.mono HB5.out.size))
    have CT := Lib.hid (fun (W : World) (hb : Below w6.heap.size w6 W) => tell_errP W A (HS.out.kept (HB6.out.trans (hb.mono HB6.out.size)) (Nat.le_refl _)) _ cc q ((HE.out.kept hb6 (Nat.le_refl _)).kept hb (Nat.le_refl _)))
    clear hb6
    go_upto_region 3 with (fail)
    go_cut [31] (fun c wx => c = .bool true ∧ Hid (Below w6.heap.size w6 wx) ∧ Hid (Blk wx w6.heap.size 35 #[.int .i64 cc, .int .i64 q, .int .i64 5]))
    case first =>
      go_region_with (go_at_call 10; refine (CT.out _ (by first | exact belowS w6 _ | exact (belowS w6 _).drew)).mono ?_; rintro e w7 ⟨rfl, hb7⟩; have bk7 : Blk w7 w6.heap.size 35 #[.int .i64 cc, .int .i64 q, .int .i64 5] := (by first | exact blk_behind hb7 | exact blk_behindD hb7); have HB7 : Hid (Below w6.heap.size w6 w7) := (by first | exact bel_behind hb7 | exact bel_behindD hb7); have q0 := bk7.cell 0; have q1 := bk7.cell 1; have q2 := bk7.cell 2; have HK7 := Lib.hid bk7; clear hb7 bk7)
      all_goals (
        go_wp2_with fail
        go_meet
        exact ⟨rfl, HB7, HK7⟩)
    case rest =>
      obtain ⟨rfl, HB7, HK7⟩ := hcut
      obtain ⟨w7, hw7⟩ : ∃ w7, w7 = wc := ⟨_, rfl⟩
      subst hw7
      have q0 := HK7.out.cell 0
      have q1 := HK7.out.cell 1
      have q2 := HK7.out.cell 2
      have hlt6 := HK7.out.lt
      have CA := Lib.hid (fun (W : World) (hb : Below w6.heap.size w6 W) => fill_awake W A (HS.out.kept (HB6.out.trans (hb.mono HB6.out.size)) (Nat.le_refl _)).toSents0)
      go_upto_region 4 with (fail)
      go_region_with (first
        | (go_at_call 10; refine (CT.out _ (by first | exact HB7.out | exact HB7.out.drew)).mono ?_; rintro e w8 ⟨rfl, hb8⟩; have hbx : Below w7.heap.size w7 w8 := (by first | exact hb8 | exact ((Below.refl _ _).drew).trans hb8); have HB8 := Lib.hid (HB7.out.trans (hbx.mono HB7.out.size)); have bk8 := HK7.out.below hbx hlt6; have u0 := bk8.cell 0; have u1 := bk8.cell 1; have u2 := bk8.cell 2; clear hb8 hbx bk8)
        | (go_at_call 12; refine (CA.out _ HB8.out).mono ?_; rintro e w9 ⟨rfl, hb9⟩; have HB9 := Lib.hid (HB8.out.trans (hb9.mono HB8.out.size)); clear hb9))
      all_goals go_wp2_with fail
      all_goals go_ret
      all_goals exact ⟨rfl, HB6.out.trans (HB9.out.mono HB6.out.size)⟩
  | ok P =>
    rw [hp] at CP
    have CP := Lib.hid CP
    have HGP := Lib.hid (parse_good hp)
    have HP := Lib.hid hp
    obtain ⟨y, hy⟩ : ∃ y, once P (ops.map bl) ⟨[], [], false⟩ 0 = y := ⟨_, rfl⟩
    obtain ⟨r1, tk, on⟩ := y
    have HY := Lib.hid hy
    clear hp hS hl hO hsz hy
    go_enter Tryz.func5, Tryz.ntmps5
    go_wp2_with fail
    refine CP.out.mono ?_
    rintro e w5 ⟨hb5, F, rfl, hF⟩
    have HB5 := Lib.hid hb5
    have HF := Lib.hid hF
    have CR := ref_Parse a cap l w5 (HL.out.below hb5 (Nat.le_refl _))
    rw [HP.out] at CR
    have CR := Lib.hid CR
    clear hb5 hF
    go_wp2_with fail
    refine CR.out.mono ?_
    rintro e w6 ⟨hb6, v2, rfl, hpc⟩
    have HB6 := Lib.hid (HB5.out.trans (hb6.mono HB5.out.size))
    have HF6 := Lib.hid (HF.out.below hb6 (Nat.le_refl _))
    have HPC := Lib.hid hpc
    have CT := Lib.hid tell_nil0
    clear hb6 hpc
    go_upto_region 3 with (fail)
    go_cut [31] (fun c wx => c = .bool false ∧ Hid (Below w6.heap.size w6 wx) ∧ Hid (Blk wx w6.heap.size 35 #[.int .i64 0, .int .i64 0, .int .i64 0]))
    case first =>
      go_region_with (go_at_call 10; refine (CT.out _).mono ?_; rintro e w7 ⟨rfl, hb7⟩; have bk7 : Blk w7 w6.heap.size 35 #[.int .i64 0, .int .i64 0, .int .i64 0] := (by first | exact blk_behind hb7 | exact blk_behindD hb7); have HB7 : Hid (Below w6.heap.size w6 w7) := (by first | exact bel_behind hb7 | exact bel_behindD hb7); have q0 := bk7.cell 0; have q1 := bk7.cell 1; have q2 := bk7.cell 2; have HK7 := Lib.hid bk7; clear hb7 bk7)
      all_goals (
        go_wp2_with fail
        go_meet
        exact ⟨rfl, HB7, HK7⟩)
    case rest =>
      obtain ⟨rfl, HB7, HK7⟩ := hcut
      obtain ⟨w7, hw7⟩ : ∃ w7, w7 = wc := ⟨_, rfl⟩
      subst hw7
      have HB67 := Lib.hid (HB6.out.trans (HB7.out.mono HB6.out.size))
      have CO := Lib.hid (fill_Once w7 _ F P (HF6.out.below HB7.out (Nat.le_refl _)) HGP.out.1 HGP.out.2 ao capo ops (HO.out.below HB67.out (Nat.le_refl _)) (fun S hS => by have := HSZ.out S hS; omega) r1 tk on HY.out)
      have HPC7 := Lib.hid (HPC.out.below HB7.out (Nat.le_refl _))
      clear HK7
      go_wp2_with fail
      refine CO.out.mono ?_
      rintro e w8 ⟨oa, no, oc, ca, nc, cc, rfl, hno, hnc, hb8, ho, hc⟩
      have b8 := hb8.trans ((belowS w8 (.cells #[.slice oa no oc, .slice ca nc cc, .bool r1.stop] 28)).mono hb8.size)
      have HB8 := Lib.hid (HB67.out.trans (b8.mono HB67.out.size))
      have CQ := Lib.hid (ref_Once _ v2 l P HP.out (w8.alloc (.cells #[.slice oa no oc, .slice ca nc cc, .bool r1.stop] 28)) (HPC7.out.below b8 (Nat.le_refl _)) ao capo ops (HO.out.below HB8.out (Nat.le_refl _)) (fun S hS => by have := HSZ.out S hS; omega) r1 tk on HY.out)
      have HHO := Lib.hid ho
      have HHC := Lib.hid hc
      have HNO := Lib.hid hno
      have HNC := Lib.hid hnc
      clear hno hnc hb8 ho hc b8
      go_wp2_with fail
      refine CQ.out.mono ?_
      rintro e w9 ⟨xa, mo, xac, ya, mc, yac, rfl, hmo, hmc, hb9, xo, xc⟩
      have b9 := (belowS w8 (.cells #[.slice oa no oc, .slice ca nc cc, .bool r1.stop] 28)).trans (hb9.mono (belowS w8 _).size)
      have br := ((Blk.new w8 28 #[.slice oa no oc, .slice ca nc cc, .bool r1.stop]).below hb9 (by rw [World.size_alloc]; exact Nat.lt_succ_self _)).alloc (.cells #[.slice xa mo xac, .slice ya mc yac, .bool r1.stop] 28)
      have q0 := br.cell 0
      have q1 := br.cell 1
      have q2 := br.cell 2
      have b10 := belowS w9 (.cells #[.slice xa mo xac, .slice ya mc yac, .bool r1.stop] 28)
      have HB9 := Lib.hid (HB8.out.trans ((hb9.trans (b10.mono hb9.size)).mono HB8.out.size))
      have CS := same_rows (W := w9.alloc (.cells #[.slice xa mo xac, .slice ya mc yac, .bool r1.stop] 28)) (ownsRow_below HHO.out b9 (Nat.le_refl _)) (ownsRow_below HHC.out b9 (Nat.le_refl _)) xo xc HNO.out HNC.out hmo hmc b10
      have etk : ((tk : Int) == (tk : Int)) = true := beq_iff_eq.2 rfl
      have CS := Lib.hid CS
      have CA := Lib.hid (fun (W : World) (hb : Below (w9.alloc (.cells #[.slice xa mo xac, .slice ya mc yac, .bool r1.stop] 28)).heap.size (w9.alloc (.cells #[.slice xa mo xac, .slice ya mc yac, .bool r1.stop] 28)) W) => fill_awake W A (HS.out.kept (HB9.out.trans (hb.mono HB9.out.size)) (Nat.le_refl _)).toSents0)
      clear br b9 b10 hb9 hmo hmc xo xc
      go_wp2_with (first
        | (go_at_call 11; refine CS.out.mono ?_; rintro e w10 ⟨rfl, hb10⟩; have HB10 := Lib.hid hb10; clear hb10)
        | (go_at_call 12; refine (CA.out _ HB10.out).mono ?_; rintro e w11 ⟨rfl, hb11⟩; have HB11 := Lib.hid (HB10.out.trans (hb11.mono HB10.out.size)); clear hb11))
      go_ret
      exact ⟨rfl, HB9.out.trans (HB11.out.mono HB9.out.size)⟩
end Go.Proofs.YtppcjmbblkbkdaaGreatDoor
