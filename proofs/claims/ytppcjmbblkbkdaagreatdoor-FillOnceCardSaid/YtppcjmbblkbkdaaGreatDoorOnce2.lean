/- The walk of fill.Once of a format. Conditions as typed. -/
import Derived.Test.YtppcjmbblkbkdaaGreatDoorPrintf
namespace Go.Proofs.YtppcjmbblkbkdaaGreatDoor
open Go.RowKit Pg

/-- What fill.Once tells. -/
def OnceTold (w : World) (r : Out) (n : Nat) (e : Ending) (w' : World) : Prop := ∃ oa no oc ca nc cc, e = .returned (.tuple #[.agg #[.slice oa no oc, .slice ca nc cc, .bool r.stop], .int .i64 n]) ∧ no = r.out.length ∧ nc = r.codes.length ∧
  Below w.heap.size w w' ∧ w'.ownsRow w.heap.size 5 1 (.slice oa no oc) no (u8s r.out) ∧ w'.ownsRow w.heap.size 3 1 (.slice ca nc cc) nc (i64s r.codes)
theorem once_ok_end {w w4 : World} {r1 : Out} {n : Nat} {B : Nat} {oa ca : Option Addr} {oc cc : Nat} {cs : Array Value} (HK : Blk w4 w.heap.size 28 cs) (hb : Below w.heap.size w w4) (ho : w4.ownsRow B 5 1 (.slice oa r1.out.length oc) r1.out.length (u8s r1.out)) (hc : w4.ownsRow B 3 1 (.slice ca r1.codes.length cc) r1.codes.length (i64s r1.codes)) (hB : w.heap.size ≤ B) (u0 u1 u2 : Value) :
    OnceTold w r1 n (.returned (.tuple #[.agg #[.slice oa r1.out.length oc, .slice ca r1.codes.length cc, .bool r1.stop], .int .i64 n])) (((w4.setCell ⟨w.heap.size, 0, none⟩ u0).setCell ⟨w.heap.size, 1, none⟩ u1).setCell ⟨w.heap.size, 2, none⟩ u2) := by
  have k1 := HK.set_ 0 u0
  have k2 := k1.set_ 1 u1
  exact ⟨oa, _, oc, ca, _, cc, rfl, rfl, rfl, ((hb.setCell (Nat.le_refl _) _).setCell (Nat.le_refl _) _).setCell (Nat.le_refl _) _,
    ownsRow_base (ownsRow_setNe (ownsRow_setNe (ownsRow_setNe ho (a := ⟨w.heap.size, 0, none⟩) HK (by decide) u0) (a := ⟨w.heap.size, 1, none⟩) k1 (by decide) u1) (a := ⟨w.heap.size, 2, none⟩) k2 (by decide) u2) hB,
    ownsRow_base (ownsRow_setNe (ownsRow_setNe (ownsRow_setNe hc (a := ⟨w.heap.size, 0, none⟩) HK (by decide) u0) (a := ⟨w.heap.size, 1, none⟩) k1 (by decide) u1) (a := ⟨w.heap.size, 2, none⟩) k2 (by decide) u2) hB⟩

set_option maxRecDepth 100000 in
set_option maxHeartbeats 8000000 in
/-- fill.Once. -/
theorem fill_Once (w : World) (BF F : Nat) (P : List Part) (hF : FmtC BF w F P) (hPl : P.length ≤ 2049) (hPg : ∀ p ∈ P, GoodP p) (a : Option Addr) (cap : Nat) (ops : List ByteArray) (hO : Ss w a cap ops) (hsz : ∀ S ∈ ops, S.size ≤ 140737488351232) (r1 : Out) (tk : Nat) (on : Bool) (hx : once P (ops.map bl) ⟨[], [], false⟩ 0 = (r1, tk, on)) :
    Calls Tryz.prog 14 #[.pointer (some ⟨F, 0, none⟩), .slice a ops.length cap] w (OnceTold w r1 tk) := by
  have HF := Lib.hid hF
  have HPG := Lib.hid hPg
  have HO := Lib.hid hO
  have HSZ := Lib.hid hsz
  have HX := Lib.hid hx
  have hoc := hO.1
  have hom := hO.2.1
  unfold maxLen at hom
  have hb2 : Below w.heap.size w ((w.alloc (.cells #[.slice none 0 0, .slice none 0 0, .bool false] 28)).alloc (.cells #[.slice none 0 0, .slice none 0 0, .bool false, .int .i64 65536] 83)) := ((Below.refl _ _).alloc (Nat.le_refl _) _).alloc (by simp) _
  have CPA := Lib.hid (shape_Parts BF _ F P (hF.below hb2 (Nat.le_refl _)) (by omega) (fun p hp => by have := (hPg p hp).1; omega))
  have hk1 := (Blk.new w 28 #[.slice none 0 0, .slice none 0 0, .bool false]).alloc (.cells #[.slice none 0 0, .slice none 0 0, .bool false, .int .i64 65536] 83)
  have hk2 := Blk.new (w.alloc (.cells #[.slice none 0 0, .slice none 0 0, .bool false] 28)) 83 #[.slice none 0 0, .slice none 0 0, .bool false, .int .i64 65536]
  rw [World.size_alloc] at hk2
  have HK1 := Lib.hid hk1
  have HK2 := Lib.hid hk2
  have HB2 := Lib.hid hb2
  clear hb2 hk1 hk2 hF hPg hO hsz hx
  go_enter Tryz.func14, Tryz.ntmps14
  go_wp2_with fail
  refine CPA.out.mono ?_
  rintro e w3 ⟨v, rfl, hPC, hb3⟩
  rw [List.take_length] at hPC
  have HK13 := Lib.hid (HK1.out.below hb3 HK1.out.lt)
  have hk23 := HK2.out.below hb3 HK2.out.lt
  have HB3 := Lib.hid (HB2.out.trans (hb3.mono HB2.out.size))
  have hO3 : Ss w3 a cap ops := HO.out.below HB3.out (Nat.le_refl _)
  have hW3 : PrW w3.heap.size w3 (w.heap.size + 1) ⟨[], [], false⟩ := ⟨_, _, hk23, World.ownsRow_nil _ _ _ _, World.ownsRow_nil _ _ _ _⟩
  have CO := fill_once w3.heap.size _ w3 w3 (w.heap.size + 1) ⟨[], [], false⟩ ⟨[], [], false⟩ v (P.map norm) a cap ops rfl hW3 (BelowX.refl _ _ _) hW3 rfl (by simp) (by simp) hPC (by rw [List.length_map]; omega)
    (fun p hp => by obtain ⟨q, hq, rfl⟩ := List.mem_map.1 hp; rw [norm_lit]; have := (HPG.out q hq).1; omega) (fun p hp => by obtain ⟨q, hq, rfl⟩ := List.mem_map.1 hp; rw [norm_conv]; exact (HPG.out q hq).2.1)
    (fun p hp => by
      obtain ⟨q, hq, rfl⟩ := List.mem_map.1 hp
      have hg := HPG.out q hq
      unfold GoodP at hg
      unfold norm
      split
      · exact ⟨by show q.width ≤ 5000; omega, by show (0 : Int) < 5000; omega⟩
      · omega)
    hO3 HSZ.out
  rw [once_norm, HX.out] at CO
  have CO := Lib.hid CO
  clear hPC hb3 hk23 hO3 hW3 CPA HK1 HK2 HB2
  go_wp2_with fail
  refine CO.out.mono ?_
  rintro e w4 ⟨rfl, hp4, hb4⟩
  have HK14 : Hid (Blk w4 w.heap.size 28 #[.slice none 0 0, .slice none 0 0, .bool false]) := (hb4.block w.heap.size HK13.out.lt (by omega)).trans HK13.out
  obtain ⟨vo, vc, hbk, ho, hc⟩ := hp4
  obtain ⟨oa, oc, rfl, _⟩ := ownsRow_form ho
  obtain ⟨ca, cc, rfl, _⟩ := ownsRow_form hc
  have y0 : w4.cell? ⟨w.heap.size + 1, 0, none⟩ = some (.slice oa r1.out.length oc) := by rw [hbk.cell 0]; rfl
  have y1 : w4.cell? ⟨w.heap.size + 1, 1, none⟩ = some (.slice ca r1.codes.length cc) := by rw [hbk.cell 1]; rfl
  have y2 : w4.cell? ⟨w.heap.size + 1, 2, none⟩ = some (.bool r1.stop) := by rw [hbk.cell 2]; rfl
  have z0 : w4.cell? ⟨w.heap.size, 0, none⟩ = some (.slice none 0 0) := by rw [HK14.out.cell 0]; rfl
  have z1 : w4.cell? ⟨w.heap.size, 1, none⟩ = some (.slice none 0 0) := by rw [HK14.out.cell 1]; rfl
  have z2 : w4.cell? ⟨w.heap.size, 2, none⟩ = some (.bool false) := by rw [HK14.out.cell 2]; rfl
  have f0 := HK14.out.frozen 0
  have f1 := HK14.out.frozen 1
  have f2 := HK14.out.frozen 2
  have HHO := Lib.hid ho
  have HHC := Lib.hid hc
  have HBW : Hid (Below w.heap.size w w4) := HB3.out.trans (hb4.below HB3.out.size (by omega))
  clear hb4 hbk ho hc
  go_wp2_with fail
  try rw [Exit.noGoto_ret]
  refine bodyPost_ret (v := .tuple #[.agg #[.slice oa r1.out.length oc, .slice ca r1.codes.length cc, .bool r1.stop], .int .i64 tk]) (by simp [results, Tryz.results14, go_sem, z0, z1, z2]) rfl ?_
  exact once_ok_end HK14.out HBW.out HHO.out HHC.out HB3.out.size _ _ _
end Go.Proofs.YtppcjmbblkbkdaaGreatDoor
