/- The walk of pidginlaw15.FillWidths: it returns true. Conditions as typed. -/
import Derived.Test.YtkecmfjjekagiaaDoorTold
import Derived.Test.YtkecmfjjekagiaaDoorBaseT
import Derived.Lib.QuietBelow
import Derived.OpenShut
namespace Go.Proofs.YtkecmfjjekagiaaDoor
open Go.RowKit Pg
open Go.Sort (grow)

theorem ixw (z m : Int) (h0 : 0 < m) (h1 : m ≤ 5000) : ∃ k : Nat, (k : Int) < m ∧ (wrap64 (z.tmod m + m)).tmod m = (k : Int) := by
  have a := Int.lt_tmod_of_pos z h0
  have b := Int.tmod_lt_of_pos z h0
  have hw : wrap64 (z.tmod m + m) = z.tmod m + m := IntWalk.wrap64_in _ ⟨by omega, by omega⟩
  refine ⟨((z.tmod m + m) % m).toNat, ?_, ?_⟩
  · have := Int.emod_lt_of_pos (z.tmod m + m) h0
    have := Int.emod_nonneg (z.tmod m + m) (show m ≠ 0 by omega)
    omega
  · rw [hw, Int.tmod_eq_emod_of_nonneg (by omega)]
    have := Int.emod_nonneg (z.tmod m + m) (show m ≠ 0 by omega)
    omega
theorem lett_cut (q : Nat) (hq : q < 9) : (⟨#[99, 115, 98, 100, 105, 111, 117, 120, 88]⟩ : ByteArray).extract q (q + 1) = ⟨#[lett q]⟩ := by
  rcases (show q = 0 ∨ q = 1 ∨ q = 2 ∨ q = 3 ∨ q = 4 ∨ q = 5 ∨ q = 6 ∨ q = 7 ∨ q = 8 by omega) with rfl | rfl | rfl | rfl | rfl | rfl | rfl | rfl | rfl <;> rfl

theorem ownBs {w : World} {B n : Nat} {a : Option Addr} {cap : Nat} {l : List UInt8} (h : w.ownsRow B 5 1 (.slice a n cap) n (u8s l)) (hn : n = l.length) : Bs w a cap l := by
  subst hn
  obtain ⟨a', cap', he, hb⟩ := (LitR.own h).bs
  simp only [Value.slice.injEq, true_and] at he
  obtain ⟨rfl, rfl⟩ := he
  exact hb
/-- fill.Printf of a string turned into bytes. -/
theorem told_conv (W : World) (A : Nat → Addr) (hS : Sents0 W A) (S : ByteArray) (hz : S.size ≤ maxLen) (ao : Option Addr) (capo : Nat) (ops : List ByteArray) (hO : Ss W ao capo ops) (O : List (List UInt8)) (hops : ops.map bl = O) (r : Out) (hr : printf (bl S) O = .ok r) :
    ∃ X gc n, (convert 9 44 (.string S)).run Tryd.prog W = .ok (.slice (some ⟨W.heap.size, 0, none⟩) n gc) X ∧
      Calls Tryd.prog 40 #[.slice (some ⟨W.heap.size, 0, none⟩) n gc, .slice ao ops.length capo] X (Told W r) := by
  have rc := Lib.run_convert_string_bytes (P := Tryd.prog) W 9 44 5 S Tryd.underlying9 Tryd.underlying44 Tryd.underlying5
  have hbw := bytes_below W S
  have hbs := bytes_bs W S hz
  refine ⟨_, _, _, rc, ?_⟩
  have C := fill_told _ A (hS.kept hbw (Nat.le_refl _)) _ _ (bl S) hbs ao capo ops (hO.below hbw (Nat.le_refl _)) O hops r hr
  rw [bl_length] at C
  exact C.mono fun _ _ h => h.down hbw

set_option maxRecDepth 100000 in
set_option maxHeartbeats 8000000 in
/-- FillWidths: it returns true. -/
theorem fillWidths_walk (S : ByteArray) (wd le : Int) (w : World) (A : Nat → Addr) (hS : Sents0 w A) (_hs : S.size ≤ maxLen) (hwd : (Lit.int .i64 wd).wf = true) (hle : (Lit.int .i64 le).wf = true) :
    Calls Tryd.prog 16 #[.string S, .int .i64 wd, .int .i64 le] w fun e w' => e = .returned (.bool true) ∧ Below w.heap.size w w' := by
  have hb1 := bounds_i64 hwd
  have hb2 := bounds_i64 hle
  obtain ⟨k, hk, hkz⟩ := ixw wd 1000 (by omega) (by omega)
  obtain ⟨q, hq, hqz⟩ := ixw le 9 (by omega) (by omega)
  have hcut := lett_cut q (by omega)
  have HS := Lib.hid hS
  by_cases h4 : 1024 < S.size
  · have d0 : decide (1024 < (S.size : Int)) = true := decide_eq_true (by omega)
    have C := Lib.hid (fill_awake w A hS)
    clear hS hwd hle
    go_enter Tryd.func16, Tryd.ntmps16
    go_wp2_with (go_at_call 39; refine C.out.mono ?_; rintro e w' ⟨rfl, hb⟩; have HB := Lib.hid hb; clear hb)
    go_ret
    exact ⟨rfl, HB.out⟩
  · have d0 : decide (1024 < (S.size : Int)) = false := decide_eq_false (by omega)
    obtain ⟨x, y, z, Cd, st, p1, p2, p3, ly, lz, tz, dy, lx⟩ := widths (k := q) (by omega) (k + 1) (by omega) (by omega) (bl S) (by rw [bl_length]; omega)
    have CT := fun W => scan_Text_nat (k + 1) W (by omega)
    have hD : (⟨(digs 10 false (k + 1)).toArray⟩ : ByteArray).size ≤ 64 := by show (digs 10 false (k + 1)).toArray.size ≤ 64; rw [List.size_toArray]; exact (digs_len 10 false (k + 1)).2
    obtain ⟨D, hDD⟩ : ∃ D : ByteArray, ⟨(digs 10 false (k + 1)).toArray⟩ = D := ⟨_, rfl⟩
    obtain ⟨L, hLL⟩ : ∃ L : ByteArray, ⟨#[lett q]⟩ = L := ⟨_, rfl⟩
    have hbD : bl D = digs 10 false (k + 1) := by rw [← hDD, bl_mk]
    have hbL : bl L = [lett q] := by rw [← hLL]; rfl
    have hL : L.size = 1 := by rw [← hLL]; rfl
    simp only [hDD] at CT
    rw [hDD] at hD
    rw [hLL] at hcut
    have e1 : bl ((⟨#[37]⟩ : ByteArray) ++ L) = [37, lett q] := by rw [bl_app, hbL]; rfl
    have e2 : bl ((⟨#[37]⟩ : ByteArray) ++ D ++ L) = 37 :: (digs 10 false (k + 1) ++ [lett q]) := by rw [bl_app, bl_app, hbL, hbD]; rfl
    have e3 : bl ((⟨#[37, 45]⟩ : ByteArray) ++ D ++ L) = 37 :: 45 :: (digs 10 false (k + 1) ++ [lett q]) := by rw [bl_app, bl_app, hbL, hbD]; rfl
    rw [← e1] at p1
    rw [← e2] at p2
    rw [← e3] at p3
    have z1 : ((⟨#[37]⟩ : ByteArray) ++ L).size ≤ 100 := by rw [ByteArray.size_append]; show 1 + L.size ≤ 100; omega
    have z2' : ((⟨#[37]⟩ : ByteArray) ++ D).size ≤ 80 := by rw [ByteArray.size_append]; show 1 + D.size ≤ 80; omega
    have z2 : ((⟨#[37]⟩ : ByteArray) ++ D ++ L).size ≤ 100 := by rw [ByteArray.size_append]; omega
    have z3' : ((⟨#[37, 45]⟩ : ByteArray) ++ D).size ≤ 80 := by rw [ByteArray.size_append]; show 2 + D.size ≤ 80; omega
    have z3 : ((⟨#[37, 45]⟩ : ByteArray) ++ D ++ L).size ≤ 100 := by rw [ByteArray.size_append]; omega
    obtain ⟨ck, hck⟩ : ∃ ck : Nat, ck = k + 1 := ⟨_, rfl⟩
    have CT := Lib.hid CT
    have P1 := Lib.hid p1
    have P2 := Lib.hid p2
    have P3 := Lib.hid p3
    have LY := Lib.hid ly
    have LZ := Lib.hid lz
    have TZ := Lib.hid tz
    have DY := Lib.hid dy
    have hs1 : Ss (w.alloc (.cells #[.string S] 9)) (some ⟨w.heap.size, 0, none⟩) 1 [S] := Ss.new w [S] (by show 1 ≤ maxLen; decide)
    have b1 := BelowA w (.cells #[.string S] 9)
    obtain ⟨N0, hN0⟩ : ∃ N0, N0 = w.heap.size := ⟨_, rfl⟩
    obtain ⟨w1, hw1⟩ : ∃ w1, w1 = w.alloc (.cells #[.string S] 9) := ⟨_, rfl⟩
    rw [← hN0, ← hw1] at hs1
    rw [← hw1] at b1
    have HW1 := Lib.hid hw1
    have HN0 := Lib.hid hN0
    have HSS := Lib.hid hs1
    have B1 := Lib.hid b1
    have R1 := Lib.hid (Below.refl w1.heap.size w1)
    obtain ⟨X1, g1, n1, rc1, C1⟩ := told_conv w1 A (hS.kept b1 (Nat.le_refl _)) _ (by unfold maxLen; omega) _ _ _ hs1 _ rfl _ p1
    have C1 := Lib.hid C1
    clear hDD hLL hbD hbL e1 e2 e3 p1 p2 p3 ly lz tz dy hs1 b1 hw1 hN0 hS hwd hle hb1 hb2 h4 hck
    go_enter Tryd.func16, Tryd.ntmps16
    go_upto_region 7 with (fail)
    rw [← HW1.out, ← HN0.out]
    go_wp2_with fail
    refine C1.out.mono ?_
    rintro e p1 ⟨o1, no1, oc1, ca1, nc1, cc1, rfl, hno, hnc, hoc, hom, hb, ho, hcc⟩
    simp only []
    clear hnc hcc
    have bf1 := BelowA p1 (.cells #[.slice o1 no1 oc1, .slice ca1 nc1 cc1, .bool st] 62)
    have bk1 := Blk.new p1 62 #[.slice o1 no1 oc1, .slice ca1 nc1 cc1, .bool st]
    obtain ⟨q1, hq1⟩ : ∃ q1, q1 = p1.alloc (.cells #[.slice o1 no1 oc1, .slice ca1 nc1 cc1, .bool st] 62) := ⟨_, rfl⟩
    obtain ⟨M1, hM1⟩ : ∃ M1, M1 = p1.heap.size := ⟨_, rfl⟩
    have bz1 : q1.heap.size = M1 + 1 := by rw [hq1, hM1]; simp
    rw [← hq1] at bf1 bk1
    have BQ1 := Lib.hid (B1.out.trans ((hb.trans (bf1.mono hb.size)).mono B1.out.size))
    have RQ1 := Lib.hid (R1.out.trans ((hb.trans (bf1.mono hb.size)).mono R1.out.size))
    have OW1 := Lib.hid ho
    have PB1 := Lib.hid bf1
    have PW1 := Lib.hid hb
    have NO1 := Lib.hid hno
    have BK1 := Lib.hid bk1
    have QE1 := Lib.hid hq1
    have ME1 := Lib.hid hM1
    have BZ1 := Lib.hid bz1
    clear hno hb ho bf1 bk1 hq1 hM1 bz1
    go_wp2_with fail
    rw [← QE1.out, ← ME1.out]
    refine (CT.out _).mono ?_
    rintro e t2 ⟨rfl, hbt⟩
    have BT2 := Lib.hid (BQ1.out.trans (hbt.mono BQ1.out.size))
    have RT2 := Lib.hid (RQ1.out.trans (hbt.mono RQ1.out.size))
    have TT2 := Lib.hid hbt
    obtain ⟨X2, g2, n2, rc2, C2⟩ := told_conv t2 A (HS.out.kept BT2.out (Nat.le_refl _)) _ (by unfold maxLen; omega) _ _ _ (HSS.out.below RT2.out (Nat.le_refl _)) _ rfl _ P2.out
    have C2 := Lib.hid C2
    clear hbt
    go_wp2_with fail
    refine C2.out.mono ?_
    rintro e p2 ⟨o2, no2, oc2, ca2, nc2, cc2, rfl, hno, hnc, hoc, hom, hb, ho, hcc⟩
    simp only []
    clear hnc hcc
    have bf2 := BelowA p2 (.cells #[.slice o2 no2 oc2, .slice ca2 nc2 cc2, .bool st] 62)
    have bk2 := Blk.new p2 62 #[.slice o2 no2 oc2, .slice ca2 nc2 cc2, .bool st]
    obtain ⟨q2, hq2⟩ : ∃ q2, q2 = p2.alloc (.cells #[.slice o2 no2 oc2, .slice ca2 nc2 cc2, .bool st] 62) := ⟨_, rfl⟩
    obtain ⟨M2, hM2⟩ : ∃ M2, M2 = p2.heap.size := ⟨_, rfl⟩
    have bz2 : q2.heap.size = M2 + 1 := by rw [hq2, hM2]; simp
    rw [← hq2] at bf2 bk2
    have BQ2 := Lib.hid (BT2.out.trans ((hb.trans (bf2.mono hb.size)).mono BT2.out.size))
    have RQ2 := Lib.hid (RT2.out.trans ((hb.trans (bf2.mono hb.size)).mono RT2.out.size))
    have OW2 := Lib.hid ho
    have PB2 := Lib.hid bf2
    have PW2 := Lib.hid hb
    have NO2 := Lib.hid hno
    have BK2 := Lib.hid bk2
    have QE2 := Lib.hid hq2
    have ME2 := Lib.hid hM2
    have BZ2 := Lib.hid bz2
    clear hno hb ho bf2 bk2 hq2 hM2 bz2
    go_wp2_with fail
    rw [← QE2.out, ← ME2.out]
    refine (CT.out _).mono ?_
    rintro e t3 ⟨rfl, hbt⟩
    have BT3 := Lib.hid (BQ2.out.trans (hbt.mono BQ2.out.size))
    have RT3 := Lib.hid (RQ2.out.trans (hbt.mono RQ2.out.size))
    have TT3 := Lib.hid hbt
    obtain ⟨X3, g3, n3, rc3, C3⟩ := told_conv t3 A (HS.out.kept BT3.out (Nat.le_refl _)) _ (by unfold maxLen; omega) _ _ _ (HSS.out.below RT3.out (Nat.le_refl _)) _ rfl _ P3.out
    have C3 := Lib.hid C3
    clear hbt
    go_wp2_with fail
    refine C3.out.mono ?_
    rintro e p3 ⟨o3, no3, oc3, ca3, nc3, cc3, rfl, hno, hnc, hoc, hom, hb, ho, hcc⟩
    simp only []
    clear hnc hcc
    have bf3 := BelowA p3 (.cells #[.slice o3 no3 oc3, .slice ca3 nc3 cc3, .bool st] 62)
    have bk3 := Blk.new p3 62 #[.slice o3 no3 oc3, .slice ca3 nc3 cc3, .bool st]
    obtain ⟨q3, hq3⟩ : ∃ q3, q3 = p3.alloc (.cells #[.slice o3 no3 oc3, .slice ca3 nc3 cc3, .bool st] 62) := ⟨_, rfl⟩
    obtain ⟨M3, hM3⟩ : ∃ M3, M3 = p3.heap.size := ⟨_, rfl⟩
    have bz3 : q3.heap.size = M3 + 1 := by rw [hq3, hM3]; simp
    rw [← hq3] at bf3 bk3
    have BQ3 := Lib.hid (BT3.out.trans ((hb.trans (bf3.mono hb.size)).mono BT3.out.size))
    have RQ3 := Lib.hid (RT3.out.trans ((hb.trans (bf3.mono hb.size)).mono RT3.out.size))
    have OW3 := Lib.hid ho
    have PB3 := Lib.hid bf3
    have PW3 := Lib.hid hb
    have NO3 := Lib.hid hno
    have BK3 := Lib.hid bk3
    have QE3 := Lib.hid hq3
    have ME3 := Lib.hid hM3
    have BZ3 := Lib.hid bz3
    clear hno hb ho bf3 bk3 hq3 hM3 bz3
    have hb13 : Below q1.heap.size q1 q3 := (TT2.out.trans ((PW2.out.trans (PB2.out.mono PW2.out.size)).mono TT2.out.size)).trans (((TT3.out.mono (by have := (TT2.out.trans ((PW2.out.trans (PB2.out.mono PW2.out.size)).mono TT2.out.size)).size; exact this)).trans ((PW3.out.trans (PB3.out.mono PW3.out.size)).mono (by have h1 := (TT2.out.trans ((PW2.out.trans (PB2.out.mono PW2.out.size)).mono TT2.out.size)).size; have h2 := TT3.out.size; omega))))
    have hb23 : Below q2.heap.size q2 q3 := TT3.out.trans ((PW3.out.trans (PB3.out.mono PW3.out.size)).mono TT3.out.size)
    have hk1 := BK1.out.below hb13 BK1.out.lt
    have hk2 := BK2.out.below hb23 BK2.out.lt
    rw [← ME1.out] at hk1
    rw [← ME2.out] at hk2
    rw [QE3.out] at hk1 hk2
    have HB13 := Lib.hid hb13
    have HB23 := Lib.hid hb23
    have x10 : (p3.alloc (.cells #[.slice o3 no3 oc3, .slice ca3 nc3 cc3, .bool st] 62)).cell? ⟨M1, 0, none⟩ = some (.slice o1 no1 oc1) := by rw [hk1.cell 0]; rfl
    have x20 : (p3.alloc (.cells #[.slice o3 no3 oc3, .slice ca3 nc3 cc3, .bool st] 62)).cell? ⟨M2, 0, none⟩ = some (.slice o2 no2 oc2) := by rw [hk2.cell 0]; rfl
    have HK1 := Lib.hid hk1
    have HK2 := Lib.hid hk2
    have hb33 : Below p3.heap.size p3 q3 := PB3.out
    have bs1 := (ownBs OW1.out NO1.out).below (PB1.out.trans (hb13.mono PB1.out.size)) (Nat.le_refl _)
    have bs2 := (ownBs OW2.out NO2.out).below (PB2.out.trans (hb23.mono PB2.out.size)) (Nat.le_refl _)
    have bs3 := (ownBs OW3.out NO3.out).below hb33 (Nat.le_refl _)
    rw [QE3.out] at bs1 bs2 bs3
    have n1' : no1 = x.length := NO1.out
    have n2' : no2 = y.length := NO2.out
    have n3' : no3 = z.length := NO3.out
    have em2 : ((no2 : Int) != max (no1 : Int) ((k : Int) + 1)) = false := by
      have := LY.out
      rw [bne_eq_false_iff_eq]; omega
    have em3 : ((no3 : Int) != max (no1 : Int) ((k : Int) + 1)) = false := by
      have := LZ.out
      rw [bne_eq_false_iff_eq]; omega
    have hle2 : no1 ≤ no2 := by have := LY.out; omega
    have hle3 : no1 ≤ no3 := by have := LZ.out; omega
    have BS1 := Lib.hid bs1
    have BS2 := Lib.hid bs2
    have BS3 := Lib.hid bs3
    have N1 := Lib.hid n1'
    have N2 := Lib.hid n2'
    have N3 := Lib.hid n3'
    have BQ3' := Lib.hid (QE3.out ▸ BQ3.out)
    clear hk1 hk2 hb13 hb23 hb33 bs1 bs2 bs3 n1' n2' n3'
    go_wp2_with fail
    have hk3 := Blk.new p3 62 #[.slice o3 no3 oc3, .slice ca3 nc3 cc3, .bool st]
    have x30 : (p3.alloc (.cells #[.slice o3 no3 oc3, .slice ca3 nc3 cc3, .bool st] 62)).cell? ⟨p3.heap.size, 0, none⟩ = some (.slice o3 no3 oc3) := by rw [hk3.cell 0]; rfl
    clear hk3
    generalize p3.alloc (.cells #[.slice o3 no3 oc3, .slice ca3 nc3 cc3, .bool st] 62) = Q at *
    generalize p3.heap.size = M3 at *
    have k1 := fun (p : Regrown) => cell_regrown x10 p.d p.os
    have k2 := fun (p : Regrown) => cell_regrown x20 p.d p.os
    have k3 := fun (p : Regrown) => cell_regrown x30 p.d p.os
    obtain ⟨XS, hXS⟩ : ∃ XS : ByteArray, ⟨x.toArray⟩ = XS := ⟨_, rfl⟩
    have ks1 : ∀ p : Regrown, (convert 44 9 (.slice o1 no1 oc1)).run Tryd.prog (grow (redrawn Q p.d) p.os) = .ok (.string XS) (grow (redrawn Q p.d) p.os) := fun p => by
      have := bsStr (BS1.out.below (below_regrown Q p.d p.os) (Nat.le_refl _))
      rwa [← N1.out, hXS] at this
    have ks3 : ∀ p : Regrown, (convert 44 9 (.slice o3 no1 oc3)).run Tryd.prog (grow (redrawn Q p.d) p.os) = .ok (.string XS) (grow (redrawn Q p.d) p.os) := fun p => by
      have := bsStr ((BS3.out.take x.length).below (below_regrown Q p.d p.os) (Nat.le_refl _))
      rwa [TZ.out, ← N1.out, hXS] at this
    have ks2 : ∀ p : Regrown, (convert 44 9 (.slice (cutA o2 oc2 (no2 - no1)) no1 (oc2 - (no2 - no1)))).run Tryd.prog (grow (redrawn Q p.d) p.os) = .ok (.string XS) (grow (redrawn Q p.d) p.os) := fun p => by
      have := bsStr ((BS2.out.cut (no2 - no1) (by rw [← N2.out]; omega)).below (below_regrown Q p.d p.os) (Nat.le_refl _))
      have hd := DY.out
      rw [← N2.out, ← N1.out] at hd
      rwa [hd, ← N1.out, hXS] at this
    have c3 : ∀ W, (Instr.slice 44 (.slice o3 no3 oc3) none (some (.int .i64 no1)) none).run Tryd.prog W = .ok (.slice o3 no1 oc3) W := fun W => by
      have := run_cutTo (P := Tryd.prog) Tryd.underlying44 u8_size o3 z oc3 no1 (by rw [← N3.out]; exact hle3) (by rw [← N3.out]; exact BS3.out.1 |> fun h => by rw [← N3.out] at h; exact h) no1 rfl W
      rwa [← N3.out] at this
    have c2 : ∀ W, (Instr.slice 44 (.slice o2 no2 oc2) (some (.int .i64 ((no2 : Int) - (no1 : Int)))) none none).run Tryd.prog W = .ok (.slice (cutA o2 oc2 (no2 - no1)) no1 (oc2 - (no2 - no1))) W := fun W => by
      have := run_cutFrom (P := Tryd.prog) Tryd.underlying44 u8_size o2 y oc2 (no2 - no1) (by rw [← N2.out]; omega) ((no2 : Int) - (no1 : Int)) (by omega) W
      rw [← N2.out, show no2 - (no2 - no1) = no1 by omega] at this
      exact this
    have CA := Lib.hid fun p : Regrown => Calls.regrown_of (fill_awake (grow (redrawn Q p.d) p.os) A (HS.out.kept (BQ3'.out.trans ((below_regrown Q p.d p.os).mono BQ3'.out.size)) (Nat.le_refl _)))
    generalize cutA o2 oc2 (no2 - no1) = a2 at *
    generalize oc2 - (no2 - no1) = e2 at *
    clear x10 x20 x30 hXS
    refine wp_region_quiet_below (by kernel_rfl) (by kernel_rfl) ?_
    repeat (go_big_quiet_step (first | (go_at_call 39; exact CA.out _)))
    refine wpQuiet_nil ?_
    intro _ hw'
    obtain ⟨⟨dq, osq⟩, hw''⟩ := hw'
    subst hw''
    go_wp2_with fail
    go_ret
    exact ⟨rfl, BQ3'.out.trans ((below_regrown Q dq osq).mono BQ3'.out.size)⟩
end Go.Proofs.YtkecmfjjekagiaaDoor
