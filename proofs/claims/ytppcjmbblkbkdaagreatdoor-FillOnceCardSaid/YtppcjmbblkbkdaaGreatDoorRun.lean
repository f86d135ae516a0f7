/- The walk of fill.Run. Conditions as typed. -/
import Derived.Test.YtppcjmbblkbkdaaGreatDoorRunP
namespace Go.Proofs.YtppcjmbblkbkdaaGreatDoor
open Go.RowKit Pg

def RunPost (w : World) (A : Nat → Addr) (x : Except (Nat × Nat) Out) (e : Ending) (w' : World) : Prop :=
  Below w.heap.size w w' ∧ match x with
  | .error (c, q) => ∃ v : Value, e = .returned (.tuple #[.agg #[.slice none 0 0, .slice none 0 0, .bool false], v]) ∧ ErrAt w' A v c q
  | .ok r => ∃ vo vc : Value, e = .returned (.tuple #[.agg #[vo, vc, .bool r.stop], .nilIface]) ∧ w'.ownsRow w.heap.size 5 1 vo r.out.length (u8s r.out) ∧ w'.ownsRow w.heap.size 3 1 vc r.codes.length (i64s r.codes)
theorem run_err {w : World} {A : Nat → Addr} {x : Except (Nat × Nat) Out} {e : Ending} {w' : World} {c q : Nat} (h : x = .error (c, q)) (hb : Below w.heap.size w w') (v : Value) (he : e = .returned (.tuple #[.agg #[.slice none 0 0, .slice none 0 0, .bool false], v])) (hE : ErrAt w' A v c q) : RunPost w A x e w' := by
  subst h; exact ⟨hb, v, he, hE⟩

theorem run_err_end {w : World} {A : Nat → Addr} {x : Except (Nat × Nat) Out} {e : Ending} {c q : Nat} (h : x = .error (c, q)) (hS : Sents0 w A) (h1 : 1 ≤ c) (h2 : c ≤ 21) (c1 : Array Value)
    (he : e = .returned (.tuple #[.agg #[.slice none 0 0, .slice none 0 0, .bool false], .iface 69 (.pointer (some ⟨w.heap.size + 1 + 1, 0, none⟩))])) (z : Int) (hz : z = q) :
    RunPost w A x e (((w.alloc (.cells c1 28)).alloc (.cells #[.iface 162 (.pointer (some (A c))), .int .i64 z] 68)).alloc (.cells #[.iface 64 (.pointer (some ⟨w.heap.size + 1, 0, none⟩)), .int .i64 5] 72)) := by
  subst hz
  have b2 : Below w.heap.size w (w.alloc (.cells c1 28)) := (Below.refl _ _).alloc (Nat.le_refl _) _
  have hE := failW_err (w.alloc (.cells c1 28)) A (hS.kept b2 (Nat.le_refl _)) c h1 h2 q
  have b3 := below_failW (w.alloc (.cells c1 28)) (A c) q
  unfold failW at hE b3
  simp only [World.size_alloc] at hE b3
  exact run_err h (b2.trans (b3.mono (by omega))) _ he hE

set_option maxRecDepth 100000 in
set_option maxHeartbeats 4000000 in
/-- fill.Run of too many operands. -/
theorem fill_Run_many (w : World) (A : Nat → Addr) (hS : Sents0 w A) (F : Nat) (P : List Part) (a : Option Addr) (cap : Nat) (ops : List ByteArray) (h64 : 64 < ops.length) :
    Calls Tryz.prog 17 #[.pointer (some ⟨F, 0, none⟩), .slice a ops.length cap] w (RunPost w A (run P (ops.map bl))) := by
  have HR : Hid (run P (ops.map bl) = .error (5, 0)) := by show run _ _ = _; unfold run; rw [List.length_map, if_pos h64]
  have hd : decide (64 < (ops.length : Int)) = true := decide_eq_true (by omega)
  have hb : ∀ o, Below w.heap.size w (w.alloc o) := fun o => (Below.refl _ _).alloc (Nat.le_refl _) o
  have C := Lib.hid (fun o => fill_fail (w.alloc o) A (hS.kept (hb o) (Nat.le_refl _)) 5 (by omega) (by omega) 0)
  simp only [failW] at C
  clear hb
  go_enter Tryz.func17, Tryz.ntmps17
  go_wp2_with (go_at_call 31; refine (C.out _).mono ?_; rintro e w' ⟨rfl, rfl⟩)
  try rw [Exit.noGoto_ret]
  refine bodyPost_ret (v := .tuple #[.agg #[.slice none 0 0, .slice none 0 0, .bool false], .iface 69 (.pointer (some ⟨w.heap.size + 1 + 1, 0, none⟩))]) (by simp [results, Tryz.results17, go_sem]) rfl ?_
  exact run_err_end HR.out hS (by omega) (by omega) _ rfl 0 rfl

theorem tooLong_go {O : List (List UInt8)} {k : Nat} (h : k < O.length) (hs : ¬ 1024 < O[k].length) : tooLong (O.drop k) k = tooLong (O.drop (k + 1)) (k + 1) := by
  rw [List.drop_eq_getElem_cons h, tooLong, if_neg hs]
theorem tooLong_yes {O : List (List UInt8)} {k : Nat} (h : k < O.length) (hs : 1024 < O[k].length) : tooLong (O.drop k) k = some k := by
  rw [List.drop_eq_getElem_cons h, tooLong, if_pos hs]
theorem tooLong_end {O : List (List UInt8)} {k : Nat} (h : O.length ≤ k) : tooLong (O.drop k) k = none := by rw [List.drop_eq_nil_of_le h]; rfl
theorem tooLong_none : ∀ (O : List (List UInt8)) (k : Nat), tooLong O k = none → ∀ s ∈ O, s.length ≤ 1024
  | [], _, _, s, hs => by cases hs
  | x :: O, k, h, s, hs => by
    rw [tooLong] at h
    split at h
    · cases h
    · rcases List.mem_cons.1 hs with rfl | hs
      · omega
      · exact tooLong_none O (k + 1) h s hs

/-- Strings cut. -/
theorem Ss.cut {w : World} {a : Option Addr} {cap : Nat} {ops : List ByteArray} (h : Ss w a cap ops) (k : Nat) (hk : k ≤ ops.length) : Ss w (cutA a cap k) (cap - k) (ops.drop k) := by
  refine ⟨by have := h.1; simp; omega, by have := h.2.1; omega, fun i hi => ?_⟩
  have hi' : i < ops.length - k := by simpa using hi
  obtain ⟨b, off, ha, hc⟩ := h.2.2 (k + i) (by omega)
  subst ha
  refine ⟨b, off + k, ?_, ?_⟩
  · unfold cutA
    rw [if_neg (by have := h.1; omega)]
    simp [addr_add]
  · rw [Nat.add_assoc, hc]
    simp
theorem str_size (w : World) : (sizeOf 9).run Tryz.prog w = .ok 1 w := by kernel_rfl
theorem run_cutStr (a : Option Addr) (n cap k : Nat) (hk : k ≤ n) (w : World) : (Instr.slice 24 (.slice a n cap) (some (.int .i64 k)) none none).run Tryz.prog w = .ok (.slice (cutA a cap k) (n - k) (cap - k)) w := by
  have ht : Tryz.prog.underlying 24 = some (.slice (Tryz.prog.elem 24)) := by rw [elem_is Tryz.underlying24]; exact Tryz.underlying24
  have hs : ∀ w, (sizeOf (Tryz.prog.elem 24)).run Tryz.prog w = .ok 1 w := by rw [elem_is Tryz.underlying24]; exact str_size
  rw [run_slice_l w 24 a n cap ht .i64 k (by omega) (by omega), hs]
  simp [Result.andThen, sliced, cutA]

/-- What Run's loop keeps. -/
structure RelR (W0 : World) (g : Nat) (P : List Part) (O : List (List UInt8)) (n : Nat) (ops : List ByteArray) (a : Option Addr) (cap : Nat) (r : Out) (wr : World) : Prop where
  eq : runF n P (ops.map bl) r = runF (O.length + 1) P O ⟨[], [], false⟩
  fuel : ops.length + 1 ≤ n
  pr : PrW W0.heap.size wr g r
  bel : BelowX W0.heap.size g W0 wr
  st : r.stop = false
  ro : r.out.length ≤ 65536
  rc : r.codes.length + 5000 * ops.length ≤ 5000 * 64
  os : Ss W0 a cap ops
  sz : ∀ S ∈ ops, S.size ≤ 1024

theorem FmtC.keptX {B0 B g : Nat} {w w' : World} {F : Nat} {L : List Part} {cs : Array Value} (h : FmtC B0 w F L) (hg : Blk w g 83 cs) (hb : BelowX B g w w') (hB : w.heap.size ≤ B) : FmtC B0 w' F L := by
  obtain ⟨h0, v, h1, h2⟩ := h
  exact ⟨h0, v, (hb.block F (by have := h1.lt; omega) (h1.ne_ hg (by decide))).trans h1, h2.keptX hg hb hB⟩
/-- The printer's result is laid into the result's block. -/
theorem run_ok_end {w w4 : World} {A : Nat → Addr} {x : Except (Nat × Nat) Out} {r1 : Out} {B : Nat} {vo vc : Value} {cs : Array Value} (hx : x = .ok r1) (HK : Blk w4 w.heap.size 28 cs) (hb : Below w.heap.size w w4) (ho : w4.ownsRow B 5 1 vo r1.out.length (u8s r1.out)) (hc : w4.ownsRow B 3 1 vc r1.codes.length (i64s r1.codes)) (hB : w.heap.size ≤ B) (u0 u1 u2 : Value) :
    RunPost w A x (.returned (.tuple #[.agg #[vo, vc, .bool r1.stop], .nilIface])) (((w4.setCell ⟨w.heap.size, 0, none⟩ u0).setCell ⟨w.heap.size, 1, none⟩ u1).setCell ⟨w.heap.size, 2, none⟩ u2) := by
  subst hx
  have k1 := HK.set_ 0 u0
  have k2 := k1.set_ 1 u1
  exact ⟨((hb.setCell (Nat.le_refl _) _).setCell (Nat.le_refl _) _).setCell (Nat.le_refl _) _, vo, vc, rfl,
    ownsRow_base (ownsRow_setNe (ownsRow_setNe (ownsRow_setNe ho (a := ⟨w.heap.size, 0, none⟩) HK (by decide) u0) (a := ⟨w.heap.size, 1, none⟩) k1 (by decide) u1) (a := ⟨w.heap.size, 2, none⟩) k2 (by decide) u2) hB,
    ownsRow_base (ownsRow_setNe (ownsRow_setNe (ownsRow_setNe hc (a := ⟨w.heap.size, 0, none⟩) HK (by decide) u0) (a := ⟨w.heap.size, 1, none⟩) k1 (by decide) u1) (a := ⟨w.heap.size, 2, none⟩) k2 (by decide) u2) hB⟩

set_option maxRecDepth 100000 in
set_option maxHeartbeats 8000000 in
/-- fill.Run of few operands. -/
theorem fill_Run_few (w : World) (A : Nat → Addr) (hS : Sents0 w A) (BF F : Nat) (P : List Part) (hF : FmtC BF w F P) (hPl : P.length ≤ 2049) (hPg : ∀ p ∈ P, GoodP p) (a : Option Addr) (cap : Nat) (ops : List ByteArray) (hO : Ss w a cap ops) (h64 : ops.length ≤ 64) :
    Calls Tryz.prog 17 #[.pointer (some ⟨F, 0, none⟩), .slice a ops.length cap] w (RunPost w A (run P (ops.map bl))) := by
  have hd : decide (64 < (ops.length : Int)) = false := decide_eq_false (by omega)
  have HS := Lib.hid hS
  have HF := Lib.hid hF
  have HPG := Lib.hid hPg
  have HO := Lib.hid hO
  have hoc := hO.1
  have hom := hO.2.1
  unfold maxLen at hom
  have HR : Hid (run P (ops.map bl) = match tooLong (ops.map bl) 0 with | some i => .error (2, i) | none => .ok (runF ((ops.map bl).length + 1) P (ops.map bl) ⟨[], [], false⟩)) := by show run _ _ = _; unfold run; rw [List.length_map, if_neg (by omega)]; cases tooLong (ops.map bl) 0 <;> rfl
  clear hS hF hPg hO
  go_enter Tryz.func17, Tryz.ntmps17
  go_wp2_with fail
  go_loopw [25] (fun kv wr => ∃ (k : Nat), k ≤ ops.length ∧ kv = .int .i64 k ∧ Hid (tooLong ((ops.map bl).drop k) k = tooLong (ops.map bl) 0) ∧ w.alloc (.cells #[.slice none 0 0, .slice none 0 0, .bool false] 28) = wr) (fun kv _ => ops.length - (intOf kv).toNat)
  case atStart => exact ⟨0, by omega, rfl, rfl, rfl⟩
  case round =>
    obtain ⟨k, hk, rfl, HT, rfl⟩ := hrel
    by_cases hlt : k < ops.length
    · obtain ⟨b0, o0, rfl, hc0⟩ := HO.out.2.2 k hlt
      have hb0 := lt_of_cell hc0
      obtain ⟨S, hS⟩ : ∃ S, ops[k] = S := ⟨_, rfl⟩
      have hml : k < (ops.map bl).length := by rw [List.length_map]; exact hlt
      have hgl : (ops.map bl)[k].length = S.size := by rw [List.getElem_map, hS, bl_length]
      rw [hS] at hc0
      clear hS
      by_cases hs : 1024 < S.size
      · have ds : decide (1024 < (S.size : Int)) = true := decide_eq_true (by omega)
        have HE : Hid (run P (ops.map bl) = .error (2, k)) := by
          show _ = _
          rw [HR.out, ← HT.out, tooLong_yes hml (by omega)]
        have hb : ∀ o, Below w.heap.size w (w.alloc o) := fun o => (Below.refl _ _).alloc (Nat.le_refl _) o
        have C := Lib.hid (fun o => fill_fail (w.alloc o) A (HS.out.kept (hb o) (Nat.le_refl _)) 2 (by omega) (by omega) k)
        simp only [failW] at C
        clear hb hs hgl
        go_wp2_with (go_at_call 31; refine (C.out _).mono ?_; rintro e w' ⟨rfl, rfl⟩)
        try rw [Exit.noGoto_ret]
        refine bodyPost_ret (v := .tuple #[.agg #[.slice none 0 0, .slice none 0 0, .bool false], .iface 69 (.pointer (some ⟨w.heap.size + 1 + 1, 0, none⟩))]) (by simp [results, Tryz.results17, go_sem]) rfl ?_
        exact run_err_end HE.out HS.out (by omega) (by omega) _ rfl k rfl
      · have ds : decide (1024 < (S.size : Int)) = false := decide_eq_false (by omega)
        have HT2 := Lib.hid ((tooLong_go hml (by omega)).symm.trans HT.out)
        clear hs hgl
        go_wp2_with fail
        go_roundw
        case rel => exact ⟨k + 1, by omega, by go_num, HT2, trivial⟩
        case measure => simp [intOf]; omega
    · have HT2 : Hid (tooLong (ops.map bl) 0 = none) := HT.out.symm.trans (tooLong_end (by rw [List.length_map]; omega))
      have hb2 : Below w.heap.size w ((w.alloc (.cells #[.slice none 0 0, .slice none 0 0, .bool false] 28)).alloc (.cells #[.slice none 0 0, .slice none 0 0, .bool false, .int .i64 65536] 83)) := ((Below.refl _ _).alloc (Nat.le_refl _) _).alloc (by simp) _
      have CPA := Lib.hid (shape_Parts BF _ F P (HF.out.below hb2 (Nat.le_refl _)) (by omega) (fun p hp => by have := (HPG.out p hp).1; omega))
      have hk1 := (Blk.new w 28 #[.slice none 0 0, .slice none 0 0, .bool false]).alloc (.cells #[.slice none 0 0, .slice none 0 0, .bool false, .int .i64 65536] 83)
      have hk2 := Blk.new (w.alloc (.cells #[.slice none 0 0, .slice none 0 0, .bool false] 28)) 83 #[.slice none 0 0, .slice none 0 0, .bool false, .int .i64 65536]
      rw [World.size_alloc] at hk2
      have HRR : Hid (run P (ops.map bl) = .ok (runF ((ops.map bl).length + 1) P (ops.map bl) ⟨[], [], false⟩)) := by show _ = _; rw [HR.out, HT2.out]
      have HSZ : Hid (∀ S ∈ ops, S.size ≤ 1024) := fun S hS => by rw [← bl_length]; exact tooLong_none _ _ HT2.out _ (List.mem_map.2 ⟨S, hS, rfl⟩)
      have HK1 := Lib.hid hk1
      have HK2 := Lib.hid hk2
      have HB2 := Lib.hid hb2
      clear hb2 hk1 hk2 HT HT2 HR
      go_wp2_with fail
      refine CPA.out.mono ?_
      rintro e w3 ⟨v, rfl, hPC, hb3⟩
      rw [List.take_length] at hPC
      have HK13 := Lib.hid (HK1.out.below hb3 HK1.out.lt)
      have HK23 := Lib.hid (HK2.out.below hb3 HK2.out.lt)
      have HB3 := Lib.hid (HB2.out.trans (hb3.mono HB2.out.size))
      have HPC := Lib.hid hPC
      have HO3 : Hid (Ss w3 a cap ops) := ⟨HO.out.1, HO.out.2.1, fun i hi => by
        obtain ⟨b, off, h1, h2⟩ := HO.out.2.2 i hi
        exact ⟨b, off, h1, by rw [HB3.out.cell (p := ⟨b, off + i, none⟩) (lt_of_cell h2)]; exact h2⟩⟩
      have HF3 := Lib.hid (HF.out.below HB3.out (Nat.le_refl _))
      have HW3 : Hid (PrW w3.heap.size w3 (w.heap.size + 1) ⟨[], [], false⟩) := ⟨_, _, HK23.out, World.ownsRow_nil _ _ _ _, World.ownsRow_nil _ _ _ _⟩
      clear hPC hb3 CPA HK1 HK2 HB2
      go_wp2_with fail
      go_loopw [1, 10, 11] (fun ov _ _ wr => ∃ (n : Nat) (ops' : List ByteArray) (a' : Option Addr) (cap' : Nat) (r : Out), ops'.length ≤ cap' ∧ cap' ≤ 2 ^ 63 - 1 ∧ ops'.length ≤ 64 ∧ ov = .slice a' ops'.length cap' ∧ Hid (RelR w3 (w.heap.size + 1) P (ops.map bl) n ops' a' cap' r wr)) (fun ov _ _ _ => match ov with | .slice _ n _ => n | _ => 0)
      case atStart =>
        exact ⟨(ops.map bl).length + 1, ops, a, cap, ⟨[], [], false⟩, hoc, hom, h64, rfl, rfl, by rw [List.length_map]; omega, HW3.out, BelowX.refl _ _ _, rfl, by simp, by simp; omega, HO3.out, HSZ.out⟩
      case round =>
        obtain ⟨n, ops', a', cap', r, hoc', hom', h64', rfl, HRL⟩ := hrel
        obtain ⟨m, rfl⟩ : ∃ m, n = m + 1 := ⟨n - 1, by have := HRL.out.fuel; omega⟩
        have hx := once_taken P (ops'.map bl) r 0 (by omega)
        have hxb := once_bounds P (ops'.map bl) r 0 HRL.out.ro HRL.out.st
        have CO := fill_once w3.heap.size _ w3 wr (w.heap.size + 1) r ⟨[], [], false⟩ v (P.map norm) a' cap' ops' rfl HW3.out HRL.out.bel HRL.out.pr HRL.out.st HRL.out.ro (by have := HRL.out.rc; omega) HPC.out (by rw [List.length_map]; omega)
          (fun p hp => by obtain ⟨q, hq, rfl⟩ := List.mem_map.1 hp; rw [norm_lit]; have := (HPG.out q hq).1; omega) (fun p hp => by obtain ⟨q, hq, rfl⟩ := List.mem_map.1 hp; rw [norm_conv]; exact (HPG.out q hq).2.1)
          (fun p hp => by
            obtain ⟨q, hq, rfl⟩ := List.mem_map.1 hp
            have hg := HPG.out q hq
            unfold GoodP at hg
            unfold norm
            split
            · exact ⟨by show q.width ≤ 5000; omega, by show (0 : Int) < 5000; omega⟩
            · omega)
          HRL.out.os (fun S hS => by have := HRL.out.sz S hS; omega)
        rw [once_norm] at CO
        have HEQ : Hid (runF ((ops.map bl).length + 1) P (ops.map bl) ⟨[], [], false⟩ = if (once P (ops'.map bl) r 0).2.2 = false ∨ ((ops'.map bl).drop (once P (ops'.map bl) r 0).2.1).length = 0 ∨ (once P (ops'.map bl) r 0).2.1 = 0 then (once P (ops'.map bl) r 0).1 else runF m P ((ops'.map bl).drop (once P (ops'.map bl) r 0).2.1) (once P (ops'.map bl) r 0).1) := HRL.out.eq.symm
        obtain ⟨r1, tk, on, hxe⟩ : ∃ r1 tk on, once P (ops'.map bl) r 0 = (r1, tk, on) := ⟨_, _, _, rfl⟩
        rw [hxe] at hx hxb CO HEQ
        simp only [List.length_map, List.length_drop] at hx hxb HEQ
        obtain ⟨_, htk, htw⟩ := hx
        have CO := Lib.hid CO
        have HXB := Lib.hid hxb
        have HTW := Lib.hid htw
        have hcs := fun W => run_cutStr a' ops'.length cap' tk htk W
        clear hxe hxb htw
        go_wp2_with fail
        refine CO.out.mono ?_
        rintro e w4 ⟨rfl, hp4, hb4⟩
        have HP4 := Lib.hid hp4
        have HB4 := Lib.hid hb4
        have HK14 : Hid (Blk w4 w.heap.size 28 #[.slice none 0 0, .slice none 0 0, .bool false]) := (hb4.block w.heap.size HK13.out.lt (by omega)).trans HK13.out
        obtain ⟨vo, vc, hbk, ho, hc⟩ := hp4
        obtain ⟨oa, oc, rfl, _⟩ := ownsRow_form ho
        obtain ⟨ca, cc, rfl, _⟩ := ownsRow_form hc
        have y0 : w4.cell? ⟨w.heap.size + 1, 0, none⟩ = some (.slice oa r1.out.length oc) := by rw [hbk.cell 0]; rfl
        have y1 : w4.cell? ⟨w.heap.size + 1, 1, none⟩ = some (.slice ca r1.codes.length cc) := by rw [hbk.cell 1]; rfl
        have y2 : w4.cell? ⟨w.heap.size + 1, 2, none⟩ = some (.bool r1.stop) := by rw [hbk.cell 2]; rfl
        have z0 : w4.cell? ⟨w.heap.size, 0, none⟩ = some (.slice none 0 0) := by rw [HK14.out.cell 0]; rfl
        have z1 : w4.cell? ⟨w.heap.size, 1, none⟩ = some (.slice none 0 0) := by rw [HK14.out.cell 1]; rfl
        have z2 : w4.cell? ⟨w.heap.size, 2, none⟩ = some (.bool false) := by rw [HK14.out.cell 2]; rfl
        have f0 := HK14.out.frozen 0
        have f1 := HK14.out.frozen 1
        have f2 := HK14.out.frozen 2
        have HHO := Lib.hid ho
        have HHC := Lib.hid hc
        have HBW : Hid (Below w.heap.size w w4) := HB3.out.trans (HB4.out.below HB3.out.size (by omega))
        have HBK := Lib.hid hbk
        clear hb4 hbk ho hc
        cases on
        · have HE : Hid (run P (ops.map bl) = .ok r1) := by show _ = _; rw [HRR.out, List.length_map, HEQ.out]; simp
          clear HEQ HTW
          go_wp2_with fail
          try rw [Exit.noGoto_ret]
          refine bodyPost_ret (v := .tuple #[.agg #[.slice oa r1.out.length oc, .slice ca r1.codes.length cc, .bool r1.stop], .nilIface]) (by simp [results, Tryz.results17, go_sem, z0, z1, z2]) rfl ?_
          exact run_ok_end HE.out HK14.out HBW.out HHO.out HHC.out HB3.out.size _ _ _
        · by_cases hz : ops'.length - tk = 0
          · have HE : Hid (run P (ops.map bl) = .ok r1) := by show _ = _; rw [HRR.out, List.length_map, HEQ.out, if_pos (Or.inr (Or.inl hz))]
            have ez : (((ops'.length - tk : Nat) : Int) == 0) = true := beq_iff_eq.2 (by omega)
            clear HEQ HTW
            go_wp2_with fail
            try rw [Exit.noGoto_ret]
            refine bodyPost_ret (v := .tuple #[.agg #[.slice oa r1.out.length oc, .slice ca r1.codes.length cc, .bool r1.stop], .nilIface]) (by simp [results, Tryz.results17, go_sem, z0, z1, z2]) rfl ?_
            exact run_ok_end HE.out HK14.out HBW.out HHO.out HHC.out HB3.out.size _ _ _
          · have ez : (((ops'.length - tk : Nat) : Int) == 0) = false := beq_eq_false_iff_ne.2 (by omega)
            have HF4 := HF3.out.keptX HK23.out HB4.out (Nat.le_refl _)
            have CW := Lib.hid (shape_Wants BF w4 F P HF4 (by omega))
            have htk0 : tk = wants P := by have := HTW.out rfl (by omega); omega
            by_cases hw0 : wants P = 0
            · have HE : Hid (run P (ops.map bl) = .ok r1) := by show _ = _; rw [HRR.out, List.length_map, HEQ.out, if_pos (Or.inr (Or.inr (by omega)))]
              have ew : ((wants P : Int) == 0) = true := beq_iff_eq.2 (by omega)
              clear HEQ HTW HF4 hw0 htk0
              go_wp2_with fail
              refine CW.out.mono ?_
              rintro e w5 ⟨rfl, hb5⟩
              have hbk5 := HBK.out.below hb5 HBK.out.lt
              have hk5 := HK14.out.below hb5 HK14.out.lt
              have HK15 := Lib.hid hk5
              have y0 : w5.cell? ⟨w.heap.size + 1, 0, none⟩ = some (.slice oa r1.out.length oc) := by rw [hbk5.cell 0]; rfl
              have y1 : w5.cell? ⟨w.heap.size + 1, 1, none⟩ = some (.slice ca r1.codes.length cc) := by rw [hbk5.cell 1]; rfl
              have y2 : w5.cell? ⟨w.heap.size + 1, 2, none⟩ = some (.bool r1.stop) := by rw [hbk5.cell 2]; rfl
              have z0 : w5.cell? ⟨w.heap.size, 0, none⟩ = some (.slice none 0 0) := by rw [hk5.cell 0]; rfl
              have z1 : w5.cell? ⟨w.heap.size, 1, none⟩ = some (.slice none 0 0) := by rw [hk5.cell 1]; rfl
              have z2 : w5.cell? ⟨w.heap.size, 2, none⟩ = some (.bool false) := by rw [hk5.cell 2]; rfl
              have f0 := hk5.frozen 0
              have f1 := hk5.frozen 1
              have f2 := hk5.frozen 2
              have HHO5 := Lib.hid (ownsRow_below HHO.out hb5 (Nat.le_refl _))
              have HHC5 := Lib.hid (ownsRow_below HHC.out hb5 (Nat.le_refl _))
              have HBW5 := Lib.hid (HBW.out.trans (hb5.mono HBW.out.size))
              clear hb5 hbk5 hk5
              go_wp2_with fail
              try rw [Exit.noGoto_ret]
              refine bodyPost_ret (v := .tuple #[.agg #[.slice oa r1.out.length oc, .slice ca r1.codes.length cc, .bool r1.stop], .nilIface]) (by simp [results, Tryz.results17, go_sem, z0, z1, z2]) rfl ?_
              exact run_ok_end HE.out HK15.out HBW5.out HHO5.out HHC5.out HB3.out.size _ _ _
            · have ew : ((wants P : Int) == 0) = false := beq_eq_false_iff_ne.2 (by omega)
              have HW0 := Lib.hid hw0
              have HTK0 := Lib.hid htk0
              clear HTW HF4 hw0 htk0
              go_wp2_with fail
              refine CW.out.mono ?_
              rintro e w5 ⟨rfl, hb5⟩
              have HB5 := Lib.hid hb5
              clear hb5
              go_wp2_with fail
              go_roundw
              case rel =>
                have hw1 := HW0.out
                have htk0 := HTK0.out
                refine ⟨m, ops'.drop tk, cutA a' cap' tk, cap' - tk, r1, by simp; omega, by omega, by simp; omega, by simp, ?_⟩
                refine ⟨?_, ?_, HP4.out.below HB5.out (Nat.le_refl _), HB4.out.trans (.of HB5.out HB4.out.size), HXB.out.2.2 trivial, HXB.out.1, ?_, HRL.out.os.cut tk htk, fun S hS => HRL.out.sz S (List.mem_of_mem_drop hS)⟩
                · rw [List.map_drop, List.length_map]
                  exact (HEQ.out.trans (if_neg (by simp; omega))).symm
                · have := HRL.out.fuel; simp; omega
                · have h1 := HRL.out.rc
                  have h2 := HXB.out.2.1
                  rw [List.length_drop]
                  omega
              case measure =>
                have hw1 := HW0.out
                have htk0 := HTK0.out
                simp; omega
end Go.Proofs.YtppcjmbblkbkdaaGreatDoor
