/- The walk of (*fill.printer).once. Conditions as typed. -/
import Derived.Test.YtppcjmbblkbkdaaGreatDoorField2
import Derived.Test.YtppcjmbblkbkdaaGreatDoorParts
namespace Go.Proofs.YtppcjmbblkbkdaaGreatDoor
open Go.RowKit Pg

/-- Strings in a row. -/
def Ss (w : World) (a : Option Addr) (cap : Nat) (ops : List ByteArray) : Prop :=
  ops.length ≤ cap ∧ cap ≤ maxLen ∧ ∀ (i : Nat) (h : i < ops.length), ∃ b off, a = some ⟨b, off, none⟩ ∧ w.cell? ⟨b, off + i, none⟩ = some (.string ops[i])
theorem PrW.noString {B : Nat} {w : World} {g : Nat} {r : Out} (h : PrW B w g r) (i : Nat) (S : ByteArray) : w.cell? ⟨g, i, none⟩ ≠ some (.string S) := by
  obtain ⟨vo, vc, h1, h2, h3⟩ := h
  obtain ⟨oa, oc, rfl, _⟩ := ownsRow_form h2
  obtain ⟨ca, cc, rfl, _⟩ := ownsRow_form h3
  rw [h1.cell i]
  rcases i with _ | _ | _ | _ | i <;> simp
theorem Ss.keptX {B g : Nat} {w w' : World} {a : Option Addr} {cap : Nat} {ops : List ByteArray} {B' : Nat} {r : Out} (h : Ss w a cap ops) (hp : PrW B' w g r) (hb : BelowX B g w w') (hB : w.heap.size ≤ B) : Ss w' a cap ops :=
  ⟨h.1, h.2.1, fun i hi => by
    obtain ⟨b, off, ha, hc⟩ := h.2.2 i hi
    refine ⟨b, off, ha, ?_⟩
    have hne : b ≠ g := fun e => hp.noString _ _ (e ▸ hc)
    rw [World.cell?_of_block (w := w) (a := ⟨b, off + i, none⟩) (hb.block b (Nat.lt_of_lt_of_le (lt_of_cell hc) hB) hne)]; exact hc⟩
theorem U8Kept.belowX {K B g : Nat} {w w' : World} {cs : Array Value} (hb : BelowX B g w w') (hg : Blk w g 83 cs) (hK : w.heap.size ≤ B) : U8Kept K w w' := fun k _ _ h => by
  rw [hb.block k (by have : k < w.heap.size := Blk.lt (t := 5) h; omega) (Blk.ne_ (t := 5) h hg (by decide))]; exact h
theorem PartsC.keptX {B0 B g : Nat} {w w' : World} {v : Value} {L : List Part} {cs : Array Value} (h : PartsC B0 w v L) (hg : Blk w g 83 cs) (hb : BelowX B g w w') (hB : w.heap.size ≤ B) : PartsC B0 w' v L := by
  obtain ⟨vs, h1, h2, h3⟩ := h
  refine ⟨vs, h1, fun i hi hi' => ((h2 i hi hi').kept (U8Kept.belowX hb hg hB)).more hb.size, h3.1, ?_⟩
  rcases h3.2 with h4 | ⟨k, cap, cur, hv, hb', hk, r⟩
  · exact .inl h4
  · exact .inr ⟨k, cap, cur, hv, hb', by rw [hb.block k (by have : k < w.heap.size := Blk.lt (t := 59) hk; omega) (Blk.ne_ (t := 59) hk hg (by decide))]; exact hk, r⟩

/-- string(p.Lit) -/
theorem litStr {K : Nat} {W : World} {v : Value} {l : List UInt8} (h : LitR W K v l) : (convert 25 9 v).run Tryz.prog W = .ok (.string ⟨l.toArray⟩) W := by
  obtain ⟨a, cap, rfl, _, _, h4⟩ := h
  rcases h4 with rfl | ⟨g, cur, rfl, _, hg, ht⟩
  · cases a with
    | none => exact Lib.run_convert_nil_bytes W 25 9 5 cap Tryz.underlying25 Tryz.underlying5 Tryz.underlying9
    | some ad => exact run_convert_bytes_back W 25 9 5 ad cap [] Tryz.underlying25 Tryz.underlying5 Tryz.underlying9 (fun j hj => by simp at hj)
  · refine run_convert_bytes_back W 25 9 5 ⟨g, 0, none⟩ cap l Tryz.underlying25 Tryz.underlying5 Tryz.underlying9 (fun j hj => ?_)
    rw [addr_add, cell_of_row _ g _ _ _ (0, 0) hg, Nat.zero_add]
    have e : (cur.toList.take l.length)[j]? = (u8s l)[j]? := by rw [← ht]
    rw [List.getElem?_take, if_pos hj] at e
    simpa [u8s, hj] using e

/-! ### The plain law -/
def fput (p : Part) (s : List UInt8) (r : Out) : Out × Bool := put (if (one p s).2.2 = 0 then r else { r with codes := r.codes ++ [(one p s).2.2] }) (one p s).1
def fout (p : Part) (s : List UInt8) (r : Out) : Out := if (fput p s r).2 = true ∧ (one p s).2.1 = true then { (fput p s r).1 with stop := true } else (fput p s r).1
theorem once_lit {p : Part} {L : List Part} {O : List (List UInt8)} {r : Out} {t : Nat} (h : p.conv = 0) : once (p :: L) O r t = if (put r p.lit).2 = true then once L O (put r p.lit).1 t else ((put r p.lit).1, t, false) := by
  rw [once, if_pos h]
theorem once_field {p : Part} {L : List Part} {O : List (List UInt8)} {r : Out} {t : Nat} (h : p.conv ≠ 0) :
    once (p :: L) O r t = if ((fput p (O.getD t []) r).2 && !(one p (O.getD t [])).2.1) = true then once L O (fout p (O.getD t []) r) (if t < O.length then t + 1 else t) else (fout p (O.getD t []) r, (if t < O.length then t + 1 else t), false) := by
  rw [once, if_neg h]
  unfold fout fput
  simp only []
  generalize put (if (one p (O.getD t [])).2.2 = 0 then r else { r with codes := r.codes ++ [(one p (O.getD t [])).2.2] }) (one p (O.getD t [])).1 = q
  generalize (one p (O.getD t [])).2.1 = s
  cases hq : q.2 <;> cases s <;> simp
theorem put_bounds (r : Out) (s : List UInt8) (hr : r.out.length ≤ 65536) : (put r s).1.out.length ≤ 65536 ∧ (put r s).1.codes.length ≤ r.codes.length + 1 ∧ (put r s).1.stop = r.stop := by
  unfold put room
  split
  · rename_i h
    exact ⟨by show (r.out ++ s).length ≤ 65536; rw [List.length_append]; exact h, Nat.le_succ _, rfl⟩
  · refine ⟨?_, ?_, rfl⟩
    · show (r.out ++ s.take (65536 - r.out.length)).length ≤ 65536
      rw [List.length_append, List.length_take]; omega
    · show (r.codes ++ [19]).length ≤ r.codes.length + 1
      simp
theorem fput_bounds (p : Part) (s : List UInt8) (r : Out) (hr : r.out.length ≤ 65536) : (fput p s r).1.out.length ≤ 65536 ∧ (fput p s r).1.codes.length ≤ r.codes.length + 2 ∧ (fput p s r).1.stop = r.stop := by
  unfold fput
  split
  · have := put_bounds r (one p s).1 hr; exact ⟨this.1, by omega, this.2.2⟩
  · have := put_bounds { r with codes := r.codes ++ [(one p s).2.2] } (one p s).1 hr
    simp only [List.length_append, List.length_cons, List.length_nil] at this
    exact ⟨this.1, by omega, this.2.2⟩
theorem fout_bounds (p : Part) (s : List UInt8) (r : Out) (hr : r.out.length ≤ 65536) : (fout p s r).out.length ≤ 65536 ∧ (fout p s r).codes.length ≤ r.codes.length + 2 := by
  have h := fput_bounds p s r hr
  unfold fout
  split
  · exact ⟨h.1, h.2.1⟩
  · exact ⟨h.1, h.2.1⟩
theorem fout_go {p : Part} {s : List UInt8} {r : Out} (hr : r.out.length ≤ 65536) (hs : r.stop = false) (h : ((fput p s r).2 && !(one p s).2.1) = true) : (fout p s r).stop = false := by
  have h2 := fput_bounds p s r hr
  unfold fout
  rw [if_neg (by rintro ⟨h3, h4⟩; rw [h3, h4] at h; exact absurd h (by decide))]
  rw [h2.2.2, hs]

/-- What once's loop keeps. -/
structure RelO (B : Nat) (W0 : World) (g : Nat) (L : List Part) (O : List (List UInt8)) (r0 : Out) (k t : Nat) (r : Out) (wr : World) : Prop where
  eq : once (L.drop k) O r t = once L O r0 0
  pr : PrW B wr g r
  bel : BelowX B g W0 wr
  st : r.stop = false
  ro : r.out.length ≤ 65536
  rc : r.codes.length ≤ r0.codes.length + 2 * k
theorem RelO.step {B : Nat} {W0 : World} {g : Nat} {L : List Part} {O : List (List UInt8)} {r0 : Out} {k t t' : Nat} {r r' : Out} {wr w' : World} {o : Obj} (h : RelO B W0 g L O r0 k t r wr) (hB : B ≤ wr.heap.size) (he : once (L.drop k) O r t = once (L.drop (k + 1)) O r' t') (hp : PrW B w' g r') (hb : BelowX B g (wr.alloc o) w') (hs : r'.stop = false) (ho : r'.out.length ≤ 65536) (hc : r'.codes.length ≤ r.codes.length + 2) : RelO B W0 g L O r0 (k + 1) t' r' w' :=
  ⟨he.symm.trans h.eq, hp, (h.bel.alloc hB o).trans hb, hs, ho, by have := h.rc; omega⟩
def OncePost (B : Nat) (W0 : World) (g : Nat) (x : Out × Nat × Bool) (e : Ending) (w' : World) : Prop := e = .returned (.tuple #[.int .i64 x.2.1, .bool x.2.2]) ∧ PrW B w' g x.1 ∧ BelowX B g W0 w'

set_option maxRecDepth 100000 in
set_option maxHeartbeats 8000000 in
/-- (*printer).once. -/
theorem fill_once (B BP : Nat) (W0 w : World) (g : Nat) (r0 : Out) (rW : Out) (v : Value) (L : List Part) (a : Option Addr) (capO : Nat) (ops : List ByteArray) (hB : B = W0.heap.size) (hW : PrW B W0 g rW) (hb : BelowX B g W0 w) (hp : PrW B w g r0) (hst : r0.stop = false) (hro : r0.out.length ≤ 65536) (hrc : r0.codes.length ≤ 900000)
    (hP : PartsC BP W0 v L) (hL : L.length ≤ 5000) (hlits : ∀ p ∈ L, p.lit.length ≤ 5000) (hconv : ∀ p ∈ L, p.conv < 256) (hwp : ∀ p ∈ L, p.width ≤ 5000 ∧ p.prec < 5000) (hO : Ss W0 a capO ops) (hops : ∀ S ∈ ops, S.size ≤ 140737488351232) :
    Calls Tryz.prog 29 #[.pointer (some ⟨g, 0, none⟩), v, .slice a ops.length capO] w (OncePost B W0 g (once L (ops.map bl) r0 0)) := by
  obtain ⟨pa, pcap, rfl, hpc, hpm, _⟩ := hP.cells
  have hoc := hO.1
  have hom := hO.2.1
  unfold maxLen at hpm hom
  have HW := Lib.hid hW
  have HB := Lib.hid hb
  have HP := Lib.hid hp
  have HPC := Lib.hid hP
  have HOS := Lib.hid hO
  have HST := Lib.hid hst
  have HLI := Lib.hid hlits
  have HCV := Lib.hid hconv
  have HWP := Lib.hid hwp
  have HOP := Lib.hid hops
  have HBE := Lib.hid hB
  clear hW hb hp hP hO hst hlits hconv hwp hops hB
  go_enter Tryz.func29, Tryz.ntmps29
  go_wp2_with fail
  go_loopw [8, 14] (fun tv kv wr => ∃ (k t : Nat) (r : Out), k ≤ L.length ∧ t ≤ ops.length ∧ tv = .int .i64 t ∧ kv = .int .i64 k ∧ Hid (RelO B W0 g L (ops.map bl) r0 k t r wr)) (fun _ kv _ => L.length - (intOf kv).toNat)
  case atStart => exact ⟨0, 0, r0, by omega, by omega, rfl, rfl, ⟨rfl, HP.out, HB.out, HST.out, hro, by omega⟩⟩
  case round =>
    obtain ⟨k, t, r, hk, ht, rfl, rfl, HR⟩ := hrel
    by_cases hlt : k < L.length
    · obtain ⟨vo, vc, hbk, _, _⟩ := HW.out
      have hPr := HPC.out.keptX hbk HR.out.bel (by rw [← HBE.out]; exact Nat.le_refl _)
      have HOr := Lib.hid (HOS.out.keptX HW.out HR.out.bel (by rw [← HBE.out]; exact Nat.le_refl _))
      obtain ⟨pa', pcap', hv', _, _, hcells⟩ := hPr.cells
      obtain ⟨gp, la, lcap, hpa, hglt, hlr, c0, c1, c2, c3, c4, c5, c6, c7, c8⟩ := hcells k hlt
      clear hbk hPr
      obtain ⟨q, hq⟩ : ∃ q, L[k] = q := ⟨_, rfl⟩
      have hqm : q ∈ L := hq ▸ List.getElem_mem hlt
      have HD : Hid (L.drop k = q :: L.drop (k + 1)) := by show _ = _; rw [← hq]; exact List.drop_eq_getElem_cons hlt
      rw [hq] at hlr c0 c1 c2 c3 c4 c5 c6 c7 c8
      have hBr : B ≤ wr.heap.size := by have := HR.out.bel.size; have := HBE.out; omega
      have hql := HLI.out q hqm
      have hrr : r.codes.length < 1000000 := by have := HR.out.rc; omega
      have HP1 : ∀ o, PrW B (wr.alloc o) g r := fun o => HR.out.pr.below ((Below.refl _ _).alloc (Nat.le_refl _) o) (Nat.le_refl _)
      have hB1 : ∀ o, B ≤ (wr.alloc o).heap.size := fun o => by simp; omega
      subst hpa
      clear hq
      by_cases h0 : q.conv = 0
      · have e0 := eqT h0
        simp only [Int.cast_ofNat_Int] at e0
        have ks := fun (o : Obj) => litStr ((hlr.kept (U8Kept.alloc _ wr o)))
        have CP := fun (o : Obj) => fill_put B (wr.alloc o) g r ⟨q.lit.toArray⟩ (HP1 o) HR.out.ro (by omega) (hB1 o)
        rw [bl_mk] at CP
        have HE := Lib.hid ((congrArg (fun l => once l (ops.map bl) r t) HD.out).trans (once_lit h0))
        have HPB := Lib.hid (put_bounds r q.lit HR.out.ro)
        obtain ⟨r1, ok, hpt⟩ : ∃ r1 ok, put r q.lit = (r1, ok) := ⟨_, _, rfl⟩
        rw [hpt] at CP HE HPB
        simp only [] at CP HE HPB
        have CP := Lib.hid CP
        clear hpt HP1 hB1 h0
        cases ok
        · go_wp2_with (go_at_call 48; refine (CP.out _).mono ?_; rintro e w1 ⟨rfl, hp1, hb1⟩; have HPW := Lib.hid hp1; have HBW := Lib.hid hb1; clear hp1 hb1)
          go_ret2
          exact ⟨by rw [← HR.out.eq, HE.out]; rfl, by rw [← HR.out.eq, HE.out]; exact HPW.out, (HR.out.bel.alloc hBr _).trans HBW.out⟩
        · go_wp2_with (go_at_call 48; refine (CP.out _).mono ?_; rintro e w1 ⟨rfl, hp1, hb1⟩; have HPW := Lib.hid hp1; have HBW := Lib.hid hb1; clear hp1 hb1)
          go_roundw
          case rel => exact ⟨k + 1, t, r1, by omega, ht, rfl, by go_num, HR.out.step hBr (HE.out.trans (if_pos trivial)) HPW.out HBW.out (HPB.out.2.2.trans HR.out.st) HPB.out.1 (by have := HPB.out.2.1; omega)⟩
          case measure => simp [intOf]; omega
      · have e0 := eqF h0
        simp only [Int.cast_ofNat_Int] at e0
        by_cases hto : t < ops.length
        · obtain ⟨T, hT⟩ : ∃ T, ops[t] = T := ⟨_, rfl⟩
          have hTs : T.size ≤ 140737488351232 := HOP.out T (hT ▸ List.getElem_mem hto)
          have hg : (ops.map bl).getD t [] = bl T := by rw [List.getD_eq_getElem?_getD, List.getElem?_map, List.getElem?_eq_getElem hto, hT]; rfl
          have ht2 : (if t < (ops.map bl).length then t + 1 else t) = t + 1 := by rw [List.length_map, if_pos hto]
          obtain ⟨bo, oo, ha, hos⟩ := HOr.out.2.2 t hto
          subst ha
          rw [hT] at hos
          have hbolt := lt_of_cell hos
          clear hT
          have HE := Lib.hid ((congrArg (fun l => once l (ops.map bl) r t) HD.out).trans (once_field h0))
          rw [hg, ht2] at HE
          have HFB := Lib.hid (fout_bounds q (bl T) r HR.out.ro)
          have HFG := Lib.hid (fun h => fout_go (p := q) (s := bl T) (r := r) HR.out.ro HR.out.st h)
          have CF : ∀ (o : Obj) (lv : Value), Calls Tryz.prog 49 #[.pointer (some ⟨g, 0, none⟩), .agg #[lv, .int .u8 q.conv, .bool q.fl.minus, .bool q.fl.plus, .bool q.fl.space, .bool q.fl.zero, .bool q.fl.alt, .int .i64 q.width, .int .i64 q.prec], .string T] (wr.alloc o) (fun e w' => e = .returned (.bool ((fput q (bl T) r).2 && !(one q (bl T)).2.1)) ∧ PrW B w' g (fout q (bl T) r) ∧ BelowX B g (wr.alloc o) w') := fun o lv => fill_field B (wr.alloc o) g r lv q T (HP1 o) HR.out.ro hrr (hB1 o) (HWP.out q hqm).1 hTs (HCV.out q hqm) (HWP.out q hqm).2 HR.out.st
          generalize fout q (bl T) r = r1 at *
          generalize ((fput q (bl T) r).2 && !(one q (bl T)).2.1) = ok at *
          have CF := Lib.hid CF
          clear HP1 hB1 h0 hg ht2
          cases ok
          · go_wp2_with (go_at_call 49; refine (CF.out _ _).mono ?_; rintro e w1 ⟨rfl, hp1, hb1⟩; have HPW := Lib.hid hp1; have HBW := Lib.hid hb1; clear hp1 hb1)
            go_ret2
            exact ⟨by rw [← HR.out.eq, HE.out]; rfl, by rw [← HR.out.eq, HE.out]; exact HPW.out, (HR.out.bel.alloc hBr _).trans HBW.out⟩
          · go_wp2_with (go_at_call 49; refine (CF.out _ _).mono ?_; rintro e w1 ⟨rfl, hp1, hb1⟩; have HPW := Lib.hid hp1; have HBW := Lib.hid hb1; clear hp1 hb1)
            go_roundw
            case rel => exact ⟨k + 1, t + 1, r1, by omega, by omega, by go_num, by go_num, HR.out.step hBr (HE.out.trans (if_pos trivial)) HPW.out HBW.out (HFG.out trivial) HFB.out.1 HFB.out.2⟩
            case measure => simp [intOf]; omega
        · have hTs : (⟨#[]⟩ : ByteArray).size ≤ 140737488351232 := by decide
          have hg : (ops.map bl).getD t [] = bl (⟨#[]⟩ : ByteArray) := by rw [List.getD_eq_getElem?_getD, List.getElem?_map, List.getElem?_eq_none (by omega)]; rfl
          have ht2 : (if t < (ops.map bl).length then t + 1 else t) = t := by rw [List.length_map, if_neg hto]
          have HE := Lib.hid ((congrArg (fun l => once l (ops.map bl) r t) HD.out).trans (once_field h0))
          rw [hg, ht2] at HE
          have HFB := Lib.hid (fout_bounds q (bl (⟨#[]⟩ : ByteArray)) r HR.out.ro)
          have HFG := Lib.hid (fun h => fout_go (p := q) (s := bl (⟨#[]⟩ : ByteArray)) (r := r) HR.out.ro HR.out.st h)
          have CF : ∀ (o : Obj) (lv : Value), Calls Tryz.prog 49 #[.pointer (some ⟨g, 0, none⟩), .agg #[lv, .int .u8 q.conv, .bool q.fl.minus, .bool q.fl.plus, .bool q.fl.space, .bool q.fl.zero, .bool q.fl.alt, .int .i64 q.width, .int .i64 q.prec], .string ⟨#[]⟩] (wr.alloc o) (fun e w' => e = .returned (.bool ((fput q (bl (⟨#[]⟩ : ByteArray)) r).2 && !(one q (bl (⟨#[]⟩ : ByteArray))).2.1)) ∧ PrW B w' g (fout q (bl (⟨#[]⟩ : ByteArray)) r) ∧ BelowX B g (wr.alloc o) w') := fun o lv => fill_field B (wr.alloc o) g r lv q ⟨#[]⟩ (HP1 o) HR.out.ro hrr (hB1 o) (HWP.out q hqm).1 hTs (HCV.out q hqm) (HWP.out q hqm).2 HR.out.st
          generalize fout q (bl (⟨#[]⟩ : ByteArray)) r = r1 at *
          generalize ((fput q (bl (⟨#[]⟩ : ByteArray)) r).2 && !(one q (bl (⟨#[]⟩ : ByteArray))).2.1) = ok at *
          have CF := Lib.hid CF
          clear HP1 hB1 h0 hg ht2
          cases ok
          · go_wp2_with (go_at_call 49; refine (CF.out _ _).mono ?_; rintro e w1 ⟨rfl, hp1, hb1⟩; have HPW := Lib.hid hp1; have HBW := Lib.hid hb1; clear hp1 hb1)
            go_ret2
            exact ⟨by rw [← HR.out.eq, HE.out]; rfl, by rw [← HR.out.eq, HE.out]; exact HPW.out, (HR.out.bel.alloc hBr _).trans HBW.out⟩
          · go_wp2_with (go_at_call 49; refine (CF.out _ _).mono ?_; rintro e w1 ⟨rfl, hp1, hb1⟩; have HPW := Lib.hid hp1; have HBW := Lib.hid hb1; clear hp1 hb1)
            go_roundw
            case rel => exact ⟨k + 1, t, r1, by omega, by omega, by go_num, by go_num, HR.out.step hBr (HE.out.trans (if_pos trivial)) HPW.out HBW.out (HFG.out trivial) HFB.out.1 HFB.out.2⟩
            case measure => simp [intOf]; omega
    · have HE : Hid (once L (ops.map bl) r0 0 = (r, t, true)) := by
        show _ = _; rw [← HR.out.eq, List.drop_eq_nil_of_le (by omega)]; rfl
      go_wp2_with fail
      go_ret2
      exact ⟨by rw [HE.out]; rfl, by rw [HE.out]; exact HR.out.pr, HR.out.bel⟩
end Go.Proofs.YtppcjmbblkbkdaaGreatDoor
