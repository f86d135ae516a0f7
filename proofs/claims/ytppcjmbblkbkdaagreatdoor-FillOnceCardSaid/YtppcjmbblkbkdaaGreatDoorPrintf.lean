/- The walks of fill.Run at any operands, fill.Run and fill.Once at no format, fill.Printf, and pidginlaw15.awake. Conditions as typed. -/
import Derived.Test.YtppcjmbblkbkdaaGreatDoorRun
import Derived.Lib.SlBytesConst
namespace Go.Proofs.YtppcjmbblkbkdaaGreatDoor
open Go.RowKit Pg

/-- What lies there is stored again. -/
theorem setCell_same {w : World} {g i : Nat} {t : TypeId} {cs : Array Value} (h : Blk w g t cs) {v : Value} (hv : cs[i]? = some v) : w.setCell ⟨g, i, none⟩ v = w := by
  have hs := h.set_ i v
  have e : cs.setIfInBounds i v = cs := by
    apply Array.ext_getElem?
    intro j
    rw [Array.getElem?_setIfInBounds]
    split
    · rename_i hij
      subst hij
      split
      · exact hv.symm
      · rename_i hlt
        rw [Array.getElem?_eq_none (by omega)] at hv; cases hv
    · rfl
  rw [e] at hs
  have hh : (w.setCell ⟨g, i, none⟩ v).heap = w.heap := by
    apply Array.ext_getElem?
    intro k
    by_cases hk : k = g
    · subst hk; exact hs.trans h.symm
    · exact Below.heap_setCell _ _ _ _ hk
  have hw : w.setCell ⟨g, i, none⟩ v = { w with heap := (w.setCell ⟨g, i, none⟩ v).heap } := rfl
  rw [hw, hh]

/-- fill.Run. -/
theorem fill_Run (w : World) (A : Nat → Addr) (hS : Sents0 w A) (BF F : Nat) (P : List Part) (hF : FmtC BF w F P) (hPl : P.length ≤ 2049) (hPg : ∀ p ∈ P, GoodP p) (a : Option Addr) (cap : Nat) (ops : List ByteArray) (hO : Ss w a cap ops) :
    Calls Tryz.prog 17 #[.pointer (some ⟨F, 0, none⟩), .slice a ops.length cap] w (RunPost w A (run P (ops.map bl))) := by
  by_cases h : 64 < ops.length
  · exact fill_Run_many w A hS F P a cap ops h
  · exact fill_Run_few w A hS BF F P hF hPl hPg a cap ops hO (by omega)

set_option maxRecDepth 100000 in
set_option maxHeartbeats 4000000 in
/-- fill.Run without a format. -/
theorem fill_Run_nil (w : World) (A : Nat → Addr) (hS : Sents0 w A) (v : Value) :
    Calls Tryz.prog 17 #[.pointer none, v] w (RunPost w A (.error (1, 0))) := by
  have hb : ∀ o, Below w.heap.size w (w.alloc o) := fun o => (Below.refl _ _).alloc (Nat.le_refl _) o
  have C := Lib.hid (fun o => fill_fail (w.alloc o) A (hS.kept (hb o) (Nat.le_refl _)) 1 (by omega) (by omega) 0)
  simp only [failW] at C
  clear hb
  go_enter Tryz.func17, Tryz.ntmps17
  go_wp2_with (go_at_call 31; refine (C.out _).mono ?_; rintro e w' ⟨rfl, rfl⟩)
  try rw [Exit.noGoto_ret]
  refine bodyPost_ret (v := .tuple #[.agg #[.slice none 0 0, .slice none 0 0, .bool false], .iface 69 (.pointer (some ⟨w.heap.size + 1 + 1, 0, none⟩))]) (by simp [results, Tryz.results17, go_sem]) rfl ?_
  exact run_err_end rfl hS (by omega) (by omega) _ rfl 0 rfl
/-- fill.Once without a format. -/
theorem fill_Once_nil (w : World) (v : Value) :
    Calls Tryz.prog 14 #[.pointer none, v] w fun e w' => e = .returned (.tuple #[.agg #[.slice none 0 0, .slice none 0 0, .bool false], .int .i64 0]) ∧ Below w.heap.size w w' := by
  go_enter Tryz.func14, Tryz.ntmps14
  go_wp2_with fail
  try rw [Exit.noGoto_ret]
  refine bodyPost_ret (v := .tuple #[.agg #[.slice none 0 0, .slice none 0 0, .bool false], .int .i64 0]) (by simp [results, Tryz.results14, go_sem]) rfl ?_
  exact ⟨rfl, (Below.refl _ _).alloc (Nat.le_refl _) _⟩

theorem Ss.below {w w' : World} {a : Option Addr} {cap : Nat} {ops : List ByteArray} {B : Nat} (h : Ss w a cap ops) (hb : Below B w w') (hB : w.heap.size ≤ B) : Ss w' a cap ops := ⟨h.1, h.2.1, fun i hi => by
  obtain ⟨b, off, h1, h2⟩ := h.2.2 i hi
  exact ⟨b, off, h1, by rw [hb.cell (p := ⟨b, off + i, none⟩) (Nat.lt_of_lt_of_le (lt_of_cell h2) hB)]; exact h2⟩⟩

set_option maxRecDepth 100000 in
set_option maxHeartbeats 4000000 in
/-- fill.Printf. -/
theorem fill_Printf (w : World) (A : Nat → Addr) (hS : Sents0 w A) (a : Option Addr) (cap : Nat) (l : List UInt8) (hl : Bs w a cap l) (ao : Option Addr) (capo : Nat) (ops : List ByteArray) (hO : Ss w ao capo ops) :
    Calls Tryz.prog 7 #[.slice a l.length cap, .slice ao ops.length capo] w (RunPost w A (printf l (ops.map bl))) := by
  have hb : ∀ o, Below w.heap.size w (w.alloc o) := fun o => (Below.refl _ _).alloc (Nat.le_refl _) o
  have CP := fun o => shape_Parse a cap l (w.alloc o) (hl.below (hb o) (Nat.le_refl _)) A (hS.kept (hb o) (Nat.le_refl _))
  have HP : Hid (printf l (ops.map bl) = match parse l with | .error e => .error e | .ok L => run L (ops.map bl)) := rfl
  have hB := hb (.cells #[.slice none 0 0, .slice none 0 0, .bool false] 28)
  have hk := Blk.new w 28 #[.slice none 0 0, .slice none 0 0, .bool false]
  have HB := Lib.hid hB
  have HK := Lib.hid hk
  have HS := Lib.hid hS
  have HO := Lib.hid hO
  have hpg := fun L => parse_good (b := l) (L := L)
  clear hb hl hS hO hB hk
  generalize hx : parse l = x at *
  cases x with
  | error cq =>
    obtain ⟨c, q⟩ := cq
    have CP := Lib.hid CP
    clear hpg hx
    go_enter Tryz.func7, Tryz.ntmps7
    go_wp2_with fail
    refine (CP.out _).mono ?_
    rintro e w1 ⟨hb1, v, rfl, hE⟩
    obtain ⟨t, x, rfl⟩ : ∃ t x, v = .iface t x := by obtain ⟨b, hc, _⟩ := hE; exact hc.iface
    have HE := Lib.hid hE
    have hk1 := HK.out.below hb1 HK.out.lt
    have HK1 := Lib.hid hk1
    have HB1 := Lib.hid (HB.out.trans (hb1.mono HB.out.size))
    have z0 : w1.cell? ⟨w.heap.size, 0, none⟩ = some (.slice none 0 0) := by rw [hk1.cell 0]; rfl
    have z1 : w1.cell? ⟨w.heap.size, 1, none⟩ = some (.slice none 0 0) := by rw [hk1.cell 1]; rfl
    have z2 : w1.cell? ⟨w.heap.size, 2, none⟩ = some (.bool false) := by rw [hk1.cell 2]; rfl
    have f0 := hk1.frozen 0
    have f1 := hk1.frozen 1
    have f2 := hk1.frozen 2
    have s0 : w1.setCell ⟨w.heap.size, 0, none⟩ (.slice none 0 0) = w1 := setCell_same hk1 rfl
    have s1 : w1.setCell ⟨w.heap.size, 1, none⟩ (.slice none 0 0) = w1 := setCell_same hk1 rfl
    have s2 : w1.setCell ⟨w.heap.size, 2, none⟩ (.bool false) = w1 := setCell_same hk1 rfl
    clear hb1 hE hk1
    go_wp2_with fail
    try rw [Exit.noGoto_ret]
    refine bodyPost_ret (v := .tuple #[.agg #[.slice none 0 0, .slice none 0 0, .bool false], .iface t x]) (by simp [results, Tryz.results7, go_sem, z0, z1, z2]) rfl ?_
    try rw [s0]
    try rw [s1]
    try rw [s2]
    exact run_err HP.out HB1.out _ rfl HE.out
  | ok L =>
    have CP := Lib.hid CP
    obtain ⟨hg1, hg2⟩ := hpg L rfl
    have HG := Lib.hid hg2
    clear hpg hx hg2
    go_enter Tryz.func7, Tryz.ntmps7
    go_wp2_with fail
    refine (CP.out _).mono ?_
    rintro e w1 ⟨hb1, F, rfl, hF⟩
    have hk1 := HK.out.below hb1 HK.out.lt
    have HK1 := Lib.hid hk1
    have HB1 := Lib.hid (HB.out.trans (hb1.mono HB.out.size))
    have CR := fill_Run w1 A (HS.out.kept HB1.out (Nat.le_refl _)) _ F L hF hg1 HG.out ao capo ops (HO.out.below HB1.out (Nat.le_refl _))
    have HP : Hid (printf l (ops.map bl) = run L (ops.map bl)) := HP.out
    generalize hy : run L (ops.map bl) = y at *
    cases y with
    | error cq =>
      obtain ⟨c, q⟩ := cq
      have CR := Lib.hid CR
      clear hb1 hF hk1 hy
      go_wp2_with fail
      refine CR.out.mono ?_
      rintro e w2 ⟨hb2, v, rfl, hE⟩
      have HE := Lib.hid hE
      have hk2 := HK1.out.below hb2 HK1.out.lt
      have HB2 := Lib.hid (HB1.out.trans (hb2.mono HB1.out.size))
      have z0 : w2.cell? ⟨w.heap.size, 0, none⟩ = some (.slice none 0 0) := by rw [hk2.cell 0]; rfl
      have z1 : w2.cell? ⟨w.heap.size, 1, none⟩ = some (.slice none 0 0) := by rw [hk2.cell 1]; rfl
      have z2 : w2.cell? ⟨w.heap.size, 2, none⟩ = some (.bool false) := by rw [hk2.cell 2]; rfl
      have f0 := hk2.frozen 0
      have f1 := hk2.frozen 1
      have f2 := hk2.frozen 2
      have s0 : w2.setCell ⟨w.heap.size, 0, none⟩ (.slice none 0 0) = w2 := setCell_same hk2 rfl
      have s1 : w2.setCell ⟨w.heap.size, 1, none⟩ (.slice none 0 0) = w2 := setCell_same hk2 rfl
      have s2 : w2.setCell ⟨w.heap.size, 2, none⟩ (.bool false) = w2 := setCell_same hk2 rfl
      clear hb2 hE hk2
      go_wp2_with fail
      try rw [Exit.noGoto_ret]
      refine bodyPost_ret (v := .tuple #[.agg #[.slice none 0 0, .slice none 0 0, .bool false], v]) (by simp [results, Tryz.results7, go_sem, z0, z1, z2]) rfl ?_
      try rw [s0]
      try rw [s1]
      try rw [s2]
      exact run_err HP.out HB2.out _ rfl HE.out
    | ok r1 =>
      have CR := Lib.hid CR
      clear hb1 hF hk1 hy
      go_wp2_with fail
      refine CR.out.mono ?_
      rintro e w2 ⟨hb2, vo, vc, rfl, ho, hc⟩
      obtain ⟨oa, oc, rfl, _⟩ := ownsRow_form ho
      obtain ⟨ca, cc, rfl, _⟩ := ownsRow_form hc
      have hk2 := HK1.out.below hb2 HK1.out.lt
      have HK2 := Lib.hid hk2
      have HB2 := Lib.hid (HB1.out.trans (hb2.mono HB1.out.size))
      have z0 : w2.cell? ⟨w.heap.size, 0, none⟩ = some (.slice none 0 0) := by rw [hk2.cell 0]; rfl
      have z1 : w2.cell? ⟨w.heap.size, 1, none⟩ = some (.slice none 0 0) := by rw [hk2.cell 1]; rfl
      have z2 : w2.cell? ⟨w.heap.size, 2, none⟩ = some (.bool false) := by rw [hk2.cell 2]; rfl
      have f0 := hk2.frozen 0
      have f1 := hk2.frozen 1
      have f2 := hk2.frozen 2
      have HHO := Lib.hid ho
      have HHC := Lib.hid hc
      clear hb2 hk2 ho hc
      go_wp2_with fail
      try rw [Exit.noGoto_ret]
      refine bodyPost_ret (v := .tuple #[.agg #[.slice oa r1.out.length oc, .slice ca r1.codes.length cc, .bool r1.stop], .nilIface]) (by simp [results, Tryz.results7, go_sem, z0, z1, z2]) rfl ?_
      exact run_ok_end HP.out HK2.out HB2.out HHO.out HHC.out HB1.out.size _ _ _

/-- Bytes in a row of their own, marked. -/
theorem Bs.marked (w : World) (t : TypeId) (fr : Nat × Nat) (l : List UInt8) (hm : l.length ≤ maxLen) : Bs (w.alloc (.cells (u8s l).toArray t fr)) (some ⟨w.heap.size, 0, none⟩) l.length l :=
  ⟨Nat.le_refl _, hm, fun i hi => ⟨w.heap.size, 0, rfl, by rw [Nat.zero_add, World.cell?_alloc_mark]; simp [u8s, hi]⟩⟩
/-- A new row of strings. -/
theorem Ss.new (w : World) (l : List ByteArray) (hm : l.length ≤ maxLen) : Ss (w.alloc (.cells (l.map Value.string).toArray 9)) (some ⟨w.heap.size, 0, none⟩) l.length l :=
  ⟨Nat.le_refl _, hm, fun i hi => ⟨w.heap.size, 0, rfl, by rw [Nat.zero_add, cell_of_row _ _ i _ _ _ (heap_alloc_new w _)]; simp [hi]⟩⟩
/-- What RunPost says where there is no error. -/
def Told (w : World) (r : Out) (e : Ending) (w' : World) : Prop := ∃ oa no oc ca nc cc, e = .returned (.tuple #[.agg #[.slice oa no oc, .slice ca nc cc, .bool r.stop], .nilIface]) ∧ no = r.out.length ∧ nc = r.codes.length ∧ no ≤ oc ∧ oc ≤ 2 ^ 63 - 1 ∧
  Below w.heap.size w w' ∧ w'.ownsRow w.heap.size 5 1 (.slice oa no oc) no (u8s r.out) ∧ w'.ownsRow w.heap.size 3 1 (.slice ca nc cc) nc (i64s r.codes)
theorem RunPost.told {w : World} {A : Nat → Addr} {r : Out} {e : Ending} {w' : World} (h : RunPost w A (.ok r) e w') : Told w r e w' := by
  obtain ⟨hb, vo, vc, rfl, ho, hc⟩ := h
  obtain ⟨oa, oc, rfl, ho1, ho2, _⟩ := ownsRow_form ho
  obtain ⟨ca, cc, rfl, _⟩ := ownsRow_form hc
  exact ⟨oa, _, oc, ca, _, cc, rfl, rfl, rfl, ho1, by unfold maxLen at ho2; omega, hb, ho, hc⟩
theorem fill_told (w : World) (A : Nat → Addr) (hS : Sents0 w A) (a : Option Addr) (cap : Nat) (l : List UInt8) (hl : Bs w a cap l) (ao : Option Addr) (capo : Nat) (ops : List ByteArray) (hO : Ss w ao capo ops) (O : List (List UInt8)) (hops : ops.map bl = O) (r : Out) (hr : printf l O = .ok r) :
    Calls Tryz.prog 7 #[.slice a l.length cap, .slice ao ops.length capo] w (Told w r) := by
  have := fill_Printf w A hS a cap l hl ao capo ops hO
  rw [hops, hr] at this
  exact this.mono fun _ _ h => h.told
/-- Bytes of a row of their own as a string. -/
theorem ownStr {w : World} {B n : Nat} {a : Option Addr} {cap : Nat} {l : List UInt8} (h : w.ownsRow B 5 1 (.slice a n cap) n (u8s l)) (hn : n = l.length) {W : World} {K : Nat} (hb : Below K w W) (hK : w.heap.size ≤ K) : (convert 25 9 (.slice a n cap)).run Tryz.prog W = .ok (.string ⟨l.toArray⟩) W := by
  subst hn
  exact litStr ((LitR.own h).kept (U8Kept.below hb hK))

set_option maxRecDepth 100000 in
set_option maxHeartbeats 4000000 in
/-- pidginlaw15.awake. -/
theorem fill_awake (w : World) (A : Nat → Addr) (hS : Sents0 w A) :
    Calls Tryz.prog 12 #[] w fun e w' => e = .returned (.bool true) ∧ Below w.heap.size w w' := by
  have kc := Lib.run_convert_bytes_const (P := Tryz.prog) w 25 5 #[.int .u8 37, .int .u8 48, .int .u8 53, .int .u8 100, .int .u8 124, .int .u8 37, .int .u8 115] 7 7 Tryz.underlying25 Tryz.underlying5
  have b1 : Below w.heap.size w (w.alloc (.cells #[.int .u8 37, .int .u8 48, .int .u8 53, .int .u8 100, .int .u8 124, .int .u8 37, .int .u8 115] 5 (7, 8))) := (Below.refl _ _).alloc (Nat.le_refl _) _
  have hb : Bs (w.alloc (.cells #[.int .u8 37, .int .u8 48, .int .u8 53, .int .u8 100, .int .u8 124, .int .u8 37, .int .u8 115] 5 (7, 8))) (some ⟨w.heap.size, 0, none⟩) 7 [37, 48, 53, 100, 124, 37, 115] := Bs.marked w 5 (7, 8) [37, 48, 53, 100, 124, 37, 115] (by decide)
  have hS1 := hS.kept b1 (Nat.le_refl _)
  generalize hw1 : w.alloc (.cells #[.int .u8 37, .int .u8 48, .int .u8 53, .int .u8 100, .int .u8 124, .int .u8 37, .int .u8 115] 5 (7, 8)) = w1 at *
  have b2 : Below w1.heap.size w1 (w1.alloc (.cells #[.string ⟨#[45, 52, 50]⟩, .string ⟨#[97]⟩] 9)) := (Below.refl _ _).alloc (Nat.le_refl _) _
  have hs := Ss.new w1 [⟨#[45, 52, 50]⟩, ⟨#[97]⟩] (by decide)
  have C := fill_told (w1.alloc (.cells #[.string ⟨#[45, 52, 50]⟩, .string ⟨#[97]⟩] 9)) A (hS1.kept b2 (Nat.le_refl _)) _ _ _ (hb.below b2 (Nat.le_refl _)) _ _ _ hs _ rfl _ awake15
  have B2 := Lib.hid (b1.trans (b2.mono b1.size))
  have HC := Lib.hid C
  clear C hb hs hS1 b1 b2 hS
  go_enter Tryz.func12, Tryz.ntmps12
  go_wp2_with fail
  try simp only [hw1]
  refine HC.out.mono ?_
  rintro e w3 ⟨oa, no, oc, ca, nc, cc, rfl, hno, hnc, hoc, _, hb3, ho, hc⟩
  obtain rfl : nc = 0 := hnc
  have ks := fun (o : Obj) => ownStr ho hno (W := w3.alloc o) ((Below.refl _ _).alloc (Nat.le_refl _) o) (Nat.le_refl _)
  have HB3 := Lib.hid (B2.out.trans (hb3.mono B2.out.size))
  clear hno hb3 ho hc
  go_wp2_with fail
  go_ret
  exact ⟨rfl, HB3.out.trans (((Below.refl _ _).alloc (Nat.le_refl _) _).mono HB3.out.size)⟩
end Go.Proofs.YtppcjmbblkbkdaaGreatDoor
