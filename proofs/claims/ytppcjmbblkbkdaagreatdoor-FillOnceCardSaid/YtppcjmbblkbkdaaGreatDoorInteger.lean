/- The walk of fill.integer. Conditions as typed. -/
import Derived.Test.YtppcjmbblkbkdaaGreatDoorFill1
import Derived.Deep.DeepCutAuto
import Derived.Deep.CutBlock
namespace Go.Proofs.YtppcjmbblkbkdaaGreatDoor
open Go.RowKit Pg

theorem eqT {x n : Nat} (h : x = n) : ((x : Int) == (n : Int)) = true := beq_iff_eq.2 (by omega)
theorem eqF {x n : Nat} (h : x ≠ n) : ((x : Int) == (n : Int)) = false := beq_eq_false_iff_ne.2 (by omega)
theorem u8OfNat (c : Nat) : (UInt8.ofNat c).toNat = c % 256 := by simp
theorem oneByte (c : Nat) (hc : c < 256) (W : World) : (convert 25 9 (.slice (some ⟨W.heap.size, 0, none⟩) 1 1)).run Tryz.prog (W.alloc (.cells #[.int .u8 c] 5)) = .ok (.string ⟨#[UInt8.ofNat c]⟩) (W.alloc (.cells #[.int .u8 c] 5)) := by
  have e : ((UInt8.ofNat c).toNat : Int) = c := by rw [u8OfNat]; omega
  exact run_convert_bytes_back (P := Tryz.prog) (W.alloc (.cells #[.int .u8 c] 5)) 25 9 5 ⟨W.heap.size, 0, none⟩ 1 [UInt8.ofNat c] Tryz.underlying25 Tryz.underlying5 Tryz.underlying9 (fun j hj => by
    have hj0 : j = 0 := by simpa using hj
    subst hj0
    have ea : ∀ j, (⟨W.heap.size, 0, none⟩ : Addr).add j = ⟨W.heap.size, 0 + j, none⟩ := fun j => by unfold Addr.add; split <;> simp_all
    rw [ea, cell_of_row _ W.heap.size _ _ _ (0, 0) (heap_alloc_new W _)]
    show some (Value.int .u8 (c : Int)) = some (.int .u8 ((UInt8.ofNat c).toNat : Int))
    rw [e])

theorem oneByteAt (c : Nat) (hc : c < 256) (W : World) (s : Nat) (hs : W.heap.size = s) : (convert 25 9 (.slice (some ⟨s, 0, none⟩) 1 1)).run Tryz.prog (W.alloc (.cells #[.int .u8 c] 5)) = .ok (.string ⟨#[UInt8.ofNat c]⟩) (W.alloc (.cells #[.int .u8 c] 5)) := by
  subst hs; exact oneByte c hc W

def uOf (p : Part) (n : Int) : Nat := if p.conv = 100 ∧ n < 0 then (-n).toNat else u64 n

/-- What stands ahead of the digits. -/
theorem ah_neg {p : Part} {n : Int} (h : p.conv = 100) (hn : n < 0) : bl (⟨#[45]⟩ : ByteArray) = Pg.ahead p n := by unfold Pg.ahead; rw [if_pos h, if_pos hn]; rfl
theorem ah_plus {p : Part} {n : Int} (h : p.conv = 100) (hn : ¬ n < 0) (hp : p.fl.plus = true) : bl (⟨#[43]⟩ : ByteArray) = Pg.ahead p n := by unfold Pg.ahead; rw [if_pos h, if_neg hn, if_pos hp]; rfl
theorem ah_space {p : Part} {n : Int} (h : p.conv = 100) (hn : ¬ n < 0) (hp : p.fl.plus = false) (hs : p.fl.space = true) : bl (⟨#[32]⟩ : ByteArray) = Pg.ahead p n := by unfold Pg.ahead; rw [if_pos h, if_neg hn, if_neg (by rw [hp]; decide), if_pos hs]; rfl
theorem ah_none {p : Part} {n : Int} (h : p.conv = 100) (hn : ¬ n < 0) (hp : p.fl.plus = false) (hs : p.fl.space = false) : bl (⟨#[]⟩ : ByteArray) = Pg.ahead p n := by unfold Pg.ahead; rw [if_pos h, if_neg hn, if_neg (by rw [hp]; decide), if_neg (by rw [hs]; decide)]; rfl
theorem ah_hex {p : Part} {n : Int} (h : p.conv = 120 ∨ p.conv = 88) (ha : p.fl.alt = true) (hn : n ≠ 0) (c : Nat) (hc : p.conv = c) : bl ((⟨#[48]⟩ : ByteArray) ++ ⟨#[UInt8.ofNat c]⟩) = Pg.ahead p n := by
  unfold Pg.ahead
  rw [if_neg (by omega), if_pos ⟨h, ha, hn⟩, hc]
  exact congrArg bl (ByteArray.mk_append_mk [48] [UInt8.ofNat c])
theorem ah_hexno {p : Part} {n : Int} (h : p.conv ≠ 100) (ha : p.fl.alt = false ∨ n = 0) : bl (⟨#[]⟩ : ByteArray) = Pg.ahead p n := by
  unfold Pg.ahead
  rw [if_neg h, if_neg (by rintro ⟨_, h1, h2⟩; rcases ha with ha | ha <;> simp_all)]; rfl
theorem ah_no {p : Part} {n : Int} (h : p.conv ≠ 100) (h1 : p.conv ≠ 120) (h2 : p.conv ≠ 88) : bl (⟨#[]⟩ : ByteArray) = Pg.ahead p n := by
  unfold Pg.ahead
  rw [if_neg h, if_neg (by rintro ⟨h3, _⟩; omega)]; rfl
theorem uOf_pos {p : Part} {n : Int} (h : ¬ (p.conv = 100 ∧ n < 0)) : u64 n = uOf p n := by unfold uOf; rw [if_neg h]
theorem uOf_neg {p : Part} {n : Int} (h : p.conv = 100) (h1 : n < 0) : (-n).toNat = uOf p n := by unfold uOf; rw [if_pos ⟨h, h1⟩]
theorem bs10 {p : Part} (h : p.conv ≠ 111) (h1 : p.conv ≠ 120) (h2 : p.conv ≠ 88) : 10 = baseOf p := by unfold baseOf; rw [if_neg h, if_neg (by omega)]
theorem bs8 {p : Part} (h : p.conv = 111) : 8 = baseOf p := by unfold baseOf; rw [if_pos h]
theorem bs16 {p : Part} (h : p.conv = 120 ∨ p.conv = 88) : 16 = baseOf p := by unfold baseOf; rw [if_neg (by omega), if_pos h]
theorem wrap_negU {n : Int} (h1 : -9223372036854775808 ≤ n) (h2 : n < 0) : IntKind.u64.wrap (-((u64 n : Nat) : Int)) = ((-n).toNat : Int) := by rw [IntKind.wrap_u64]; unfold u64; omega

theorem uOf_lt {p : Part} {n : Int} (h1 : -9223372036854775808 ≤ n) (h2 : n < 9223372036854775808) : uOf p n < 18446744073709551616 ∧ (uOf p n = 0 ↔ n = 0) := by
  unfold uOf u64
  split <;> omega
theorem body0_yes {p : Part} {n : Int} {bs U : Nat} {up : Bool} (h1 : -9223372036854775808 ≤ n) (h2 : n < 9223372036854775808) (hb : bs = baseOf p) (hU : U = uOf p n) (hup : up = (p.conv == 88)) (h0 : ((U : Int) == 0) = false) :
    body0 p n = digs bs up U ∧ U < 18446744073709551616 ∧ 2 ≤ bs ∧ bs ≤ 16 := by
  have hl := uOf_lt (p := p) h1 h2
  have hU0 : ¬ U = 0 := by rw [beq_eq_false_iff_ne] at h0; omega
  refine ⟨?_, by omega, ?_, ?_⟩
  · unfold body0
    rw [if_neg (by rw [← hl.2, ← hU]; exact hU0), hb, hup, hU]; rfl
  · rw [hb]; unfold baseOf; split; omega; split <;> omega
  · rw [hb]; unfold baseOf; split; omega; split <;> omega
theorem body0_no {p : Part} {n : Int} {U : Nat} (h1 : -9223372036854775808 ≤ n) (h2 : n < 9223372036854775808) (hU : U = uOf p n) (h0 : ((U : Int) == 0) = true) : bl (⟨#[]⟩ : ByteArray) = body0 p n := by
  have hl := uOf_lt (p := p) h1 h2
  have hU0 := eq_of_beq h0
  unfold body0
  rw [if_pos (hl.2.1 (by omega))]; rfl

theorem bl_mk (l : List UInt8) : bl (⟨l.toArray⟩ : ByteArray) = l := by simp [bl]
theorem bl_app (S T : ByteArray) : bl (S ++ T) = bl S ++ bl T := by rw [← ba_join, bl_mk]
theorem body1_pad {p : Part} {n : Int} {D : ByteArray} {pc m : Nat} (h : bl D = body0 p n) (hp : pc = if p.prec < 0 then 1 else p.prec.toNat) (hm : m = pc - D.size) : bl ((⟨(List.replicate m 48).toArray⟩ : ByteArray) ++ D) = body1 p n := by
  rw [bl_app, bl_mk, h]
  unfold body1
  rw [← hp, ← h, bl_length, hm]
theorem body1_no {p : Part} {n : Int} {D : ByteArray} {pc : Nat} (h : bl D = body0 p n) (hp : pc = if p.prec < 0 then 1 else p.prec.toNat) (hm : pc ≤ D.size) : bl D = body1 p n := by
  unfold body1
  rw [← hp, ← h, bl_length, Nat.sub_eq_zero_of_le hm]; rfl
theorem body2_yes {p : Part} {n : Int} {D : ByteArray} (h : bl D = body1 p n) (hh : true = decide (p.conv = 111 ∧ p.fl.alt = true ∧ (body1 p n).head? ≠ some 48)) : bl ((⟨#[48]⟩ : ByteArray) ++ D) = body2 p n := by
  unfold body2
  rw [if_pos (of_decide_eq_true hh.symm), bl_app, h]; rfl
theorem body2_no {p : Part} {n : Int} {D : ByteArray} (h : bl D = body1 p n) (hh : false = decide (p.conv = 111 ∧ p.fl.alt = true ∧ (body1 p n).head? ≠ some 48)) : bl D = body2 p n := by
  unfold body2
  rw [if_neg (of_decide_eq_false hh.symm), h]
theorem pre48 {D : ByteArray} {l : List UInt8} {b : Bool} (h : bl D = l) (hb : Lib.hasPrefix D.data.toList (⟨#[48]⟩ : ByteArray).data.toList = b) : b = decide (l.head? = some 48) := by
  rw [← hb, ← h]
  show Lib.hasPrefix (bl D) [48] = _
  cases bl D with
  | nil => rfl
  | cons x t =>
    show (List.isPrefixOf [48] (x :: t)) = _
    simp only [List.isPrefixOf, List.head?_cons, Option.some.injEq, Bool.and_true]
    rw [Bool.eq_iff_iff, beq_iff_eq, decide_eq_true_iff]
    exact eq_comm
theorem ahead_len (p : Part) (n : Int) : (Pg.ahead p n).length ≤ 2 := by
  unfold Pg.ahead
  repeat' split
  all_goals simp
theorem allCells {w : World} {g : Nat} {v : Value} {p : Part} (h : Blk w g 59 (partCells v p)) :
    w.cell? ⟨g, 0, none⟩ = some v ∧ w.cell? ⟨g, 1, none⟩ = some (.int .u8 p.conv) ∧ w.cell? ⟨g, 2, none⟩ = some (.bool p.fl.minus) ∧ w.cell? ⟨g, 3, none⟩ = some (.bool p.fl.plus) ∧ w.cell? ⟨g, 4, none⟩ = some (.bool p.fl.space) ∧
    w.cell? ⟨g, 5, none⟩ = some (.bool p.fl.zero) ∧ w.cell? ⟨g, 6, none⟩ = some (.bool p.fl.alt) ∧ w.cell? ⟨g, 7, none⟩ = some (.int .i64 p.width) ∧ w.cell? ⟨g, 8, none⟩ = some (.int .i64 p.prec) :=
  ⟨h.cell 0, h.cell 1, h.cell 2, h.cell 3, h.cell 4, h.cell 5, h.cell 6, h.cell 7, h.cell 8⟩

set_option maxRecDepth 100000 in
set_option maxHeartbeats 8000000 in
/-- fill.integer. -/
theorem fill_integer (v : Value) (p : Part) (n : Int) (w : World) (hc : p.conv < 256) (hw : p.width ≤ 5000) (hpr : p.prec < 5000) (hn1 : -9223372036854775808 ≤ n) (hn2 : n < 9223372036854775808) :
    Calls Tryz.prog 66 #[.agg #[v, .int .u8 p.conv, .bool p.fl.minus, .bool p.fl.plus, .bool p.fl.space, .bool p.fl.zero, .bool p.fl.alt, .int .i64 p.width, .int .i64 p.prec], .int .i64 n] w fun e w' => e = .returned (.string ⟨(integer p n).toArray⟩) ∧ Below w.heap.size w w' := by
  obtain ⟨U0, hU0⟩ : ∃ U, U = u64 n := ⟨_, rfl⟩
  have hu : IntKind.u64.wrap n = (U0 : Int) := by rw [IntKind.wrap_u64, hU0]; unfold u64; omega
  have HU0 := Lib.hid hU0
  have HN1 := Lib.hid hn1
  have HN2 := Lib.hid hn2
  clear hU0 hn1 hn2
  go_enter Tryz.func66, Tryz.ntmps66
  go_upto_block 0 with fail
  go_cut [0, 5, 6, 7] (fun _ a b c wx => ∃ (bs U : Nat) (sg : ByteArray), Hid (bs = baseOf p) ∧ Hid (U = uOf p n) ∧ Hid (bl sg = Pg.ahead p n) ∧ a = .int .i64 bs ∧ b = .int .u64 U ∧ c = .string sg ∧ Hid (Below w.heap.size w wx) ∧ Hid (Blk wx w.heap.size 59 (partCells v p)))
  case first =>
    have HB0 : Hid (Below w.heap.size w (w.alloc (.cells #[v, .int .u8 p.conv, .bool p.fl.minus, .bool p.fl.plus, .bool p.fl.space, .bool p.fl.zero, .bool p.fl.alt, .int .i64 p.width, .int .i64 p.prec] 59))) := (Below.refl _ _).alloc (Nat.le_refl _) _
    have HK0 : Hid (Blk (w.alloc (.cells #[v, .int .u8 p.conv, .bool p.fl.minus, .bool p.fl.plus, .bool p.fl.space, .bool p.fl.zero, .bool p.fl.alt, .int .i64 p.width, .int .i64 p.prec] 59)) w.heap.size 59 (partCells v p)) := Blk.new w _ _
    by_cases h100 : p.conv = 100
    · have e100 := eqT h100
      have H10 := Lib.hid (bs10 (p := p) (by omega) (by omega) (by omega))
      simp only [Int.cast_ofNat_Int] at e100
      by_cases hneg : n < 0
      · have d := decide_eq_true hneg
        have hwn : IntKind.u64.wrap (-(U0 : Int)) = ((-n).toNat : Int) := by rw [HU0.out]; exact wrap_negU HN1.out hneg
        have HU := Lib.hid (uOf_neg h100 hneg)
        have HA := Lib.hid (ah_neg h100 hneg)
        generalize (-n).toNat = U at *
        clear h100 hneg
        go_wp2_with fail
        go_meet
        exact ⟨10, U, _, H10, HU, HA, rfl, rfl, rfl, HB0, HK0⟩
      · have d := decide_eq_false hneg
        have HU : Hid (U0 = uOf p n) := HU0.out.trans (uOf_pos (by omega))
        cases hp : p.fl.plus
        · cases hs : p.fl.space
          · have HA := Lib.hid (ah_none h100 hneg hp hs)
            rw [hp, hs] at HB0 HK0
            clear h100 hneg
            go_wp2_with fail
            go_meet
            exact ⟨10, U0, _, H10, HU, HA, rfl, rfl, rfl, HB0, HK0⟩
          · have HA := Lib.hid (ah_space h100 hneg hp hs)
            rw [hp, hs] at HB0 HK0
            clear h100 hneg
            go_wp2_with fail
            go_meet
            exact ⟨10, U0, _, H10, HU, HA, rfl, rfl, rfl, HB0, HK0⟩
        · have HA := Lib.hid (ah_plus h100 hneg hp)
          rw [hp] at HB0 HK0
          clear h100 hneg
          go_wp2_with fail
          go_meet
          exact ⟨10, U0, _, H10, HU, HA, rfl, rfl, rfl, HB0, HK0⟩
    have e100 := eqF h100
    have HU : Hid (U0 = uOf p n) := HU0.out.trans (uOf_pos (fun h => h100 h.1))
    simp only [Int.cast_ofNat_Int] at e100
    by_cases h111 : p.conv = 111
    · have e111 := eqT h111
      simp only [Int.cast_ofNat_Int] at e111
      have H8 := Lib.hid (bs8 h111)
      have HA := Lib.hid (ah_no (n := n) h100 (by omega) (by omega))
      clear h111 h100
      go_wp2_with fail
      go_meet
      exact ⟨8, U0, _, H8, HU, HA, rfl, rfl, rfl, HB0, HK0⟩
    have e111 := eqF h111
    simp only [Int.cast_ofNat_Int] at e111
    by_cases hx : p.conv = 120 ∨ p.conv = 88
    · have H16 := Lib.hid (bs16 hx)
      obtain ⟨b88, e88⟩ : ∃ b, ((p.conv : Int) == 88) = b := ⟨_, rfl⟩
      obtain ⟨b120, e120⟩ : ∃ b, ((p.conv : Int) == 120) = b := ⟨_, rfl⟩
      have hb : b88 = true ∨ b120 = true := by
        rcases hx with hx | hx
        · right; rw [← e120, hx]; rfl
        · left; rw [← e88, hx]; rfl
      by_cases ha : p.fl.alt = true ∧ n ≠ 0
      · have HA := Lib.hid (ah_hex hx ha.1 ha.2 p.conv rfl)
        have ha1 := ha.1
        have ha2 : (n == 0) = false := beq_eq_false_iff_ne.2 ha.2
        have k1 := fun (o : Obj) => oneByteAt p.conv hc (w.alloc o) (w.heap.size + 1) (by simp)
        have HB1 : Hid (Below w.heap.size w ((w.alloc (.cells #[v, .int .u8 p.conv, .bool p.fl.minus, .bool p.fl.plus, .bool p.fl.space, .bool p.fl.zero, .bool p.fl.alt, .int .i64 p.width, .int .i64 p.prec] 59)).alloc (.cells #[.int .u8 p.conv] 5))) := HB0.out.alloc (by simp) _
        have HK1 : Hid (Blk ((w.alloc (.cells #[v, .int .u8 p.conv, .bool p.fl.minus, .bool p.fl.plus, .bool p.fl.space, .bool p.fl.zero, .bool p.fl.alt, .int .i64 p.width, .int .i64 p.prec] 59)).alloc (.cells #[.int .u8 p.conv] 5)) w.heap.size 59 (partCells v p)) := HK0.out.alloc _
        rw [ha1] at HB1 HK1
        clear h100 h111 hx ha hc
        cases b88
        · cases b120
          · exfalso; revert hb; decide
          · clear hb
            go_wp2_with fail
            go_meet
            exact ⟨16, U0, _, H16, HU, HA, rfl, rfl, rfl, HB1, HK1⟩
        · clear hb e120
          go_wp2_with fail
          go_meet
          exact ⟨16, U0, _, H16, HU, HA, rfl, rfl, rfl, HB1, HK1⟩
      · have HA := Lib.hid (ah_hexno (n := n) h100 (by by_cases hn : n = 0; exact .inr hn; left; cases h : p.fl.alt; rfl; exact absurd ⟨h, hn⟩ ha))
        obtain ⟨bn, hbn⟩ : ∃ b, (n == 0) = b := ⟨_, rfl⟩
        cases hal : p.fl.alt
        · rw [hal] at HB0 HK0
          clear h100 h111 hx ha hc
          cases b88
          · cases b120
            · exfalso; revert hb; decide
            · clear hb
              go_wp2_with fail
              go_meet
              exact ⟨16, U0, _, H16, HU, HA, rfl, rfl, rfl, HB0, HK0⟩
          · clear hb e120
            go_wp2_with fail
            go_meet
            exact ⟨16, U0, _, H16, HU, HA, rfl, rfl, rfl, HB0, HK0⟩
        · have hbn2 : bn = true := by
            cases bn
            · exact absurd ⟨hal, by simpa using hbn⟩ ha
            · rfl
          subst hbn2
          rw [hal] at HB0 HK0
          clear h100 h111 hx ha hc
          cases b88
          · cases b120
            · exfalso; revert hb; decide
            · clear hb
              go_wp2_with fail
              go_meet
              exact ⟨16, U0, _, H16, HU, HA, rfl, rfl, rfl, HB0, HK0⟩
          · clear hb e120
            go_wp2_with fail
            go_meet
            exact ⟨16, U0, _, H16, HU, HA, rfl, rfl, rfl, HB0, HK0⟩
    · have H10 := Lib.hid (bs10 h111 (fun h => hx (.inl h)) (fun h => hx (.inr h)))
      have HA := Lib.hid (ah_no (n := n) h100 (fun h => hx (.inl h)) (fun h => hx (.inr h)))
      have e120 := eqF (fun h => hx (.inl h))
      have e88 := eqF (fun h => hx (.inr h))
      simp only [Int.cast_ofNat_Int] at e120 e88
      clear h100 h111 hx
      go_wp2_with fail
      go_meet
      exact ⟨10, U0, _, H10, HU, HA, rfl, rfl, rfl, HB0, HK0⟩
  case rest =>
    obtain ⟨bs, U, sg, Hbs, HU, HA, rfl, rfl, rfl, HB, HK⟩ := hcut
    have x1 : wc.cell? ⟨w.heap.size, 1, none⟩ = some (.int .u8 p.conv) := HK.out.cell 1
    have x8 : wc.cell? ⟨w.heap.size, 8, none⟩ = some (.int .i64 p.prec) := HK.out.cell 8
    clear hu HU0
    go_upto_if 47 with (fail)
    go_cut [8] (fun a wx => ∃ pc : Nat, Hid (pc = if p.prec < 0 then 1 else p.prec.toNat) ∧ pc ≤ 5000 ∧ a = .int .i64 pc ∧ wc = wx)
    case first =>
      by_cases hp : p.prec < 0
      · have d := decide_eq_true hp
        have HP : Hid (1 = if p.prec < 0 then 1 else p.prec.toNat) := (if_pos hp).symm
        clear d
        go_wp2_with fail
        go_meet
        exact ⟨1, HP, by omega, rfl, rfl⟩
      · have d := decide_eq_false hp
        obtain ⟨q, hq⟩ := Int.eq_ofNat_of_zero_le (Int.not_lt.1 hp)
        have HP : Hid (q = if p.prec < 0 then 1 else p.prec.toNat) := by show _ = _; rw [if_neg hp, hq]; rfl
        have hq5 : q ≤ 5000 := by omega
        have HQ := Lib.hid hq
        clear hq d
        go_wp2_with fail
        go_meet
        exact ⟨q, HP, hq5, by rw [HQ.out], rfl⟩
    case rest =>
      obtain ⟨pc, HP, hpc, rfl, rfl⟩ := hcut
      obtain ⟨b0, hb0⟩ : ∃ b, ((U : Int) == 0) = b := ⟨_, rfl⟩
      obtain ⟨up, hup⟩ : ∃ b, ((p.conv : Int) == 88) = b := ⟨_, rfl⟩
      have hupN : up = (p.conv == 88) := by
        rw [← hup, Bool.eq_iff_iff, beq_iff_eq, beq_iff_eq]; omega
      have HUPN := Lib.hid hupN
      clear hupN
      go_upto_if 49 with (fail)
      go_cut [9] (fun a wx => ∃ D : ByteArray, Hid (bl D = body0 p n) ∧ D.size ≤ 64 ∧ a = .string D ∧ Hid (Below w.heap.size w wx) ∧ Hid (Blk wx w.heap.size 59 (partCells v p)))
      case first =>
        cases b0
        · have HBD : Hid (body0 p n = digs bs up U ∧ U < 18446744073709551616 ∧ 2 ≤ bs ∧ bs ≤ 16) := body0_yes HN1.out HN2.out Hbs.out HU.out HUPN.out hb0
          have CB := Lib.hid (scan_Base U bs up wc HBD.out.2.1 HBD.out.2.2.1 HBD.out.2.2.2)
          go_wp2_with (refine CB.out.mono ?_; rintro e w2 ⟨rfl, hb2⟩; have HB2 := Lib.hid hb2; clear hb2)
          go_meet
          exact ⟨_, (by show _ = _; rw [HBD.out.1]; rfl), (by show (digs bs up U).toArray.size ≤ 64; rw [List.size_toArray]; exact digs_length _ _ _), rfl, Lib.hid (HB.out.trans (HB2.out.mono HB.out.size)), Lib.hid (HK.out.below HB2.out HK.out.lt)⟩
        · have HBD : Hid (bl (⟨#[]⟩ : ByteArray) = body0 p n) := body0_no HN1.out HN2.out HU.out hb0
          go_wp2_with fail
          go_meet
          exact ⟨_, HBD, (by decide), rfl, HB, HK⟩
      case rest =>
        clear x1 x8 HB HK hb0
        obtain ⟨D, HD, hDs, rfl, HB, HK⟩ := hcut
        have x1 : wc.cell? ⟨w.heap.size, 1, none⟩ = some (.int .u8 p.conv) := HK.out.cell 1
        have x6 : wc.cell? ⟨w.heap.size, 6, none⟩ = some (.bool p.fl.alt) := HK.out.cell 6
        go_upto_if 59 with (fail)
        go_cut [9] (fun a wx => ∃ D : ByteArray, Hid (bl D = body1 p n) ∧ D.size ≤ 6000 ∧ a = .string D ∧ Hid (Below w.heap.size w wx) ∧ Hid (Blk wx w.heap.size 59 (partCells v p)))
        case first =>
          by_cases hd : D.size < pc
          · obtain ⟨m, hm⟩ : ∃ m, m = pc - D.size := ⟨_, rfl⟩
            have hsub : (pc : Int) - (D.size : Int) = (m : Int) := by omega
            have CR := Lib.hid (repeat_call 48 m (by omega) wc)
            have HD1 : Hid (bl ((⟨(List.replicate m 48).toArray⟩ : ByteArray) ++ D) = body1 p n) := body1_pad HD.out HP.out hm
            have hsz : ((⟨(List.replicate m 48).toArray⟩ : ByteArray) ++ D).size ≤ 6000 := by rw [ByteArray.size_append]; show (List.replicate m 48).toArray.size + D.size ≤ 6000; rw [List.size_toArray, List.length_replicate]; omega
            have hR : (⟨(List.replicate m 48).toArray⟩ : ByteArray).size ≤ 6000 := by show (List.replicate m 48).toArray.size ≤ 6000; rw [List.size_toArray, List.length_replicate]; omega
            generalize (⟨(List.replicate m 48).toArray⟩ : ByteArray) = R at *
            clear hm
            go_wp2_with (refine CR.out.mono ?_; rintro e w2 ⟨rfl, hb2⟩; have HB2 := Lib.hid hb2; clear hb2)
            go_meet
            exact ⟨_, HD1, hsz, rfl, Lib.hid (HB.out.trans (HB2.out.mono HB.out.size)), Lib.hid (HK.out.below HB2.out HK.out.lt)⟩
          · have HD1 : Hid (bl D = body1 p n) := body1_no HD.out HP.out (by omega)
            go_wp2_with fail
            go_meet
            exact ⟨D, HD1, by omega, rfl, HB, HK⟩
        case rest =>
          clear x1 x6 HB HK HD hDs
          obtain ⟨D, HD, hDs, rfl, HB, HK⟩ := hcut
          have x1 : wc.cell? ⟨w.heap.size, 1, none⟩ = some (.int .u8 p.conv) := HK.out.cell 1
          have x6 : wc.cell? ⟨w.heap.size, 6, none⟩ = some (.bool p.fl.alt) := HK.out.cell 6
          have CP := Lib.hid (fun W => Tryz.strings_HasPrefix D ⟨#[48]⟩ W)
          obtain ⟨hpB, hhp⟩ : ∃ b, Lib.hasPrefix D.data.toList (⟨#[48]⟩ : ByteArray).data.toList = b := ⟨_, rfl⟩
          rw [hhp] at CP
          have HHP : Hid (hpB = decide ((body1 p n).head? = some 48)) := pre48 HD.out hhp
          clear hhp
          go_upto_region 25 with fail
          go_cut [78] (fun a wx => ∃ b : Bool, Hid (b = decide (p.conv = 111 ∧ p.fl.alt = true ∧ (body1 p n).head? ≠ some 48)) ∧ a = .bool b ∧ wc = wx)
          case first =>
            by_cases h111 : p.conv = 111
            · have e111 := eqT h111
              simp only [Int.cast_ofNat_Int] at e111
              obtain ⟨ba, hba⟩ : ∃ b, p.fl.alt = b := ⟨_, rfl⟩
              have HH : Hid ((ba && !hpB) = decide (p.conv = 111 ∧ p.fl.alt = true ∧ (body1 p n).head? ≠ some 48)) := by
                show _ = _; rw [HHP.out, ← hba]; simp [h111, Bool.decide_and]
              rw [hba] at x6
              clear hba h111
              cases ba
              · go_wp2_with fail
                go_meet
                exact ⟨_, HH, rfl, rfl⟩
              · go_wp2_with (refine (CP.out _).mono ?_; rintro e w2 ⟨rfl, rfl⟩)
                go_meet
                exact ⟨_, HH, rfl, rfl⟩
            · have e111 := eqF h111
              simp only [Int.cast_ofNat_Int] at e111
              have HH : Hid (false = decide (p.conv = 111 ∧ p.fl.alt = true ∧ (body1 p n).head? ≠ some 48)) := by
                show _ = _; rw [decide_eq_false (fun h => h111 h.1)]
              clear h111
              go_wp2_with fail
              go_meet
              exact ⟨_, HH, rfl, rfl⟩
          case rest =>
            obtain ⟨b, HH, rfl, rfl⟩ := hcut
            go_upto_if 78 with (fail)
            go_cut [9] (fun a wx => ∃ D : ByteArray, Hid (bl D = body2 p n) ∧ D.size ≤ 6001 ∧ a = .string D ∧ wc = wx)
            case first =>
              cases b
              · have HD2 : Hid (bl D = body2 p n) := body2_no HD.out HH.out
                go_wp2_with fail
                go_meet
                exact ⟨D, HD2, by omega, rfl, rfl⟩
              · have HD2 : Hid (bl ((⟨#[48]⟩ : ByteArray) ++ D) = body2 p n) := body2_yes HD.out HH.out
                go_wp2_with fail
                go_meet
                exact ⟨_, HD2, by rw [ByteArray.size_append]; show 1 + D.size ≤ 6001; omega, rfl, rfl⟩
            case rest =>
              clear HD hDs HH x6 x1
              obtain ⟨D, HD, hDs, rfl, rfl⟩ := hcut
              obtain ⟨x0, x1, x2, x3, x4, x5, x6, x7, x8⟩ := allCells HK.out
              have hsg : sg.size ≤ 2 := by rw [← bl_length, HA.out]; exact ahead_len p n
              have CF := fill_filled v p sg D (p.fl.zero && decide (p.prec < 0)) wc hw (by omega) (by omega)
              have HI : Hid (integer p n = filled p (bl sg) (bl D) (p.fl.zero && decide (p.prec < 0))) := by show integer p n = _; unfold integer; rw [HA.out, HD.out]
              obtain ⟨d, hd⟩ : ∃ b, decide (p.prec < 0) = b := ⟨_, rfl⟩
              obtain ⟨z, hz⟩ : ∃ b, p.fl.zero = b := ⟨_, rfl⟩
              rw [hd, hz] at CF
              rw [hd, hz] at HI
              rw [hz] at x5
              have HCF := Lib.hid CF
              clear CF hz
              generalize filled p (bl sg) (bl D) (z && d) = R at *
              cases z
              all_goals (
                go_wp2_with (refine HCF.out.mono ?_; rintro e w2 ⟨rfl, hb2⟩; have HB2 := Lib.hid hb2; clear hb2)
                go_ret
                exact ⟨by rw [HI.out]; rfl, HB.out.trans (HB2.out.mono HB.out.size)⟩)
end Go.Proofs.YtppcjmbblkbkdaaGreatDoor
