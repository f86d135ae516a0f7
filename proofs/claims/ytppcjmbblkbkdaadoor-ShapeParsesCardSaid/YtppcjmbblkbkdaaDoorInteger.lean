/- The walk of fill.integer. Conditions as typed. -/
import Derived.Test.YtppcjmbblkbkdaaDoorFill1
import Derived.Deep.DeepCutAuto
import Derived.Deep.CutBlock
namespace Go.Proofs.YtppcjmbblkbkdaaDoor
open Go.RowKit Pg

theorem eqT {x n : Nat} (h : x = n) : ((x : Int) == (n : Int)) = true := beq_iff_eq.2 (by omega)
theorem eqF {x n : Nat} (h : x ≠ n) : ((x : Int) == (n : Int)) = false := beq_eq_false_iff_ne.2 (by omega)
theorem u8OfNat (c : Nat) : (UInt8.ofNat c).toNat = c % 256 := by simp
theorem oneByte (c : Nat) (hc : c < 256) (W : World) : (convert 27 9 (.slice (some ⟨W.heap.size, 0, none⟩) 1 1)).run Tryd.prog (W.alloc (.cells #[.int .u8 c] 5)) = .ok (.string ⟨#[UInt8.ofNat c]⟩) (W.alloc (.cells #[.int .u8 c] 5)) := by
  have e : ((UInt8.ofNat c).toNat : Int) = c := by rw [u8OfNat]; omega
  exact run_convert_bytes_back (P := Tryd.prog) (W.alloc (.cells #[.int .u8 c] 5)) 27 9 5 ⟨W.heap.size, 0, none⟩ 1 [UInt8.ofNat c] Tryd.underlying27 Tryd.underlying5 Tryd.underlying9 (fun j hj => by
    have hj0 : j = 0 := by simpa using hj
    subst hj0
    have ea : ∀ j, (⟨W.heap.size, 0, none⟩ : Addr).add j = ⟨W.heap.size, 0 + j, none⟩ := fun j => by unfold Addr.add; split <;> simp_all
    rw [ea, cell_of_row _ W.heap.size _ _ _ (0, 0) (heap_alloc_new W _)]
    show some (Value.int .u8 (c : Int)) = some (.int .u8 ((UInt8.ofNat c).toNat : Int))
    rw [e])

theorem oneByteAt (c : Nat) (hc : c < 256) (W : World) (s : Nat) (hs : W.heap.size = s) : (convert 27 9 (.slice (some ⟨s, 0, none⟩) 1 1)).run Tryd.prog (W.alloc (.cells #[.int .u8 c] 5)) = .ok (.string ⟨#[UInt8.ofNat c]⟩) (W.alloc (.cells #[.int .u8 c] 5)) := by
  subst hs; exact oneByte c hc W

def uOf (p : Part) (n : Int) : Nat := if p.conv = 100 ∧ n < 0 then (-n).toNat else u64 n

/-- What stands ahead of the digits. -/
theorem ah_neg {p : Part} {n : Int} (h : p.conv = 100) (hn : n < 0) : bl (⟨#[45]⟩ : ByteArray) = Pg.ahead p n := by unfold Pg.ahead; rw [if_pos h, if_pos hn]; rfl
theorem ah_plus {p : Part} {n : Int} (h : p.conv = 100) (hn : ¬ n < 0) (hp : p.fl.plus = true) : bl (⟨#[43]⟩ : ByteArray) = Pg.ahead p n := by unfold Pg.ahead; rw [if_pos h, if_neg hn, if_pos hp]; rfl
theorem ah_space {p : Part} {n : Int} (h : p.conv = 100) (hn : ¬ n < 0) (hp : p.fl.plus = false) (hs : p.fl.space = true) : bl (⟨#[32]⟩ : ByteArray) = Pg.ahead p n := by unfold Pg.ahead; rw [if_pos h, if_neg hn, if_neg (by rw [hp]; decide), if_pos hs]; rfl
theorem ah_none {p : Part} {n : Int} (h : p.conv = 100) (hn : ¬ n < 0) (hp : p.fl.plus = false) (hs : p.fl.space = false) : bl (⟨#[]⟩ : ByteArray) = Pg.ahead p n := by unfold Pg.ahead; rw [if_pos h, if_neg hn, if_neg (by rw [hp]; decide), if_neg (by rw [hs]; decide)]; rfl
theorem ah_hex {p : Part} {n : Int} (h : p.conv = 120 ∨ p.conv = 88) (ha : p.fl.alt = true) (hn : n ≠ 0) (c : Nat) (hc : p.conv = c) : bl ((⟨#[48]⟩ : ByteArray) ++ ⟨#[UInt8.ofNat c]⟩) = Pg.ahead p n := by
  unfold Pg.ahead
  rw [if_neg (by omega), if_pos ⟨h, ha, hn⟩, hc]
  exact congrArg bl (ByteArray.mk_append_mk [48] [UInt8.ofNat c])
theorem ah_hexno {p : Part} {n : Int} (h : p.conv ≠ 100) (ha : p.fl.alt = false ∨ n = 0) : bl (⟨#[]⟩ : ByteArray) = Pg.ahead p n := by
  unfold Pg.ahead
  rw [if_neg h, if_neg (by rintro ⟨_, h1, h2⟩; rcases ha with ha | ha <;> simp_all)]; rfl
theorem ah_no {p : Part} {n : Int} (h : p.conv ≠ 100) (h1 : p.conv ≠ 120) (h2 : p.conv ≠ 88) : bl (⟨#[]⟩ : ByteArray) = Pg.ahead p n := by
  unfold Pg.ahead
  rw [if_neg h, if_neg (by rintro ⟨h3, _⟩; omega)]; rfl
theorem uOf_pos {p : Part} {n : Int} (h : ¬ (p.conv = 100 ∧ n < 0)) : u64 n = uOf p n := by unfold uOf; rw [if_neg h]
theorem uOf_neg {p : Part} {n : Int} (h : p.conv = 100) (h1 : n < 0) : (-n).toNat = uOf p n := by unfold uOf; rw [if_pos ⟨h, h1⟩]
theorem bs10 {p : Part} (h : p.conv ≠ 111) (h1 : p.conv ≠ 120) (h2 : p.conv ≠ 88) : 10 = baseOf p := by unfold baseOf; rw [if_neg h, if_neg (by omega)]
theorem bs8 {p : Part} (h : p.conv = 111) : 8 = baseOf p := by unfold baseOf; rw [if_pos h]
theorem bs16 {p : Part} (h : p.conv = 120 ∨ p.conv = 88) : 16 = baseOf p := by unfold baseOf; rw [if_neg (by omega), if_pos h]
theorem wrap_negU {n : Int} (h1 : -9223372036854775808 ≤ n) (h2 : n < 0) : IntKind.u64.wrap (-((u64 n : Nat) : Int)) = ((-n).toNat : Int) := by rw [IntKind.wrap_u64]; unfold u64; omega

theorem uOf_lt {p : Part} {n : Int} (h1 : -9223372036854775808 ≤ n) (h2 : n < 9223372036854775808) : uOf p n < 18446744073709551616 ∧ (uOf p n = 0 ↔ n = 0) := by
  unfold uOf u64
  split <;> omega
theorem body0_yes {p : Part} {n : Int} {bs U : Nat} {up : Bool} (h1 : -9223372036854775808 ≤ n) (h2 : n < 9223372036854775808) (hb : bs = baseOf p) (hU : U = uOf p n) (hup : up = (p.conv == 88)) (h0 : ((U : Int) == 0) = false) :
    body0 p n = digs bs up U ∧ U < 18446744073709551616 ∧ 2 ≤ bs ∧ bs ≤ 16 := by
  have hl := uOf_lt (p := p) h1 h2
  have hU0 : ¬ U = 0 := by rw [beq_eq_false_iff_ne] at h0; omega
  refine ⟨?_, by omega, ?_, ?_⟩
  · unfold body0
    rw [if_neg (by rw [← hl.2, ← hU]; exact hU0), hb, hup, hU]; rfl
  · rw [hb]; unfold baseOf; split; omega; split <;> omega
  · rw [hb]; unfold baseOf; split; omega; split <;> omega
theorem body0_no {p : Part} {n : Int} {U : Nat} (h1 : -9223372036854775808 ≤ n) (h2 : n < 9223372036854775808) (hU : U = uOf p n) (h0 : ((U : Int) == 0) = true) : bl (⟨#[]⟩ : ByteArray) = body0 p n := by
  have hl := uOf_lt (p := p) h1 h2
  have hU0 := eq_of_beq h0
  unfold body0
  rw [if_pos (hl.2.1 (by omega))]; rfl

theorem bl_mk (l : List UInt8) : bl (⟨l.toArray⟩ : ByteArray) = l := by simp [bl]
theorem bl_app (S T : ByteArray) : bl (S ++ T) = bl S ++ bl T := by rw [← ba_join, bl_mk]
theorem body1_pad {p : Part} {n : Int} {D : ByteArray} {pc m : Nat} (h : bl D = body0 p n) (hp : pc = if p.prec < 0 then 1 else p.prec.toNat) (hm : m = pc - D.size) : bl ((⟨(List.replicate m 48).toArray⟩ : ByteArray) ++ D) = body1 p n := by
  rw [bl_app, bl_mk, h]
  unfold body1
  rw [← hp, ← h, bl_length, hm]
theorem body1_no {p : Part} {n : Int} {D : ByteArray} {pc : Nat} (h : bl D = body0 p n) (hp : pc = if p.prec < 0 then 1 else p.prec.toNat) (hm : pc ≤ D.size) : bl D = body1 p n := by
  unfold body1
  rw [← hp, ← h, bl_length, Nat.sub_eq_zero_of_le hm]; rfl
theorem body2_yes {p : Part} {n : Int} {D : ByteArray} (h : bl D = body1 p n) (hh : true = decide (p.conv = 111 ∧ p.fl.alt = true ∧ (body1 p n).head? ≠ some 48)) : bl ((⟨#[48]⟩ : ByteArray) ++ D) = body2 p n := by
  unfold body2
  rw [if_pos (of_decide_eq_true hh.symm), bl_app, h]; rfl
theorem body2_no {p : Part} {n : Int} {D : ByteArray} (h : bl D = body1 p n) (hh : false = decide (p.conv = 111 ∧ p.fl.alt = true ∧ (body1 p n).head? ≠ some 48)) : bl D = body2 p n := by
  unfold body2
  rw [if_neg (of_decide_eq_false hh.symm), h]
theorem pre48 {D : ByteArray} {l : List UInt8} {b : Bool} (h : bl D = l) (hb : Lib.hasPrefix D.data.toList (⟨#[48]⟩ : ByteArray).data.toList = b) : b = decide (l.head? = some 48) := by
  rw [← hb, ← h]
  show Lib.hasPrefix (bl D) [48] = _
  cases bl D with
  | nil => rfl
  | cons x t =>
    show (List.isPrefixOf [48] (x :: t)) = _
    simp only [List.isPrefixOf, List.head?_cons, Option.some.injEq, Bool.and_true]
    rw [Bool.eq_iff_iff, beq_iff_eq, decide_eq_true_iff]
    exact eq_comm
theorem ahead_len (p : Part) (n : Int) : (Pg.ahead p n).length ≤ 2 := by
  unfold Pg.ahead
  repeat' split
  all_goals simp
theorem allCells {w : World} {g : Nat} {v : Value} {p : Part} (h : Blk w g 57 (partCells v p)) :
    w.cell? ⟨g, 0, none⟩ = some v ∧ w.cell? ⟨g, 1, none⟩ = some (.int .u8 p.conv) ∧ w.cell? ⟨g, 2, none⟩ = some (.bool p.fl.minus) ∧ w.cell? ⟨g, 3, none⟩ = some (.bool p.fl.plus) ∧ w.cell? ⟨g, 4, none⟩ = some (.bool p.fl.space) ∧
    w.cell? ⟨g, 5, none⟩ = some (.bool p.fl.zero) ∧ w.cell? ⟨g, 6, none⟩ = some (.bool p.fl.alt) ∧ w.cell? ⟨g, 7, none⟩ = some (.int .i64 p.width) ∧ w.cell? ⟨g, 8, none⟩ = some (.int .i64 p.prec) :=
  ⟨h.cell 0, h.cell 1, h.cell 2, h.cell 3, h.cell 4, h.cell 5, h.cell 6, h.cell 7, h.cell 8⟩

end Go.Proofs.YtppcjmbblkbkdaaDoor
