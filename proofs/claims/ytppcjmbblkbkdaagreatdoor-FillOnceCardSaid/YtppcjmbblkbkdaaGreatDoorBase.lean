/- The walks of scan.Base and scan.Text. Conditions as typed. -/
import Derived.Test.YtppcjmbblkbkdaaGreatDoorWords
import Derived.Test.YtppcjmbblkbkdaaGreatDoorFillM
import Derived.Test.YtppcjmbblkbkdaaGreatDoorScan2
namespace Go.Proofs.YtppcjmbblkbkdaaGreatDoor
open Go.RowKit Pg

/-- The digits' table. -/
def tabD (up : Bool) : ByteArray := if up then ⟨#[48, 49, 50, 51, 52, 53, 54, 55, 56, 57, 65, 66, 67, 68, 69, 70]⟩ else ⟨#[48, 49, 50, 51, 52, 53, 54, 55, 56, 57, 97, 98, 99, 100, 101, 102]⟩
theorem tab_at (up : Bool) (d : Nat) (hd : d < 16) (h : d < (tabD up).size) : (tabD up)[d] = sign up d := by
  have : d = 0 ∨ d = 1 ∨ d = 2 ∨ d = 3 ∨ d = 4 ∨ d = 5 ∨ d = 6 ∨ d = 7 ∨ d = 8 ∨ d = 9 ∨ d = 10 ∨ d = 11 ∨ d = 12 ∨ d = 13 ∨ d = 14 ∨ d = 15 := by omega
  cases up <;> rcases this with rfl | rfl | rfl | rfl | rfl | rfl | rfl | rfl | rfl | rfl | rfl | rfl | rfl | rfl | rfl | rfl <;> rfl

theorem digsF_length (base : Nat) (up : Bool) : ∀ (f n : Nat) (acc : List UInt8), (digsF f base up n acc).length ≤ f + acc.length
  | 0, _, acc => by simp [digsF]
  | f + 1, n, acc => by
    unfold digsF
    split
    · simp only [List.length_cons]; omega
    · have := digsF_length base up f (n / base) (sign up (n % base) :: acc)
      simp only [List.length_cons] at this
      omega
theorem digs_length (base : Nat) (up : Bool) (n : Nat) : (digs base up n).length ≤ 64 := digsF_length base up 64 n []
def zeros64 : Array Value := #[.int .u8 0, .int .u8 0, .int .u8 0, .int .u8 0, .int .u8 0, .int .u8 0, .int .u8 0, .int .u8 0, .int .u8 0, .int .u8 0, .int .u8 0, .int .u8 0, .int .u8 0, .int .u8 0, .int .u8 0, .int .u8 0, .int .u8 0, .int .u8 0, .int .u8 0, .int .u8 0, .int .u8 0, .int .u8 0, .int .u8 0, .int .u8 0, .int .u8 0, .int .u8 0, .int .u8 0, .int .u8 0, .int .u8 0, .int .u8 0, .int .u8 0, .int .u8 0, .int .u8 0, .int .u8 0, .int .u8 0, .int .u8 0, .int .u8 0, .int .u8 0, .int .u8 0, .int .u8 0, .int .u8 0, .int .u8 0, .int .u8 0, .int .u8 0, .int .u8 0, .int .u8 0, .int .u8 0, .int .u8 0, .int .u8 0, .int .u8 0, .int .u8 0, .int .u8 0, .int .u8 0, .int .u8 0, .int .u8 0, .int .u8 0, .int .u8 0, .int .u8 0, .int .u8 0, .int .u8 0, .int .u8 0, .int .u8 0, .int .u8 0, .int .u8 0]
/-- What the loop of Base keeps. -/
structure BaseR (base : Nat) (up : Bool) (n m q : Nat) (cs : Array Value) (acc : List UInt8) : Prop where
  size : cs.size = 64
  cells : cs.toList.drop (q + 1) = acc.map (fun c => .int .u8 c.toNat)
  lt : m < 18446744073709551616
  pow : m < base ^ (q + 1)
  eq : digsF (q + 1) base up m acc = digs base up n
  base2 : 2 ≤ base
  q64 : q < 64
theorem BaseR.start {base : Nat} {up : Bool} {n : Nat} (hn : n < 18446744073709551616) (h0 : 2 ≤ base) : BaseR base up n n 63 zeros64 [] := by
  refine ⟨rfl, rfl, hn, ?_, rfl, h0, by omega⟩
  exact Nat.lt_of_lt_of_le hn (Nat.pow_le_pow_left h0 64)
theorem wrap_quo {m base : Nat} (h : m < 18446744073709551616) : IntKind.u64.wrap ((m : Int) / (base : Int)) = ((m / base : Nat) : Int) := by
  rw [IntKind.wrap_u64, ← Int.natCast_ediv]
  have h2 : m / base < 18446744073709551616 := Nat.lt_of_le_of_lt (Nat.div_le_self m base) h
  generalize m / base = z at *
  omega
theorem BaseR.fin {base : Nat} {up : Bool} {n m q : Nat} {cs : Array Value} {acc : List UInt8} (h : BaseR base up n m q cs acc) (hz : m / base = 0) : digs base up n = sign up (m % base) :: acc := by
  rw [← h.eq, digsF, if_pos hz]
theorem BaseR.pos {base : Nat} {up : Bool} {n m q : Nat} {cs : Array Value} {acc : List UInt8} (h : BaseR base up n m q cs acc) (hz : m / base ≠ 0) : ∃ q', q' + 1 = q := by
  cases q with
  | zero =>
    exfalso
    have h1 := h.pow
    rw [Nat.zero_add, Nat.pow_one] at h1
    exact hz (Nat.div_eq_of_lt h1)
  | succ q' => exact ⟨q', rfl⟩
theorem drop_set (cs : Array Value) (q : Nat) (v : Value) (h : q < cs.size) : (cs.setIfInBounds q v).toList.drop q = v :: cs.toList.drop (q + 1) := by
  rw [Array.toList_setIfInBounds, List.drop_eq_getElem_cons (by simpa using h)]
  simp [List.drop_set]
theorem BaseR.next {base : Nat} {up : Bool} {n m q : Nat} {cs : Array Value} {acc : List UInt8} (h : BaseR base up n m (q + 1) cs acc) (hz : m / base ≠ 0) :
    BaseR base up n (m / base) q (cs.setIfInBounds (q + 1) (.int .u8 (sign up (m % base)).toNat)) (sign up (m % base) :: acc) := by
  have hq := h.q64
  have hs := h.size
  refine ⟨by simpa using hs, ?_, ?_, ?_, ?_, h.base2, by omega⟩
  · rw [drop_set _ _ _ (by omega), h.cells]; rfl
  · have := Nat.div_le_self m base; have := h.lt; omega
  · have := h.pow
    rw [Nat.pow_succ] at this
    exact Nat.div_lt_of_lt_mul (by rw [Nat.mul_comm]; exact this)
  · rw [← h.eq]
    conv => rhs; rw [digsF, if_neg hz]
theorem slice64 (W : World) (b q : Nat) (hq : q < 64) :
    (Instr.sliceAt 153 (.pointer (some ⟨b, 0, none⟩)) (some (.int .i64 q)) none none).run Tryz.prog W = .ok (.slice (some ⟨b, q, none⟩) (64 - q) (64 - q)) W := by
  have e1 : Tryz.prog.arrayLen 153 = 64 := by kernel_rfl
  have e2 : Tryz.prog.elem 153 = 5 := by kernel_rfl
  have hu : Tryz.prog.underlying 153 = some (.array (Tryz.prog.arrayLen 153) (Tryz.prog.elem 153)) := by rw [e1, e2]; exact Tryz.underlying153
  rw [run_sliceAt_array_l W 153 ⟨b, 0, none⟩ hu .i64 q (by omega) (by rw [e1]; omega), e2, u8_size, e1]
  simp only [Result.andThen, slicedAt, Int.toNat_natCast, Nat.mul_one]
  rw [if_neg (by omega), addr_add, Nat.zero_add]
theorem BaseR.conv {base : Nat} {up : Bool} {n m q : Nat} {cs : Array Value} {acc : List UInt8} (h : BaseR base up n m q cs acc) (w : World) :
    (convert 25 9 (.slice (some ⟨w.heap.size, q, none⟩) (64 - q) (64 - q))).run Tryz.prog (w.alloc (.cells (cs.setIfInBounds q (.int .u8 (sign up (m % base)).toNat)) 153)) =
      .ok (.string ⟨(sign up (m % base) :: acc).toArray⟩) (w.alloc (.cells (cs.setIfInBounds q (.int .u8 (sign up (m % base)).toNat)) 153)) := by
  have hq := h.q64
  have hs := h.size
  have hlen : (sign up (m % base) :: acc).length = 64 - q := by
    have := congrArg List.length h.cells
    simp [hs] at this
    simp; omega
  have hd := drop_set cs q (.int .u8 (sign up (m % base)).toNat) (by omega)
  rw [h.cells] at hd
  have := run_convert_bytes_back (P := Tryz.prog) (w.alloc (.cells (cs.setIfInBounds q (.int .u8 (sign up (m % base)).toNat)) 153)) 25 9 5 ⟨w.heap.size, q, none⟩ (64 - q) (sign up (m % base) :: acc) Tryz.underlying25 Tryz.underlying5 Tryz.underlying9 (fun j hj => by
    rw [addr_add, cell_of_row _ w.heap.size (q + j) _ _ (0, 0) (heap_alloc_new w _), ← Array.getElem?_toList, ← List.getElem?_drop, hd]
    cases j with
    | zero => rfl
    | succ j => simp at hj ⊢; simp [hj])
  rwa [hlen] at this

set_option maxRecDepth 100000 in
set_option maxHeartbeats 4000000 in
/-- scan.Base. -/
theorem scan_Base (n base : Nat) (up : Bool) (w : World) (hn : n < 18446744073709551616) (h0 : 2 ≤ base) (h1 : base ≤ 16) :
    Calls Tryz.prog 72 #[.int .u64 n, .int .i64 base, .bool up] w fun e w' => e = .returned (.string ⟨(digs base up n).toArray⟩) ∧ Below w.heap.size w w' := by
  have HN := Lib.hid hn
  clear hn
  cases up
  · go_enter Tryz.func72, Tryz.ntmps72
    go_wp2
    go_loopw [0, 9] (fun v t wr => ∃ (m q : Nat) (cs : Array Value) (acc : List UInt8), v = .int .u64 m ∧ t = .int .i64 ↑(q + 1) ∧ q < 64 ∧ wr = w.alloc (.cells cs 153) ∧ Hid (BaseR base false n m q cs acc)) (fun _ t _ => (intOf t).toNat)
    case atStart => exact ⟨n, 63, zeros64, [], rfl, rfl, by omega, rfl, BaseR.start HN.out h0⟩
    case round =>
      obtain ⟨m, q, cs, acc, rfl, rfl, hq, rfl, HR⟩ := hrel
      have hd : m % base < 16 := by have := Nat.mod_lt m (show 0 < base by omega); omega
      have hd0 : (0 : Int) ≤ (m : Int) % (base : Int) := by omega
      have hd1 : (m : Int) % (base : Int) < 16 := by omega
      have hcs : q < cs.size := by have := HR.out.size; omega
      have ht : ∀ h, (ByteArray.mk #[48, 49, 50, 51, 52, 53, 54, 55, 56, 57, 97, 98, 99, 100, 101, 102])[m % base]'h = sign false (m % base) := fun h => tab_at false _ hd h
      have hsl := fun W => slice64 W w.heap.size q (by omega)
      obtain ⟨m', hm'⟩ : ∃ m', m' = m / base := ⟨_, rfl⟩
      have hw : IntKind.u64.wrap ((m : Int) / (base : Int)) = (m' : Int) := by rw [hm']; exact wrap_quo HR.out.lt
      have HM' := Lib.hid hm'
      clear hm'
      by_cases hz : m' = 0
      · have ez : ((m' : Int) == 0) = true := beq_iff_eq.2 (by omega)
        have HE : Hid (digs base false n = sign false (m % base) :: acc) := HR.out.fin (HM'.out.symm.trans hz)
        have hcv := HR.out.conv w
        clear hz
        go_wp2
        go_ret
        refine ⟨?_, (Below.refl _ _).alloc (Nat.le_refl _) _⟩
        rw [HE.out]
        rfl
      · have ez : ((m' : Int) == 0) = false := beq_eq_false_iff_ne.2 (by omega)
        obtain ⟨q', rfl⟩ := HR.out.pos (fun h => hz (HM'.out.trans h))
        have HE := Lib.hid (HR.out.next (fun h => hz (HM'.out.trans h)))
        clear hz
        go_wp2
        go_roundw
        case rel => exact ⟨m', q', _, _, rfl, rfl, by omega, rfl, (by rw [HM'.out]; exact HE.out)⟩
        case measure => simp [intOf]; omega
  · go_enter Tryz.func72, Tryz.ntmps72
    go_wp2
    go_loopw [0, 9] (fun v t wr => ∃ (m q : Nat) (cs : Array Value) (acc : List UInt8), v = .int .u64 m ∧ t = .int .i64 ↑(q + 1) ∧ q < 64 ∧ wr = w.alloc (.cells cs 153) ∧ Hid (BaseR base true n m q cs acc)) (fun _ t _ => (intOf t).toNat)
    case atStart => exact ⟨n, 63, zeros64, [], rfl, rfl, by omega, rfl, BaseR.start HN.out h0⟩
    case round =>
      obtain ⟨m, q, cs, acc, rfl, rfl, hq, rfl, HR⟩ := hrel
      have hd : m % base < 16 := by have := Nat.mod_lt m (show 0 < base by omega); omega
      have hd0 : (0 : Int) ≤ (m : Int) % (base : Int) := by omega
      have hd1 : (m : Int) % (base : Int) < 16 := by omega
      have hcs : q < cs.size := by have := HR.out.size; omega
      have ht : ∀ h, (ByteArray.mk #[48, 49, 50, 51, 52, 53, 54, 55, 56, 57, 65, 66, 67, 68, 69, 70])[m % base]'h = sign true (m % base) := fun h => tab_at true _ hd h
      have hsl := fun W => slice64 W w.heap.size q (by omega)
      obtain ⟨m', hm'⟩ : ∃ m', m' = m / base := ⟨_, rfl⟩
      have hw : IntKind.u64.wrap ((m : Int) / (base : Int)) = (m' : Int) := by rw [hm']; exact wrap_quo HR.out.lt
      have HM' := Lib.hid hm'
      clear hm'
      by_cases hz : m' = 0
      · have ez : ((m' : Int) == 0) = true := beq_iff_eq.2 (by omega)
        have HE : Hid (digs base true n = sign true (m % base) :: acc) := HR.out.fin (HM'.out.symm.trans hz)
        have hcv := HR.out.conv w
        clear hz
        go_wp2
        go_ret
        refine ⟨?_, (Below.refl _ _).alloc (Nat.le_refl _) _⟩
        rw [HE.out]
        rfl
      · have ez : ((m' : Int) == 0) = false := beq_eq_false_iff_ne.2 (by omega)
        obtain ⟨q', rfl⟩ := HR.out.pos (fun h => hz (HM'.out.trans h))
        have HE := Lib.hid (HR.out.next (fun h => hz (HM'.out.trans h)))
        clear hz
        go_wp2
        go_roundw
        case rel => exact ⟨m', q', _, _, rfl, rfl, by omega, rfl, (by rw [HM'.out]; exact HE.out)⟩
        case measure => simp [intOf]; omega

theorem u64_of_nat {n : Nat} (h : n < 18446744073709551616) : IntKind.u64.wrap (n : Int) = (n : Int) := by rw [IntKind.wrap_u64]; omega
theorem u64_neg {k : Nat} (h1 : 1 ≤ k) (h2 : k ≤ 9223372036854775808) : IntKind.u64.wrap (-(k : Int)) = ((18446744073709551616 - k : Nat) : Int) := by rw [IntKind.wrap_u64]; omega
theorem u64_negneg {k : Nat} (h1 : 1 ≤ k) (h2 : k ≤ 9223372036854775808) : IntKind.u64.wrap (-((18446744073709551616 - k : Nat) : Int)) = (k : Int) := by rw [IntKind.wrap_u64]; omega

end Go.Proofs.YtppcjmbblkbkdaaGreatDoor
