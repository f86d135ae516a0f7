/- The walks of pidginref14.many and pidginref14.field. Conditions as typed. -/
import Derived.Test.YtppcjmbblkbkdaaGreatDoorPush
import Derived.Test.YtppcjmbblkbkdaaGreatDoorStrs
import Derived.Test.YtppcjmbblkbkdaaGreatDoorInteger
import Derived.Test.YtppcjmbblkbkdaaGreatDoorUnesc
import Derived.Test.YtppcjmbblkbkdaaGreatDoorRefA
import Derived.Test.YtppcjmbblkbkdaaGreatDoorField2
namespace Go.Proofs.YtppcjmbblkbkdaaGreatDoor
open Go.RowKit Pg

set_option maxRecDepth 100000 in
set_option maxHeartbeats 4000000 in
/-- pidginref14.many. -/
theorem ref_many (c : UInt8) (n : Nat) (hn : n ≤ 100000) (w : World) :
    Calls Tryz.prog 67 #[.int .u8 c.toNat, .int .i64 n] w fun e w' => e = .returned (.string ⟨(List.replicate n c).toArray⟩) ∧ Below w.heap.size w w' := by
  go_enter Tryz.func67, Tryz.ntmps67
  go_wp2_with fail
  go_loopw [5, 7] (fun bv kv wr => ∃ k : Nat, k ≤ n ∧ kv = .int .i64 k ∧ Hid (wr.ownsRow w.heap.size 5 1 bv (List.replicate k c).length (u8s (List.replicate k c)) ∧ Below w.heap.size w wr)) (fun _ kv _ => n - (intOf kv).toNat)
  case atStart => exact ⟨0, by omega, rfl, World.ownsRow_nil _ _ _ _, Below.refl _ _⟩
  case round =>
    obtain ⟨k, hk, rfl, HR⟩ := hrel
    have hsz := HR.out.2.size
    by_cases hlt : k < n
    · have HN : Hid (List.replicate (k + 1) c = List.replicate k c ++ [c]) := List.replicate_succ'
      have e1 : decide ((k : Int) < (n : Int)) = true := decide_eq_true (by omega)
      go_wp2_with (at_builtin; refine wpList_push rfl (.tmp 9) (.tmp 11) rfl w.heap.size u5 (List.replicate k c) c HR.out.1 hsz (by rw [List.length_replicate]; omega) rfl rfl ?_; intro v' w' hp; have HP := Lib.hid hp; clear hp)
      go_roundw
      case rel => exact ⟨k + 1, by omega, by go_num, by rw [HN.out]; exact ⟨HP.out.own, HR.out.2.trans HP.out.bel⟩⟩
      case measure => simp [intOf]; omega
    · have e1 : decide ((k : Int) < (n : Int)) = false := decide_eq_false (by omega)
      have hkn : k = n := by omega
      subst hkn
      obtain ⟨a, cap, hv, _⟩ := ownsRow_form HR.out.1
      subst hv
      have kb := bsS (ownBs2 HR.out.1 rfl)
      rw [List.length_replicate] at kb ⊢
      go_wp2_with fail
      go_ret
      exact ⟨rfl, HR.out.2⟩

/-- A part, its bytes whatever, as a value. -/
def partV (v : Value) (p : Part) : Value := .agg #[v, .int .u8 p.conv, .bool p.fl.minus, .bool p.fl.plus, .bool p.fl.space, .bool p.fl.zero, .bool p.fl.alt, .int .i64 p.width, .int .i64 p.prec]
theorem rep_size (n : Nat) (c : UInt8) : (⟨(List.replicate n c).toArray⟩ : ByteArray).size = n := by
  show (List.replicate n c).toArray.size = n
  simp
set_option maxRecDepth 100000 in
set_option maxHeartbeats 4000000 in
/-- pidginref14.field. -/
theorem ref_field (v : Value) (p : Part) (S T : ByteArray) (nb : Bool) (w : World) (hw : p.width ≤ 5000) (hS : S.size ≤ 1000) (hT : T.size ≤ 140737488355328) :
    Calls Tryz.prog 51 #[.agg #[v, .int .u8 p.conv, .bool p.fl.minus, .bool p.fl.plus, .bool p.fl.space, .bool p.fl.zero, .bool p.fl.alt, .int .i64 p.width, .int .i64 p.prec], .string S, .string T, .bool nb] w fun e w' => e = .returned (.string ⟨(filled p (bl S) (bl T) (nb && (p.fl.zero && decide (p.prec < 0)))).toArray⟩) ∧ Below w.heap.size w w' := by
  have hST : (S ++ T).size = S.size + T.size := ByteArray.size_append
  by_cases h0 : p.width ≤ S.size + T.size
  · have hf : filled p (bl S) (bl T) (nb && (p.fl.zero && decide (p.prec < 0))) = bl (S ++ T) := by
      unfold filled; rw [if_pos (by rw [bl_length, bl_length]; exact h0), bl_app]
    rw [hf, mk_bl]
    have e1 : decide ((p.width : Int) - (S.size : Int) - (T.size : Int) ≤ 0) = true := decide_eq_true (by omega)
    have e1' : (p.width : Int) - (S.size : Int) - (T.size : Int) ≤ 0 := by omega
    clear hf h0
    go_enter Tryz.func51, Tryz.ntmps51
    go_wp2_with fail
    go_ret
    exact ⟨rfl, (Below.refl _ _).alloc (Nat.le_refl _) _⟩
  · obtain ⟨m, hm⟩ : ∃ m, m = p.width - S.size - T.size := ⟨_, rfl⟩
    have hmi : (p.width : Int) - (S.size : Int) - (T.size : Int) = (m : Int) := by omega
    have hm0 : 0 < m := by omega
    have hm5 : m ≤ 5000 := by omega
    have e1 : decide ((m : Int) ≤ 0) = false := decide_eq_false (by omega)
    have hfl : ∀ nz, filled p (bl S) (bl T) nz = if p.fl.minus = true then bl S ++ bl T ++ List.replicate m 32 else if nz = true then bl S ++ List.replicate m 48 ++ bl T else List.replicate m 32 ++ bl S ++ bl T := fun nz => by
      unfold filled; rw [if_neg (by rw [bl_length, bl_length]; exact h0), bl_length, bl_length, ← hm]
    rw [hfl]
    have C32 := fun W => ref_many 32 m (by omega) W
    have C48 := fun W => ref_many 48 m (by omega) W
    obtain ⟨M32, h32⟩ : ∃ M : ByteArray, ⟨(List.replicate m (32 : UInt8)).toArray⟩ = M := ⟨_, rfl⟩
    obtain ⟨M48, h48⟩ : ∃ M : ByteArray, ⟨(List.replicate m (48 : UInt8)).toArray⟩ = M := ⟨_, rfl⟩
    have z32 : M32.size = m := by rw [← h32, rep_size]
    have z48 : M48.size = m := by rw [← h48, rep_size]
    have b32 : bl M32 = List.replicate m 32 := by rw [← h32, bl_mk]
    have b48 : bl M48 = List.replicate m 48 := by rw [← h48, bl_mk]
    rw [← b32, ← b48]
    simp only [h32] at C32
    simp only [h48] at C48
    have hSM : (S ++ M48).size = S.size + m := by rw [ByteArray.size_append, z48]
    have hMS : (M32 ++ S).size = m + S.size := by rw [ByteArray.size_append, z32]
    have C32 := Lib.hid C32
    have C48 := Lib.hid C48
    clear hfl h32 h48 b32 b48 hm h0
    cases hmn : p.fl.minus
    · rw [if_neg (by simp)]
      by_cases hz : nb = true ∧ p.fl.zero = true ∧ p.prec < 0
      · obtain ⟨rfl, hz1, hz2⟩ := hz
        have e2 : decide (p.prec < 0) = true := decide_eq_true hz2
        rw [if_pos (by simp [hz1, hz2]), ← bl_app, ← bl_app, mk_bl]
        clear hz2
        go_enter Tryz.func51, Tryz.ntmps51
        go_wp2_with (go_at_call 67; refine (C48.out _).mono ?_; rintro e w2 ⟨rfl, hb2⟩; have HB2 := Lib.hid hb2; clear hb2)
        go_ret
        exact ⟨rfl, ((Below.refl _ _).alloc (Nat.le_refl _) _).trans (HB2.out.mono (by simp))⟩
      · rw [if_neg (by simpa using hz), ← bl_app, ← bl_app, mk_bl]
        cases nb
        · clear hz
          go_enter Tryz.func51, Tryz.ntmps51
          go_wp2_with (go_at_call 67; refine (C32.out _).mono ?_; rintro e w2 ⟨rfl, hb2⟩; have HB2 := Lib.hid hb2; clear hb2)
          go_ret
          exact ⟨rfl, ((Below.refl _ _).alloc (Nat.le_refl _) _).trans (HB2.out.mono (by simp))⟩
        · cases hz1 : p.fl.zero
          · clear hz
            go_enter Tryz.func51, Tryz.ntmps51
            go_wp2_with (go_at_call 67; refine (C32.out _).mono ?_; rintro e w2 ⟨rfl, hb2⟩; have HB2 := Lib.hid hb2; clear hb2)
            go_ret
            exact ⟨rfl, ((Below.refl _ _).alloc (Nat.le_refl _) _).trans (HB2.out.mono (by simp))⟩
          · have e2 : decide (p.prec < 0) = false := decide_eq_false (fun h => hz ⟨rfl, hz1, h⟩)
            clear hz
            go_enter Tryz.func51, Tryz.ntmps51
            go_wp2_with (go_at_call 67; refine (C32.out _).mono ?_; rintro e w2 ⟨rfl, hb2⟩; have HB2 := Lib.hid hb2; clear hb2)
            go_ret
            exact ⟨rfl, ((Below.refl _ _).alloc (Nat.le_refl _) _).trans (HB2.out.mono (by simp))⟩
    · rw [if_pos rfl, ← bl_app, ← bl_app, mk_bl]
      go_enter Tryz.func51, Tryz.ntmps51
      go_wp2_with (go_at_call 67; refine (C32.out _).mono ?_; rintro e w2 ⟨rfl, hb2⟩; have HB2 := Lib.hid hb2; clear hb2)
      go_ret
      exact ⟨rfl, ((Below.refl _ _).alloc (Nat.le_refl _) _).trans (HB2.out.mono (by simp))⟩
end Go.Proofs.YtppcjmbblkbkdaaGreatDoor

/- The walks of pidginref2.Base and pidginref2.Text. Conditions as typed. -/
namespace Go.Proofs.YtppcjmbblkbkdaaGreatDoor
open Go.RowKit Pg

theorem d16 {d : Nat} (h : d < 16) : d = 0 ∨ d = 1 ∨ d = 2 ∨ d = 3 ∨ d = 4 ∨ d = 5 ∨ d = 6 ∨ d = 7 ∨ d = 8 ∨ d = 9 ∨ d = 10 ∨ d = 11 ∨ d = 12 ∨ d = 13 ∨ d = 14 ∨ d = 15 := by omega
theorem cutDl (d : Nat) (hd : d < 16) (W : World) : (Instr.slice 9 (.string ⟨#[48, 49, 50, 51, 52, 53, 54, 55, 56, 57, 97, 98, 99, 100, 101, 102]⟩) (some (.int .u64 d)) (some (.int .u64 ((d : Int) + 1))) none).run Tryz.prog W = .ok (.string ⟨#[sign false d]⟩) W := by
  rcases d16 hd with rfl | rfl | rfl | rfl | rfl | rfl | rfl | rfl | rfl | rfl | rfl | rfl | rfl | rfl | rfl | rfl <;> kernel_rfl
theorem cutDu (d : Nat) (hd : d < 16) (W : World) : (Instr.slice 9 (.string ⟨#[48, 49, 50, 51, 52, 53, 54, 55, 56, 57, 65, 66, 67, 68, 69, 70]⟩) (some (.int .u64 d)) (some (.int .u64 ((d : Int) + 1))) none).run Tryz.prog W = .ok (.string ⟨#[sign true d]⟩) W := by
  rcases d16 hd with rfl | rfl | rfl | rfl | rfl | rfl | rfl | rfl | rfl | rfl | rfl | rfl | rfl | rfl | rfl | rfl <;> kernel_rfl
/-- What Base's loop keeps: the number that is left, the digits so far. -/
structure BaseS (base : Nat) (up : Bool) (n m f : Nat) (l : List UInt8) : Prop where
  lt : m < 18446744073709551616
  pow : m < base ^ f
  eq : (if m = 0 then l else digsF f base up m l) = digs base up n
  len : l.length + f ≤ 64
theorem BaseS.start {base n : Nat} (up : Bool) (hn : n < 18446744073709551616) (h0 : 2 ≤ base) : BaseS base up n (n / base) 63 [sign up (n % base)] := by
  have h1 : n / base ≤ n := Nat.div_le_self n base
  refine ⟨by omega, ?_, ?_, by simp⟩
  · refine Nat.div_lt_of_lt_mul ?_
    have : n < base ^ 64 := Nat.lt_of_lt_of_le hn (Nat.pow_le_pow_left h0 64)
    rwa [Nat.pow_succ, Nat.mul_comm] at this
  · show _ = digsF (63 + 1) base up n []
    conv => rhs; rw [digsF]
theorem BaseS.next {base : Nat} {up : Bool} {n m f : Nat} {l : List UInt8} (h : BaseS base up n m f l) (hm : m ≠ 0) : ∃ f', f = f' + 1 ∧ BaseS base up n (m / base) f' (sign up (m % base) :: l) := by
  cases f with
  | zero => have := h.pow; simp at this; exact absurd this hm
  | succ f' =>
    have h1 : m / base ≤ m := Nat.div_le_self m base
    have h2 := h.lt
    have h3 := h.len
    refine ⟨f', rfl, by omega, ?_, ?_, by simp; omega⟩
    · have := h.pow
      rw [Nat.pow_succ] at this
      exact Nat.div_lt_of_lt_mul (by rw [Nat.mul_comm]; exact this)
    · rw [← h.eq, if_neg hm, digsF]
theorem BaseS.fin {base : Nat} {up : Bool} {n f : Nat} {l : List UInt8} (h : BaseS base up n 0 f l) : digs base up n = l := by
  rw [← h.eq, if_pos rfl]

set_option maxRecDepth 100000 in
set_option maxHeartbeats 4000000 in
/-- pidginref2.Base. -/
theorem ref_Base (n base : Nat) (up : Bool) (w : World) (hn : n < 18446744073709551616) (h0 : 2 ≤ base) (h1 : base ≤ 16) :
    Calls Tryz.prog 16 #[.int .u64 n, .int .i64 base, .bool up] w fun e w' => e = .returned (.string ⟨(digs base up n).toArray⟩) ∧ Below w.heap.size w w' := by
  have HS := fun up => Lib.hid (BaseS.start up hn h0)
  have hwb : IntKind.u64.wrap (base : Int) = (base : Int) := by rw [IntKind.wrap_u64]; omega
  have hd : n % base < 16 := by have := Nat.mod_lt n (show 0 < base by omega); omega
  have hd0 : (0 : Int) ≤ (n : Int) % (base : Int) := by omega
  have hd1 : (n : Int) % (base : Int) < 16 := by omega
  have hda : IntKind.u64.wrap ((n : Int) % (base : Int) + 1) = (n : Int) % (base : Int) + 1 := by rw [IntKind.wrap_u64]; omega
  obtain ⟨n', hn'⟩ : ∃ n', n' = n / base := ⟨_, rfl⟩
  have hwn : IntKind.u64.wrap ((n : Int) / (base : Int)) = (n' : Int) := by rw [hn']; exact wrap_quo hn
  rw [← hn'] at HS
  clear hn'
  cases up
  · have kd := fun W => cutDl (n % base) hd W
    simp only [Int.natCast_emod] at kd
    have HZ := HS false
    have HX : Hid (∃ x, x = sign false (n % base)) := ⟨_, rfl⟩
    obtain ⟨x, hx⟩ := HX.out
    rw [← hx] at kd HZ
    clear hx HX HS hd hn
    go_enter Tryz.func16, Tryz.ntmps16
    go_upto_region 6 with (fail)
    go_region
    go_wp2_with fail
    clear kd hwn hd0 hd1 hda
    go_loopw [0, 8] (fun v s wr => ∃ (m f : Nat) (S : ByteArray), v = .int .u64 m ∧ s = .string S ∧ S.size ≤ 64 ∧ Hid (Below w.heap.size w wr) ∧ Hid (BaseS base false n m f (bl S))) (fun v _ _ => (intOf v).toNat)
    case atStart => exact ⟨n', 63, ⟨#[x]⟩, rfl, rfl, by show 1 ≤ 64; omega, (Below.refl _ _).drew, HZ⟩
    case round =>
      obtain ⟨m, f, S, rfl, rfl, hS, HB, HR⟩ := hrel
      by_cases hz : m = 0
      · subst hz
        have HE := Lib.hid HR.out.fin
        go_wp2_with fail
        go_ret
        rw [HE.out, mk_bl]
        exact ⟨rfl, HB.out⟩
      · have hz0 : (0 : Int) < (m : Int) := by omega
        have hdm : m % base < 16 := by have := Nat.mod_lt m (show 0 < base by omega); omega
        have hd0 : (0 : Int) ≤ (m : Int) % (base : Int) := by omega
        have hd1 : (m : Int) % (base : Int) < 16 := by omega
        have hda : IntKind.u64.wrap ((m : Int) % (base : Int) + 1) = (m : Int) % (base : Int) + 1 := by rw [IntKind.wrap_u64]; omega
        obtain ⟨f', rfl, hN⟩ := HR.out.next hz
        have kd := fun W => cutDl (m % base) hdm W
        simp only [Int.natCast_emod] at kd
        have HX : Hid (∃ x, x = sign false (m % base)) := ⟨_, rfl⟩
        obtain ⟨x, hx⟩ := HX.out
        rw [← hx] at kd hN
        obtain ⟨m', hm'⟩ : ∃ m', m' = m / base := ⟨_, rfl⟩
        have hw : IntKind.u64.wrap ((m : Int) / (base : Int)) = (m' : Int) := by rw [hm']; exact wrap_quo HR.out.lt
        have hlt : m' < m := by rw [hm']; exact Nat.div_lt_self (by omega) (by omega)
        rw [← hm'] at hN
        have hl1 := hN.len
        simp only [List.length_cons] at hl1
        rw [bl_length] at hl1
        have hsz : ((⟨#[x]⟩ : ByteArray) ++ S).size ≤ 64 := by rw [ByteArray.size_append]; show 1 + S.size ≤ _; omega
        have hjoin : bl ((⟨#[x]⟩ : ByteArray) ++ S) = x :: bl S := by
          have := ByteArray.mk_append_mk [x] (bl S)
          rw [mk_bl] at this
          rw [show (⟨#[x]⟩ : ByteArray) ++ S = ⟨(x :: bl S).toArray⟩ from this, bl_mk]
        rw [← hjoin] at hN
        have HN := Lib.hid hN
        clear hN hx HX hm' hz hdm hl1 hjoin
        go_wp2_with fail
        go_roundw
        case rel => exact ⟨m', f', _, rfl, rfl, hsz, HB, HN⟩
        case measure => simp [intOf]; omega
  · have kd := fun W => cutDu (n % base) hd W
    simp only [Int.natCast_emod] at kd
    have HZ := HS true
    have HX : Hid (∃ x, x = sign true (n % base)) := ⟨_, rfl⟩
    obtain ⟨x, hx⟩ := HX.out
    rw [← hx] at kd HZ
    clear hx HX HS hd hn
    go_enter Tryz.func16, Tryz.ntmps16
    go_upto_region 6 with (fail)
    go_region
    go_wp2_with fail
    clear kd hwn hd0 hd1 hda
    go_loopw [0, 8] (fun v s wr => ∃ (m f : Nat) (S : ByteArray), v = .int .u64 m ∧ s = .string S ∧ S.size ≤ 64 ∧ Hid (Below w.heap.size w wr) ∧ Hid (BaseS base true n m f (bl S))) (fun v _ _ => (intOf v).toNat)
    case atStart => exact ⟨n', 63, ⟨#[x]⟩, rfl, rfl, by show 1 ≤ 64; omega, (Below.refl _ _).drew, HZ⟩
    case round =>
      obtain ⟨m, f, S, rfl, rfl, hS, HB, HR⟩ := hrel
      by_cases hz : m = 0
      · subst hz
        have HE := Lib.hid HR.out.fin
        go_wp2_with fail
        go_ret
        rw [HE.out, mk_bl]
        exact ⟨rfl, HB.out⟩
      · have hz0 : (0 : Int) < (m : Int) := by omega
        have hdm : m % base < 16 := by have := Nat.mod_lt m (show 0 < base by omega); omega
        have hd0 : (0 : Int) ≤ (m : Int) % (base : Int) := by omega
        have hd1 : (m : Int) % (base : Int) < 16 := by omega
        have hda : IntKind.u64.wrap ((m : Int) % (base : Int) + 1) = (m : Int) % (base : Int) + 1 := by rw [IntKind.wrap_u64]; omega
        obtain ⟨f', rfl, hN⟩ := HR.out.next hz
        have kd := fun W => cutDu (m % base) hdm W
        simp only [Int.natCast_emod] at kd
        have HX : Hid (∃ x, x = sign true (m % base)) := ⟨_, rfl⟩
        obtain ⟨x, hx⟩ := HX.out
        rw [← hx] at kd hN
        obtain ⟨m', hm'⟩ : ∃ m', m' = m / base := ⟨_, rfl⟩
        have hw : IntKind.u64.wrap ((m : Int) / (base : Int)) = (m' : Int) := by rw [hm']; exact wrap_quo HR.out.lt
        have hlt : m' < m := by rw [hm']; exact Nat.div_lt_self (by omega) (by omega)
        rw [← hm'] at hN
        have hl1 := hN.len
        simp only [List.length_cons] at hl1
        rw [bl_length] at hl1
        have hsz : ((⟨#[x]⟩ : ByteArray) ++ S).size ≤ 64 := by rw [ByteArray.size_append]; show 1 + S.size ≤ _; omega
        have hjoin : bl ((⟨#[x]⟩ : ByteArray) ++ S) = x :: bl S := by
          have := ByteArray.mk_append_mk [x] (bl S)
          rw [mk_bl] at this
          rw [show (⟨#[x]⟩ : ByteArray) ++ S = ⟨(x :: bl S).toArray⟩ from this, bl_mk]
        rw [← hjoin] at hN
        have HN := Lib.hid hN
        clear hN hx HX hm' hz hdm hl1 hjoin
        go_wp2_with fail
        go_roundw
        case rel => exact ⟨m', f', _, rfl, rfl, hsz, HB, HN⟩
        case measure => simp [intOf]; omega

set_option maxHeartbeats 1000000 in
/-- pidginref2.Text of a number that is not below nought. -/
theorem ref_Text_nat (n : Nat) (w : World) (hn : n < 9223372036854775808) :
    Calls Tryz.prog 6 #[.int .i64 n] w fun e w' => e = .returned (.string ⟨(digs 10 false n).toArray⟩) ∧ Below w.heap.size w w' := by
  have C := Lib.hid (ref_Base n 10 false w (by omega) (by omega) (by omega))
  have hw := u64_of_nat (n := n) (by omega)
  have hd : decide ((n : Int) < 0) = false := decide_eq_false (by omega)
  clear hn
  go_enter Tryz.func6, Tryz.ntmps6
  go_wp2_with (go_at_call 16; refine C.out.mono ?_; rintro e w1 ⟨rfl, hb⟩; have HB := Lib.hid hb; clear hb)
  go_ret
  exact ⟨rfl, HB.out⟩
set_option maxRecDepth 100000 in
set_option maxHeartbeats 1000000 in
/-- .. below nought. -/
theorem ref_Text_neg (k : Nat) (w : World) (h1 : 1 ≤ k) (h2 : k ≤ 9223372036854775808) :
    Calls Tryz.prog 6 #[.int .i64 (-(k : Int))] w fun e w' => e = .returned (.string ⟨(45 :: digs 10 false k).toArray⟩) ∧ Below w.heap.size w w' := by
  have C := Lib.hid (ref_Base k 10 false w (by omega) (by omega) (by omega))
  have e1 : wrap64 (-(k : Int) + 1) = -(k : Int) + 1 := by unfold wrap64; omega
  have e2 : wrap64 (-(-(k : Int) + 1)) = (k : Int) - 1 := by unfold wrap64; omega
  have e3 : IntKind.u64.wrap ((k : Int) - 1) = (k : Int) - 1 := by rw [IntKind.wrap_u64]; omega
  have e4 : IntKind.u64.wrap ((k : Int) - 1 + 1) = (k : Int) := by rw [IntKind.wrap_u64]; omega
  have hd : decide (-(k : Int) < 0) = true := decide_eq_true (by omega)
  have hln := digs_length 10 false k
  have e5 := u64_of_nat (n := k) (by omega)
  clear h2
  go_enter Tryz.func6, Tryz.ntmps6
  go_wp2_with (go_at_call 16; refine C.out.mono ?_; rintro e w1 ⟨rfl, hb⟩; have HB := Lib.hid hb; clear hb)
  go_ret
  exact ⟨congrArg (fun x => Ending.returned (Value.string x)) (ByteArray.mk_append_mk [45] (digs 10 false k)), HB.out⟩
end Go.Proofs.YtppcjmbblkbkdaaGreatDoor

/- The walk of pidginref14.escaped. Conditions as typed. -/
namespace Go.Proofs.YtppcjmbblkbkdaaGreatDoor
open Go.RowKit Pg

theorem RelU.pushed {W0 : World} {l : List UInt8} {i i' m : Nat} {acc : List UInt8} {v v1 : Value} {wr w1 : World} {c : UInt8} (h : RelU W0 l i (m + 1) acc v wr) (hi : i < i') (he : unescF (m + 1) l i acc = unescF m l i' (acc ++ [c])) (hp : Pushed W0.heap.size wr v (acc ++ [c]) v1 w1) : RelU W0 l i' m (acc ++ [c]) v1 w1 :=
  ⟨by have := h.le; omega, he.symm.trans h.eq, h.bel.trans hp.bel, hp.own, by have := h.al; simp; omega⟩
/-- b[i+2:min(len(b), i+5)] as a run. -/
theorem run_cut25 (b off cap : Nat) (l : List UInt8) (hlc : l.length ≤ cap) (_hcm : cap ≤ 9223372036854775807) (i : Nat) (hi : i + 2 ≤ l.length) (m : Nat) (hm : m = min l.length (i + 5)) (W : World) :
    (Instr.slice 25 (.slice (some ⟨b, off, none⟩) l.length cap) (some (.int .i64 ((i : Int) + 2))) (some (.int .i64 (m : Int))) none).run Tryz.prog W = .ok (.slice (cutA (some ⟨b, off, none⟩) cap (i + 2)) (m - (i + 2)) (cap - (i + 2))) W := by
  have ht : Tryz.prog.underlying 25 = some (.slice (Tryz.prog.elem 25)) := by rw [elem_is Tryz.underlying25]; exact Tryz.underlying25
  have hs : ∀ w, (sizeOf (Tryz.prog.elem 25)).run Tryz.prog w = .ok 1 w := by rw [elem_is Tryz.underlying25]; exact u8_size
  rw [run_slice_lh W 25 (some ⟨b, off, none⟩) l.length cap ht .i64 .i64 ((i : Int) + 2) m (by omega) (by omega) (by omega), hs]
  have e1 : ((i : Int) + 2).toNat = i + 2 := by omega
  simp [Result.andThen, sliced, cutA, e1]

set_option maxRecDepth 100000 in
set_option maxHeartbeats 8000000 in
/-- pidginref14.escaped. -/
theorem ref_escaped (S : ByteArray) (w : World) (hS : S.size ≤ 140737488351232) :
    Calls Tryz.prog 52 #[.string S] w fun e w' => e = .returned (.tuple #[.string ⟨(unesc (bl S)).1.toArray⟩, .bool (unesc (bl S)).2]) ∧ Below w.heap.size w w' := by
  have rc := Lib.run_convert_string_bytes (P := Tryz.prog) w 9 25 5 S Tryz.underlying9 Tryz.underlying25 Tryz.underlying5
  have hb := bytes_bs w S (by unfold maxLen; omega)
  have hB := bytes_below w S
  rw [← bl_length] at rc hS
  generalize hW0 : Lib.bytesWorld w 5 S = W0 at *
  generalize hcp : grownCap w S.size 0 5 = cap at *
  rw [bl_length, hcp, ← bl_length] at rc
  generalize ha : (some (⟨w.heap.size, 0, none⟩ : Addr)) = a at *
  generalize bl S = l at *
  have hlc := hb.1
  have hcm := hb.2.1
  unfold maxLen at hcm
  have HL := Lib.hid hb
  have HB0 := Lib.hid hB
  clear hW0 hcp ha hb hB
  go_enter Tryz.func52, Tryz.ntmps52
  go_wp2_with fail
  go_loopw [5, 6] (fun v t wr => ∃ (i n : Nat) (acc : List UInt8), i ≤ l.length ∧ t = .int .i64 i ∧ Hid (RelU W0 l i n acc v wr)) (fun _ t _ => l.length - (intOf t).toNat)
  case atStart => exact ⟨0, l.length, [], by omega, rfl, ⟨by omega, rfl, Below.refl _ _, World.ownsRow_nil _ _ _ _, Nat.le_refl _⟩⟩
  case round =>
    obtain ⟨i, n, acc, hi, rfl, HR⟩ := hrel
    by_cases hlt : i < l.length
    · obtain ⟨m, rfl⟩ : ∃ m, n = m + 1 := ⟨n - 1, by have := HR.out.le; omega⟩
      have hal := HR.out.al
      have hB2 := HR.out.bel.size
      have HLR := Lib.hid (HL.out.below HR.out.bel (Nat.le_refl _))
      obtain ⟨b0, o0, rfl, hc0⟩ := HLR.out.head i hlt
      obtain ⟨c, hc⟩ : ∃ c, l.getD i 0 = c := ⟨_, rfl⟩
      rw [hc] at hc0
      have HC := Lib.hid hc
      clear hc
      by_cases h92 : c.toNat = 92
      · have e92 := eqT h92
        have HX92 : Hid ((l.getD i 0).toNat = 92) := by show _ = _; rw [HC.out]; exact h92
        have n92 : ((c.toNat : Int) != 92) = false := by rw [bne_eq_false_iff_eq]; omega
        simp only [Int.cast_ofNat_Int] at e92
        clear h92
        have CE := ref_Escape _ cap l i hlt (by omega) wr HLR.out
        have hel := esc_le (l.drop (i + 1))
        rw [List.length_drop] at hel
        by_cases hr : i + 1 < l.length
        · have hri : (i : Int) + 1 < (l.length : Int) := by omega
          have er : decide ((i : Int) + 1 < (l.length : Int)) = true := decide_eq_true hri
          obtain ⟨_, _, hq, hc1⟩ := HLR.out.head (i + 1) hr
          simp only [Option.some.injEq, Addr.mk.injEq, and_true] at hq
          obtain ⟨rfl, rfl⟩ := hq
          obtain ⟨y, hy⟩ : ∃ y, (l.getD (i + 1) 0).toNat = y := ⟨_, rfl⟩
          rw [hy] at hc1
          by_cases h99 : y = 99
          · have e99 := eqT h99
            simp only [Int.cast_ofNat_Int] at e99
            have HE := Lib.hid (HR.out.eq.symm.trans (ue_c (m := m) (acc := acc) hr HX92.out (hy.trans h99)))
            have ks := strOf HR.out.own
            clear h99 CE hel hy
            go_wp2_with fail
            go_ret2
            rw [HE.out]
            exact ⟨rfl, HB0.out.trans (HR.out.bel.mono HB0.out.size)⟩
          · have e99 := eqF h99
            simp only [Int.cast_ofNat_Int] at e99
            by_cases h48 : y = 48
            · have e48 := eqT h48
              simp only [Int.cast_ofNat_Int] at e48
              have hE := ue_0 (m := m) (acc := acc) hr HX92.out (hy.trans h48)
              obtain ⟨mm, hmm⟩ : ∃ mm, mm = min l.length (i + 5) := ⟨_, rfl⟩
              have hmin : min (l.length : Int) ((i : Int) + 5) = (mm : Int) := by omega
              have hcut := run_cut25 b0 o0 cap l hlc (by omega) i (by omega) mm hmm
              have hbs := (HLR.out.cut (i + 2) (by omega)).take (mm - (i + 2))
              have htk : (l.drop (i + 2)).take (mm - (i + 2)) = (l.drop (i + 2)).take 3 := by
                rcases Nat.le_total l.length (i + 5) with h | h
                · rw [List.take_of_length_le (by rw [List.length_drop]; omega), List.take_of_length_le (by rw [List.length_drop]; omega)]
                · rw [show mm - (i + 2) = 3 by omega]
              rw [htk] at hbs
              have hln : ((l.drop (i + 2)).take 3).length = mm - (i + 2) := by rw [← htk, List.length_take, List.length_drop]; omega
              have CD := ref_Digits (cutA (some ⟨b0, o0, none⟩) cap (i + 2)) (cap - (i + 2)) ((l.drop (i + 2)).take 3) 8 (by omega) (by omega) wr hbs
              rw [hln] at CD
              have hdm := (digits_le 8 (by omega) ((l.drop (i + 2)).take 3))
              rw [hln] at hdm
              generalize digits 8 ((l.drop (i + 2)).take 3) = d at *
              obtain ⟨dn, dk, dov⟩ := d
              simp only [] at CD hdm hE
              obtain ⟨c2, hc2⟩ : ∃ c2, c2 = UInt8.ofNat dn := ⟨_, rfl⟩
              rw [← hc2] at hE
              have hbt : bits .and .i64 (dn : Int) 255 = (c2.toNat : Int) := by rw [and255 dn (by omega), hc2]; simp
              have hwb : IntKind.u8.wrap (c2.toNat : Int) = (c2.toNat : Int) := by have := c2.toNat_lt; rw [IntKind.wrap_u8]; omega
              have HE := Lib.hid hE
              have CD := Lib.hid CD
              have hdk : dk ≤ l.length - (i + 2) := by omega
              generalize cutA (some ⟨b0, o0, none⟩) cap (i + 2) = ca at *
              generalize mm - (i + 2) = lm at *
              generalize cap - (i + 2) = cc at *
              clear h48 h99 CE hel hy hE hc2 htk hbs hln hmm hdm
              go_wp2_with (first | (go_at_call 34; refine CD.out.mono ?_; rintro e w' ⟨rfl, rfl⟩) | (at_builtin; refine wpList_push rfl (.tmp 74) (.tmp 78) rfl W0.heap.size u5 acc c2 HR.out.own hB2 (by omega) rfl rfl ?_; intro v2 w2 hp2; have HP2 := Lib.hid hp2; clear hp2))
              go_roundw
              case rel => exact ⟨i + (dk + 1) + 1, m, acc ++ [c2], by omega, by go_num, HR.out.pushed (by omega) HE.out HP2.out⟩
              case measure => simp [intOf]; omega
            · have e48 := eqF h48
              simp only [Int.cast_ofNat_Int] at e48
              have n99 : ¬ (i + 1 < l.length ∧ (l.getD (i + 1) 0).toNat = 99) := fun h => h99 (hy.symm.trans h.2)
              have n48 : ¬ (i + 1 < l.length ∧ (l.getD (i + 1) 0).toNat = 48) := fun h => h48 (hy.symm.trans h.2)
              by_cases he : (esc (l.drop (i + 1))).2 = 0
              · have hE := ue_esc0 (m := m) (acc := acc) hlt HX92.out n99 n48 he
                rw [if_pos he, if_pos he] at CE
                have CE := Lib.hid CE
                have HE := Lib.hid hE
                clear h48 h99 hel hy hE n99 n48 he
                go_wp2_with (first | (go_at_call 19; refine CE.out.mono ?_; rintro e w' ⟨rfl, rfl⟩) | (at_builtin; refine wpList_push rfl (.tmp 92) (.tmp 93) rfl W0.heap.size u5 acc (92 : UInt8) HR.out.own hB2 (by omega) rfl rfl ?_; intro v2 w2 hp2; have HP2 := Lib.hid hp2; clear hp2))
                go_roundw
                case rel => exact ⟨i + 1, m, acc ++ [92], by omega, by go_num, HR.out.pushed (by omega) HE.out HP2.out⟩
                case measure => simp [intOf]; omega
              · have hE := ue_esc (m := m) (acc := acc) hlt HX92.out n99 n48 he
                rw [if_neg he, if_neg he] at CE
                generalize esc (l.drop (i + 1)) = ek at *
                obtain ⟨c1, ke⟩ := ek
                simp only [] at hel CE hE he
                obtain ⟨kf, hkf⟩ : ∃ kf, kf = ke + 1 := ⟨_, rfl⟩
                rw [← hkf] at CE
                have ek0 : ((kf : Int) == 0) = false := beq_eq_false_iff_ne.2 (by omega)
                have hE2 : unescF (m + 1) l i acc = unescF m l (i + kf) (acc ++ [c1]) := by rw [hE]; congr 1; omega
                have hkl : i + kf ≤ l.length := by omega
                have hk1 : 1 ≤ kf := by omega
                have CE := Lib.hid CE
                have HE := Lib.hid hE2
                clear h48 h99 hel hy hE hE2 n99 n48 he hkf
                go_wp2_with (first | (go_at_call 19; refine CE.out.mono ?_; rintro e w' ⟨rfl, rfl⟩) | (at_builtin; refine wpList_push rfl (.tmp 97) (.tmp 99) rfl W0.heap.size u5 acc c1 HR.out.own hB2 (by omega) rfl rfl ?_; intro v2 w2 hp2; have HP2 := Lib.hid hp2; clear hp2))
                go_roundw
                case rel => exact ⟨i + kf, m, acc ++ [c1], by omega, by go_num, HR.out.pushed (by omega) HE.out HP2.out⟩
                case measure => simp [intOf]; omega
        · have hri : ¬ (i : Int) + 1 < (l.length : Int) := by omega
          have er : decide ((i : Int) + 1 < (l.length : Int)) = false := decide_eq_false hri
          have he : (esc (l.drop (i + 1))).2 = 0 := by unfold esc; rw [if_pos (by rw [List.length_drop]; omega)]
          have hE := ue_esc0 (m := m) (acc := acc) hlt HX92.out (fun h => hr h.1) (fun h => hr h.1) he
          rw [if_pos he, if_pos he] at CE
          have CE := Lib.hid CE
          have HE := Lib.hid hE
          clear hel hE he
          go_wp2_with (first | (go_at_call 19; refine CE.out.mono ?_; rintro e w' ⟨rfl, rfl⟩) | (at_builtin; refine wpList_push rfl (.tmp 92) (.tmp 93) rfl W0.heap.size u5 acc (92 : UInt8) HR.out.own hB2 (by omega) rfl rfl ?_; intro v2 w2 hp2; have HP2 := Lib.hid hp2; clear hp2))
          go_roundw
          case rel => exact ⟨i + 1, m, acc ++ [92], by omega, by go_num, HR.out.pushed (by omega) HE.out HP2.out⟩
          case measure => simp [intOf]; omega
      · have n92 : ((c.toNat : Int) != 92) = true := bne_iff_ne.2 (by omega)
        have hE := ue_byte (m := m) (acc := acc) hlt (by rw [HC.out]; exact h92)
        rw [HC.out] at hE
        have HE := Lib.hid hE
        clear h92 hE
        go_wp2_with (at_builtin; refine wpList_push rfl (.tmp 23) (.tmp 28) rfl W0.heap.size u5 acc c HR.out.own hB2 (by omega) rfl rfl ?_; intro v2 w2 hp2; have HP2 := Lib.hid hp2; clear hp2)
        go_roundw
        case rel => exact ⟨i + 1, m, acc ++ [c], by omega, by go_num, HR.out.pushed (by omega) HE.out HP2.out⟩
        case measure => simp [intOf]; omega
    · have HE := Lib.hid (HR.out.eq.symm.trans (ue_end (n := n) (acc := acc) (by omega)))
      have ks := strOf HR.out.own
      go_wp2_with fail
      go_ret2
      rw [HE.out]
      exact ⟨rfl, HB0.out.trans (HR.out.bel.mono HB0.out.size)⟩
end Go.Proofs.YtppcjmbblkbkdaaGreatDoor

/- The walk of pidginref14.integer. Conditions as typed. -/
namespace Go.Proofs.YtppcjmbblkbkdaaGreatDoor
open Go.RowKit Pg

/-- The digits as the reference begins with them; then nothing for nought; then filled up to the precision. -/
def s0 (p : Part) (n : Int) : List UInt8 := digs (baseOf p) (p.conv == 88) (uOf p n)
def s1 (p : Part) (n : Int) : List UInt8 := if n = 0 ∧ p.prec = 0 then [] else s0 p n
theorem digs0 (base : Nat) (up : Bool) : digs base up 0 = [48] := by
  unfold digs
  rw [show (64 : Nat) = 63 + 1 from rfl, digsF, if_pos (by rw [Nat.zero_div]), Nat.zero_mod]
  cases up <;> rfl
theorem s0_nought (p : Part) : s0 p 0 = [48] := by
  unfold s0
  have : uOf p 0 = 0 := by unfold uOf u64; split <;> simp
  rw [this]
  exact digs0 _ _
theorem s0_body (p : Part) (n : Int) (h : n ≠ 0) : s0 p n = body0 p n := by
  unfold s0 body0 uOf
  rw [if_neg h]
theorem s1_len (p : Part) (n : Int) : (s1 p n).length ≤ 64 := by
  unfold s1
  split
  · simp
  · exact (digs_len _ _ _).2
/-- The digits, filled up. -/
theorem body1_s1 (p : Part) (n : Int) : body1 p n = if ((s1 p n).length : Int) < p.prec then List.replicate (p.prec.toNat - (s1 p n).length) 48 ++ s1 p n else s1 p n := by
  by_cases h0 : n = 0
  · subst h0
    have hb : body0 p 0 = [] := by unfold body0; rw [if_pos rfl]
    by_cases hp : p.prec = 0
    · have h1 : s1 p 0 = [] := by unfold s1; rw [if_pos ⟨rfl, hp⟩]
      rw [h1]
      unfold body1
      rw [hb, hp]
      rfl
    · have h1 : s1 p 0 = [48] := by unfold s1; rw [if_neg (fun h => hp h.2), s0_nought]
      rw [h1]
      unfold body1
      rw [hb]
      by_cases hn : p.prec < 0
      · rw [if_pos hn, if_neg (by show ¬ ((1 : Nat) : Int) < p.prec; omega)]; rfl
      · obtain ⟨k, hk⟩ : ∃ k : Nat, p.prec = (k + 1 : Nat) := ⟨p.prec.toNat - 1, by omega⟩
        rw [if_neg hn, hk]
        by_cases hk0 : k = 0
        · subst hk0; rfl
        · rw [if_pos (by show ((1 : Nat) : Int) < _; omega)]
          show List.replicate (k + 1 - 0) (48 : UInt8) ++ [] = List.replicate (k + 1 - 1) 48 ++ [48]
          rw [Nat.sub_zero, List.append_nil, Nat.add_sub_cancel, List.replicate_succ']
  · have h1 : s1 p n = body0 p n := by unfold s1; rw [if_neg (fun h => h0 h.1), s0_body p n h0]
    have hl : 0 < (body0 p n).length := by rw [← s0_body p n h0]; exact (digs_len _ _ _).1
    rw [h1]
    unfold body1
    by_cases hn : p.prec < 0
    · rw [if_pos hn, if_neg (by omega), show 1 - (body0 p n).length = 0 by omega]; rfl
    · rw [if_neg hn]
      by_cases hlt : ((body0 p n).length : Int) < p.prec
      · rw [if_pos hlt]
      · rw [if_neg hlt, show p.prec.toNat - (body0 p n).length = 0 by omega]; rfl

set_option maxRecDepth 100000 in
set_option maxHeartbeats 8000000 in
/-- pidginref14.integer. -/
theorem ref_integer (v : Value) (p : Part) (n : Int) (w : World) (hcv : p.conv = 100 ∨ p.conv = 117 ∨ p.conv = 111 ∨ p.conv = 120 ∨ p.conv = 88) (hw : p.width ≤ 5000) (hpr : p.prec < 5000) (hn1 : -9223372036854775808 ≤ n) (hn2 : n < 9223372036854775808) :
    Calls Tryz.prog 54 #[.agg #[v, .int .u8 p.conv, .bool p.fl.minus, .bool p.fl.plus, .bool p.fl.space, .bool p.fl.zero, .bool p.fl.alt, .int .i64 p.width, .int .i64 p.prec], .int .i64 n] w fun e w' => e = .returned (.string ⟨(integer p n).toArray⟩) ∧ Below w.heap.size w w' := by
  obtain ⟨U0, hU0⟩ : ∃ U, U = u64 n := ⟨_, rfl⟩
  have hu : IntKind.u64.wrap n = (U0 : Int) := by rw [IntKind.wrap_u64, hU0]; unfold u64; omega
  have hult : U0 < 18446744073709551616 := by rw [hU0]; unfold u64; omega
  have HU0 := Lib.hid hU0
  have HN1 := Lib.hid hn1
  have HN2 := Lib.hid hn2
  have HB0 : Hid (Below w.heap.size w (w.alloc (.cells #[v, .int .u8 p.conv, .bool p.fl.minus, .bool p.fl.plus, .bool p.fl.space, .bool p.fl.zero, .bool p.fl.alt, .int .i64 p.width, .int .i64 p.prec] 59))) := (Below.refl _ _).alloc (Nat.le_refl _) _
  have HK0 : Hid (Blk (w.alloc (.cells #[v, .int .u8 p.conv, .bool p.fl.minus, .bool p.fl.plus, .bool p.fl.space, .bool p.fl.zero, .bool p.fl.alt, .int .i64 p.width, .int .i64 p.prec] 59)) w.heap.size 59 (partCells v p)) := Blk.new w _ _
  have HCV := Lib.hid hcv
  clear hU0 hn1 hn2 hcv
  go_enter Tryz.func54, Tryz.ntmps54
  go_upto_block 0 with fail
  go_cut [0, 5, 6] (fun _ a b wx => ∃ S T : ByteArray, Hid (bl S = Pg.ahead p n) ∧ Hid (bl T = s0 p n) ∧ a = .string S ∧ b = .string T ∧ Hid (Below w.heap.size w wx) ∧ Hid (Blk wx w.heap.size 59 (partCells v p)))
  case first =>
    rcases HCV.out with hc | hc | hc | hc | hc
    · have e100 := eqT hc
      simp only [Int.cast_ofNat_Int] at e100
      have hb10 := bs10 (p := p) (by omega) (by omega) (by omega)
      have h88 : (p.conv == 88) = false := by rw [hc]; rfl
      by_cases hneg : n < 0
      · obtain ⟨k, hk⟩ : ∃ k : Nat, n = -(k : Int) := ⟨(-n).toNat, by omega⟩
        have d := decide_eq_true hneg
        have HA := Lib.hid (ah_neg hc hneg)
        have hk1 : 1 ≤ k := by omega
        have hkp : 0 < k := by omega
        have hk2 : k ≤ 9223372036854775808 := by have := HN1.out; omega
        have hs0 : s0 p n = digs 10 false k := by unfold s0; rw [← uOf_neg hc hneg, ← hb10, h88, hk]; simp
        subst hk
        have CT := Lib.hid (ref_Text_neg k (w.alloc (.cells #[v, .int .u8 p.conv, .bool p.fl.minus, .bool p.fl.plus, .bool p.fl.space, .bool p.fl.zero, .bool p.fl.alt, .int .i64 p.width, .int .i64 p.prec] 59)) hk1 hk2)
        obtain ⟨SS, hSS⟩ : ∃ SS : ByteArray, ⟨(45 :: digs 10 false k).toArray⟩ = SS := ⟨_, rfl⟩
        have hbs : bl SS = 45 :: digs 10 false k := by rw [← hSS, bl_mk]
        have hsz : 1 ≤ SS.size := by rw [← bl_length, hbs]; simp
        have hsz2 : SS.size ≤ 65 := by rw [← bl_length, hbs]; have := (digs_len 10 false k).2; simp; omega
        obtain ⟨T, hT⟩ : ∃ T, T = SS.extract 1 SS.size := ⟨_, rfl⟩
        have rs : ∀ W, (Instr.slice 9 (.string SS) (some (.int .i64 1)) none none).run Tryz.prog W = .ok (.string T) W := fun W => by
          rw [run_slice_string_from_if W 9 SS .i64 1 Tryz.underlying9, if_pos (by omega), hT]; rfl
        have HT : Hid (bl T = s0 p (-(k : Int))) := by show _ = _; rw [hs0, hT, bl_tail, hbs]; rfl
        have ct := CT.out
        rw [hSS] at ct
        have CT := Lib.hid ct
        clear hc hneg hk1 hk2 hs0 hSS hbs hT hu hb10 h88 ct
        go_upto_region 9 with (go_at_call 6; refine CT.out.mono ?_; rintro e w2 ⟨rfl, hb2⟩; obtain ⟨x0, x1, x2, x3, x4, x5, x6, x7, x8⟩ := allCells (v := v) (p := p) (HK0.out.below hb2 (by simp)); have HB2 := Lib.hid (HB0.out.trans (hb2.mono HB0.out.size)); have HK2 := Lib.hid (HK0.out.below hb2 (by simp)); clear hb2)
        go_region
        all_goals go_wp2_with fail
        all_goals go_meet
        all_goals exact ⟨_, _, HA, HT, rfl, rfl, by first | exact HB2 | exact HB2.out.drew, by first | exact HK2 | exact HK2.out.drew⟩
      · obtain ⟨k, hk⟩ : ∃ k : Nat, n = (k : Int) := ⟨n.toNat, by omega⟩
        have d := decide_eq_false hneg
        have hk2 : k < 9223372036854775808 := by have := HN2.out; omega
        have hs0 : s0 p n = digs 10 false k := by unfold s0; rw [← uOf_pos (fun h => hneg h.2), ← hb10, h88, hk]; unfold u64; congr 1; omega
        have hah : (p.fl.plus = true → bl (⟨#[43]⟩ : ByteArray) = Pg.ahead p n) ∧ (p.fl.plus = false → p.fl.space = true → bl (⟨#[32]⟩ : ByteArray) = Pg.ahead p n) ∧ (p.fl.plus = false → p.fl.space = false → bl (⟨#[]⟩ : ByteArray) = Pg.ahead p n) := ⟨fun h => ah_plus hc hneg h, fun h h2 => ah_space hc hneg h h2, fun h h2 => ah_none hc hneg h h2⟩
        subst hk
        have CT := Lib.hid (ref_Text_nat k (w.alloc (.cells #[v, .int .u8 p.conv, .bool p.fl.minus, .bool p.fl.plus, .bool p.fl.space, .bool p.fl.zero, .bool p.fl.alt, .int .i64 p.width, .int .i64 p.prec] 59)) hk2)
        obtain ⟨T, hT⟩ : ∃ T : ByteArray, ⟨(digs 10 false k).toArray⟩ = T := ⟨_, rfl⟩
        have HT : Hid (bl T = s0 p (k : Int)) := by show _ = _; rw [hs0, ← hT, bl_mk]
        have ct := CT.out
        rw [hT] at ct
        have CT := Lib.hid ct
        have HAH := Lib.hid hah
        clear hc hneg hk2 hs0 hT hu hb10 h88 hah ct
        cases hp : p.fl.plus
        · cases hs : p.fl.space
          · have HA := Lib.hid (HAH.out.2.2 hp hs)
            rw [hp, hs] at HB0 HK0 CT
            go_wp2_with (go_at_call 6; refine CT.out.mono ?_; rintro e w2 ⟨rfl, hb2⟩; obtain ⟨x0, x1, x2, x3, x4, x5, x6, x7, x8⟩ := allCells (v := v) (p := p) (HK0.out.below hb2 (by simp)); have HB2 := Lib.hid (HB0.out.trans (hb2.mono HB0.out.size)); have HK2 := Lib.hid (HK0.out.below hb2 (by simp)); clear hb2)
            go_meet
            exact ⟨_, _, HA, HT, rfl, rfl, HB2, HK2⟩
          · have HA := Lib.hid (HAH.out.2.1 hp hs)
            rw [hp, hs] at HB0 HK0 CT
            go_wp2_with (go_at_call 6; refine CT.out.mono ?_; rintro e w2 ⟨rfl, hb2⟩; obtain ⟨x0, x1, x2, x3, x4, x5, x6, x7, x8⟩ := allCells (v := v) (p := p) (HK0.out.below hb2 (by simp)); have HB2 := Lib.hid (HB0.out.trans (hb2.mono HB0.out.size)); have HK2 := Lib.hid (HK0.out.below hb2 (by simp)); clear hb2)
            go_meet
            exact ⟨_, _, HA, HT, rfl, rfl, HB2, HK2⟩
        · have HA := Lib.hid (HAH.out.1 hp)
          rw [hp] at HB0 HK0 CT
          go_wp2_with (go_at_call 6; refine CT.out.mono ?_; rintro e w2 ⟨rfl, hb2⟩; obtain ⟨x0, x1, x2, x3, x4, x5, x6, x7, x8⟩ := allCells (v := v) (p := p) (HK0.out.below hb2 (by simp)); have HB2 := Lib.hid (HB0.out.trans (hb2.mono HB0.out.size)); have HK2 := Lib.hid (HK0.out.below hb2 (by simp)); clear hb2)
          go_meet
          exact ⟨_, _, HA, HT, rfl, rfl, HB2, HK2⟩
    · have e117 := eqT hc
      have e100 := eqF (x := p.conv) (n := 100) (by omega)
      simp only [Int.cast_ofNat_Int] at e117 e100
      have hbb : 10 = baseOf p := bs10 (by omega) (by omega) (by omega)
      have h88 : (p.conv == 88) = false := by rw [hc]; rfl
      have HA := Lib.hid (ah_no (n := n) (p := p) (by omega) (by omega) (by omega))
      have CB := ref_Base U0 10 false (w.alloc (.cells #[v, .int .u8 p.conv, .bool p.fl.minus, .bool p.fl.plus, .bool p.fl.space, .bool p.fl.zero, .bool p.fl.alt, .int .i64 p.width, .int .i64 p.prec] 59)) hult (by omega) (by omega)
      obtain ⟨T, hT⟩ : ∃ T : ByteArray, ⟨(digs 10 false U0).toArray⟩ = T := ⟨_, rfl⟩
      have HT : Hid (bl T = s0 p n) := by show _ = _; unfold s0; rw [← uOf_pos (fun h => by omega), ← hbb, h88, ← hT, bl_mk, HU0.out]
      rw [hT] at CB
      have CB := Lib.hid CB
      clear hc hbb h88 hT hult
      go_wp2_with (go_at_call 16; refine CB.out.mono ?_; rintro e w2 ⟨rfl, hb2⟩; obtain ⟨x0, x1, x2, x3, x4, x5, x6, x7, x8⟩ := allCells (v := v) (p := p) (HK0.out.below hb2 (by simp)); have HB2 := Lib.hid (HB0.out.trans (hb2.mono HB0.out.size)); have HK2 := Lib.hid (HK0.out.below hb2 (by simp)); clear hb2)
      go_meet
      exact ⟨_, _, HA, HT, rfl, rfl, HB2, HK2⟩
    · have e111 := eqT hc
      have e100 := eqF (x := p.conv) (n := 100) (by omega)
      have e117 := eqF (x := p.conv) (n := 117) (by omega)
      simp only [Int.cast_ofNat_Int] at e111 e100 e117
      have hbb : 8 = baseOf p := bs8 hc
      have h88 : (p.conv == 88) = false := by rw [hc]; rfl
      have HA := Lib.hid (ah_no (n := n) (p := p) (by omega) (by omega) (by omega))
      have CB := ref_Base U0 8 false (w.alloc (.cells #[v, .int .u8 p.conv, .bool p.fl.minus, .bool p.fl.plus, .bool p.fl.space, .bool p.fl.zero, .bool p.fl.alt, .int .i64 p.width, .int .i64 p.prec] 59)) hult (by omega) (by omega)
      obtain ⟨T, hT⟩ : ∃ T : ByteArray, ⟨(digs 8 false U0).toArray⟩ = T := ⟨_, rfl⟩
      have HT : Hid (bl T = s0 p n) := by show _ = _; unfold s0; rw [← uOf_pos (fun h => by omega), ← hbb, h88, ← hT, bl_mk, HU0.out]
      rw [hT] at CB
      have CB := Lib.hid CB
      clear hc hbb h88 hT hult
      go_wp2_with (go_at_call 16; refine CB.out.mono ?_; rintro e w2 ⟨rfl, hb2⟩; obtain ⟨x0, x1, x2, x3, x4, x5, x6, x7, x8⟩ := allCells (v := v) (p := p) (HK0.out.below hb2 (by simp)); have HB2 := Lib.hid (HB0.out.trans (hb2.mono HB0.out.size)); have HK2 := Lib.hid (HK0.out.below hb2 (by simp)); clear hb2)
      go_meet
      exact ⟨_, _, HA, HT, rfl, rfl, HB2, HK2⟩
    · have e88 := eqF (x := p.conv) (n := 88) (by omega)
      have e100 := eqF (x := p.conv) (n := 100) (by omega)
      have e117 := eqF (x := p.conv) (n := 117) (by omega)
      have e111 := eqF (x := p.conv) (n := 111) (by omega)
      simp only [Int.cast_ofNat_Int] at e88 e100 e117 e111
      have hbb : 16 = baseOf p := bs16 (.inl hc)
      have h88 : (p.conv == 88) = false := by rw [hc]; rfl
      have CB := ref_Base U0 16 false (w.alloc (.cells #[v, .int .u8 p.conv, .bool p.fl.minus, .bool p.fl.plus, .bool p.fl.space, .bool p.fl.zero, .bool p.fl.alt, .int .i64 p.width, .int .i64 p.prec] 59)) hult (by omega) (by omega)
      obtain ⟨T, hT⟩ : ∃ T : ByteArray, ⟨(digs 16 false U0).toArray⟩ = T := ⟨_, rfl⟩
      have HT : Hid (bl T = s0 p n) := by show _ = _; unfold s0; rw [← uOf_pos (fun h => by omega), ← hbb, h88, ← hT, bl_mk, HU0.out]
      rw [hT] at CB
      have CB := Lib.hid CB
      have k1 := fun (W : World) => oneByte p.conv (by omega) W
      by_cases ha : p.fl.alt = true ∧ n ≠ 0
      · have HA := Lib.hid (ah_hex (p := p) (.inl hc) ha.1 ha.2 p.conv rfl)
        have ha1 := ha.1
        have ha2 : (n != 0) = true := bne_iff_ne.2 ha.2
        rw [ha1] at HB0 HK0 CB
        clear hc hbb h88 hT hult ha
        go_wp2_with (go_at_call 16; refine CB.out.mono ?_; rintro e w2 ⟨rfl, hb2⟩; obtain ⟨x0, x1, x2, x3, x4, x5, x6, x7, x8⟩ := allCells (v := v) (p := p) (HK0.out.below hb2 (by simp)); have HB2 := Lib.hid (HB0.out.trans (hb2.mono HB0.out.size)); have HK2 := Lib.hid (HK0.out.below hb2 (by simp)); clear hb2)
        go_meet
        exact ⟨_, _, HA, HT, rfl, rfl, HB2.out.alloc HB2.out.size _, HK2.out.alloc _⟩
      · have HA := Lib.hid (ah_hexno (p := p) (n := n) (by omega) (by by_cases hn : n = 0; exact .inr hn; left; cases h : p.fl.alt; rfl; exact absurd ⟨h, hn⟩ ha))
        cases hal : p.fl.alt
        · rw [hal] at HB0 HK0 CB
          clear hc hbb h88 hT hult ha
          go_wp2_with (go_at_call 16; refine CB.out.mono ?_; rintro e w2 ⟨rfl, hb2⟩; obtain ⟨x0, x1, x2, x3, x4, x5, x6, x7, x8⟩ := allCells (v := v) (p := p) (HK0.out.below hb2 (by simp)); have HB2 := Lib.hid (HB0.out.trans (hb2.mono HB0.out.size)); have HK2 := Lib.hid (HK0.out.below hb2 (by simp)); clear hb2)
          go_meet
          exact ⟨_, _, HA, HT, rfl, rfl, HB2, HK2⟩
        · have ha2 : (n != 0) = false := by
            rw [bne_eq_false_iff_eq]
            by_cases hn : n = 0
            · exact hn
            · exact absurd ⟨hal, hn⟩ ha
          rw [hal] at HB0 HK0 CB
          clear hc hbb h88 hT hult ha
          go_wp2_with (go_at_call 16; refine CB.out.mono ?_; rintro e w2 ⟨rfl, hb2⟩; obtain ⟨x0, x1, x2, x3, x4, x5, x6, x7, x8⟩ := allCells (v := v) (p := p) (HK0.out.below hb2 (by simp)); have HB2 := Lib.hid (HB0.out.trans (hb2.mono HB0.out.size)); have HK2 := Lib.hid (HK0.out.below hb2 (by simp)); clear hb2)
          go_meet
          exact ⟨_, _, HA, HT, rfl, rfl, HB2, HK2⟩
    · have e88 := eqT hc
      have e100 := eqF (x := p.conv) (n := 100) (by omega)
      have e117 := eqF (x := p.conv) (n := 117) (by omega)
      have e111 := eqF (x := p.conv) (n := 111) (by omega)
      simp only [Int.cast_ofNat_Int] at e88 e100 e117 e111
      have hbb : 16 = baseOf p := bs16 (.inr hc)
      have h88 : (p.conv == 88) = true := by rw [hc]; rfl
      have CB := ref_Base U0 16 true (w.alloc (.cells #[v, .int .u8 p.conv, .bool p.fl.minus, .bool p.fl.plus, .bool p.fl.space, .bool p.fl.zero, .bool p.fl.alt, .int .i64 p.width, .int .i64 p.prec] 59)) hult (by omega) (by omega)
      obtain ⟨T, hT⟩ : ∃ T : ByteArray, ⟨(digs 16 true U0).toArray⟩ = T := ⟨_, rfl⟩
      have HT : Hid (bl T = s0 p n) := by show _ = _; unfold s0; rw [← uOf_pos (fun h => by omega), ← hbb, h88, ← hT, bl_mk, HU0.out]
      rw [hT] at CB
      have CB := Lib.hid CB
      have k1 := fun (W : World) => oneByte p.conv (by omega) W
      by_cases ha : p.fl.alt = true ∧ n ≠ 0
      · have HA := Lib.hid (ah_hex (p := p) (.inr hc) ha.1 ha.2 p.conv rfl)
        have ha1 := ha.1
        have ha2 : (n != 0) = true := bne_iff_ne.2 ha.2
        rw [ha1] at HB0 HK0 CB
        clear hc hbb h88 hT hult ha
        go_wp2_with (go_at_call 16; refine CB.out.mono ?_; rintro e w2 ⟨rfl, hb2⟩; obtain ⟨x0, x1, x2, x3, x4, x5, x6, x7, x8⟩ := allCells (v := v) (p := p) (HK0.out.below hb2 (by simp)); have HB2 := Lib.hid (HB0.out.trans (hb2.mono HB0.out.size)); have HK2 := Lib.hid (HK0.out.below hb2 (by simp)); clear hb2)
        go_meet
        exact ⟨_, _, HA, HT, rfl, rfl, HB2.out.alloc HB2.out.size _, HK2.out.alloc _⟩
      · have HA := Lib.hid (ah_hexno (p := p) (n := n) (by omega) (by by_cases hn : n = 0; exact .inr hn; left; cases h : p.fl.alt; rfl; exact absurd ⟨h, hn⟩ ha))
        cases hal : p.fl.alt
        · rw [hal] at HB0 HK0 CB
          clear hc hbb h88 hT hult ha
          go_wp2_with (go_at_call 16; refine CB.out.mono ?_; rintro e w2 ⟨rfl, hb2⟩; obtain ⟨x0, x1, x2, x3, x4, x5, x6, x7, x8⟩ := allCells (v := v) (p := p) (HK0.out.below hb2 (by simp)); have HB2 := Lib.hid (HB0.out.trans (hb2.mono HB0.out.size)); have HK2 := Lib.hid (HK0.out.below hb2 (by simp)); clear hb2)
          go_meet
          exact ⟨_, _, HA, HT, rfl, rfl, HB2, HK2⟩
        · have ha2 : (n != 0) = false := by
            rw [bne_eq_false_iff_eq]
            by_cases hn : n = 0
            · exact hn
            · exact absurd ⟨hal, hn⟩ ha
          rw [hal] at HB0 HK0 CB
          clear hc hbb h88 hT hult ha
          go_wp2_with (go_at_call 16; refine CB.out.mono ?_; rintro e w2 ⟨rfl, hb2⟩; obtain ⟨x0, x1, x2, x3, x4, x5, x6, x7, x8⟩ := allCells (v := v) (p := p) (HK0.out.below hb2 (by simp)); have HB2 := Lib.hid (HB0.out.trans (hb2.mono HB0.out.size)); have HK2 := Lib.hid (HK0.out.below hb2 (by simp)); clear hb2)
          go_meet
          exact ⟨_, _, HA, HT, rfl, rfl, HB2, HK2⟩
  case rest =>
    obtain ⟨S, T, HA, HT, rfl, rfl, HB, HK⟩ := hcut
    obtain ⟨w3, hw3⟩ : ∃ w3, w3 = wc := ⟨_, rfl⟩
    subst hw3
    obtain ⟨x0, x1, x2, x3, x4, x5, x6, x7, x8⟩ := allCells (v := v) (p := p) HK.out
    have hTs : T.size ≤ 64 := by rw [← bl_length, HT.out]; exact (digs_len _ _ _).2
    go_upto_region 18 with (fail)
    go_cut [54] (fun t wx => ∃ D : Bool, Hid (D = decide (n = 0 ∧ p.prec = 0)) ∧ t = .bool D ∧ wx = w3)
    case first =>
      by_cases h0 : n = 0
      · have e0 : (n == 0) = true := beq_iff_eq.2 h0
        by_cases hp : p.prec = 0
        · have ep : (p.prec == 0) = true := beq_iff_eq.2 hp
          have HD : Hid (true = decide (n = 0 ∧ p.prec = 0)) := (decide_eq_true ⟨h0, hp⟩).symm
          clear h0 hp
          go_wp2_with fail
          go_meet
          exact ⟨true, HD, rfl, rfl⟩
        · have ep : (p.prec == 0) = false := beq_eq_false_iff_ne.2 hp
          have HD : Hid (false = decide (n = 0 ∧ p.prec = 0)) := (decide_eq_false fun h => hp h.2).symm
          clear h0 hp
          go_wp2_with fail
          go_meet
          exact ⟨false, HD, rfl, rfl⟩
      · have e0 : (n == 0) = false := beq_eq_false_iff_ne.2 h0
        have HD : Hid (false = decide (n = 0 ∧ p.prec = 0)) := (decide_eq_false fun h => h0 h.1).symm
        clear h0
        go_wp2_with fail
        go_meet
        exact ⟨false, HD, rfl, rfl⟩
    case rest =>
      obtain ⟨D, HD, rfl, hwc⟩ := hcut
      have hwc := hwc.symm
      subst hwc
      go_upto_if 54 with (fail)
      go_cut [6] (fun b wx => ∃ T1 : ByteArray, Hid (bl T1 = s1 p n) ∧ b = .string T1 ∧ wx = w3)
      case first =>
        cases D
        · have HT1 : Hid (bl T = s1 p n) := by show _ = _; unfold s1; rw [if_neg (of_decide_eq_false HD.out.symm)]; exact HT.out
          go_wp2_with fail
          go_meet
          exact ⟨T, HT1, rfl, rfl⟩
        · have HT1 : Hid (bl (⟨#[]⟩ : ByteArray) = s1 p n) := by show _ = _; unfold s1; rw [if_pos (of_decide_eq_true HD.out.symm)]; rfl
          go_wp2_with fail
          go_meet
          exact ⟨_, HT1, rfl, rfl⟩
      case rest =>
        obtain ⟨T1, HT1, rfl, hwc⟩ := hcut
        have hwc := hwc.symm
        subst hwc
        have hT1 : T1.size ≤ 64 := by rw [← bl_length, HT1.out]; exact s1_len p n
        have hb1 := body1_s1 p n
        rw [← HT1.out, bl_length] at hb1
        have HB1 := Lib.hid hb1
        clear HT HD hb1
        go_upto_region 20 with (fail)
        go_cut [59] (fun t wx => ∃ D2 : Bool, Hid (D2 = decide ((T1.size : Int) < p.prec)) ∧ t = .bool D2 ∧ wx = w3)
        case first =>
          by_cases hl : (T1.size : Int) < p.prec
          · have el : decide ((T1.size : Int) < p.prec) = true := decide_eq_true hl
            have HD2 : Hid (true = decide ((T1.size : Int) < p.prec)) := el.symm
            go_wp2_with fail
            go_meet
            exact ⟨true, HD2, rfl, rfl⟩
          · have el : decide ((T1.size : Int) < p.prec) = false := decide_eq_false hl
            have HD2 : Hid (false = decide ((T1.size : Int) < p.prec)) := el.symm
            go_wp2_with fail
            go_meet
            exact ⟨false, HD2, rfl, rfl⟩
        case rest =>
          obtain ⟨D2, HD2, rfl, hwc⟩ := hcut
          have hwc := hwc.symm
          subst hwc
          go_upto_if 59 with (fail)
          go_cut [6] (fun b wx => ∃ T2 : ByteArray, Hid (bl T2 = body1 p n) ∧ T2.size ≤ 6000 ∧ b = .string T2 ∧ Hid (Below w.heap.size w wx) ∧ Hid (Blk wx w.heap.size 59 (partCells v p)))
          case first =>
            cases D2
            · have hb2 := HB1.out
              rw [if_neg (of_decide_eq_false HD2.out.symm)] at hb2
              have HB2 : Hid (bl T1 = body1 p n) := hb2.symm
              clear hb2
              go_wp2_with fail
              go_meet
              exact ⟨T1, HB2, by omega, rfl, HB, HK⟩
            · have hl := of_decide_eq_true HD2.out.symm
              have hb2 := HB1.out
              rw [if_pos hl] at hb2
              obtain ⟨m, hm⟩ : ∃ m, m = p.prec.toNat - T1.size := ⟨_, rfl⟩
              rw [← hm] at hb2
              have hmi : p.prec - (T1.size : Int) = (m : Int) := by omega
              have hm5 : m ≤ 5000 := by omega
              have CM := ref_many 48 m (by omega) w3
              obtain ⟨M, hM⟩ : ∃ M : ByteArray, ⟨(List.replicate m (48 : UInt8)).toArray⟩ = M := ⟨_, rfl⟩
              have hMs : M.size = m := by rw [← hM, rep_size]
              have HB2 : Hid (bl (M ++ T1) = body1 p n) := by show _ = _; rw [hb2, bl_app, ← hM, bl_mk]
              have hsz : (M ++ T1).size ≤ 6000 := by rw [ByteArray.size_append]; omega
              rw [hM] at CM
              have CM := Lib.hid CM
              clear hl hb2 hm hM
              go_wp2_with (go_at_call 67; refine CM.out.mono ?_; rintro e w4 ⟨rfl, hb4⟩; have HB4 := Lib.hid (HB.out.trans (hb4.mono HB.out.size)); have HK4 := Lib.hid (HK.out.below hb4 HK.out.lt); clear hb4)
              go_meet
              exact ⟨_, HB2, hsz, rfl, HB4, HK4⟩
          case rest =>
            obtain ⟨T2, HT2, hT2, rfl, HB4, HK4⟩ := hcut
            obtain ⟨w4, hw4⟩ : ∃ w4, w4 = wc := ⟨_, rfl⟩
            subst hw4
            clear x0 x1 x2 x3 x4 x5 x6 x7 x8
            obtain ⟨x0, x1, x2, x3, x4, x5, x6, x7, x8⟩ := allCells (v := v) (p := p) HK4.out
            clear HB1 HD2 HT1 HB HK
            go_upto_region 22 with (fail)
            go_cut [83] (fun t wx => ∃ D3 : Bool, Hid (D3 = decide (p.conv = 111 ∧ p.fl.alt = true ∧ (body1 p n).head? ≠ some 48)) ∧ t = .bool D3 ∧ wx = w4)
            case first =>
              by_cases h111 : p.conv = 111
              · have e111 := eqT h111
                simp only [Int.cast_ofNat_Int] at e111
                cases hal : p.fl.alt
                · have HD3 : Hid (false = decide (p.conv = 111 ∧ p.fl.alt = true ∧ (body1 p n).head? ≠ some 48)) := (decide_eq_false fun h => by rw [hal] at h; cases h.2.1).symm
                  rw [hal] at x6
                  clear h111
                  go_wp2_with fail
                  go_meet
                  exact ⟨false, HD3, rfl, rfl⟩
                · rw [hal] at x6
                  by_cases hz : T2.size = 0
                  · have ez := isEmpty_T hz
                    have hnil : body1 p n = [] := by rw [← HT2.out]; exact List.eq_nil_of_length_eq_zero (by rw [bl_length]; exact hz)
                    have HD3 : Hid (true = decide (p.conv = 111 ∧ p.fl.alt = true ∧ (body1 p n).head? ≠ some 48)) := (decide_eq_true ⟨h111, hal, by rw [hnil]; simp⟩).symm
                    clear h111 hz hnil
                    go_wp2_with fail
                    go_meet
                    exact ⟨true, HD3, rfl, rfl⟩
                  · have ez := isEmpty_F hz
                    have hp0 : 0 < T2.size := by omega
                    have hh : (body1 p n).head? = some T2[0] := by
                      rw [← HT2.out, List.head?_eq_getElem?, List.getElem?_eq_getElem (by rw [bl_length]; exact hp0)]
                      rfl
                    by_cases h48 : T2[0].toNat = 48
                    · have e48 : ((T2[0].toNat : Int) != 48) = false := by rw [bne_eq_false_iff_eq]; omega
                      have HD3 : Hid (false = decide (p.conv = 111 ∧ p.fl.alt = true ∧ (body1 p n).head? ≠ some 48)) := (decide_eq_false fun h => h.2.2 (by rw [hh]; congr 1; exact UInt8.toNat_inj.1 h48)).symm
                      clear h111 hz hh h48
                      go_wp2_with fail
                      go_meet
                      exact ⟨false, HD3, rfl, rfl⟩
                    · have e48 : ((T2[0].toNat : Int) != 48) = true := bne_iff_ne.2 (by omega)
                      have HD3 : Hid (true = decide (p.conv = 111 ∧ p.fl.alt = true ∧ (body1 p n).head? ≠ some 48)) := (decide_eq_true ⟨h111, hal, by rw [hh]; intro h; apply h48; rw [Option.some.inj h]; rfl⟩).symm
                      clear h111 hz hh h48
                      go_wp2_with fail
                      go_meet
                      exact ⟨true, HD3, rfl, rfl⟩
              · have e111 := eqF h111
                simp only [Int.cast_ofNat_Int] at e111
                have HD3 : Hid (false = decide (p.conv = 111 ∧ p.fl.alt = true ∧ (body1 p n).head? ≠ some 48)) := (decide_eq_false fun h => h111 h.1).symm
                clear h111
                go_wp2_with fail
                go_meet
                exact ⟨false, HD3, rfl, rfl⟩
            case rest =>
              obtain ⟨D3, HD3, rfl, hwc⟩ := hcut
              have hwc := hwc.symm
              subst hwc
              go_upto_if 83 with (fail)
              go_cut [6] (fun b wx => ∃ T3 : ByteArray, Hid (bl T3 = body2 p n) ∧ T3.size ≤ 6001 ∧ b = .string T3 ∧ wx = w4)
              case first =>
                cases D3
                · have HT3 : Hid (bl T2 = body2 p n) := by show _ = _; unfold body2; rw [if_neg (of_decide_eq_false HD3.out.symm)]; exact HT2.out
                  go_wp2_with fail
                  go_meet
                  exact ⟨T2, HT3, by omega, rfl, rfl⟩
                · have HT3 : Hid (bl ((⟨#[48]⟩ : ByteArray) ++ T2) = body2 p n) := by show _ = _; unfold body2; rw [if_pos (of_decide_eq_true HD3.out.symm), bl_app, HT2.out]; rfl
                  have hsz : ((⟨#[48]⟩ : ByteArray) ++ T2).size ≤ 6001 := by rw [ByteArray.size_append]; show 1 + T2.size ≤ _; omega
                  go_wp2_with fail
                  go_meet
                  exact ⟨_, HT3, hsz, rfl, rfl⟩
              case rest =>
                obtain ⟨T3, HT3, hT3, rfl, hwc⟩ := hcut
                have hwc := hwc.symm
                subst hwc
                have hS : S.size ≤ 1000 := by
                  rw [← bl_length, HA.out]
                  unfold Pg.ahead
                  repeat' split
                  all_goals simp
                have CF := Lib.hid (ref_field v p S T3 true w4 hw hS (by omega))
                go_wp2_with (go_at_call 51; refine CF.out.mono ?_; rintro e w5 ⟨rfl, hb5⟩; have HB5 := Lib.hid (HB4.out.trans (hb5.mono HB4.out.size)); clear hb5)
                go_ret
                rw [HA.out, HT3.out]
                exact ⟨rfl, HB5.out⟩
end Go.Proofs.YtppcjmbblkbkdaaGreatDoor

/- The walk of pidginref14.one. Conditions as typed. -/
namespace Go.Proofs.YtppcjmbblkbkdaaGreatDoor
open Go.RowKit Pg

set_option maxRecDepth 100000 in
set_option maxHeartbeats 8000000 in
/-- pidginref14.one. -/
theorem ref_one (v : Value) (p : Part) (S : ByteArray) (w : World) (hcv : p.conv = 99 ∨ p.conv = 115 ∨ p.conv = 98 ∨ p.conv = 100 ∨ p.conv = 117 ∨ p.conv = 111 ∨ p.conv = 120 ∨ p.conv = 88) (hw : p.width ≤ 5000) (hpr : p.prec < 5000) (hS : S.size ≤ 140737488351232) :
    Calls Tryz.prog 36 #[.agg #[v, .int .u8 p.conv, .bool p.fl.minus, .bool p.fl.plus, .bool p.fl.space, .bool p.fl.zero, .bool p.fl.alt, .int .i64 p.width, .int .i64 p.prec], .string S] w fun e w' => e = .returned (.tuple #[.string ⟨(one p (bl S)).1.toArray⟩, .bool (one p (bl S)).2.1, .int .i64 (one p (bl S)).2.2]) ∧ Below w.heap.size w w' := by
  have HB0 : Hid (Below w.heap.size w (w.alloc (.cells #[v, .int .u8 p.conv, .bool p.fl.minus, .bool p.fl.plus, .bool p.fl.space, .bool p.fl.zero, .bool p.fl.alt, .int .i64 p.width, .int .i64 p.prec] 59))) := (Below.refl _ _).alloc (Nat.le_refl _) _
  have HK0 : Hid (Blk (w.alloc (.cells #[v, .int .u8 p.conv, .bool p.fl.minus, .bool p.fl.plus, .bool p.fl.space, .bool p.fl.zero, .bool p.fl.alt, .int .i64 p.width, .int .i64 p.prec] 59)) w.heap.size 59 (partCells v p)) := Blk.new w _ _
  by_cases h99 : p.conv = 99
  · have HO : Hid (one p (bl S) = (filled p [] ((bl S).take 1) false, false, 0)) := by show _ = _; unfold one; rw [if_pos h99]
    have e99 := eqT h99
    simp only [Int.cast_ofNat_Int] at e99
    obtain ⟨m, hm⟩ : ∃ m, m = min 1 S.size := ⟨_, rfl⟩
    have hminA : (if (S.size : Int) < 1 then (S.size : Int) else 1) = (m : Int) := by split <;> omega
    have hminB : min 1 (S.size : Int) = (m : Int) := by omega
    obtain ⟨T, hT⟩ : ∃ T, T = S.extract 0 m := ⟨_, rfl⟩
    have hTb : bl T = (bl S).take 1 := by rw [hT, extract_take, bl_mk, hm, ← bl_length, ← List.take_take, List.take_length]
    have hTs : T.size ≤ 1 := by rw [← bl_length, hTb, List.length_take]; omega
    have rs : ∀ W, (Instr.slice 9 (.string S) none (some (.int .i64 (m : Int))) none).run Tryz.prog W = .ok (.string T) W := fun W => by
      rw [run_slice_string_to_if W 9 S .i64 _ Tryz.underlying9, if_pos (by omega), Int.toNat_natCast, hT]
    have CF := Lib.hid (fun W => ref_field v p ⟨#[]⟩ T false W hw (by decide) (by omega))
    have HTB := Lib.hid hTb
    clear hT hTb hm h99 hcv
    go_enter Tryz.func36, Tryz.ntmps36
    go_wp2_with (go_at_call 51; refine (CF.out _).mono ?_; rintro e w9 ⟨rfl, hb9⟩; have HB9 := Lib.hid (HB0.out.trans (hb9.mono HB0.out.size)); clear hb9)
    go_ret3
    rw [HO.out, ← HTB.out]
    exact ⟨rfl, HB9.out⟩
  have e99 := eqF h99
  by_cases h115 : p.conv = 115
  · have HO : Hid (one p (bl S) = (filled p [] (cut p (bl S)) false, false, 0)) := by show _ = _; unfold one; rw [if_neg h99, if_pos h115]
    have e115 := eqT h115
    have e98 := eqF (x := p.conv) (n := 98) (by omega)
    simp only [Int.cast_ofNat_Int] at e99 e115 e98
    clear h99 h115 hcv
    go_enter Tryz.func36, Tryz.ntmps36
    by_cases hp : 0 ≤ p.prec ∧ p.prec < S.size
    · have e1 : decide (0 ≤ p.prec) = true := decide_eq_true hp.1
      have e2 : decide (p.prec < (S.size : Int)) = true := decide_eq_true hp.2
      obtain ⟨T, hT⟩ : ∃ T, T = S.extract 0 p.prec.toNat := ⟨_, rfl⟩
      have hTb : bl T = (bl S).take p.prec.toNat := by rw [hT, extract_take, bl_mk]
      have hTs : T.size ≤ 140737488351232 := by rw [← bl_length, hTb, List.length_take, bl_length]; omega
      have rs : ∀ W, (Instr.slice 9 (.string S) none (some (.int .i64 p.prec)) none).run Tryz.prog W = .ok (.string T) W := fun W => by
        rw [run_slice_string_to_if W 9 S .i64 _ Tryz.underlying9, if_pos (by omega), hT]
      have HCT : Hid (cut p (bl S) = bl T) := by show _ = _; unfold cut; rw [if_pos (by rw [bl_length]; exact hp), hTb]
      have CF := Lib.hid (fun W => ref_field v p ⟨#[]⟩ T false W hw (by decide) (by omega))
      have hp1 := hp.1
      have hp2 := hp.2
      clear hT hTb hp
      go_wp2_with (go_at_call 51; refine (CF.out _).mono ?_; rintro e w9 ⟨rfl, hb9⟩; have HB9 := Lib.hid (HB0.out.trans (hb9.mono HB0.out.size)); clear hb9)
      go_ret3
      rw [HO.out, HCT.out]
      exact ⟨rfl, HB9.out⟩
    · have HCT : Hid (cut p (bl S) = bl S) := by show _ = _; unfold cut; rw [if_neg (by rw [bl_length]; exact hp)]
      have CF := Lib.hid (fun W => ref_field v p ⟨#[]⟩ S false W hw (by decide) (by omega))
      by_cases h0 : 0 ≤ p.prec
      · have e1 : decide (0 ≤ p.prec) = true := decide_eq_true h0
        have h2 : ¬ p.prec < (S.size : Int) := fun h => hp ⟨h0, h⟩
        have e2 : decide (p.prec < (S.size : Int)) = false := decide_eq_false h2
        clear hp
        go_wp2_with (go_at_call 51; refine (CF.out _).mono ?_; rintro e w9 ⟨rfl, hb9⟩; have HB9 := Lib.hid (HB0.out.trans (hb9.mono HB0.out.size)); clear hb9)
        go_ret3
        rw [HO.out, HCT.out]
        exact ⟨rfl, HB9.out⟩
      · have e1 : decide (0 ≤ p.prec) = false := decide_eq_false h0
        clear hp
        go_wp2_with (go_at_call 51; refine (CF.out _).mono ?_; rintro e w9 ⟨rfl, hb9⟩; have HB9 := Lib.hid (HB0.out.trans (hb9.mono HB0.out.size)); clear hb9)
        go_ret3
        rw [HO.out, HCT.out]
        exact ⟨rfl, HB9.out⟩
  have e115 := eqF h115
  by_cases h98 : p.conv = 98
  · have HO : Hid (one p (bl S) = (filled p [] (cut p (unesc (bl S)).1) false, (unesc (bl S)).2, 0)) := by show _ = _; unfold one; rw [if_neg h99, if_neg h115, if_pos h98]
    have e98 := eqT h98
    simp only [Int.cast_ofNat_Int] at e99 e115 e98
    have CE := ref_escaped S (w.alloc (.cells #[v, .int .u8 p.conv, .bool p.fl.minus, .bool p.fl.plus, .bool p.fl.space, .bool p.fl.zero, .bool p.fl.alt, .int .i64 p.width, .int .i64 p.prec] 59)) hS
    have hul := unesc_len (bl S)
    rw [bl_length] at hul
    generalize unesc (bl S) = u at *
    obtain ⟨ul, us⟩ := u
    simp only [] at HO CE hul
    obtain ⟨X, hX⟩ : ∃ X : ByteArray, ⟨ul.toArray⟩ = X := ⟨_, rfl⟩
    have hXb : bl X = ul := by rw [← hX, bl_mk]
    have hXs : X.size ≤ 140737488351232 := by rw [← bl_length, hXb]; omega
    rw [hX] at CE
    rw [← hXb] at HO
    have CE := Lib.hid CE
    clear h99 h115 h98 hcv hX hXb hul
    go_enter Tryz.func36, Tryz.ntmps36
    go_wp2_with fail
    refine CE.out.mono ?_
    rintro e w2 ⟨rfl, hb2⟩
    obtain ⟨x0, x1, x2, x3, x4, x5, x6, x7, x8⟩ := allCells (v := v) (p := p) (HK0.out.below hb2 (by simp))
    have HB2 := Lib.hid (HB0.out.trans (hb2.mono HB0.out.size))
    clear hb2
    by_cases hp : 0 ≤ p.prec ∧ p.prec < X.size
    · have e1 : decide (0 ≤ p.prec) = true := decide_eq_true hp.1
      have e2 : decide (p.prec < (X.size : Int)) = true := decide_eq_true hp.2
      obtain ⟨T, hT⟩ : ∃ T, T = X.extract 0 p.prec.toNat := ⟨_, rfl⟩
      have hTb : bl T = (bl X).take p.prec.toNat := by rw [hT, extract_take, bl_mk]
      have hTs : T.size ≤ 140737488351232 := by rw [← bl_length, hTb, List.length_take, bl_length]; omega
      have rs : ∀ W, (Instr.slice 9 (.string X) none (some (.int .i64 p.prec)) none).run Tryz.prog W = .ok (.string T) W := fun W => by
        rw [run_slice_string_to_if W 9 X .i64 _ Tryz.underlying9, if_pos (by omega), hT]
      have HCT : Hid (cut p (bl X) = bl T) := by show _ = _; unfold cut; rw [if_pos (by rw [bl_length]; exact hp), hTb]
      have CF := Lib.hid (fun W => ref_field v p ⟨#[]⟩ T false W hw (by decide) (by omega))
      have hp1 := hp.1
      have hp2 := hp.2
      clear hT hTb hp
      go_wp2_with (go_at_call 51; refine (CF.out _).mono ?_; rintro e w9 ⟨rfl, hb9⟩; have HB9 := Lib.hid (HB2.out.trans (hb9.mono HB2.out.size)); clear hb9)
      go_ret3
      rw [HO.out, HCT.out]
      exact ⟨rfl, HB9.out⟩
    · have HCT : Hid (cut p (bl X) = bl X) := by show _ = _; unfold cut; rw [if_neg (by rw [bl_length]; exact hp)]
      have CF := Lib.hid (fun W => ref_field v p ⟨#[]⟩ X false W hw (by decide) (by omega))
      by_cases h0 : 0 ≤ p.prec
      · have e1 : decide (0 ≤ p.prec) = true := decide_eq_true h0
        have h2 : ¬ p.prec < (X.size : Int) := fun h => hp ⟨h0, h⟩
        have e2 : decide (p.prec < (X.size : Int)) = false := decide_eq_false h2
        clear hp
        go_wp2_with (go_at_call 51; refine (CF.out _).mono ?_; rintro e w9 ⟨rfl, hb9⟩; have HB9 := Lib.hid (HB2.out.trans (hb9.mono HB2.out.size)); clear hb9)
        go_ret3
        rw [HO.out, HCT.out]
        exact ⟨rfl, HB9.out⟩
      · have e1 : decide (0 ≤ p.prec) = false := decide_eq_false h0
        clear hp
        go_wp2_with (go_at_call 51; refine (CF.out _).mono ?_; rintro e w9 ⟨rfl, hb9⟩; have HB9 := Lib.hid (HB2.out.trans (hb9.mono HB2.out.size)); clear hb9)
        go_ret3
        rw [HO.out, HCT.out]
        exact ⟨rfl, HB9.out⟩
  have e98 := eqF h98
  have HO : Hid (one p (bl S) = (integer p (num (bl S)).1, false, (num (bl S)).2)) := by show _ = _; unfold one; rw [if_neg h99, if_neg h115, if_neg h98]
  have hnr := num_range (bl S)
  have CN := ref_Number S (w.alloc (.cells #[v, .int .u8 p.conv, .bool p.fl.minus, .bool p.fl.plus, .bool p.fl.space, .bool p.fl.zero, .bool p.fl.alt, .int .i64 p.width, .int .i64 p.prec] 59)) (by unfold maxLen; omega)
  have CI := fun W => ref_integer v p (num (bl S)).1 W (by omega) hw hpr hnr.1 (by have := hnr.2; omega)
  generalize num (bl S) = nn at *
  obtain ⟨nv, nc⟩ := nn
  simp only [] at HO CN CI
  simp only [Int.cast_ofNat_Int] at e99 e115 e98
  have CN := Lib.hid CN
  have CI := Lib.hid CI
  clear h99 h115 h98 hcv hnr
  go_enter Tryz.func36, Tryz.ntmps36
  go_wp2_with fail
  refine CN.out.mono ?_
  rintro e w2 ⟨rfl, hb2⟩
  obtain ⟨x0, x1, x2, x3, x4, x5, x6, x7, x8⟩ := allCells (v := v) (p := p) (HK0.out.below hb2 (by simp))
  have HB2 := Lib.hid (HB0.out.trans (hb2.mono HB0.out.size))
  clear hb2
  go_wp2_with (go_at_call 54; refine (CI.out _).mono ?_; rintro e w3 ⟨rfl, hb3⟩; have HB3 := Lib.hid (HB2.out.trans (hb3.mono HB2.out.size)); clear hb3)
  go_ret3
  rw [HO.out]
  exact ⟨rfl, HB3.out⟩
end Go.Proofs.YtppcjmbblkbkdaaGreatDoor
