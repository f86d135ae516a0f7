/- The walk of pidginlaw15.digits. Conditions as typed. -/
import Derived.Test.YtkecmfjjekagiaaDoorPrintf
import Derived.Test.YtkecmfjjekagiaaDoorFillP
namespace Go.Proofs.YtkecmfjjekagiaaDoor
open Go.RowKit Pg

theorem digsF_ne {base : Nat} {up : Bool} {f n : Nat} {acc : List UInt8} (h : n / base ≠ 0) : digsF (f + 1) base up n acc = digsF f base up (n / base) (sign up (n % base) :: acc) := by rw [digsF, if_neg h]
theorem ofNat_sign {d : Nat} (h : d < 10) : UInt8.ofNat (48 + d) = sign false d := by unfold sign; rw [if_pos h]
set_option maxRecDepth 100000 in
set_option maxHeartbeats 4000000 in
/-- pidginlaw15.digits. -/
theorem digits15 (n : Nat) (hn : n < 4294967296) (w : World) :
    Calls Tryd.prog 41 #[.int .u32 n] w fun e w' => e = .returned (.string ⟨(dtx n).toArray⟩) ∧ Below w.heap.size w w' := by
  go_enter Tryd.func41, Tryd.ntmps41
  go_wp2_with fail
  go_loopw [0, 3] (fun nv sv wr => ∃ (m f : Nat) (S : ByteArray), nv = .int .u32 m ∧ sv = .string S ∧ m < 4294967296 ∧ S.size + f ≤ 64 ∧ Hid (m < 10 ^ (f + 1) ∧ digsF (f + 1) 10 false m (bl S) = dtx n) ∧ Hid (Below w.heap.size w wr)) (fun nv _ _ => (intOf nv).toNat)
  case atStart => exact ⟨n, 63, ⟨#[]⟩, rfl, rfl, hn, by decide, ⟨lt_pow (by omega) (by omega), rfl⟩, Below.refl _ _⟩
  case round =>
    obtain ⟨m, f, S, rfl, rfl, hm, hf, HD, HB⟩ := hrel
    have ev : ((48 + m % 10 : Nat) : Int) = 48 + (m : Int) % 10 := by omega
    have kb := fun (W : World) => oneByte (48 + m % 10) (by omega) W
    simp only [ev, ofNat_sign (d := m % 10) (by omega)] at kb
    clear ev
    have HX : Hid (∃ x, x = sign false (m % 10)) := ⟨_, rfl⟩
    obtain ⟨x, hx⟩ := HX.out
    rw [← hx] at kb
    have HXX := Lib.hid hx
    have hjoin : (⟨#[x]⟩ : ByteArray) ++ S = ⟨(x :: bl S).toArray⟩ := by
      have := ByteArray.mk_append_mk [x] (bl S)
      rw [mk_bl] at this
      exact this
    clear hx HX
    have HJ := Lib.hid hjoin
    clear hjoin
    by_cases h0 : m / 10 = 0
    · have HE : Hid (dtx n = x :: bl S) := by
        show _ = _
        rw [← HD.out.2, digsF, if_pos h0, HXX.out]
      have e0 : ((m : Int) / 10 == 0) = true := beq_iff_eq.2 (by omega)
      go_wp2_with fail
      go_ret
      rw [HE.out, ← HJ.out]
      exact ⟨rfl, HB.out.alloc HB.out.size _⟩
    · obtain ⟨f, rfl⟩ := pow_pos' (by omega) h0 HD.out.1
      have HE : Hid (m / 10 < 10 ^ (f + 1) ∧ digsF (f + 1) 10 false (m / 10) (x :: bl S) = dtx n) := by
        refine ⟨div_lt (by omega) HD.out.1, ?_⟩
        rw [← HD.out.2, digsF_ne (f := f + 1) (n := m) h0, HXX.out]
      have hsz : ((⟨#[x]⟩ : ByteArray) ++ S).size ≤ S.size + 1 := by rw [ByteArray.size_append]; show 1 + S.size ≤ _; omega
      have HBJ : Hid (bl ((⟨#[x]⟩ : ByteArray) ++ S) = x :: bl S) := by show _ = _; rw [HJ.out, bl_mk]
      have e0 : ((m : Int) / 10 == 0) = false := beq_eq_false_iff_ne.2 (by omega)
      have H0 := Lib.hid h0
      clear h0
      go_wp2_with fail
      go_roundw
      case rel => exact ⟨m / 10, f, _, by go_num, rfl, by omega, by omega, by rw [HBJ.out]; exact HE.out, HB.out.alloc HB.out.size _⟩
      case measure =>
        have h0 := H0.out
        simp [intOf]; omega
end Go.Proofs.YtkecmfjjekagiaaDoor
