/- The walk of pidginlaw14.digits. Conditions as typed. -/
import Derived.Test.YtkecmfjjekagiaaDoorDig15
namespace Go.Proofs.YtkecmfjjekagiaaDoor
open Go.RowKit Pg

set_option maxRecDepth 100000 in
set_option maxHeartbeats 4000000 in
/-- pidginlaw14.digits of z, whose rest is k. -/
theorem digits14 (z : Int) (k : Nat) (hk : k < 2000) (hkz : (wrap64 (z.tmod 2000 + 2000)).tmod 2000 = (k : Int)) (w : World) :
    Calls Tryd.prog 34 #[.int .i64 z] w fun e w' => e = .returned (.string ⟨(dtx k).toArray⟩) ∧ Below w.heap.size w w' := by
  go_enter Tryd.func34, Tryd.ntmps34
  go_wp2_with fail
  clear hkz
  go_loopw [0, 3] (fun nv sv wr => ∃ (m f : Nat) (S : ByteArray), nv = .int .i64 m ∧ sv = .string S ∧ m < 4294967296 ∧ S.size + f ≤ 64 ∧ Hid (m < 10 ^ (f + 1) ∧ digsF (f + 1) 10 false m (bl S) = dtx k) ∧ Hid (Below w.heap.size w wr)) (fun nv _ _ => (intOf nv).toNat)
  case atStart => exact ⟨k, 63, ⟨#[]⟩, rfl, rfl, by omega, by decide, ⟨lt_pow (by omega) (by omega), rfl⟩, Below.refl _ _⟩
  case round =>
    obtain ⟨m, f, S, rfl, rfl, hm, hf, HD, HB⟩ := hrel
    have ev : ((48 + m % 10 : Nat) : Int) = 48 + (m : Int) % 10 := by omega
    have kb := fun (W : World) => oneByte (48 + m % 10) (by omega) W
    simp only [ev, ofNat_sign (d := m % 10) (by omega)] at kb
    clear ev
    have HX : Hid (∃ x, x = sign false (m % 10)) := ⟨_, rfl⟩
    obtain ⟨x, hx⟩ := HX.out
    rw [← hx] at kb
    have HXX := Lib.hid hx
    have hjoin : (⟨#[x]⟩ : ByteArray) ++ S = ⟨(x :: bl S).toArray⟩ := by
      have := ByteArray.mk_append_mk [x] (bl S)
      rw [mk_bl] at this
      exact this
    clear hx HX
    have HJ := Lib.hid hjoin
    clear hjoin
    have m1 : (m : Int).tmod 10 = (m : Int) % 10 := Int.tmod_eq_emod_of_nonneg (by omega)
    have m2 : (m : Int).tdiv 10 = (m : Int) / 10 := Int.tdiv_eq_ediv_of_nonneg (by omega)
    by_cases h0 : m / 10 = 0
    · have HE : Hid (dtx k = x :: bl S) := by
        show _ = _
        rw [← HD.out.2, digsF, if_pos h0, HXX.out]
      have e0 : ((m : Int) / 10 == 0) = true := beq_iff_eq.2 (by omega)
      go_wp2_with fail
      go_ret
      rw [HE.out, ← HJ.out]
      exact ⟨rfl, HB.out.alloc HB.out.size _⟩
    · obtain ⟨f, rfl⟩ := pow_pos' (by omega) h0 HD.out.1
      have HE : Hid (m / 10 < 10 ^ (f + 1) ∧ digsF (f + 1) 10 false (m / 10) (x :: bl S) = dtx k) := by
        refine ⟨div_lt (by omega) HD.out.1, ?_⟩
        rw [← HD.out.2, digsF_ne (f := f + 1) (n := m) h0, HXX.out]
      have hsz : ((⟨#[x]⟩ : ByteArray) ++ S).size ≤ S.size + 1 := by rw [ByteArray.size_append]; show 1 + S.size ≤ _; omega
      have HBJ : Hid (bl ((⟨#[x]⟩ : ByteArray) ++ S) = x :: bl S) := by show _ = _; rw [HJ.out, bl_mk]
      have e0 : ((m : Int) / 10 == 0) = false := beq_eq_false_iff_ne.2 (by omega)
      have H0 := Lib.hid h0
      clear h0
      go_wp2_with fail
      go_roundw
      case rel => exact ⟨m / 10, f, _, by go_num, rfl, by omega, by omega, by rw [HBJ.out]; exact HE.out, HB.out.alloc HB.out.size _⟩
      case measure =>
        have h0 := H0.out
        simp [intOf]; omega
end Go.Proofs.YtkecmfjjekagiaaDoor
