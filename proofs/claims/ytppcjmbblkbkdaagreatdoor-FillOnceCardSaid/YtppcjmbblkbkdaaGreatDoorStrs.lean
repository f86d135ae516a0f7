/- What the references' walks need of strings, digits and formats: bytes as a string, parsed parts are small. Conditions as typed. -/
import Derived.Test.YtppcjmbblkbkdaaGreatDoorParts
import Derived.Test.YtppcjmbblkbkdaaGreatDoorInteger
import Derived.Test.YtppcjmbblkbkdaaGreatDoorNums
import Derived.Test.YtppcjmbblkbkdaaGreatDoorCodeP
import Derived.Lib.BufferRead
namespace Go.Proofs.YtppcjmbblkbkdaaGreatDoor
open Go.RowKit Pg

theorem belowS (w : World) (o : Obj) : Below w.heap.size w (w.alloc o) := (Below.refl _ _).alloc (Nat.le_refl _) o
/-- Bytes that are read, as a string. -/
theorem bsS {w : World} {a : Option Addr} {cap : Nat} {l : List UInt8} (h : Bs w a cap l) : (convert 25 9 (.slice a l.length cap)).run Tryz.prog w = .ok (.string ⟨l.toArray⟩) w := by
  cases a with
  | none =>
    have : l = [] := by
      cases l with
      | nil => rfl
      | cons c t => obtain ⟨b, off, ha, _⟩ := h.2.2 0 (by simp); cases ha
    subst this
    exact Lib.run_convert_nil_bytes w 25 9 5 cap Tryz.underlying25 Tryz.underlying5 Tryz.underlying9
  | some ad =>
    refine run_convert_bytes_back w 25 9 5 ad cap l Tryz.underlying25 Tryz.underlying5 Tryz.underlying9 (fun j hj => ?_)
    obtain ⟨b, off, ha, hc⟩ := h.2.2 j hj
    obtain rfl : ad = ⟨b, off, none⟩ := by simpa using ha
    rw [addr_add, hc]
/-- What a parsed part is. -/
def GoodS (p : Part) : Prop := p.lit.length ≤ 1024 ∧ p.conv < 256 ∧ p.width ≤ 1000 ∧ p.prec ≤ 1000
theorem conv_smallS {l : List UInt8} {i : Nat} {p : Part} {j : Nat} (h : conv l i = .ok (p, j)) : p.conv < 256 ∧ p.width ≤ 1000 ∧ p.prec ≤ 1000 := by
  have hend : ∀ f n pr i2, n ≤ 1000 → pr ≤ 1000 → convEnd l i f n pr i2 = .ok (p, j) → p.conv < 256 ∧ p.width ≤ 1000 ∧ p.prec ≤ 1000 := by
    intro f n pr i2 hn hp h
    have hb := (l.getD i2 0).toNat_lt
    unfold convEnd at h
    split at h
    · cases h
    · split at h
      · split at h
        · cases h
        · cases h; exact ⟨by show 37 < 256; decide, hn, hp⟩
      · split at h
        · cases h; exact ⟨hb, hn, hp⟩
        · split at h
          · cases h; exact ⟨by show 100 < 256; decide, hn, hp⟩
          · cases h
  have hprec : ∀ f n i2, n ≤ 1000 → convPrec l i f n i2 = .ok (p, j) → p.conv < 256 ∧ p.width ≤ 1000 ∧ p.prec ≤ 1000 := by
    intro f n i2 hn h
    unfold convPrec at h
    split at h
    · cases hn2 : number (l.drop (i2 + 1)) with
      | none => rw [hn2] at h; cases h
      | some nk => rw [hn2] at h; exact hend _ _ _ _ hn (by have := (number_le hn2).1; omega) h
    · exact hend _ _ _ _ hn (by omega) h
  unfold conv convWidth at h
  cases hn : number (l.drop (i + (flags (l.drop i) fl0 0).2)) with
  | none => rw [hn] at h; cases h
  | some nk => rw [hn] at h; exact hprec _ _ _ (number_le hn).1 h
theorem good_renderS {L : List Part} {lit : List UInt8} (h : ∀ p ∈ L, GoodS p) (hl : lit.length ≤ 1024) : ∀ p ∈ render L lit, GoodS p := by
  unfold render
  split
  · exact h
  · intro p hp
    rcases List.mem_append.1 hp with hp | hp
    · exact h p hp
    · rw [List.mem_singleton.1 hp]
      exact ⟨hl, by show 0 < 256; decide, by show 0 ≤ 1000; decide, by show (-1 : Int) ≤ 1000; omega⟩
theorem parseF_goodS : ∀ (n : Nat) (b : List UInt8) (i : Nat) (L : List Part) (lit : List UInt8) (R : List Part), b.length ≤ 1024 → i ≤ b.length → L.length ≤ 2 * i → lit.length ≤ i → (∀ p ∈ L, GoodS p) → parseF n b i L lit = .ok R → R.length ≤ 2049 ∧ ∀ p ∈ R, GoodS p
  | 0, b, i, L, lit, R, hb, hi, hL, hl, hg, h => by
    cases h
    exact ⟨by have := render_length L lit; omega, good_renderS hg (by omega)⟩
  | n + 1, b, i, L, lit, R, hb, hi, hL, hl, hg, h => by
    by_cases hlt : i < b.length
    · by_cases h92 : (b.getD i 0).toNat = 92
      · by_cases he : (esc (b.drop (i + 1))).2 = 0
        · rw [parseF_esc0 hlt h92 he] at h; cases h
        · rw [parseF_esc hlt h92 he] at h
          have hle := esc_le (b.drop (i + 1))
          rw [List.length_drop] at hle
          exact parseF_goodS n b _ L _ R hb (by omega) (by omega) (by simp; omega) hg h
      · by_cases h37 : (b.getD i 0).toNat = 37
        · cases hc : conv b (i + 1) with
          | error e => rw [parseF_err hlt h37 hc] at h; cases h
          | ok pj =>
            obtain ⟨p, j⟩ := pj
            obtain ⟨_, hpl, hij, hj⟩ := conv_facts hc
            have hsm := conv_smallS hc
            by_cases hp : p.conv = 37
            · rw [parseF_pct hlt h37 hc hp] at h
              exact parseF_goodS n b _ L _ R hb hj (by omega) (by simp; omega) hg h
            · rw [parseF_conv hlt h37 hc hp] at h
              have hrl := render_length L lit
              refine parseF_goodS n b _ _ _ R hb hj (by simp; omega) (by simp) (fun q hq => ?_) h
              rcases List.mem_append.1 hq with hq | hq
              · exact good_renderS hg (by omega) q hq
              · rw [List.mem_singleton.1 hq]
                exact ⟨by rw [hpl]; decide, hsm⟩
        · rw [parseF_byte hlt h92 h37] at h
          exact parseF_goodS n b _ L _ R hb (by omega) (by omega) (by simp; omega) hg h
    · rw [parseF_end hlt] at h
      cases h
      exact ⟨by have := render_length L lit; omega, good_renderS hg (by omega)⟩
theorem parse_goodS {b : List UInt8} {L : List Part} (h : parse b = .ok L) : L.length ≤ 2049 ∧ ∀ p ∈ L, GoodS p := by
  unfold parse at h
  split at h
  · cases h
  · exact parseF_goodS b.length b 0 [] [] L (by omega) (by omega) (by simp) (by simp) (by simp) h
theorem ixS (z m : Int) (h0 : 0 < m) (h1 : m ≤ 5000) : ∃ k : Nat, (k : Int) < m ∧ (wrap64 (z.tmod m + m)).tmod m = (k : Int) := by
  have a := Int.lt_tmod_of_pos z h0
  have b := Int.tmod_lt_of_pos z h0
  have hw : wrap64 (z.tmod m + m) = z.tmod m + m := IntWalk.wrap64_in _ ⟨by omega, by omega⟩
  refine ⟨((z.tmod m + m) % m).toNat, ?_, ?_⟩
  · have := Int.emod_lt_of_pos (z.tmod m + m) h0
    have := Int.emod_nonneg (z.tmod m + m) (show m ≠ 0 by omega)
    omega
  · rw [hw, Int.tmod_eq_emod_of_nonneg (by omega)]
    have := Int.emod_nonneg (z.tmod m + m) (show m ≠ 0 by omega)
    omega
theorem digsF_neS {base : Nat} {up : Bool} {f n : Nat} {acc : List UInt8} (h : n / base ≠ 0) : digsF (f + 1) base up n acc = digsF f base up (n / base) (sign up (n % base) :: acc) := by rw [digsF, if_neg h]
theorem ofNat_signS {d : Nat} (h : d < 10) : UInt8.ofNat (48 + d) = sign false d := by unfold sign; rw [if_pos h]
end Go.Proofs.YtppcjmbblkbkdaaGreatDoor
