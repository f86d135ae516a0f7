/- Plain facts for fill.Run: what once leaves, what parse gives, norm. No conditions. -/
import Derived.Test.YtppcjmbblkbkdaaGreatDoorOnce
namespace Go.Proofs.YtppcjmbblkbkdaaGreatDoor
open Go.RowKit Pg

theorem once_bounds : ∀ (L : List Part) (O : List (List UInt8)) (r : Out) (t : Nat), r.out.length ≤ 65536 → r.stop = false →
    (once L O r t).1.out.length ≤ 65536 ∧ (once L O r t).1.codes.length ≤ r.codes.length + 2 * L.length ∧ ((once L O r t).2.2 = true → (once L O r t).1.stop = false)
  | [], O, r, t, h, hs => ⟨h, by simp [once], fun _ => hs⟩
  | p :: L, O, r, t, h, hs => by
    by_cases h0 : p.conv = 0
    · rw [once_lit h0]
      have hp := put_bounds r p.lit h
      split
      · have ih := once_bounds L O (put r p.lit).1 t hp.1 (hp.2.2.trans hs)
        simp only [List.length_cons]
        exact ⟨ih.1, by omega, ih.2.2⟩
      · simp only [List.length_cons]
        exact ⟨hp.1, by omega, fun h => by cases h⟩
    · rw [once_field h0]
      have hp := fout_bounds p (O.getD t []) r h
      split
      · rename_i hg
        have ih := once_bounds L O (fout p (O.getD t []) r) (if t < O.length then t + 1 else t) hp.1 (fout_go h hs hg)
        simp only [List.length_cons]
        exact ⟨ih.1, by omega, ih.2.2⟩
      · simp only [List.length_cons]
        exact ⟨hp.1, by omega, fun h => by cases h⟩
/-- How many operands are taken. -/
theorem once_taken : ∀ (L : List Part) (O : List (List UInt8)) (r : Out) (t : Nat), t ≤ O.length → t ≤ (once L O r t).2.1 ∧ (once L O r t).2.1 ≤ O.length ∧ ((once L O r t).2.2 = true → (once L O r t).2.1 < O.length → (once L O r t).2.1 = t + wants L)
  | [], O, r, t, h => ⟨Nat.le_refl _, h, fun _ _ => by simp [once, wants]⟩
  | p :: L, O, r, t, h => by
    by_cases h0 : p.conv = 0
    · rw [once_lit h0]
      have hw : wants (p :: L) = wants L := by simp [wants, h0]
      split
      · rw [hw]; exact once_taken L O _ t h
      · exact ⟨Nat.le_refl _, h, fun h => by cases h⟩
    · rw [once_field h0]
      have hw : wants (p :: L) = wants L + 1 := by simp [wants, h0]
      obtain ⟨t', ht'⟩ : ∃ t', t' = if t < O.length then t + 1 else t := ⟨_, rfl⟩
      rw [← ht']
      have hb : t ≤ t' ∧ t' ≤ O.length ∧ (t < O.length → t' = t + 1) ∧ (¬ t < O.length → t' = t) := by split at ht' <;> omega
      clear ht'
      split
      · have ih := once_taken L O (fout p (O.getD t []) r) t' hb.2.1
        generalize once L O (fout p (O.getD t []) r) t' = x at *
        refine ⟨by omega, ih.2.1, fun h1 h2 => ?_⟩
        have := ih.2.2 h1 h2
        rw [hw]
        omega
      · exact ⟨hb.1, hb.2.1, fun h => by cases h⟩
/-- norm turns nothing that once reads. -/
theorem norm_lit (p : Part) : (norm p).lit = p.lit := by unfold norm; split <;> rfl
theorem norm_conv (p : Part) : (norm p).conv = p.conv := by unfold norm; split <;> rfl
theorem norm_ne {p : Part} (h : p.conv ≠ 0) : norm p = p := by unfold norm; rw [if_neg h]
theorem once_norm : ∀ (L : List Part) (O : List (List UInt8)) (r : Out) (t : Nat), once (L.map norm) O r t = once L O r t
  | [], O, r, t => rfl
  | p :: L, O, r, t => by
    rw [List.map_cons]
    by_cases h0 : p.conv = 0
    · rw [once_lit h0, once_lit (by rw [norm_conv]; exact h0), norm_lit, once_norm L]
    · rw [norm_ne h0, once_field h0, once_field h0, once_norm L]

/-- What a parsed part is. -/
def GoodP (p : Part) : Prop := p.lit.length ≤ 1024 ∧ p.conv < 256 ∧ p.width ≤ 1000 ∧ p.prec ≤ 1000
theorem conv_small {l : List UInt8} {i : Nat} {p : Part} {j : Nat} (h : conv l i = .ok (p, j)) : p.conv < 256 ∧ p.width ≤ 1000 ∧ p.prec ≤ 1000 := by
  have hend : ∀ f n pr i2, n ≤ 1000 → pr ≤ 1000 → convEnd l i f n pr i2 = .ok (p, j) → p.conv < 256 ∧ p.width ≤ 1000 ∧ p.prec ≤ 1000 := by
    intro f n pr i2 hn hp h
    have hb := (l.getD i2 0).toNat_lt
    unfold convEnd at h
    split at h
    · cases h
    · split at h
      · split at h
        · cases h
        · cases h; exact ⟨by show 37 < 256; decide, hn, hp⟩
      · split at h
        · cases h; exact ⟨hb, hn, hp⟩
        · split at h
          · cases h; exact ⟨by show 100 < 256; decide, hn, hp⟩
          · cases h
  have hprec : ∀ f n i2, n ≤ 1000 → convPrec l i f n i2 = .ok (p, j) → p.conv < 256 ∧ p.width ≤ 1000 ∧ p.prec ≤ 1000 := by
    intro f n i2 hn h
    unfold convPrec at h
    split at h
    · cases hn2 : number (l.drop (i2 + 1)) with
      | none => rw [hn2] at h; cases h
      | some nk => rw [hn2] at h; exact hend _ _ _ _ hn (by have := (number_le hn2).1; omega) h
    · exact hend _ _ _ _ hn (by omega) h
  unfold conv convWidth at h
  cases hn : number (l.drop (i + (flags (l.drop i) fl0 0).2)) with
  | none => rw [hn] at h; cases h
  | some nk => rw [hn] at h; exact hprec _ _ _ (number_le hn).1 h
theorem good_render {L : List Part} {lit : List UInt8} (h : ∀ p ∈ L, GoodP p) (hl : lit.length ≤ 1024) : ∀ p ∈ render L lit, GoodP p := by
  unfold render
  split
  · exact h
  · intro p hp
    rcases List.mem_append.1 hp with hp | hp
    · exact h p hp
    · rw [List.mem_singleton.1 hp]
      exact ⟨hl, by show 0 < 256; decide, by show 0 ≤ 1000; decide, by show (-1 : Int) ≤ 1000; omega⟩
theorem parseF_good : ∀ (n : Nat) (b : List UInt8) (i : Nat) (L : List Part) (lit : List UInt8) (R : List Part), b.length ≤ 1024 → i ≤ b.length → L.length ≤ 2 * i → lit.length ≤ i → (∀ p ∈ L, GoodP p) → parseF n b i L lit = .ok R → R.length ≤ 2049 ∧ ∀ p ∈ R, GoodP p
  | 0, b, i, L, lit, R, hb, hi, hL, hl, hg, h => by
    cases h
    exact ⟨by have := render_length L lit; omega, good_render hg (by omega)⟩
  | n + 1, b, i, L, lit, R, hb, hi, hL, hl, hg, h => by
    by_cases hlt : i < b.length
    · by_cases h92 : (b.getD i 0).toNat = 92
      · by_cases he : (esc (b.drop (i + 1))).2 = 0
        · rw [parseF_esc0 hlt h92 he] at h; cases h
        · rw [parseF_esc hlt h92 he] at h
          have hle := esc_le (b.drop (i + 1))
          rw [List.length_drop] at hle
          exact parseF_good n b _ L _ R hb (by omega) (by omega) (by simp; omega) hg h
      · by_cases h37 : (b.getD i 0).toNat = 37
        · cases hc : conv b (i + 1) with
          | error e => rw [parseF_err hlt h37 hc] at h; cases h
          | ok pj =>
            obtain ⟨p, j⟩ := pj
            obtain ⟨_, hpl, hij, hj⟩ := conv_facts hc
            have hsm := conv_small hc
            by_cases hp : p.conv = 37
            · rw [parseF_pct hlt h37 hc hp] at h
              exact parseF_good n b _ L _ R hb hj (by omega) (by simp; omega) hg h
            · rw [parseF_conv hlt h37 hc hp] at h
              have hrl := render_length L lit
              refine parseF_good n b _ _ _ R hb hj (by simp; omega) (by simp) (fun q hq => ?_) h
              rcases List.mem_append.1 hq with hq | hq
              · exact good_render hg (by omega) q hq
              · rw [List.mem_singleton.1 hq]
                exact ⟨by rw [hpl]; decide, hsm⟩
        · rw [parseF_byte hlt h92 h37] at h
          exact parseF_good n b _ L _ R hb (by omega) (by omega) (by simp; omega) hg h
    · rw [parseF_end hlt] at h
      cases h
      exact ⟨by have := render_length L lit; omega, good_render hg (by omega)⟩
theorem parse_good {b : List UInt8} {L : List Part} (h : parse b = .ok L) : L.length ≤ 2049 ∧ ∀ p ∈ L, GoodP p := by
  unfold parse at h
  split at h
  · cases h
  · exact parseF_good b.length b 0 [] [] L (by omega) (by omega) (by simp) (by simp) (by simp) h
end Go.Proofs.YtppcjmbblkbkdaaGreatDoor
