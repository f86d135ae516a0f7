/- Plain facts on two formats side by side, with no program in sight. No conditions. -/
import Derived.Test.YtkecmfjjekagiaaDoorPlain
import Derived.Test.YtkecmfjjekagiaaDoorRunP
namespace Go.Proofs.YtkecmfjjekagiaaDoor
open Go.RowKit
namespace Pg

/-! ### A format that ends does not look further -/
theorem digitsL_ext (base : Nat) (b : List UInt8) : ∀ (t : List UInt8) (n k : Nat) (o : Bool), (∃ c ∈ t, base ≤ dig c) → digitsL base (t ++ b) n k o = digitsL base t n k o
  | [], _, _, _, h => by obtain ⟨c, h, _⟩ := h; cases h
  | c :: t, n, k, o, h => by
    rw [List.cons_append, digitsL, digitsL]
    by_cases hd : dig c < base
    · have h' : ∃ c ∈ t, base ≤ dig c := by
        obtain ⟨x, hx, hb⟩ := h
        rcases List.mem_cons.1 hx with rfl | hx
        · omega
        · exact ⟨x, hx, hb⟩
      rw [if_pos hd, if_pos hd, digitsL_ext base b t _ _ _ h', digitsL_ext base b t _ _ _ h']
    · rw [if_neg hd, if_neg hd]
theorem digitsL_all (base : Nat) : ∀ (t : List UInt8) (n k : Nat) (o : Bool), (∀ c ∈ t, dig c < base) → (digitsL base t n k o).2.1 = k + t.length
  | [], _, _, _, _ => rfl
  | c :: t, n, k, o, h => by
    have ht := fun x hx => h x (List.mem_cons_of_mem _ hx)
    rw [digitsL, if_pos (h c (List.mem_cons_self ..))]
    split
    · rw [digitsL_all base t _ _ _ ht, List.length_cons]; omega
    · rw [digitsL_all base t _ _ _ ht, List.length_cons]; omega
theorem digits_ext {base : Nat} {t b : List UInt8} (h : (digits base t).2.1 < t.length) : digits base (t ++ b) = digits base t := by
  refine digitsL_ext base b t 0 0 false ?_
  refine Classical.byContradiction fun hn => ?_
  have := digitsL_all base t 0 0 false (fun c hc => by
    rcases Nat.lt_or_ge (dig c) base with h' | h'
    · exact h'
    · exact absurd ⟨c, hc, h'⟩ hn)
  unfold digits at h
  omega
theorem number_ext {t b : List UInt8} {n k : Nat} (h : number t = some (n, k)) (hk : k < t.length) : number (t ++ b) = some (n, k) := by
  have e : (digits 10 t).2.1 = k := by
    unfold number at h
    split at h
    · cases h
    · simp at h; exact h.2
  unfold number at h ⊢
  rw [digits_ext (by rw [e]; exact hk)]
  exact h
theorem flags_ext (b : List UInt8) : ∀ (t : List UInt8) (f : Fl) (k : Nat), (flags t f k).2 < k + t.length → flags (t ++ b) f k = flags t f k
  | [], _, _, h => by simp [flags] at h
  | c :: t, f, k, h => by
    rw [List.cons_append, flags, flags]
    by_cases hc : isFl c.toNat = true
    · rw [flags, if_pos hc] at h
      rw [if_pos hc, if_pos hc]
      exact flags_ext b t _ _ (by simp at h; omega)
    · rw [if_neg hc, if_neg hc]
theorem endL_ext {t b r : List UInt8} {m : Bool} {f : Fl} {w : Nat} {pr : Int} {p : Part} (h : endL t m f w pr = .ok (p, r)) : endL (t ++ b) m f w pr = .ok (p, r ++ b) ∧ (∃ j, r = t.drop j) ∧ p.conv ≠ 0 := by
  unfold endL at h ⊢
  cases t with
  | nil => cases h
  | cons c t =>
    simp only [List.cons_append] at h ⊢
    by_cases h1 : c.toNat = 37
    · rw [if_pos h1] at h ⊢
      by_cases h2 : m = true
      · rw [if_pos h2] at h; cases h
      · rw [if_neg h2] at h ⊢; cases h; exact ⟨rfl, ⟨1, rfl⟩, show (37 : Nat) ≠ 0 by decide⟩
    · rw [if_neg h1] at h ⊢
      by_cases h2 : isConv c.toNat = true
      · rw [if_pos h2] at h ⊢; cases h
        refine ⟨rfl, ⟨1, rfl⟩, fun h0 => ?_⟩
        rw [show c.toNat = 0 from h0] at h2; exact absurd h2 (by decide)
      · rw [if_neg h2] at h ⊢
        by_cases h3 : c.toNat = 105
        · rw [if_pos h3] at h ⊢; cases h; exact ⟨rfl, ⟨1, rfl⟩, show (100 : Nat) ≠ 0 by decide⟩
        · rw [if_neg h3] at h; cases h
theorem endL_ne {t : List UInt8} {m : Bool} {f : Fl} {w : Nat} {pr : Int} {x : Part × List UInt8} (h : endL t m f w pr = .ok x) : 0 < t.length := by
  cases t with
  | nil => cases h
  | cons c t => simp
theorem precL_ext {t b r : List UInt8} {m : Bool} {f : Fl} {w : Nat} {p : Part} (h : precL t m f w = .ok (p, r)) : precL (t ++ b) m f w = .ok (p, r ++ b) ∧ (∃ j, r = t.drop j) ∧ p.conv ≠ 0 := by
  unfold precL at h ⊢
  cases t with
  | nil => cases h
  | cons c t =>
    simp only [List.cons_append] at h ⊢
    by_cases h1 : c.toNat = 46
    · rw [if_pos h1] at h ⊢
      cases hn : number t with
      | none => rw [hn] at h; cases h
      | some nk =>
        obtain ⟨n, k⟩ := nk
        rw [hn] at h
        simp only [] at h
        have hk : k < t.length := by have := endL_ne h; simp at this; omega
        obtain ⟨e1, ⟨j, e2⟩, e3⟩ := endL_ext (b := b) h
        rw [number_ext hn hk]
        simp only []
        rw [List.drop_append_of_le_length (by omega)]
        exact ⟨e1, ⟨k + j + 1, by rw [List.drop_succ_cons, e2, List.drop_drop]⟩, e3⟩
    · rw [if_neg h1] at h ⊢
      exact endL_ext h
theorem precL_ne {t : List UInt8} {m : Bool} {f : Fl} {w : Nat} {x : Part × List UInt8} (h : precL t m f w = .ok x) : 0 < t.length := by
  cases t with
  | nil => cases h
  | cons c t => simp
theorem convL_ext {t b r : List UInt8} {p : Part} (h : convL t = .ok (p, r)) : convL (t ++ b) = .ok (p, r ++ b) ∧ (∃ j, r = t.drop j) ∧ p.conv ≠ 0 := by
  unfold convL at h
  cases hn : number (t.drop (flags t fl0 0).2) with
  | none => rw [hn] at h; cases h
  | some nk =>
    obtain ⟨n, k⟩ := nk
    rw [hn] at h
    simp only [] at h
    have hlen : (flags t fl0 0).2 + k < t.length := by have := precL_ne h; simp at this; omega
    obtain ⟨e1, ⟨j, e2⟩, e3⟩ := precL_ext (b := b) h
    refine ⟨?_, ⟨(flags t fl0 0).2 + k + j, by rw [e2, List.drop_drop]⟩, e3⟩
    unfold convL
    rw [flags_ext b t fl0 0 (by omega), List.drop_append_of_le_length (by omega), number_ext hn (by simp; omega)]
    simp only []
    rw [List.drop_append_of_le_length (by omega)]
    exact e1
/-- An octal digit. -/
def isOct (c : UInt8) : Prop := dig c < 8
theorem esc_ext {t b : List UInt8} (h : (esc t).2 ≠ 0) (hl : ∀ c, t.getLast? = some c → ¬ isOct c) : esc (t ++ b) = esc t := by
  have h0 : t.length ≠ 0 := fun h0 => h (by unfold esc; rw [if_pos h0])
  obtain ⟨c, t', rfl⟩ : ∃ c t', t = c :: t' := by cases t with | nil => simp at h0 | cons c t => exact ⟨c, t, rfl⟩
  unfold esc
  rw [if_neg (show ¬ (c :: t' ++ b).length = 0 by simp), if_neg (show ¬ (c :: t').length = 0 by simp)]
  show (if escOf c.toNat = 0 then _ else _) = (if escOf c.toNat = 0 then _ else _)
  by_cases h1 : escOf c.toNat = 0
  · rw [if_pos h1, if_pos h1]
    have hd : digits 8 ((c :: t' ++ b).take 3) = digits 8 ((c :: t').take 3) := by
      rcases Nat.lt_or_ge (c :: t').length 3 with hlt | hge
      · rw [List.take_append, List.take_of_length_le (by omega)]
        obtain ⟨z, hz⟩ : ∃ z, (c :: t').getLast? = some z := ⟨_, List.getLast?_eq_some_getLast (by simp)⟩
        have hm := List.mem_of_getLast? hz
        have hnz := hl z hz
        unfold isOct at hnz
        exact digitsL_ext 8 _ _ 0 0 false ⟨z, hm, by omega⟩
      · rw [List.take_append_of_le_length hge]
    rw [hd]
  · rw [if_neg h1, if_neg h1]; rfl
theorem esc_le' (l : List UInt8) : (esc l).2 ≤ l.length := by
  unfold esc
  split
  · simp
  · split
    · have := (digits_le 8 (by omega) (l.take 3)).2
      simp at this ⊢
      omega
    · simp only []; omega
theorem last_drop {l : List UInt8} {j : Nat} (hl : ∀ c, l.getLast? = some c → ¬ isOct c) : ∀ c, (l.drop j).getLast? = some c → ¬ isOct c := by
  intro c hc
  refine hl c ?_
  rw [List.getLast?_drop] at hc
  split at hc
  · cases hc
  · exact hc
theorem parseL_ext : ∀ (n : Nat) (a : List UInt8) (L : List Part) (lit : List UInt8) (P : List Part), a.length ≤ n → (∀ c, a.getLast? = some c → ¬ isOct c) → parseL n a L lit = .ok P →
    ∃ L' lit', render L' lit' = P ∧ ∀ (b : List UInt8) (m : Nat), a.length + b.length ≤ m → parseL m (a ++ b) L lit = parseL m b L' lit'
  | n, [], L, lit, P, _, _, h => by
    refine ⟨L, lit, ?_, fun b m _ => rfl⟩
    cases n <;> (simp only [parseL] at h; cases h; rfl)
  | 0, c :: t, L, lit, P, hn, _, h => by simp at hn
  | n + 1, c :: t, L, lit, P, hn, hl, h => by
    simp only [List.length_cons] at hn
    have hlt : ∀ x, t.getLast? = some x → ¬ isOct x := last_drop (l := c :: t) (j := 1) hl
    rw [parseL] at h
    by_cases h1 : c.toNat = 92
    · rw [if_pos h1] at h
      by_cases h2 : (esc t).2 = 0
      · rw [if_pos h2] at h; cases h
      · rw [if_neg h2] at h
        have hle := esc_le' t
        obtain ⟨L', lit', e1, e2⟩ := parseL_ext n (t.drop (esc t).2) L _ P (by simp; omega) (last_drop hlt) h
        refine ⟨L', lit', e1, fun b m hm => ?_⟩
        simp only [List.length_cons] at hm
        obtain ⟨m, rfl⟩ : ∃ m', m = m' + 1 := ⟨m - 1, by omega⟩
        rw [List.cons_append, parseL, if_pos h1, esc_ext h2 hlt, if_neg h2, List.drop_append_of_le_length hle, e2 b m (by simp; omega)]
        exact parseL_fuel _ _ _ _ _ (by omega) (by omega)
    · rw [if_neg h1] at h
      by_cases h2 : c.toNat = 37
      · rw [if_pos h2] at h
        cases hc : convL t with
        | error e => rw [hc] at h; cases h
        | ok pr =>
          obtain ⟨p, r⟩ := pr
          rw [hc] at h
          have hr := convL_rest hc
          obtain ⟨_, ⟨j, hj⟩, _⟩ := convL_ext (b := []) hc
          have hlr : ∀ x, r.getLast? = some x → ¬ isOct x := by rw [hj]; exact last_drop hlt
          simp only [] at h
          by_cases h3 : p.conv = 37
          · rw [if_pos h3] at h
            obtain ⟨L', lit', e1, e2⟩ := parseL_ext n r L _ P (by omega) hlr h
            refine ⟨L', lit', e1, fun b m hm => ?_⟩
            simp only [List.length_cons] at hm
            obtain ⟨m, rfl⟩ : ∃ m', m = m' + 1 := ⟨m - 1, by omega⟩
            rw [List.cons_append, parseL, if_neg h1, if_pos h2, (convL_ext (b := b) hc).1]
            simp only [if_pos h3]
            rw [e2 b m (by omega)]
            exact parseL_fuel _ _ _ _ _ (by omega) (by omega)
          · rw [if_neg h3] at h
            obtain ⟨L', lit', e1, e2⟩ := parseL_ext n r _ _ P (by omega) hlr h
            refine ⟨L', lit', e1, fun b m hm => ?_⟩
            simp only [List.length_cons] at hm
            obtain ⟨m, rfl⟩ : ∃ m', m = m' + 1 := ⟨m - 1, by omega⟩
            rw [List.cons_append, parseL, if_neg h1, if_pos h2, (convL_ext (b := b) hc).1]
            simp only [if_neg h3]
            rw [e2 b m (by omega)]
            exact parseL_fuel _ _ _ _ _ (by omega) (by omega)
      · rw [if_neg h2] at h
        obtain ⟨L', lit', e1, e2⟩ := parseL_ext n t L _ P (by omega) hlt h
        refine ⟨L', lit', e1, fun b m hm => ?_⟩
        simp only [List.length_cons] at hm
        obtain ⟨m, rfl⟩ : ∃ m', m = m' + 1 := ⟨m - 1, by omega⟩
        rw [List.cons_append, parseL, if_neg h1, if_neg h2, e2 b m (by omega)]
        exact parseL_fuel _ _ _ _ _ (by omega) (by omega)

/-! ### What was read ahead -/
/-- Parts behind a state of the parser. -/
def joinQ (L : List Part) (lit : List UInt8) : List Part → List Part
  | [] => render L lit
  | q :: Q => if q.conv = 0 then L ++ litPart (lit ++ q.lit) :: Q else render L lit ++ q :: Q
def cmpL (L : List Part) (lit : List UInt8) (L0 : List Part) : List Part := if L0 = [] then L else joinQ L lit L0
def cmpS (lit : List UInt8) (L0 : List Part) (lit0 : List UInt8) : List UInt8 := if L0 = [] then lit ++ lit0 else lit0
theorem joinQ_add (L : List Part) (lit : List UInt8) (Q : List Part) (p : Part) (h : Q ≠ [] ∨ p.conv ≠ 0) : joinQ L lit Q ++ [p] = joinQ L lit (Q ++ [p]) := by
  cases Q with
  | nil =>
    have hp : p.conv ≠ 0 := h.resolve_left (by simp)
    simp [joinQ, hp]
  | cons q Q =>
    by_cases hq : q.conv = 0
    · simp [joinQ, hq]
    · simp [joinQ, hq]
theorem render_cmp (L : List Part) (lit : List UInt8) (L0 : List Part) (lit0 : List UInt8) : render (cmpL L lit L0) (cmpS lit L0 lit0) = joinQ L lit (render L0 lit0) := by
  unfold cmpL cmpS
  by_cases h : L0 = []
  · subst h
    simp only [if_true]
    unfold render
    by_cases h0 : lit0.length = 0
    · obtain rfl := List.eq_nil_of_length_eq_zero h0
      rw [List.append_nil]; simp [joinQ, render]
    · rw [if_neg (by rw [List.length_append]; omega), if_neg h0]
      simp [joinQ, litPart]
  · rw [if_neg h, if_neg h]
    unfold render
    by_cases h0 : lit0.length = 0
    · rw [if_pos h0, if_pos h0]
    · rw [if_neg h0, if_neg h0, joinQ_add _ _ _ _ (.inl h)]
def mapOk {α β : Type} (f : α → β) : Except Nat α → Except Nat β
  | .error e => .error e
  | .ok a => .ok (f a)
theorem parseL_join (L : List Part) (lit : List UInt8) : ∀ (n : Nat) (b : List UInt8) (L0 : List Part) (lit0 : List UInt8), parseL n b (cmpL L lit L0) (cmpS lit L0 lit0) = mapOk (joinQ L lit) (parseL n b L0 lit0)
  | 0, b, L0, lit0 => by simp only [parseL, mapOk, render_cmp]
  | n + 1, [], L0, lit0 => by simp only [parseL, mapOk, render_cmp]
  | n + 1, c :: t, L0, lit0 => by
    have hs : ∀ (x : List UInt8), cmpS lit L0 lit0 ++ x = cmpS lit L0 (lit0 ++ x) := fun x => by
      unfold cmpS; split
      · rw [List.append_assoc]
      · rfl
    rw [parseL, parseL]
    by_cases h1 : c.toNat = 92
    · rw [if_pos h1, if_pos h1]
      by_cases h2 : (esc t).2 = 0
      · rw [if_pos h2, if_pos h2]; rfl
      · rw [if_neg h2, if_neg h2, hs]; exact parseL_join L lit n _ L0 _
    · rw [if_neg h1, if_neg h1]
      by_cases h2 : c.toNat = 37
      · rw [if_pos h2, if_pos h2]
        cases hc : convL t with
        | error e => rfl
        | ok pr =>
          obtain ⟨p, r⟩ := pr
          have hp := (convL_ext (b := []) hc).2.2
          simp only []
          by_cases h3 : p.conv = 37
          · rw [if_pos h3, if_pos h3, hs]; exact parseL_join L lit n _ L0 _
          · rw [if_neg h3, if_neg h3, render_cmp, joinQ_add _ _ _ _ (.inr hp)]
            have := parseL_join L lit n r (render L0 lit0 ++ [p]) []
            unfold cmpL cmpS at this
            rw [if_neg (by simp), if_neg (by simp)] at this
            exact this
      · rw [if_neg h2, if_neg h2, hs]; exact parseL_join L lit n _ L0 _
/-- Two formats side by side are read as one. -/
theorem parse_join {a b : List UInt8} {P Q : List Part} (ha : a.length ≤ 300) (hb : b.length ≤ 300) (hl : ∀ c, a.getLast? = some c → ¬ isOct c) (hP : parse a = .ok P) (hQ : parse b = .ok Q) :
    ∃ L lit, render L lit = P ∧ parse (a ++ b) = .ok (joinQ L lit Q) := by
  have h1 : parseL a.length a [] [] = .ok P := by rw [← parse_L a (by omega), hP]; rfl
  have h2 : parseL (a ++ b).length b [] [] = .ok Q := by rw [parseL_fuel _ b.length _ _ _ (by simp) (Nat.le_refl _), ← parse_L b (by omega), hQ]; rfl
  obtain ⟨L, lit, e1, e2⟩ := parseL_ext _ a [] [] P (Nat.le_refl _) hl h1
  refine ⟨L, lit, e1, code_ok ?_⟩
  rw [parse_L _ (by simp; omega), e2 b _ (by simp)]
  have := parseL_join L lit (a ++ b).length b [] []
  rw [h2] at this
  simpa [cmpL, cmpS, mapOk] using this

/-! ### Printing them -/
theorem once_append : ∀ (A B : List Part) (O : List (List UInt8)) (r : Out) (t : Nat), once (A ++ B) O r t = if (once A O r t).2.2 = true then once B O (once A O r t).1 (once A O r t).2.1 else once A O r t
  | [], B, O, r, t => rfl
  | p :: A, B, O, r, t => by
    rw [List.cons_append]
    by_cases h0 : p.conv = 0
    · rw [once_lit h0, once_lit h0]
      by_cases h1 : (put r p.lit).2 = true
      · rw [if_pos h1, if_pos h1]; exact once_append A B O _ t
      · rw [if_neg h1, if_neg h1]; exact (if_neg (by simp)).symm
    · rw [once_field h0, once_field h0]
      by_cases h1 : ((fput p (O.getD t []) r).2 && !(one p (O.getD t [])).2.1) = true
      · rw [if_pos h1, if_pos h1]; exact once_append A B O _ _
      · rw [if_neg h1, if_neg h1]; exact (if_neg (by simp)).symm
theorem put_fit {r : Out} {s : List UInt8} (h : r.out.length + s.length ≤ 65536) : put r s = ({ r with out := r.out ++ s }, true) := by unfold put room; rw [if_pos h]
theorem put_full {r : Out} {s : List UInt8} (hr : r.out.length ≤ 65536) (h : ¬ r.out.length + s.length ≤ 65536) : (put r s).2 = false ∧ (put r s).1.out.length = 65536 := by
  unfold put room
  rw [if_neg h]
  refine ⟨rfl, ?_⟩
  simp only [List.length_append, List.length_take]
  omega
theorem once_grows : ∀ (L : List Part) (O : List (List UInt8)) (r : Out) (t : Nat), r.out.length ≤ (once L O r t).1.out.length
  | [], _, _, _ => Nat.le_refl _
  | p :: L, O, r, t => by
    have hput : ∀ (r : Out) s, r.out.length ≤ (put r s).1.out.length := fun r s => by unfold put; split <;> simp
    by_cases h0 : p.conv = 0
    · rw [once_lit h0]
      split
      · exact Nat.le_trans (hput r p.lit) (once_grows L O _ t)
      · exact hput r p.lit
    · have hf : r.out.length ≤ (fout p (O.getD t []) r).out.length := by
        have hfp : r.out.length ≤ (fput p (O.getD t []) r).1.out.length := by
          unfold fput
          refine Nat.le_trans ?_ (hput _ _)
          split <;> exact Nat.le_refl _
        unfold fout
        split <;> exact hfp
      rw [once_field h0]
      split
      · exact Nat.le_trans hf (once_grows L O _ _)
      · exact hf
/-- A pass behind another. -/
def sh (X : List UInt8) (C : List Nat) (r : Out) : Out := ⟨X ++ r.out, C ++ r.codes, r.stop⟩
theorem put_sh {X : List UInt8} {C : List Nat} {r : Out} {s : List UInt8} (hX : X.length ≤ 20000) (h : r.out.length + s.length ≤ 20000) : put (sh X C r) s = (sh X C (put r s).1, true) ∧ (put r s).2 = true := by
  rw [put_fit (r := r) (by omega), put_fit (by simp [sh]; omega)]
  simp [sh]
theorem once_sh (X : List UInt8) (C : List Nat) (hX : X.length ≤ 20000) (O : List (List UInt8)) (n : Nat) : ∀ (L : List Part) (r : Out) (t : Nat), (once L (O.drop n) r t).1.out.length ≤ 20000 → r.out.length ≤ 20000 → n ≤ O.length →
    once L O (sh X C r) (n + t) = (sh X C (once L (O.drop n) r t).1, n + (once L (O.drop n) r t).2.1, (once L (O.drop n) r t).2.2)
  | [], r, t, _, _, _ => rfl
  | p :: L, r, t, h, hr, hn => by
    by_cases h0 : p.conv = 0
    · rw [once_lit h0] at h ⊢
      rw [once_lit h0]
      by_cases hf : r.out.length + p.lit.length ≤ 20000
      · obtain ⟨e1, e2⟩ := put_sh (X := X) (C := C) hX hf
        rw [if_pos e2] at h ⊢
        rw [e1, if_pos rfl]
        exact once_sh X C hX O n L _ t h (by rw [put_fit (by omega)]; simpa using hf) hn
      · exfalso
        by_cases hf2 : r.out.length + p.lit.length ≤ 65536
        · rw [put_fit hf2, if_pos rfl] at h
          have := once_grows L (O.drop n) { r with out := r.out ++ p.lit } t
          have h' : (once L (O.drop n) { r with out := r.out ++ p.lit } t).1.out.length ≤ 20000 := h
          simp only [List.length_append] at this
          omega
        · obtain ⟨e1, e2⟩ := put_full (by omega) hf2
          rw [if_neg (by rw [e1]; simp)] at h
          simp only [] at h
          omega
    · rw [once_field h0] at h ⊢
      rw [once_field h0]
      have hg : (O.drop n).getD t [] = O.getD (n + t) [] := by simp [List.getD_eq_getElem?_getD]
      have ht : (if n + t < O.length then n + t + 1 else n + t) = n + (if t < (O.drop n).length then t + 1 else t) := by
        rw [List.length_drop]
        by_cases hlt : t < O.length - n
        · rw [if_pos (by omega), if_pos hlt]; omega
        · rw [if_neg (by omega), if_neg hlt]
      rw [hg] at h ⊢
      rw [ht]
      obtain ⟨s, st, c, ho⟩ : ∃ s st c, one p (O.getD (n + t) []) = (s, st, c) := ⟨_, _, _, rfl⟩
      have hfo : ∀ r, fout p (O.getD (n + t) []) r = if (put (if c = 0 then r else { r with codes := r.codes ++ [c] }) s).2 = true ∧ st = true then { (put (if c = 0 then r else { r with codes := r.codes ++ [c] }) s).1 with stop := true } else (put (if c = 0 then r else { r with codes := r.codes ++ [c] }) s).1 := fun r => by
        unfold fout fput; rw [ho]
      have hfp : ∀ r, (fput p (O.getD (n + t) []) r).2 = (put (if c = 0 then r else { r with codes := r.codes ++ [c] }) s).2 := fun r => by unfold fput; rw [ho]
      have hsh : (if c = 0 then sh X C r else { sh X C r with codes := (sh X C r).codes ++ [c] }) = sh X C (if c = 0 then r else { r with codes := r.codes ++ [c] }) := by
        split
        · rfl
        · simp [sh]
      have hlen : (if c = 0 then r else { r with codes := r.codes ++ [c] }).out.length = r.out.length := by split <;> rfl
      rw [hfo, hfp, ho] at h ⊢
      rw [hfo, hfp, hsh]
      generalize (if c = 0 then r else { r with codes := r.codes ++ [c] }) = r1 at *
      by_cases hf : r.out.length + s.length ≤ 20000
      · obtain ⟨e1, e2⟩ := put_sh (X := X) (C := C) (r := r1) (s := s) hX (by omega)
        rw [e1]
        simp only [e2, Bool.true_and, true_and] at h ⊢
        have hl2 : (put r1 s).1.out.length ≤ 20000 := by rw [put_fit (by omega)]; simp; omega
        cases st
        · simp only [Bool.not_false, if_true, Bool.false_eq_true, if_false] at h ⊢
          exact once_sh X C hX O n L _ _ h hl2 hn
        · simp [sh]
      · exfalso
        by_cases hf2 : r1.out.length + s.length ≤ 65536
        · rw [put_fit hf2] at h
          simp only [Bool.true_and, true_and] at h
          cases st
          · simp only [Bool.not_false, if_true, Bool.false_eq_true, if_false] at h
            have := once_grows L (O.drop n) { r1 with out := r1.out ++ s } (if t < (O.drop n).length then t + 1 else t)
            simp only [List.length_append] at this
            omega
          · simp at h
            omega
        · obtain ⟨e1, e2⟩ := put_full (by omega) hf2
          rw [e1] at h
          simp only [Bool.false_and, Bool.false_eq_true, if_false, false_and] at h
          omega
/-- A pass that was not cut short went through. -/
theorem once_through : ∀ (L : List Part) (O : List (List UInt8)) (r : Out) (t : Nat), r.out.length ≤ 65536 → (once L O r t).1.stop = false → (once L O r t).1.out.length ≤ 20000 → (once L O r t).2.2 = true
  | [], _, _, _, _, _, _ => rfl
  | p :: L, O, r, t, hr, hs, hl => by
    by_cases h0 : p.conv = 0
    · rw [once_lit h0] at hs hl ⊢
      by_cases h1 : (put r p.lit).2 = true
      · rw [if_pos h1] at hs hl ⊢; exact once_through L O _ t (put_bounds r p.lit hr).1 hs hl
      · exfalso
        rw [if_neg h1] at hl
        by_cases hf : r.out.length + p.lit.length ≤ 65536
        · exact h1 (by rw [put_fit hf])
        · have := (put_full hr hf).2
          first | omega | (simp only [] at hl; omega)
    · rw [once_field h0] at hs hl ⊢
      by_cases h1 : ((fput p (O.getD t []) r).2 && !(one p (O.getD t [])).2.1) = true
      · rw [if_pos h1] at hs hl ⊢; exact once_through L O _ _ (fout_bounds p _ r hr).1 hs hl
      · exfalso
        rw [if_neg h1] at hs hl
        cases hp : (fput p (O.getD t []) r).2 with
        | true =>
          rw [hp] at h1
          simp at h1
          unfold fout at hs
          rw [if_pos ⟨hp, h1⟩] at hs
          cases hs
        | false =>
          have hfl : (fput p (O.getD t []) r).1.out.length = 65536 := by
            unfold fput at hp ⊢
            refine (put_full (by split <;> exact hr) fun hf => ?_).2
            rw [put_fit hf] at hp; cases hp
          unfold fout at hl
          split at hl <;> (first | omega | (simp only [] at hl; omega))
/-- FillJoins. -/
theorem joins {L : List Part} {lit : List UInt8} {Q : List Part} (O : List (List UInt8)) (x : Out) (n : Nat) (on : Bool) (hx : once (render L lit) O ⟨[], [], false⟩ 0 = (x, n, on)) (hst : x.stop = false) (hxl : x.out.length ≤ 20000) (hn : n ≤ O.length)
    (y : Out) (m : Nat) (on2 : Bool) (hy : once Q (O.drop n) ⟨[], [], false⟩ 0 = (y, m, on2)) (hyl : y.out.length ≤ 20000) :
    ∃ on3, once (joinQ L lit Q) O ⟨[], [], false⟩ 0 = (⟨x.out ++ y.out, x.codes ++ y.codes, y.stop⟩, n + m, on3) := by
  have hon : on = true := by
    have := once_through (render L lit) O ⟨[], [], false⟩ 0 (by simp) (by rw [hx]; exact hst) (by rw [hx]; exact hxl)
    rw [hx] at this; exact this
  subst hon
  have hxs : x = sh x.out x.codes ⟨[], [], false⟩ := by
    obtain ⟨o, c, s⟩ := x
    simp only [] at hst
    subst hst
    simp [sh]
  have hboth : once (render L lit ++ Q) O ⟨[], [], false⟩ 0 = (⟨x.out ++ y.out, x.codes ++ y.codes, y.stop⟩, n + m, on2) := by
    rw [once_append, hx, if_pos rfl]
    show once Q O x n = _
    have := once_sh x.out x.codes hxl O n Q ⟨[], [], false⟩ 0 (by rw [hy]; exact hyl) (by simp) hn
    rw [hy, ← hxs] at this
    exact this
  cases Q with
  | nil =>
    refine ⟨on2, ?_⟩
    rw [List.append_nil] at hboth
    exact hboth
  | cons q Q =>
    by_cases hq : q.conv = 0
    · refine ⟨on2, ?_⟩
      rw [← hboth]
      show once (if q.conv = 0 then L ++ litPart (lit ++ q.lit) :: Q else render L lit ++ q :: Q) O _ 0 = _
      rw [if_pos hq]
      -- the literal in front fits
      have hql : q.lit.length ≤ 20000 := by
        rw [once_lit hq] at hy
        by_cases hf : q.lit.length ≤ 65536
        · rw [put_fit (by simpa using hf), if_pos rfl] at hy
          have := once_grows Q (O.drop n) ⟨[] ++ q.lit, [], false⟩ 0
          rw [hy] at this
          simp at this
          omega
        · exfalso
          obtain ⟨e1, e2⟩ := put_full (r := ⟨[], [], false⟩) (s := q.lit) (by simp) (by simpa using hf)
          rw [if_neg (by rw [e1]; simp)] at hy
          simp only [Prod.mk.injEq] at hy
          rw [hy.1] at e2
          omega
      unfold render at hx ⊢
      by_cases h0 : lit.length = 0
      · obtain rfl := List.eq_nil_of_length_eq_zero h0
        rw [if_pos (show ([] : List UInt8).length = 0 from rfl)] at hx ⊢
        rw [once_append, once_append, hx, if_pos (by rfl), if_pos (by rfl)]
        simp only [List.nil_append]
        rw [once_lit (p := litPart q.lit) rfl, once_lit hq]; rfl
      · rw [if_neg h0] at hx ⊢
        rw [List.append_assoc, once_append, once_append]
        rw [once_append] at hx
        by_cases h1 : (once L O ⟨[], [], false⟩ 0).2.2 = true
        · rw [if_pos h1] at hx ⊢
          rw [if_pos h1]
          generalize once L O ⟨[], [], false⟩ 0 = u at *
          rw [once_lit (p := litPart lit) rfl] at hx
          show once (litPart (lit ++ q.lit) :: Q) O u.1 u.2.1 = once (litPart lit :: q :: Q) O u.1 u.2.1
          rw [once_lit (p := litPart (lit ++ q.lit)) rfl, once_lit (p := litPart lit) rfl]
          show (if (put u.1 (lit ++ q.lit)).2 = true then once Q O (put u.1 (lit ++ q.lit)).1 u.2.1 else _) = if (put u.1 lit).2 = true then once (q :: Q) O (put u.1 lit).1 u.2.1 else _
          by_cases hf : (put u.1 (litPart lit).lit).2 = true
          · rw [if_pos hf] at hx
            have hf' : u.1.out.length + lit.length ≤ 65536 := by
              refine Classical.byContradiction fun hf' => ?_
              unfold put room at hf
              rw [if_neg (show ¬ u.1.out.length + (litPart lit).lit.length ≤ 65536 from hf')] at hf
              cases hf
            have hxe : put u.1 lit = (x, true) := by
              have : (put u.1 lit).1 = x := (Prod.mk.injEq .. ▸ hx : _ ∧ _).1
              rw [put_fit hf'] at this ⊢
              rw [← this]
            have hxo : u.1.out.length + lit.length ≤ 20000 := by
              rw [put_fit hf'] at hxe
              have e : x = { u.1 with out := u.1.out ++ lit } := (Prod.mk.inj hxe).1.symm
              rw [e] at hxl
              simpa using hxl
            have h2 := put_fit hf'
            rw [put_fit (r := u.1) (s := lit ++ q.lit) (by simp; omega), if_pos (by rfl), h2, if_pos (by rfl), once_lit hq, put_fit (by simp; omega), if_pos (by rfl)]
            simp
          · rw [if_neg hf] at hx
            cases hx
        · rw [if_neg h1] at hx
          rw [hx] at h1
          exact absurd rfl h1
    · refine ⟨on2, ?_⟩
      rw [← hboth]
      show once (if q.conv = 0 then L ++ litPart (lit ++ q.lit) :: Q else render L lit ++ q :: Q) O _ 0 = _
      rw [if_neg hq]
end Pg
end Go.Proofs.YtkecmfjjekagiaaDoor
