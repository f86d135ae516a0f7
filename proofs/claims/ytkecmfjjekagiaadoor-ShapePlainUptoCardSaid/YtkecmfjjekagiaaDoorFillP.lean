/- Plain facts on what printf prints: widths; escapes; again and again; with no program in sight. No conditions. -/
import Derived.Test.YtkecmfjjekagiaaDoorNums
import Derived.Test.YtkecmfjjekagiaaDoorPlain
namespace Go.Proofs.YtkecmfjjekagiaaDoor
namespace Pg

/-! ### FillEscapes -/
/-- unescaped, without places. -/
def unescL : Nat → List UInt8 → List UInt8 → List UInt8 × Bool
  | 0, _, acc => (acc, false)
  | _ + 1, [], acc => (acc, false)
  | n + 1, c :: t, acc =>
    if c.toNat = 92 then
      if 0 < t.length ∧ (t.getD 0 0).toNat = 99 then (acc, true)
      else if 0 < t.length ∧ (t.getD 0 0).toNat = 48 then unescL n (t.drop ((digits 8 ((t.drop 1).take 3)).2.1 + 1)) (acc ++ [UInt8.ofNat (digits 8 ((t.drop 1).take 3)).1])
      else if (esc t).2 = 0 then unescL n t (acc ++ [92])
      else unescL n (t.drop (esc t).2) (acc ++ [(esc t).1])
    else unescL n t (acc ++ [c])
theorem getD_drop (b : List UInt8) (i j : Nat) : (b.drop i).getD j 0 = b.getD (i + j) 0 := by simp [List.getD_eq_getElem?_getD]
theorem unescF_L : ∀ (n : Nat) (b : List UInt8) (i : Nat) (acc : List UInt8), unescF n b i acc = unescL n (b.drop i) acc
  | 0, _, _, _ => rfl
  | n + 1, b, i, acc => by
    rw [unescF]
    by_cases h : i < b.length
    · have hl : (b.drop (i + 1)).length = b.length - (i + 1) := List.length_drop
      have hg : (b.drop (i + 1)).getD 0 0 = b.getD (i + 1) 0 := getD_drop b (i + 1) 0
      rw [if_pos h, getD_at h, List.drop_eq_getElem_cons h, unescL]
      by_cases h1 : b[i].toNat = 92
      · rw [if_pos h1, if_pos h1, hg]
        have hi : i + 1 < b.length ↔ 0 < (b.drop (i + 1)).length := by rw [hl]; omega
        simp only [hi]
        by_cases h2 : 0 < (b.drop (i + 1)).length ∧ (b.getD (i + 1) 0).toNat = 99
        · rw [if_pos h2, if_pos h2]
        · rw [if_neg h2, if_neg h2]
          by_cases h3 : 0 < (b.drop (i + 1)).length ∧ (b.getD (i + 1) 0).toNat = 48
          · rw [if_pos h3, if_pos h3, unescF_L n, List.drop_drop, List.drop_drop, show i + 1 + 1 = i + 2 from rfl]
            congr 2; omega
          · rw [if_neg h3, if_neg h3]
            by_cases h4 : (esc (b.drop (i + 1))).2 = 0
            · rw [if_pos h4, if_pos h4, unescF_L n]
            · rw [if_neg h4, if_neg h4, unescF_L n, List.drop_drop]
              congr 2; omega
      · rw [if_neg h1, if_neg h1, unescF_L n]
    · rw [if_neg h, List.drop_eq_nil_of_le (by omega)]; rfl
theorem unesc_L (b : List UInt8) : unesc b = unescL b.length b [] := by unfold unesc; rw [unescF_L]; rfl
theorem unescL_len : ∀ (n : Nat) (s acc : List UInt8), (unescL n s acc).1.length ≤ acc.length + s.length
  | 0, s, acc => by simp [unescL]
  | n + 1, [], acc => by simp [unescL]
  | n + 1, c :: t, acc => by
    rw [unescL]
    have h1 := unescL_len n t (acc ++ [92])
    have h2 := unescL_len n (t.drop (esc t).2) (acc ++ [(esc t).1])
    have h3 := unescL_len n (t.drop ((digits 8 ((t.drop 1).take 3)).2.1 + 1)) (acc ++ [UInt8.ofNat (digits 8 ((t.drop 1).take 3)).1])
    have h4 := unescL_len n t (acc ++ [c])
    simp only [List.length_append, List.length_cons, List.length_nil, List.length_drop] at h1 h2 h3 h4
    simp only [List.length_cons]
    repeat' split
    all_goals (first | omega | (simp only []; omega))
theorem unesc_len (s : List UInt8) : (unesc s).1.length ≤ s.length := by
  rw [unesc_L]
  have := unescL_len s.length s []
  simpa using this
/-- Each backslash doubled. -/
def dbs (l : List UInt8) : List UInt8 := l.flatMap fun c => if c.toNat = 92 then [92, c] else [c]
theorem dbs_cons (c : UInt8) (l : List UInt8) : dbs (c :: l) = (if c.toNat = 92 then [92, c] else [c]) ++ dbs l := by simp [dbs]
theorem dbs_append (a b : List UInt8) : dbs (a ++ b) = dbs a ++ dbs b := by simp [dbs]
theorem dbs_len (l : List UInt8) : (dbs l).length ≤ 2 * l.length := by
  induction l with
  | nil => simp [dbs]
  | cons c l ih => rw [dbs_cons, List.length_append, List.length_cons]; split <;> simp <;> omega
theorem unescL_dbs : ∀ (s : List UInt8) (n : Nat) (acc : List UInt8), (dbs s).length ≤ n → unescL n (dbs s) acc = (acc ++ s, false)
  | [], n, acc, _ => by cases n <;> simp [dbs, unescL]
  | c :: s, n, acc, hn => by
    rw [dbs_cons] at hn ⊢
    by_cases h : c.toNat = 92
    · obtain rfl : c = 92 := UInt8.toNat_inj.1 h
      rw [if_pos h] at hn ⊢
      simp only [List.cons_append, List.nil_append, List.length_cons] at hn ⊢
      obtain ⟨n, rfl⟩ : ∃ m, n = m + 1 := ⟨n - 1, by omega⟩
      have hg : (92 :: dbs s).getD 0 0 = 92 := rfl
      have he : esc (92 :: dbs s) = (92, 1) := by unfold esc; rw [if_neg (by simp), hg, if_neg (by decide)]; rfl
      rw [unescL, if_pos h, hg, if_neg (by rintro ⟨_, h⟩; exact absurd h (by decide)), if_neg (by rintro ⟨_, h⟩; exact absurd h (by decide)), he, if_neg (by decide)]
      show unescL n (dbs s) (acc ++ [92]) = _
      rw [unescL_dbs s n _ (by omega), List.append_assoc]; rfl
    · rw [if_neg h] at hn ⊢
      simp only [List.cons_append, List.nil_append, List.length_cons] at hn ⊢
      obtain ⟨n, rfl⟩ : ∃ m, n = m + 1 := ⟨n - 1, by omega⟩
      rw [unescL, if_neg h, unescL_dbs s n _ (by omega), List.append_assoc]; rfl
theorem unesc_dbs (s : List UInt8) : unesc (dbs s) = (s, false) := by
  rw [unesc_L, unescL_dbs s _ _ (Nat.le_refl _)]; rfl
theorem cut_plain {p : Part} (h : p.prec = -1) (s : List UInt8) : cut p s = s := by unfold cut; rw [if_neg (by rw [h]; omega)]
theorem printf_b (s : List UInt8) (h : s.length ≤ 400) : printf [37, 98] [dbs s] = .ok ⟨s, [], false⟩ := by
  have hl := dbs_len s
  have h1 : one (conv0 98) (dbs s) = (s, false, 0) := by
    unfold one
    rw [if_neg (by decide), if_neg (by decide), if_pos (show (conv0 98).conv = 98 from rfl), unesc_dbs, cut_plain rfl, filled_plain rfl]; rfl
  show run [conv0 98] [dbs s] = _
  rw [run_one _ _ _ _ _ (by decide) (by omega) h1 (by omega)]; rfl
theorem one_s (s : List UInt8) : one (conv0 115) s = (s, false, 0) := by
  unfold one
  rw [if_neg (by decide), if_pos (show (conv0 115).conv = 115 from rfl), cut_plain rfl, filled_plain rfl]; rfl
theorem printf_s (s : List UInt8) (h : s.length ≤ 1024) : printf [37, 115] [s] = .ok ⟨s, [], false⟩ := by
  show run [conv0 115] [s] = _
  rw [run_one _ _ _ _ _ (by decide) h (one_s s) (by omega)]; rfl

/-! ### FillWidths -/
def lett (k : Nat) : UInt8 := [99, 115, 98, 100, 105, 111, 117, 120, 88].getD k 0
def lettC (k : Nat) : Nat := [99, 115, 98, 100, 100, 111, 117, 120, 88].getD k 0
def convW (c w : Nat) : Part := ⟨[], c, fl0, w, -1⟩
def convM (c w : Nat) : Part := ⟨[], c, ⟨true, false, false, false, false⟩, w, -1⟩
theorem lett_cases {k : Nat} (h : k < 9) : (lett k = 99 ∧ lettC k = 99) ∨ (lett k = 115 ∧ lettC k = 115) ∨ (lett k = 98 ∧ lettC k = 98) ∨ (lett k = 100 ∧ lettC k = 100) ∨ (lett k = 105 ∧ lettC k = 100) ∨ (lett k = 111 ∧ lettC k = 111) ∨ (lett k = 117 ∧ lettC k = 117) ∨ (lett k = 120 ∧ lettC k = 120) ∨ (lett k = 88 ∧ lettC k = 88) := by
  rcases (show k = 0 ∨ k = 1 ∨ k = 2 ∨ k = 3 ∨ k = 4 ∨ k = 5 ∨ k = 6 ∨ k = 7 ∨ k = 8 by omega) with rfl | rfl | rfl | rfl | rfl | rfl | rfl | rfl | rfl <;> decide
theorem endL_lett {k : Nat} (h : k < 9) (m : Bool) (f : Fl) (w : Nat) (pr : Int) : endL [lett k] m f w pr = .ok (⟨[], lettC k, f, w, pr⟩, []) := by
  rcases lett_cases h with ⟨h1, h2⟩ | ⟨h1, h2⟩ | ⟨h1, h2⟩ | ⟨h1, h2⟩ | ⟨h1, h2⟩ | ⟨h1, h2⟩ | ⟨h1, h2⟩ | ⟨h1, h2⟩ | ⟨h1, h2⟩ <;> rw [h1, h2] <;> rfl
theorem lett_no {k : Nat} (h : k < 9) : 10 ≤ dig (lett k) ∧ (lett k).toNat ≠ 46 ∧ isFl (lett k).toNat = false ∧ lettC k ≠ 37 ∧ lettC k ≠ 0 := by
  rcases lett_cases h with ⟨h1, h2⟩ | ⟨h1, h2⟩ | ⟨h1, h2⟩ | ⟨h1, h2⟩ | ⟨h1, h2⟩ | ⟨h1, h2⟩ | ⟨h1, h2⟩ | ⟨h1, h2⟩ | ⟨h1, h2⟩ <;> rw [h1, h2] <;> decide
theorem number_digs {k : Nat} (h : k < 9) (w : Nat) (hw : w ≤ 1000) : number (digs 10 false w ++ [lett k]) = some (w, (digs 10 false w).length) := by
  have e : digits 10 (digs 10 false w ++ [lett k]) = (w, (digs 10 false w).length, false) := by
    have h10 := (lett_no h).1
    unfold digits
    rw [digits_digs 10 false (by omega) (by omega) w (by unfold maxI; omega), digitsL, if_neg (Nat.not_lt.2 h10)]
  unfold number
  rw [e, if_neg (by simp; omega)]
theorem digs_noFl (w : Nat) (hw : 0 < w) (hw2 : w ≤ 1000) : ∃ c t, digs 10 false w = c :: t ∧ isFl c.toNat = false := by
  obtain ⟨d, t, hd, hb, hp, _⟩ := digs_head 10 false (by omega) w (by omega)
  have hs := sign_low d hb
  have hdp := hp hw
  refine ⟨_, t, hd, ?_⟩
  rw [hs]
  unfold isFl
  simp only [Bool.or_eq_false_iff, beq_eq_false_iff_ne]
  omega
theorem convL_w {k : Nat} (h : k < 9) (w : Nat) (hw : 0 < w) (hw2 : w ≤ 1000) : convL (digs 10 false w ++ [lett k]) = .ok (convW (lettC k) w, []) := by
  obtain ⟨c, t, hd, hc⟩ := digs_noFl w hw hw2
  have hn := number_digs h w hw2
  unfold convL
  have hf : flags (digs 10 false w ++ [lett k]) fl0 0 = (fl0, 0) := by rw [hd]; exact flags_no' hc _ _ _
  rw [hf]
  simp only [List.drop_zero, hn, Nat.zero_add, List.drop_left]
  unfold precL
  simp only [if_neg (lett_no h).2.1]
  rw [endL_lett h]; rfl
theorem convL_m {k : Nat} (h : k < 9) (w : Nat) (hw : 0 < w) (hw2 : w ≤ 1000) : convL (45 :: (digs 10 false w ++ [lett k])) = .ok (convM (lettC k) w, []) := by
  obtain ⟨c, t, hd, hc⟩ := digs_noFl w hw hw2
  have hn := number_digs h w hw2
  unfold convL
  have hf : flags (45 :: (digs 10 false w ++ [lett k])) fl0 0 = (⟨true, false, false, false, false⟩, 1) := by
    rw [flags, if_pos (by decide), hd]; exact flags_no' hc _ _ _
  rw [hf]
  simp only [List.drop_succ_cons, List.drop_zero, hn]
  rw [show 1 + (digs 10 false w).length = (digs 10 false w).length + 1 by omega, List.drop_succ_cons, List.drop_left]
  unfold precL
  simp only [if_neg (lett_no h).2.1]
  rw [endL_lett h]; rfl
theorem parse_of_convL {t : List UInt8} {p : Part} (hl : t.length ≤ 1000) (h : convL t = .ok (p, [])) (hp : p.conv ≠ 37) : parse (37 :: t) = .ok [p] := by
  apply code_ok
  rw [parse_L _ (by simp; omega), List.length_cons, parseL_conv h hp]
  cases t <;> rfl
theorem parse_w {k : Nat} (h : k < 9) (w : Nat) (hw : 0 < w) (hw2 : w ≤ 1000) : parse (37 :: (digs 10 false w ++ [lett k])) = .ok [convW (lettC k) w] :=
  parse_of_convL (by have := (digs_len 10 false w).2; simp; omega) (convL_w h w hw hw2) (lett_no h).2.2.2.1
theorem parse_m {k : Nat} (h : k < 9) (w : Nat) (hw : 0 < w) (hw2 : w ≤ 1000) : parse (37 :: 45 :: (digs 10 false w ++ [lett k])) = .ok [convM (lettC k) w] :=
  parse_of_convL (by have := (digs_len 10 false w).2; simp; omega) (convL_m h w hw hw2) (lett_no h).2.2.2.1
theorem parse_0 {k : Nat} (h : k < 9) : parse [37, lett k] = .ok [conv0 (lettC k)] := by
  rcases lett_cases h with ⟨h1, h2⟩ | ⟨h1, h2⟩ | ⟨h1, h2⟩ | ⟨h1, h2⟩ | ⟨h1, h2⟩ | ⟨h1, h2⟩ | ⟨h1, h2⟩ | ⟨h1, h2⟩ | ⟨h1, h2⟩ <;> rw [h1, h2] <;> rfl
theorem ahead_len (p : Part) (n : Int) : (ahead p n).length ≤ 2 := by
  unfold ahead
  repeat' split
  all_goals simp
theorem body_len (p : Part) (n : Int) (h : p.prec = -1) : (body2 p n).length ≤ 66 := by
  have h0 : (body0 p n).length ≤ 64 := by
    unfold body0
    split
    · simp
    · exact (digs_len _ _ _).2
  have h1 : (body1 p n).length ≤ 65 := by
    unfold body1
    rw [h, List.length_append, List.length_replicate]
    simp
    omega
  unfold body2
  split
  · simp; omega
  · omega
/-- One operand, with no width, with one, and with one and a minus. -/
theorem one_widths (c w : Nat) (s : List UInt8) (hs : s.length ≤ 1024) : ∃ a b st cd, (a ++ b).length ≤ 1024 ∧ one (conv0 c) s = (a ++ b, st, cd) ∧ one (convW c w) s = (filled (convW c w) a b false, st, cd) ∧ one (convM c w) s = (filled (convM c w) a b false, st, cd) := by
  have hcut : ∀ (p : Part), p.prec = -1 → ∀ l, cut p l = l := fun p h l => cut_plain h l
  unfold one
  by_cases h1 : c = 99
  · exact ⟨[], s.take 1, false, 0, by simp; omega, by rw [if_pos (show (conv0 c).conv = 99 from h1), filled_plain rfl], by rw [if_pos (show (convW c w).conv = 99 from h1)], by rw [if_pos (show (convM c w).conv = 99 from h1)]⟩
  by_cases h2 : c = 115
  · exact ⟨[], s, false, 0, by simpa using hs, by rw [if_neg (show ¬(conv0 c).conv = 99 from h1), if_pos (show (conv0 c).conv = 115 from h2), filled_plain rfl, hcut _ rfl], by rw [if_neg (show ¬(convW c w).conv = 99 from h1), if_pos (show (convW c w).conv = 115 from h2), hcut _ rfl], by rw [if_neg (show ¬(convM c w).conv = 99 from h1), if_pos (show (convM c w).conv = 115 from h2), hcut _ rfl]⟩
  by_cases h3 : c = 98
  · exact ⟨[], (unesc s).1, (unesc s).2, 0, by have := unesc_len s; simp; omega,
      by rw [if_neg (show ¬(conv0 c).conv = 99 from h1), if_neg (show ¬(conv0 c).conv = 115 from h2), if_pos (show (conv0 c).conv = 98 from h3), filled_plain rfl, hcut _ rfl],
      by rw [if_neg (show ¬(convW c w).conv = 99 from h1), if_neg (show ¬(convW c w).conv = 115 from h2), if_pos (show (convW c w).conv = 98 from h3), hcut _ rfl],
      by rw [if_neg (show ¬(convM c w).conv = 99 from h1), if_neg (show ¬(convM c w).conv = 115 from h2), if_pos (show (convM c w).conv = 98 from h3), hcut _ rfl]⟩
  have ha := ahead_len (conv0 c) (num s).1
  have hb := body_len (conv0 c) (num s).1 rfl
  refine ⟨ahead (conv0 c) (num s).1, body2 (conv0 c) (num s).1, false, (num s).2, by rw [List.length_append]; omega, ?_, ?_, ?_⟩
  · rw [if_neg (show ¬(conv0 c).conv = 99 from h1), if_neg (show ¬(conv0 c).conv = 115 from h2), if_neg (show ¬(conv0 c).conv = 98 from h3)]; unfold integer; rw [filled_plain rfl]
  · rw [if_neg (show ¬(convW c w).conv = 99 from h1), if_neg (show ¬(convW c w).conv = 115 from h2), if_neg (show ¬(convW c w).conv = 98 from h3)]; rfl
  · rw [if_neg (show ¬(convM c w).conv = 99 from h1), if_neg (show ¬(convM c w).conv = 115 from h2), if_neg (show ¬(convM c w).conv = 98 from h3)]; rfl
/-- FillWidths. -/
theorem widths {k : Nat} (h : k < 9) (w : Nat) (hw : 0 < w) (hw2 : w ≤ 1000) (s : List UInt8) (hs : s.length ≤ 1024) : ∃ (x y z : List UInt8) (C : List Nat) (st : Bool),
    printf [37, lett k] [s] = .ok ⟨x, C, st⟩ ∧ printf (37 :: (digs 10 false w ++ [lett k])) [s] = .ok ⟨y, C, st⟩ ∧ printf (37 :: 45 :: (digs 10 false w ++ [lett k])) [s] = .ok ⟨z, C, st⟩ ∧
    y.length = max x.length w ∧ z.length = max x.length w ∧ z.take x.length = x ∧ y.drop (y.length - x.length) = x ∧ x.length ≤ 1024 := by
  obtain ⟨a, b, st, cd, hl, h0, h1, h2⟩ := one_widths (lettC k) w s hs
  have hne := (lett_no h).2.2.2.2
  rw [List.length_append] at hl
  have hy : filled (convW (lettC k) w) a b false = List.replicate (w - a.length - b.length) 32 ++ (a ++ b) := by
    unfold filled
    by_cases hle : w ≤ a.length + b.length
    · rw [if_pos (show (convW (lettC k) w).width ≤ _ from hle), show w - a.length - b.length = 0 by omega]; rfl
    · rw [if_neg (show ¬(convW (lettC k) w).width ≤ _ from hle), if_neg (show ¬ (convW (lettC k) w).fl.minus = true by show ¬ (false : Bool) = true; decide), if_neg (by decide), List.append_assoc]; rfl
  have hz : filled (convM (lettC k) w) a b false = (a ++ b) ++ List.replicate (w - a.length - b.length) 32 := by
    unfold filled
    by_cases hle : w ≤ a.length + b.length
    · rw [if_pos (show (convM (lettC k) w).width ≤ _ from hle), show w - a.length - b.length = 0 by omega]; simp
    · rw [if_neg (show ¬(convM (lettC k) w).width ≤ _ from hle), if_pos (show (convM (lettC k) w).fl.minus = true from rfl)]; rfl
  rw [hy] at h1
  rw [hz] at h2
  refine ⟨a ++ b, List.replicate (w - a.length - b.length) 32 ++ (a ++ b), (a ++ b) ++ List.replicate (w - a.length - b.length) 32, if cd = 0 then [] else [cd], st, ?_, ?_, ?_, ?_, ?_, ?_, ?_, ?_⟩
  · unfold printf; rw [parse_0 h]
    exact run_one _ _ _ _ _ hne hs h0 (by rw [List.length_append]; omega)
  · unfold printf; rw [parse_w h w hw hw2]
    exact run_one _ _ _ _ _ hne hs h1 (by simp; omega)
  · unfold printf; rw [parse_m h w hw hw2]
    exact run_one _ _ _ _ _ hne hs h2 (by simp; omega)
  · simp; omega
  · simp; omega
  · rw [List.take_left]
  · rw [List.length_append, Nat.add_sub_cancel, List.drop_left]
  · rw [List.length_append]; omega

/-! ### FillAgain -/
def lines : List (List UInt8) → List UInt8
  | [] => []
  | s :: t => s ++ 10 :: lines t
theorem lines_append (a : List (List UInt8)) (s : List UInt8) : lines (a ++ [s]) = lines a ++ (s ++ [10]) := by
  induction a with
  | nil => simp [lines]
  | cons x a ih => simp [lines, ih]
def twoP : List Part := [conv0 115, litPart [10]]
theorem once_two (O : List (List UInt8)) (r : Out) (hr : r.stop = false) (h : r.out.length + (O.getD 0 []).length + 1 ≤ 65536) : once twoP O r 0 = (⟨r.out ++ (O.getD 0 [] ++ [10]), r.codes, false⟩, if 0 < O.length then 1 else 0, true) := by
  obtain ⟨ro, rc, rs⟩ := r
  subst hr
  unfold twoP
  rw [once, if_neg (by decide)]
  simp only [one_s]
  have h1 : put ⟨ro, rc, false⟩ (O.getD 0 []) = (⟨ro ++ O.getD 0 [], rc, false⟩, true) := by
    unfold put room; rw [if_pos (show ro.length + (O.getD 0 []).length ≤ 65536 by have h' : ro.length + (O.getD 0 []).length + 1 ≤ 65536 := h; omega)]
  have h2 : put ⟨ro ++ O.getD 0 [], rc, false⟩ [10] = (⟨ro ++ (O.getD 0 [] ++ [10]), rc, false⟩, true) := by
    unfold put room; rw [if_pos (by show (ro ++ O.getD 0 []).length + 1 ≤ 65536; rw [List.length_append]; exact h)]; simp
  simp only [if_true, h1]
  rw [if_neg (by decide), if_neg (by decide), once, if_pos (show (litPart [10]).conv = 0 from rfl), show (litPart [10]).lit = [10] from rfl, h2, if_pos (show (true : Bool) = true from rfl)]
  rfl
theorem runF_two : ∀ (n : Nat) (s : List UInt8) (O : List (List UInt8)) (r : Out), r.stop = false → O.length + 1 ≤ n → r.out.length + (lines (s :: O)).length ≤ 65536 → runF n twoP (s :: O) r = ⟨r.out ++ lines (s :: O), r.codes, false⟩
  | 0, _, _, _, _, h, _ => by omega
  | n + 1, s, O, r, hr, hn, hl => by
    have hll : (lines (s :: O)).length = s.length + 1 + (lines O).length := by simp [lines]; omega
    rw [runF, once_two _ _ hr (by show r.out.length + s.length + 1 ≤ 65536; omega)]
    simp only [List.length_cons, Nat.zero_lt_succ, if_true, List.drop_succ_cons, List.drop_zero]
    show (if true = false ∨ O.length = 0 ∨ 1 = 0 then (⟨r.out ++ (s ++ [10]), r.codes, false⟩ : Out) else runF n twoP O ⟨r.out ++ (s ++ [10]), r.codes, false⟩) = _
    cases O with
    | nil => rw [if_pos (.inr (.inl rfl))]; simp [lines]
    | cons t O =>
      rw [if_neg (by simp), runF_two n t O _ rfl (by simp at hn; omega) (by show (r.out ++ (s ++ [10])).length + _ ≤ _; simp only [List.length_append, List.length_cons, List.length_nil]; omega)]
      simp [lines]
theorem tooLong_small : ∀ (O : List (List UInt8)) (k : Nat), (∀ s ∈ O, s.length ≤ 1024) → tooLong O k = none
  | [], _, _ => rfl
  | s :: O, k, h => by
    rw [tooLong, if_neg (by have := h s (List.mem_cons_self ..); omega)]
    exact tooLong_small O _ fun x hx => h x (List.mem_cons_of_mem _ hx)
theorem printf_lines (O : List (List UInt8)) (h64 : O.length ≤ 64) (hs : ∀ s ∈ O, s.length ≤ 1024) (hl : (lines O).length ≤ 65536) : printf [37, 115, 92, 110] O = .ok ⟨if O.length = 0 then [10] else lines O, [], false⟩ := by
  show run twoP O = _
  unfold run
  rw [if_neg (by omega), tooLong_small O 0 hs]
  show Except.ok (runF (O.length + 1) twoP O ⟨[], [], false⟩) = _
  congr 1
  cases O with
  | nil =>
    rw [runF, once_two _ _ rfl (by simp)]
    simp
  | cons s O =>
    rw [runF_two _ s O _ rfl (by simp) (by simpa using hl), if_neg (by simp)]
    rfl
theorem dbl_same (s : List UInt8) (h : ∀ c ∈ s, c.toNat ≠ 37) : dbl s = s := by
  induction s with
  | nil => rfl
  | cons c s ih =>
    rw [dbl_cons, if_neg (h c (List.mem_cons_self ..)), ih fun x hx => h x (List.mem_cons_of_mem _ hx)]; rfl
theorem printf_plain (s : List UInt8) (O : List (List UInt8)) (h1 : ∀ c ∈ s, c.toNat ≠ 37 ∧ c.toNat ≠ 92) (hl : s.length ≤ 1024) (h64 : O.length ≤ 64) (hs : ∀ s ∈ O, s.length ≤ 1024) : printf s O = .ok ⟨s, [], false⟩ := by
  have hp := parse_dbl s (fun c hc => (h1 c hc).2) (by rw [dbl_same s fun c hc => (h1 c hc).1]; exact hl)
  rw [dbl_same s fun c hc => (h1 c hc).1] at hp
  unfold printf
  rw [hp]
  show run (render [] s) O = _
  unfold run
  rw [if_neg (by omega), tooLong_small O 0 hs]
  show Except.ok (runF (O.length + 1) (render [] s) O ⟨[], [], false⟩) = _
  congr 1
  unfold render
  by_cases h0 : s.length = 0
  · rw [if_pos h0]
    obtain rfl := List.eq_nil_of_length_eq_zero h0
    rw [runF]
    simp [once]
  · rw [if_neg h0, runF]
    have hpu : put ⟨[], [], false⟩ s = (⟨s, [], false⟩, true) := by unfold put room; rw [if_pos (by simp; omega)]; rfl
    have ho : once ([] ++ [litPart s]) O ⟨[], [], false⟩ 0 = (⟨s, [], false⟩, 0, true) := by
      rw [List.nil_append, once, if_pos (show (litPart s).conv = 0 from rfl), show (litPart s).lit = s from rfl, hpu, if_pos (show (true : Bool) = true from rfl)]; rfl
    rw [ho]
    simp
end Pg
end Go.Proofs.YtkecmfjjekagiaaDoor
