/- Plain facts on shape.Parse without places, with no program in sight. No conditions. -/
import Derived.Test.YtppcjmbblkbkdaaGreatDoorFillM
namespace Go.Proofs.YtppcjmbblkbkdaaGreatDoor
namespace Pg

/-- The end of a conversion. moved: something stands between the percent and here. -/
def endL (t : List UInt8) (moved : Bool) (f : Fl) (w : Nat) (pr : Int) : Except Nat (Part × List UInt8) :=
  match t with
  | [] => .error 3
  | c :: t => if c.toNat = 37 then (if moved = true then .error 3 else .ok (⟨[], 37, f, w, pr⟩, t))
    else if isConv c.toNat = true then .ok (⟨[], c.toNat, f, w, pr⟩, t)
    else if c.toNat = 105 then .ok (⟨[], 100, f, w, pr⟩, t)
    else .error 3
def precL (t : List UInt8) (moved : Bool) (f : Fl) (w : Nat) : Except Nat (Part × List UInt8) :=
  match t with
  | [] => .error 3
  | c :: t => if c.toNat = 46 then (match number t with | none => .error 6 | some (n, k) => endL (t.drop k) true f w n) else endL (c :: t) moved f w (-1)
/-- A conversion at the front of bytes: the part, what is left. -/
def convL (t : List UInt8) : Except Nat (Part × List UInt8) :=
  match number (t.drop (flags t fl0 0).2) with
  | none => .error 6
  | some (n, k) => precL (t.drop ((flags t fl0 0).2 + k)) (decide (0 < (flags t fl0 0).2 + k)) (flags t fl0 0).1 n
def parseL : Nat → List UInt8 → List Part → List UInt8 → Except Nat (List Part)
  | 0, _, L, lit => .ok (render L lit)
  | _ + 1, [], L, lit => .ok (render L lit)
  | n + 1, c :: t, L, lit =>
    if c.toNat = 92 then
      if (esc t).2 = 0 then .error 10 else parseL n (t.drop (esc t).2) L (lit ++ [(esc t).1])
    else if c.toNat = 37 then
      match convL t with
      | .error e => .error e
      | .ok (p, t') => if p.conv = 37 then parseL n t' L (lit ++ [37]) else parseL n t' (render L lit ++ [p]) []
    else parseL n t L (lit ++ [c])

def lose (b : List UInt8) : Except (Nat × Nat) (Part × Nat) → Except Nat (Part × List UInt8)
  | .error (c, _) => .error c
  | .ok (p, j) => .ok (p, b.drop j)
def code {α : Type} : Except (Nat × Nat) α → Except Nat α
  | .error (c, _) => .error c
  | .ok a => .ok a

theorem getD_at {b : List UInt8} {i : Nat} (h : i < b.length) : b.getD i 0 = b[i] := by simp [h]
theorem convEnd_L (b : List UInt8) (s : Nat) (f : Fl) (w : Nat) (pr : Int) (i : Nat) : lose b (convEnd b s f w pr i) = endL (b.drop i) (decide (s < i)) f w pr := by
  unfold convEnd
  by_cases h : i < b.length
  · rw [if_neg (by omega), List.drop_eq_getElem_cons h, getD_at h]
    unfold endL
    simp only []
    by_cases h1 : b[i].toNat = 37
    · rw [if_pos h1, if_pos h1]
      by_cases h2 : s < i
      · rw [if_pos h2, if_pos (by simp [h2])]; rfl
      · rw [if_neg h2, if_neg (by simp [h2])]; rfl
    · rw [if_neg h1, if_neg h1]
      by_cases h2 : isConv b[i].toNat = true
      · rw [if_pos h2, if_pos h2]; rfl
      · rw [if_neg h2, if_neg h2]
        by_cases h3 : b[i].toNat = 105
        · rw [if_pos h3, if_pos h3]; rfl
        · rw [if_neg h3, if_neg h3]; rfl
  · rw [if_pos (by omega), List.drop_eq_nil_of_le (by omega)]; rfl
theorem convPrec_L (b : List UInt8) (s : Nat) (f : Fl) (w : Nat) (i : Nat) (hs : s ≤ i) : lose b (convPrec b s f w i) = precL (b.drop i) (decide (s < i)) f w := by
  unfold convPrec
  by_cases h : i < b.length
  · rw [getD_at h, List.drop_eq_getElem_cons h]
    unfold precL
    simp only []
    by_cases h1 : b[i].toNat = 46
    · rw [if_pos ⟨h, h1⟩, if_pos h1]
      cases hn : number (b.drop (i + 1)) with
      | none => rfl
      | some nk =>
        obtain ⟨n, k⟩ := nk
        simp only []
        rw [convEnd_L, List.drop_drop, decide_eq_true (show s < i + 1 + k by omega)]
    · rw [if_neg (fun h' => h1 h'.2), if_neg h1, convEnd_L, List.drop_eq_getElem_cons h]
  · rw [if_neg (fun h' => h h'.1), convEnd_L, List.drop_eq_nil_of_le (by omega)]; rfl
theorem conv_L (b : List UInt8) (i : Nat) : lose b (conv b i) = convL (b.drop i) := by
  unfold conv convWidth convL
  rw [List.drop_drop]
  cases hn : number (b.drop (i + (flags (b.drop i) fl0 0).2)) with
  | none => rfl
  | some nk =>
    obtain ⟨n, k⟩ := nk
    simp only []
    rw [convPrec_L _ _ _ _ _ (by omega), List.drop_drop, Nat.add_assoc]
    congr 1
    simp only [decide_eq_decide]
    omega
theorem parseF_L : ∀ (n : Nat) (b : List UInt8) (i : Nat) (L : List Part) (lit : List UInt8), code (parseF n b i L lit) = parseL n (b.drop i) L lit
  | 0, _, _, _, _ => rfl
  | n + 1, b, i, L, lit => by
    rw [parseF]
    by_cases h : i < b.length
    · rw [if_pos h, getD_at h, List.drop_eq_getElem_cons h, parseL]
      by_cases h1 : b[i].toNat = 92
      · rw [if_pos h1, if_pos h1]
        by_cases h2 : (esc (b.drop (i + 1))).2 = 0
        · rw [if_pos h2, if_pos h2]; rfl
        · rw [if_neg h2, if_neg h2, parseF_L n b _ L _, List.drop_drop]
          congr 2; omega
      · rw [if_neg h1, if_neg h1]
        by_cases h2 : b[i].toNat = 37
        · rw [if_pos h2, if_pos h2]
          have hc := conv_L b (i + 1)
          cases hx : conv b (i + 1) with
          | error e =>
            obtain ⟨c, q⟩ := e
            rw [hx] at hc
            rw [← hc]; rfl
          | ok pj =>
            obtain ⟨p, j⟩ := pj
            rw [hx] at hc
            rw [← hc]
            simp only [lose]
            by_cases h3 : p.conv = 37
            · rw [if_pos h3, if_pos h3]; exact parseF_L n b j L _
            · rw [if_neg h3, if_neg h3]; exact parseF_L n b j _ _
        · rw [if_neg h2, if_neg h2]; exact parseF_L n b (i + 1) L _
    · rw [if_neg h, List.drop_eq_nil_of_le (by omega)]; rfl
theorem parse_L (b : List UInt8) (h : b.length ≤ 1024) : code (parse b) = parseL b.length b [] [] := by
  unfold parse
  rw [if_neg (by omega), parseF_L]; rfl
theorem code_ok {α : Type} {x : Except (Nat × Nat) α} {a : α} (h : code x = .ok a) : x = .ok a := by
  cases x with
  | error e => cases h
  | ok b => cases h; rfl
theorem code_err {α : Type} {x : Except (Nat × Nat) α} {c : Nat} (h : code x = .error c) : ∃ q, x = .error (c, q) := by
  cases x with
  | error e => obtain ⟨d, q⟩ := e; cases h; exact ⟨q, rfl⟩
  | ok b => cases h

/-! ### What is left behind a conversion -/
theorem endL_rest {t : List UInt8} {m : Bool} {f : Fl} {w : Nat} {pr : Int} {p : Part} {r : List UInt8} (h : endL t m f w pr = .ok (p, r)) : r.length < t.length := by
  unfold endL at h
  cases t with
  | nil => cases h
  | cons c t =>
    simp only [] at h
    repeat' split at h
    all_goals (first | cases h; simp | cases h)
theorem precL_rest {t : List UInt8} {m : Bool} {f : Fl} {w : Nat} {p : Part} {r : List UInt8} (h : precL t m f w = .ok (p, r)) : r.length < t.length := by
  unfold precL at h
  cases t with
  | nil => cases h
  | cons c t =>
    simp only [] at h
    split at h
    · cases hn : number t with
      | none => rw [hn] at h; cases h
      | some nk =>
        rw [hn] at h
        have := endL_rest h
        simp at this ⊢
        omega
    · exact endL_rest h
theorem convL_rest {t : List UInt8} {p : Part} {r : List UInt8} (h : convL t = .ok (p, r)) : r.length < t.length := by
  unfold convL at h
  cases hn : number (t.drop (flags t fl0 0).2) with
  | none => rw [hn] at h; cases h
  | some nk =>
    rw [hn] at h
    have := precL_rest h
    simp at this
    omega
/-- Enough fuel is enough. -/
theorem parseL_fuel : ∀ (n m : Nat) (s : List UInt8) (L : List Part) (lit : List UInt8), s.length ≤ n → s.length ≤ m → parseL n s L lit = parseL m s L lit
  | 0, 0, _, _, _, _, _ => rfl
  | 0, m + 1, s, L, lit, hn, _ => by obtain rfl : s = [] := List.eq_nil_of_length_eq_zero (by omega); rfl
  | n + 1, 0, s, L, lit, _, hm => by obtain rfl : s = [] := List.eq_nil_of_length_eq_zero (by omega); rfl
  | n + 1, m + 1, [], L, lit, _, _ => rfl
  | n + 1, m + 1, c :: t, L, lit, hn, hm => by
    simp only [List.length_cons] at hn hm
    rw [parseL, parseL]
    by_cases h1 : c.toNat = 92
    · rw [if_pos h1, if_pos h1]
      by_cases h2 : (esc t).2 = 0
      · rw [if_pos h2, if_pos h2]
      · rw [if_neg h2, if_neg h2]; exact parseL_fuel n m _ _ _ (by simp; omega) (by simp; omega)
    · rw [if_neg h1, if_neg h1]
      by_cases h2 : c.toNat = 37
      · rw [if_pos h2, if_pos h2]
        cases hc : convL t with
        | error e => rfl
        | ok pr =>
          obtain ⟨p, r⟩ := pr
          have hr := convL_rest hc
          simp only []
          by_cases h3 : p.conv = 37
          · rw [if_pos h3, if_pos h3]; exact parseL_fuel n m _ _ _ (by omega) (by omega)
          · rw [if_neg h3, if_neg h3]; exact parseL_fuel n m _ _ _ (by omega) (by omega)
      · rw [if_neg h2, if_neg h2]; exact parseL_fuel n m _ _ _ (by omega) (by omega)
theorem parseL_conv {n : Nat} {t t' : List UInt8} {L : List Part} {lit : List UInt8} {p : Part} (h : convL t = .ok (p, t')) (hp : p.conv ≠ 37) : parseL (n + 1) (37 :: t) L lit = parseL n t' (render L lit ++ [p]) [] := by
  rw [parseL, if_neg (by decide), if_pos (by decide), h]
  simp only [if_neg hp]

/-! ### ShapePlain -/
/-- Each percent doubled. -/
def dbl (l : List UInt8) : List UInt8 := l.flatMap fun c => if c.toNat = 37 then [c, c] else [c]
theorem dbl_cons (c : UInt8) (l : List UInt8) : dbl (c :: l) = (if c.toNat = 37 then [c, c] else [c]) ++ dbl l := by simp [dbl]
theorem dbl_append (a b : List UInt8) : dbl (a ++ b) = dbl a ++ dbl b := by simp [dbl]
theorem number_no {c : UInt8} (h : 10 ≤ dig c) (t : List UInt8) : number (c :: t) = some (0, 0) := by
  have e : digits 10 (c :: t) = (0, 0, false) := by unfold digits; rw [digitsL, if_neg (by omega)]
  unfold number
  rw [e]
  simp
theorem flags_no' {c : UInt8} (h : isFl c.toNat = false) (t : List UInt8) (f : Fl) (k : Nat) : flags (c :: t) f k = (f, k) := by
  rw [flags, if_neg (by simp [h])]
theorem convL_pct {c : UInt8} (hc : c.toNat = 37) (t : List UInt8) : convL (c :: t) = .ok (⟨[], 37, fl0, 0, -1⟩, t) := by
  obtain rfl : c = 37 := UInt8.toNat_inj.1 hc
  unfold convL
  rw [flags_no' (by decide)]
  simp only [List.drop_zero]
  rw [number_no (by decide)]
  rfl
theorem parseL_dbl : ∀ (s : List UInt8), (∀ c ∈ s, c.toNat ≠ 92) → ∀ (n : Nat) (L : List Part) (lit : List UInt8), (dbl s).length ≤ n → parseL n (dbl s) L lit = .ok (render L (lit ++ s))
  | [], _, n, L, lit, _ => by cases n <;> simp [dbl, parseL]
  | c :: s, hs, n, L, lit, hn => by
    rw [dbl_cons] at hn ⊢
    have h92 := hs c (List.mem_cons_self ..)
    have hs' := fun x hx => hs x (List.mem_cons_of_mem _ hx)
    by_cases h : c.toNat = 37
    · rw [if_pos h] at hn ⊢
      simp only [List.cons_append, List.nil_append, List.length_cons] at hn ⊢
      obtain ⟨n, rfl⟩ : ∃ m, n = m + 1 := ⟨n - 1, by omega⟩
      rw [parseL, if_neg h92, if_pos h, convL_pct h]
      simp only [if_true]
      rw [parseL_dbl s hs' n L _ (by omega), List.append_assoc, show c = 37 from UInt8.toNat_inj.1 h]; rfl
    · rw [if_neg h] at hn ⊢
      simp only [List.cons_append, List.nil_append, List.length_cons] at hn ⊢
      obtain ⟨n, rfl⟩ : ∃ m, n = m + 1 := ⟨n - 1, by omega⟩
      rw [parseL, if_neg h92, if_neg h, parseL_dbl s hs' n L _ (by omega), List.append_assoc]; rfl
theorem parse_dbl (s : List UInt8) (hs : ∀ c ∈ s, c.toNat ≠ 92) (hl : (dbl s).length ≤ 1024) : parse (dbl s) = .ok (render [] s) := by
  apply code_ok
  rw [parse_L _ hl, parseL_dbl s hs _ _ _ (Nat.le_refl _)]; rfl

/-! ### ShapeFlags -/
def setAll (f : Fl) (l : List UInt8) : Fl := l.foldl (fun f c => f.set c.toNat) f
theorem flags_off (t : List UInt8) : ∀ (f : Fl) (k : Nat), flags t f k = ((flags t f 0).1, k + (flags t f 0).2) := by
  induction t with
  | nil => intro f k; rfl
  | cons c t ih =>
    intro f k
    rw [flags, flags]
    split
    · rw [ih _ (k + 1), ih _ (0 + 1)]
      simp only [Prod.mk.injEq, true_and]
      omega
    · rfl
theorem flags_app (R : List UInt8) : ∀ (l : List UInt8) (f : Fl) (k : Nat), (∀ c ∈ l, isFl c.toNat = true) → flags (l ++ R) f k = flags R (setAll f l) (k + l.length)
  | [], _, _, _ => rfl
  | c :: l, f, k, h => by
    rw [List.cons_append, flags, if_pos (h c (List.mem_cons_self ..)), flags_app R l _ _ (fun x hx => h x (List.mem_cons_of_mem _ hx))]
    show flags R (setAll (f.set c.toNat) l) _ = flags R (setAll (f.set c.toNat) l) _
    rw [List.length_cons]
    congr 1
    omega
theorem setAll_is : ∀ (l : List UInt8) (f : Fl), (∀ c ∈ l, isFl c.toNat = true) →
    setAll f l = ⟨f.minus || l.any (fun c => c.toNat == 45), f.plus || l.any (fun c => c.toNat == 43), f.space || l.any (fun c => c.toNat == 32), f.zero || l.any (fun c => c.toNat == 48), f.alt || l.any (fun c => c.toNat == 35)⟩
  | [], f, _ => by simp [setAll]
  | c :: l, f, h => by
    show setAll (f.set c.toNat) l = _
    rw [setAll_is l _ (fun x hx => h x (List.mem_cons_of_mem _ hx))]
    have hc := h c (List.mem_cons_self ..)
    simp only [isFl, Bool.or_eq_true, beq_iff_eq] at hc
    simp only [List.any_cons]
    rcases hc with (((hc | hc) | hc) | hc) | hc <;> simp [Fl.set, hc]
theorem setAll_turned (l : List UInt8) (h : ∀ c ∈ l, isFl c.toNat = true) : setAll fl0 (l.reverse ++ l) = setAll fl0 l := by
  rw [setAll_is _ _ h, setAll_is _ _ (fun c hc => by rcases List.mem_append.1 hc with hc | hc; exact h c (List.mem_reverse.1 hc); exact h c hc)]
  simp [List.any_append, List.any_reverse]
theorem convL_app (l R : List UInt8) (h : ∀ c ∈ l, isFl c.toNat = true) : convL (l ++ R) = match number (R.drop (flags R (setAll fl0 l) 0).2) with
    | none => .error 6
    | some (n, k) => precL (R.drop ((flags R (setAll fl0 l) 0).2 + k)) (decide (0 < l.length + ((flags R (setAll fl0 l) 0).2 + k))) (flags R (setAll fl0 l) 0).1 n := by
  unfold convL
  rw [flags_app R l fl0 0 h, flags_off R _ (0 + l.length)]
  simp only [Nat.zero_add]
  have hd : ∀ k, (l ++ R).drop (l.length + k) = R.drop k := fun k => by rw [← List.drop_drop, List.drop_left]
  rw [hd]
  cases number (R.drop (flags R (setAll fl0 l) 0).2) with
  | none => rfl
  | some nk =>
    simp only []
    rw [Nat.add_assoc, hd]
theorem convL_turned (l R : List UInt8) (h : ∀ c ∈ l, isFl c.toNat = true) : convL (l.reverse ++ l ++ R) = convL (l ++ R) := by
  rw [convL_app l R h, convL_app (l.reverse ++ l) R (fun c hc => by rcases List.mem_append.1 hc with hc | hc; exact h c (List.mem_reverse.1 hc); exact h c hc), setAll_turned l h]
  cases number (R.drop (flags R (setAll fl0 l) 0).2) with
  | none => rfl
  | some nk =>
    simp only []
    congr 1
    simp only [List.length_append, List.length_reverse, decide_eq_decide]
    omega
theorem parseL_pct (n : Nat) (t : List UInt8) (L : List Part) (lit : List UInt8) : parseL (n + 1) (37 :: t) L lit = match convL t with
    | .error e => .error e
    | .ok (p, t') => if p.conv = 37 then parseL n t' L (lit ++ [37]) else parseL n t' (render L lit ++ [p]) [] := by
  rw [parseL, if_neg (by decide), if_pos (by decide)]
theorem parse_turned (l R : List UInt8) (h : ∀ c ∈ l, isFl c.toNat = true) (hl : l.length ≤ 30) (hR : R.length ≤ 100) : code (parse (37 :: (l.reverse ++ (l ++ R)))) = code (parse (37 :: (l ++ R))) := by
  rw [parse_L _ (by simp; omega), parse_L _ (by simp; omega), List.length_cons, List.length_cons, parseL_pct, parseL_pct, ← List.append_assoc, convL_turned l R h]
  cases hc : convL (l ++ R) with
  | error e => rfl
  | ok pr =>
    obtain ⟨p, r⟩ := pr
    have hr := convL_rest hc
    simp only [List.length_append, List.length_reverse] at hr ⊢
    split
    · exact parseL_fuel _ _ _ _ _ (by omega) (by omega)
    · exact parseL_fuel _ _ _ _ _ (by omega) (by omega)
end Pg
end Go.Proofs.YtppcjmbblkbkdaaGreatDoor
