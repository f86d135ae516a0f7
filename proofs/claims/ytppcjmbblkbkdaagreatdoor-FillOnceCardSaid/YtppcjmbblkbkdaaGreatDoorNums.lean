/- Plain facts on numbers written and read again, with no program in sight. No conditions. -/
import Derived.Test.YtppcjmbblkbkdaaGreatDoorFillM
namespace Go.Proofs.YtppcjmbblkbkdaaGreatDoor
namespace Pg

theorem dig_sign : ∀ (up : Bool) (d : Nat), d < 16 → dig (sign up d) = d := by
  have h : ∀ (up : Bool), (List.range 16).all (fun d => dig (sign up d) == d) = true := by decide
  intro up d hd
  simpa using List.all_eq_true.1 (h up) d (List.mem_range.2 hd)
theorem sign_low : ∀ (d : Nat), d < 10 → (sign false d).toNat = 48 + d := by
  have h : (List.range 10).all (fun d => (sign false d).toNat == 48 + d) = true := by decide
  intro d hd
  simpa using List.all_eq_true.1 h d (List.mem_range.2 hd)

theorem digsF_acc (base : Nat) (up : Bool) : ∀ (f n : Nat) (acc : List UInt8), digsF f base up n acc = digsF f base up n [] ++ acc
  | 0, _, _ => rfl
  | f + 1, n, acc => by
    unfold digsF
    split
    · rfl
    · rw [digsF_acc base up f (n / base) (sign up (n % base) :: acc), digsF_acc base up f (n / base) [sign up (n % base)], List.append_assoc]; rfl
theorem digsF_one {base : Nat} {up : Bool} {f n : Nat} (h : n / base = 0) : digsF (f + 1) base up n [] = [sign up (n % base)] := by
  rw [digsF, if_pos h]
theorem digsF_more {base : Nat} {up : Bool} {f n : Nat} (h : n / base ≠ 0) : digsF (f + 1) base up n [] = digsF f base up (n / base) [] ++ [sign up (n % base)] := by
  rw [digsF, if_neg h, digsF_acc]
theorem digsF_len (base : Nat) (up : Bool) : ∀ (f n : Nat), (digsF f base up n []).length ≤ f
  | 0, _ => by simp [digsF]
  | f + 1, n => by
    by_cases h : n / base = 0
    · rw [digsF_one h]; simp
    · rw [digsF_more h, List.length_append]
      have := digsF_len base up f (n / base)
      simp; omega
theorem digsF_pos (base : Nat) (up : Bool) : ∀ (f n : Nat), 0 < (digsF (f + 1) base up n []).length := by
  intro f n
  by_cases h : n / base = 0
  · rw [digsF_one h]; simp
  · rw [digsF_more h, List.length_append]; simp
theorem digs_len (base : Nat) (up : Bool) (n : Nat) : 0 < (digs base up n).length ∧ (digs base up n).length ≤ 64 := ⟨digsF_pos base up 63 n, digsF_len base up 64 n⟩
theorem div_lt {base n f : Nat} (hb : 0 < base) (h : n < base ^ (f + 1)) : n / base < base ^ f := by
  rw [Nat.div_lt_iff_lt_mul hb, ← Nat.pow_succ]; exact h
theorem pow_pos' {base n f : Nat} (h2 : 2 ≤ base) (h : n / base ≠ 0) (hn : n < base ^ (f + 1)) : ∃ f', f = f' + 1 := by
  cases f with
  | zero =>
    have := div_lt (f := 0) (by omega) hn
    rw [Nat.pow_zero] at this
    exact absurd (Nat.lt_one_iff.1 this) h
  | succ f => exact ⟨f, rfl⟩

/-- A number that was written is read. -/
theorem digitsL_digsF (base : Nat) (up : Bool) (h2 : 2 ≤ base) (h16 : base ≤ 16) : ∀ (f n : Nat) (rest : List UInt8) (k : Nat), n < base ^ (f + 1) → n ≤ maxI →
    digitsL base (digsF (f + 1) base up n [] ++ rest) 0 k false = digitsL base rest n (k + (digsF (f + 1) base up n []).length) false := by
  intro f
  induction f with
  | zero =>
    intro n rest k hn hm
    have h0 : n / base = 0 := Nat.div_eq_of_lt (by simpa using hn)
    have hlt : n < base := by simpa using hn
    rw [digsF_one h0, Nat.mod_eq_of_lt hlt]
    show digitsL base (sign up n :: rest) 0 k false = _
    rw [digitsL, if_pos (by rw [dig_sign up n (by omega)]; exact hlt), if_neg (by simp), dig_sign up n (by omega)]
    simp
  | succ f ih =>
    intro n rest k hn hm
    by_cases h0 : n / base = 0
    · have hlt : n < base := by
        rcases Nat.lt_or_ge n base with h | h
        · exact h
        · have := Nat.div_pos h (by omega); omega
      rw [digsF_one h0, Nat.mod_eq_of_lt hlt]
      show digitsL base (sign up n :: rest) 0 k false = _
      rw [digitsL, if_pos (by rw [dig_sign up n (by omega)]; exact hlt), if_neg (by simp), dig_sign up n (by omega)]
      simp
    · have hd : n % base < base := Nat.mod_lt _ (by omega)
      have hnd := Nat.div_add_mod n base
      rw [digsF_more h0, List.append_assoc, ih (n / base) _ k (div_lt (by omega) hn) (Nat.le_trans (Nat.div_le_self _ _) hm)]
      show digitsL base (sign up (n % base) :: rest) (n / base) _ false = _
      have hds := dig_sign up (n % base) (by omega)
      have hq : n / base ≤ (maxI - n % base) / base := by
        rw [Nat.le_div_iff_mul_le (by omega), Nat.mul_comm]; omega
      rw [digitsL, if_pos (by rw [hds]; exact hd), if_neg (by rw [hds]; simp; exact hq), hds, List.length_append, Nat.mul_comm, hnd]
      simp [Nat.add_assoc]
theorem lt_pow {base n : Nat} (h2 : 2 ≤ base) (h : n < 18446744073709551616) : n < base ^ 64 := by
  have := Nat.pow_le_pow_left h2 64
  have e : (2 : Nat) ^ 64 = 18446744073709551616 := by decide
  omega
theorem digits_digs (base : Nat) (up : Bool) (h2 : 2 ≤ base) (h16 : base ≤ 16) (n : Nat) (hn : n ≤ maxI) (rest : List UInt8) :
    digitsL base (digs base up n ++ rest) 0 0 false = digitsL base rest n (digs base up n).length false := by
  have := digitsL_digsF base up h2 h16 63 n rest 0 (lt_pow h2 (by unfold maxI at hn; omega)) hn
  rw [Nat.zero_add] at this
  exact this
/-- Its first digit. -/
theorem digsF_head (base : Nat) (up : Bool) (h2 : 2 ≤ base) : ∀ (f n : Nat), n < base ^ (f + 1) → ∃ d t, digsF (f + 1) base up n [] = sign up d :: t ∧ d < base ∧ (0 < n → 0 < d) ∧ (n = 0 → d = 0 ∧ t = []) := by
  intro f
  induction f with
  | zero =>
    intro n hn
    have hlt : n < base := by simpa using hn
    refine ⟨n, [], ?_, hlt, fun h => h, fun h => ⟨h, rfl⟩⟩
    rw [digsF_one (Nat.div_eq_of_lt hlt), Nat.mod_eq_of_lt hlt]
  | succ f ih =>
    intro n hn
    by_cases h0 : n / base = 0
    · have hlt : n < base := by
        rcases Nat.lt_or_ge n base with h | h
        · exact h
        · have := Nat.div_pos h (by omega); omega
      refine ⟨n, [], ?_, hlt, fun h => h, fun h => ⟨h, rfl⟩⟩
      rw [digsF_one h0, Nat.mod_eq_of_lt hlt]
    · obtain ⟨d, t, h1, hd, hp, _⟩ := ih (n / base) (div_lt (by omega) hn)
      refine ⟨d, t ++ [sign up (n % base)], ?_, hd, fun _ => hp (Nat.pos_of_ne_zero h0), fun h => absurd (by rw [h]; simp) h0⟩
      rw [digsF_more h0, h1]; rfl
theorem digs_head (base : Nat) (up : Bool) (h2 : 2 ≤ base) (n : Nat) (hn : n < 18446744073709551616) : ∃ d t, digs base up n = sign up d :: t ∧ d < base ∧ (0 < n → 0 < d) ∧ (n = 0 → d = 0 ∧ t = []) :=
  digsF_head base up h2 63 n (lt_pow h2 hn)

/-- A text that ends a number. -/
def noDig (rest : List UInt8) : Prop := rest = [] ∨ rest = [122]
theorem digitsL_rest {base : Nat} (h16 : base ≤ 16) {rest : List UInt8} (hr : noDig rest) (n k : Nat) : digitsL base rest n k false = (n, k, false) := by
  rcases hr with rfl | rfl
  · rfl
  · rw [digitsL, if_neg]
    have : dig 122 = 16 := by decide
    omega
/-- Decimal digits, read as C reads them. -/
theorem const_digs (n : Nat) (hn : n ≤ maxI) (rest : List UInt8) (hr : noDig rest) : const (digs 10 false n ++ rest) = (n, (digs 10 false n).length, false) := by
  have hm : n < 18446744073709551616 := by unfold maxI at hn; omega
  obtain ⟨d, t, hd, hb, hp, hz⟩ := digs_head 10 false (by omega) n hm
  by_cases h0 : n = 0
  · subst h0
    rcases hr with rfl | rfl <;> rfl
  · have hs := sign_low d hb
    have hl : (digs 10 false n ++ rest).length ≠ 0 := by rw [hd]; simp
    have hg : ((digs 10 false n ++ rest).getD 0 0).toNat = 48 + d := by rw [hd]; exact hs
    have hdp := hp (by omega)
    unfold const
    rw [if_neg hl, if_neg (by rw [hg]; omega), if_pos (by rw [hg]; omega)]
    unfold digits
    rw [digits_digs 10 false (by omega) (by omega) n hn rest, digitsL_rest (by omega) hr]
theorem digits_ne (base : Nat) (up : Bool) (h2 : 2 ≤ base) (h16 : base ≤ 16) (n : Nat) (hn : n ≤ maxI) (rest : List UInt8) (hr : noDig rest) : digits base (digs base up n ++ rest) = (n, (digs base up n).length, false) := by
  unfold digits
  rw [digits_digs base up h2 h16 n hn rest, digitsL_rest h16 hr]
/-- .. to the base 16, behind 0x. -/
theorem const_hex (n : Nat) (hn : n ≤ maxI) : const (48 :: 120 :: digs 16 false n) = (n, (digs 16 false n).length + 2, false) := by
  have h := digits_ne 16 false (by omega) (by omega) n hn [] (.inl rfl)
  rw [List.append_nil] at h
  have hp := (digs_len 16 false n).1
  unfold const
  rw [if_neg (by simp), if_neg (by simp), if_neg (by simp), if_pos (by refine ⟨by simp, Or.inl (by simp), ?_⟩; show 0 < (digits 16 (digs 16 false n)).2.1; rw [h]; exact hp)]
  show ((digits 16 (digs 16 false n)).1, (digits 16 (digs 16 false n)).2.1 + 2, (digits 16 (digs 16 false n)).2.2) = _
  rw [h]
/-- .. to the base 8, behind 0. -/
theorem const_oct (n : Nat) (hn : n ≤ maxI) : const (48 :: digs 8 false n) = (n, (digs 8 false n).length + 1, false) := by
  have hm : n < 18446744073709551616 := by unfold maxI at hn; omega
  obtain ⟨d, t, hd, hb, _, _⟩ := digs_head 8 false (by omega) n hm
  have hs := sign_low d (by omega)
  have hg : ((48 :: digs 8 false n).getD 1 0).toNat = 48 + d := by rw [hd]; exact hs
  have h := digitsL_digsF 8 false (by omega) (by omega) 63 n [] 1 (lt_pow (by omega) hm) hn
  rw [List.append_nil] at h
  unfold const
  rw [if_neg (by simp), if_neg (by simp), if_neg (by simp), if_neg (by rw [hg]; omega)]
  unfold digits
  rw [digitsL, if_pos (by decide), if_neg (by simp)]
  show digitsL 8 (digsF (63 + 1) 8 false n []) 0 1 false = _
  rw [h]
  show (n, 1 + (digs 8 false n).length, false) = _
  rw [Nat.add_comm]

/-- A number's text. -/
def txt (n : Int) : List UInt8 := if n < 0 then 45 :: digs 10 false (-n).toNat else digs 10 false n.toNat
theorem txt_len (n : Int) : 0 < (txt n).length ∧ (txt n).length ≤ 65 := by
  unfold txt
  split
  · have := digs_len 10 false (-n).toNat; simp; omega
  · have := digs_len 10 false n.toNat; omega
/-- A digit at the front. -/
theorem num_dig {l : List UInt8} (hl : l.length ≠ 0) (h1 : 48 ≤ (l.getD 0 0).toNat) (h2 : (l.getD 0 0).toNat ≤ 57) : num l = (((const l).1 : Int), if (const l).2.2 = true then 6 else if (const l).2.1 = 0 ∨ (const l).2.1 < l.length then 14 else 0) := by
  unfold num
  rw [if_neg hl, if_neg (by omega), if_neg (by omega), if_neg (by omega)]
/-- A minus at the front. -/
theorem num_minus (l : List UInt8) : num (45 :: l) = if (const l).2.2 = true then (-9223372036854775808, 6) else (-((const l).1 : Int), if (const l).2.1 = 0 ∨ (const l).2.1 < l.length then 14 else 0) := by
  unfold num
  rw [if_neg (by simp), if_neg (by simp), if_pos (by simp)]
  rfl
/-- A plus at the front. -/
theorem num_plus (l : List UInt8) : num (43 :: l) = (((const l).1 : Int), if (const l).2.2 = true then 6 else if (const l).2.1 = 0 ∨ (const l).2.1 < l.length then 14 else 0) := by
  unfold num
  rw [if_neg (by simp), if_neg (by simp), if_neg (by simp), if_pos (by simp)]
  rfl
theorem num_txt (n : Int) (h1 : -9223372036854775808 < n) (h2 : n < 9223372036854775808) : num (txt n) = (n, 0) := by
  unfold txt
  split
  · have hm : (-n).toNat ≤ maxI := by unfold maxI; omega
    have hc := const_digs (-n).toNat hm [] (.inl rfl)
    have hp := (digs_len 10 false (-n).toNat).1
    rw [List.append_nil] at hc
    rw [num_minus, hc, if_neg (by simp), if_neg (by simp only []; omega)]
    simp only [Prod.mk.injEq, and_true]
    omega
  · have hm : n.toNat ≤ maxI := by unfold maxI; omega
    have hc := const_digs n.toNat hm [] (.inl rfl)
    have hp := (digs_len 10 false n.toNat).1
    obtain ⟨d, t, hd, hb, _, _⟩ := digs_head 10 false (by omega) n.toNat (by omega)
    have hs := sign_low d hb
    have hg : ((digs 10 false n.toNat).getD 0 0).toNat = 48 + d := by rw [hd]; exact hs
    rw [List.append_nil] at hc
    rw [num_dig (by omega) (by omega) (by omega), hc, if_neg (by simp), if_neg (by simp only []; omega)]
    simp only [Prod.mk.injEq, and_true]
    omega

/-! ### One conversion, one operand -/
theorem run_one (p : Part) (s : List UInt8) (o : List UInt8) (st : Bool) (c : Nat) (hp : p.conv ≠ 0) (hs : s.length ≤ 1024) (h1 : one p s = (o, st, c)) (ho : o.length ≤ 65536) :
    run [p] [s] = .ok ⟨o, if c = 0 then [] else [c], st⟩ := by
  have hpu : ∀ C, put ⟨[], C, false⟩ o = (⟨o, C, false⟩, true) := fun C => by
    unfold put room
    rw [if_pos (by simpa using ho)]
    rfl
  have hon : once [p] [s] ⟨[], [], false⟩ 0 = (⟨o, if c = 0 then [] else [c], st⟩, 1, !st) := by
    rw [once, if_neg hp]
    have hg : [s].getD 0 [] = s := rfl
    simp only [hg, h1]
    by_cases hc : c = 0
    · simp only [if_pos hc, hpu]
      cases st <;> rfl
    · simp only [if_neg hc, List.nil_append, hpu]
      cases st <;> rfl
  unfold run
  rw [if_neg (by simp)]
  have ht : tooLong [s] 0 = none := by rw [tooLong, if_neg (by omega)]; rfl
  rw [ht]
  show Except.ok (runF 2 [p] [s] ⟨[], [], false⟩) = _
  rw [runF, hon]
  simp
/-- An integer without flags, width, precision. -/
theorem filled_plain {p : Part} (hw : p.width = 0) (a b : List UInt8) (nb : Bool) : filled p a b nb = a ++ b := by
  unfold filled; rw [if_pos (by omega)]
theorem digs_zero (base : Nat) (up : Bool) : digs base up 0 = [48] := by
  unfold digs
  rw [digsF_one (by simp)]
  cases up <;> simp <;> rfl
theorem body1_plain {p : Part} (n : Int) (hpr : p.prec = -1) (up : Bool) (hup : (p.conv == 88) = up) (m : Nat) (hm : (if p.conv = 100 ∧ n < 0 then (-n).toNat else u64 n) = m) (h0 : n = 0 → m = 0) : body1 p n = digs (baseOf p) up m := by
  unfold body1 body0
  rw [hup, hm, hpr]
  by_cases h : n = 0
  · rw [if_pos h, h0 h, digs_zero]; rfl
  · rw [if_neg h]
    have := (digs_len (baseOf p) up m).1
    rw [show (if (-1 : Int) < 0 then 1 else (-1 : Int).toNat) - (digs (baseOf p) up m).length = 0 by simp; omega]
    rfl
def conv0 (c : Nat) : Part := ⟨[], c, fl0, 0, -1⟩
theorem u64_nonneg {n : Int} (h : 0 ≤ n) (h2 : n < 9223372036854775808) : u64 n = n.toNat := by unfold u64; omega
theorem u64_zero : u64 0 = 0 := by decide
theorem integer_d (n : Int) (h2 : n < 9223372036854775808) : integer (conv0 100) n = txt n := by
  have hb : body1 (conv0 100) n = digs 10 false (if n < 0 then (-n).toNat else n.toNat) := by
    refine body1_plain n rfl false rfl _ ?_ ?_
    · show (if (100 : Nat) = 100 ∧ n < 0 then _ else _) = _
      by_cases h : n < 0
      · rw [if_pos ⟨rfl, h⟩, if_pos h]
      · rw [if_neg (fun h' => h h'.2), if_neg h, u64_nonneg (by omega) h2]
    · intro h; subst h; rfl
  unfold integer
  rw [filled_plain rfl]
  unfold body2
  rw [if_neg (by rintro ⟨h, _⟩; exact absurd h (by decide)), hb]
  unfold ahead txt
  rw [if_pos (show (conv0 100).conv = 100 from rfl)]
  by_cases h : n < 0
  · rw [if_pos h, if_pos h, if_pos h]; rfl
  · rw [if_neg h, if_neg h, if_neg h, if_neg (by decide), if_neg (by decide)]; rfl
theorem integer_u (c base : Nat) (hc : c = 120 ∧ base = 16 ∨ c = 111 ∧ base = 8 ∨ c = 117 ∧ base = 10) (n : Int) : integer (conv0 c) n = digs base false (u64 n) := by
  have hb : body1 (conv0 c) n = digs base false (u64 n) := by
    have e : baseOf (conv0 c) = base := by rcases hc with ⟨rfl, rfl⟩ | ⟨rfl, rfl⟩ | ⟨rfl, rfl⟩ <;> rfl
    rw [← e]
    refine body1_plain n rfl false (by rcases hc with ⟨rfl, rfl⟩ | ⟨rfl, rfl⟩ | ⟨rfl, rfl⟩ <;> rfl) _ ?_ ?_
    · rw [if_neg (by rintro ⟨h, _⟩; rcases hc with ⟨rfl, _⟩ | ⟨rfl, _⟩ | ⟨rfl, _⟩ <;> exact absurd h (by decide))]
    · intro h; subst h; exact u64_zero
  unfold integer
  rw [filled_plain rfl]
  unfold body2
  have hf : ¬ (conv0 c).fl.alt = true := by show ¬ false = true; decide
  rw [if_neg (by rintro ⟨_, h, _⟩; exact hf h), hb]
  unfold ahead
  rw [if_neg (by rcases hc with ⟨rfl, _⟩ | ⟨rfl, _⟩ | ⟨rfl, _⟩ <;> decide), if_neg (by rintro ⟨_, h, _⟩; exact hf h)]
  rfl

/-! ### FillBack -/
theorem one_d (n : Int) (h1 : -9223372036854775808 < n) (h2 : n < 9223372036854775808) : one (conv0 100) (txt n) = (txt n, false, 0) := by
  unfold one
  rw [if_neg (by decide), if_neg (by decide), if_neg (by decide), num_txt n h1 h2, integer_d n h2]
theorem one_u (c base : Nat) (hc : c = 120 ∧ base = 16 ∨ c = 111 ∧ base = 8 ∨ c = 117 ∧ base = 10) (n : Int) (h1 : -9223372036854775808 < n) (h2 : n < 9223372036854775808) : one (conv0 c) (txt n) = (digs base false (u64 n), false, 0) := by
  unfold one
  rw [if_neg (by rcases hc with ⟨rfl, _⟩ | ⟨rfl, _⟩ | ⟨rfl, _⟩ <;> decide), if_neg (by rcases hc with ⟨rfl, _⟩ | ⟨rfl, _⟩ | ⟨rfl, _⟩ <;> decide), if_neg (by rcases hc with ⟨rfl, _⟩ | ⟨rfl, _⟩ | ⟨rfl, _⟩ <;> decide), num_txt n h1 h2, integer_u c base hc n]
theorem printf_d (n : Int) (h1 : -9223372036854775808 < n) (h2 : n < 9223372036854775808) : printf [37, 100] [txt n] = .ok ⟨txt n, [], false⟩ := by
  have ht := (txt_len n).2
  show run [conv0 100] [txt n] = _
  rw [run_one _ _ _ _ _ (by decide) (by omega) (one_d n h1 h2) (by omega)]; rfl
theorem printf_u (c : UInt8) (base : Nat) (hc : c = 120 ∧ base = 16 ∨ c = 111 ∧ base = 8 ∨ c = 117 ∧ base = 10) (n : Int) (h1 : -9223372036854775808 < n) (h2 : n < 9223372036854775808) : printf [37, c] [txt n] = .ok ⟨digs base false (u64 n), [], false⟩ := by
  have ht := (txt_len n).2
  have hd := (digs_len base false (u64 n)).2
  have hc' : c.toNat = 120 ∧ base = 16 ∨ c.toNat = 111 ∧ base = 8 ∨ c.toNat = 117 ∧ base = 10 := by rcases hc with ⟨rfl, h⟩ | ⟨rfl, h⟩ | ⟨rfl, h⟩ <;> simp [h]
  have hp : printf [37, c] [txt n] = run [conv0 c.toNat] [txt n] := by rcases hc with ⟨rfl, h⟩ | ⟨rfl, h⟩ | ⟨rfl, h⟩ <;> rfl
  rw [hp, run_one _ _ _ _ _ (by rcases hc' with ⟨h, _⟩ | ⟨h, _⟩ | ⟨h, _⟩ <;> rw [h] <;> decide) (by omega) (one_u _ base hc' n h1 h2) (by omega)]; rfl

/-! ### FillSigns -/
theorem run_lit_one (l : List UInt8) (p : Part) (s : List UInt8) (o : List UInt8) (st : Bool) (c : Nat) (hp : p.conv ≠ 0) (hl : l.length ≤ 100) (hs : s.length ≤ 1024) (h1 : one p s = (o, st, c)) (ho : o.length ≤ 60000) :
    run [litPart l, p] [s] = .ok ⟨l ++ o, if c = 0 then [] else [c], st⟩ := by
  have hpl : put ⟨[], [], false⟩ l = (⟨l, [], false⟩, true) := by
    unfold put room
    rw [if_pos (by simp; omega)]
    rfl
  have hpu : ∀ C, put ⟨l, C, false⟩ o = (⟨l ++ o, C, false⟩, true) := fun C => by
    unfold put room
    rw [if_pos (by simp only []; omega)]
  have hon : once [litPart l, p] [s] ⟨[], [], false⟩ 0 = (⟨l ++ o, if c = 0 then [] else [c], st⟩, 1, !st) := by
    rw [once, if_pos (show (litPart l).conv = 0 from rfl), show (litPart l).lit = l from rfl, hpl, if_pos (show (true : Bool) = true from rfl), once, if_neg hp]
    have hg : [s].getD 0 [] = s := rfl
    simp only [hg, h1]
    by_cases hc : c = 0
    · simp only [if_pos hc, hpu]
      cases st <;> rfl
    · simp only [if_neg hc, List.nil_append, hpu]
      cases st <;> rfl
  unfold run
  rw [if_neg (by simp)]
  have ht : tooLong [s] 0 = none := by rw [tooLong, if_neg (by omega)]; rfl
  rw [ht]
  show Except.ok (runF 2 [litPart l, p] [s] ⟨[], [], false⟩) = _
  rw [runF, hon]
  simp
def dtx (n : Nat) : List UInt8 := digs 10 false n
theorem dtx_txt (n : Nat) : dtx n = txt (n : Int) := by unfold dtx txt; rw [if_neg (by omega)]; simp
theorem printf_sd (n : Nat) (h : n < 4294967296) : printf [37, 100] [dtx n] = .ok ⟨dtx n, [], false⟩ := by
  rw [dtx_txt]; exact printf_d n (by omega) (by omega)
theorem u64_nat (n : Nat) (h : n < 4294967296) : u64 (n : Int) = n := by unfold u64; omega
theorem printf_sx (n : Nat) (h : n < 4294967296) : printf [48, 120, 37, 120] [dtx n] = .ok ⟨[48, 120] ++ digs 16 false n, [], false⟩ := by
  have ht := (digs_len 10 false n).2
  have hd := (digs_len 16 false n).2
  have h1 := one_u 120 16 (.inl ⟨rfl, rfl⟩) (n : Int) (by omega) (by omega)
  rw [← dtx_txt, u64_nat n h] at h1
  show run [litPart [48, 120], conv0 120] [dtx n] = _
  rw [run_lit_one _ _ _ _ _ _ (by decide) (by decide) (by unfold dtx; omega) h1 (by omega)]; rfl
theorem printf_so (n : Nat) (h : n < 4294967296) : printf [48, 37, 111] [dtx n] = .ok ⟨[48] ++ digs 8 false n, [], false⟩ := by
  have ht := (digs_len 10 false n).2
  have hd := (digs_len 8 false n).2
  have h1 := one_u 111 8 (.inr (.inl ⟨rfl, rfl⟩)) (n : Int) (by omega) (by omega)
  rw [← dtx_txt, u64_nat n h] at h1
  show run [litPart [48], conv0 111] [dtx n] = _
  rw [run_lit_one _ _ _ _ _ _ (by decide) (by decide) (by unfold dtx; omega) h1 (by omega)]; rfl
/-- A number behind a sign. -/
def sv (k n : Nat) : Int := if k = 0 ∨ k = 1 then (n : Int) else -(n : Int)
def sgn (k : Nat) : List UInt8 := if k = 0 then [] else if k = 1 then [43] else [45]
theorem num_sgn (k : Nat) (l : List UInt8) (n m : Nat) (hl : l.length ≠ 0) (h1 : 48 ≤ (l.getD 0 0).toNat) (h2 : (l.getD 0 0).toNat ≤ 57) (hc : const l = (n, m, false)) (hm : m ≠ 0) :
    num (sgn k ++ l) = (sv k n, if m < l.length then 14 else 0) := by
  unfold sv
  have hm' : (m = 0 ∨ m < l.length) ↔ m < l.length := by omega
  unfold sgn
  by_cases k0 : k = 0
  · rw [if_pos k0, if_pos (.inl k0), List.nil_append, num_dig hl h1 h2, hc]
    simp [hm']
  · by_cases k1 : k = 1
    · rw [if_neg k0, if_pos k1, if_pos (.inr k1)]
      show num (43 :: l) = _
      rw [num_plus, hc]
      simp [hm']
    · rw [if_neg k0, if_neg k1, if_neg (by omega)]
      show num (45 :: l) = _
      rw [num_minus, hc]
      simp [hm']
theorem dtx_front (n : Nat) (h : n < 4294967296) (r : List UInt8) : (dtx n ++ r).length ≠ 0 ∧ 48 ≤ ((dtx n ++ r).getD 0 0).toNat ∧ ((dtx n ++ r).getD 0 0).toNat ≤ 57 := by
  obtain ⟨d, t, hd, hb, _, _⟩ := digs_head 10 false (by omega) n (by omega)
  have hs := sign_low d hb
  unfold dtx
  rw [hd]
  refine ⟨by simp, ?_, ?_⟩
  · show 48 ≤ (sign false d).toNat; omega
  · show (sign false d).toNat ≤ 57; omega
theorem num_sd (k n : Nat) (h : n < 4294967296) : num (sgn k ++ dtx n) = (sv k n, 0) := by
  have hf := dtx_front n h []
  have hc := const_digs n (by unfold maxI; omega) [] (.inl rfl)
  rw [List.append_nil] at hf hc
  have hl := (digs_len 10 false n).1
  rw [num_sgn k (dtx n) n _ hf.1 hf.2.1 hf.2.2 hc (by omega), if_neg (by unfold dtx; omega)]
theorem num_sx (k n : Nat) (h : n < 4294967296) : num (sgn k ++ ([48, 120] ++ digs 16 false n)) = (sv k n, 0) := by
  rw [num_sgn k ([48, 120] ++ digs 16 false n) n _ (by simp) (by simp) (by simp) (const_hex n (by unfold maxI; omega)) (by omega), if_neg (by simp)]
theorem num_so (k n : Nat) (h : n < 4294967296) : num (sgn k ++ ([48] ++ digs 8 false n)) = (sv k n, 0) := by
  rw [num_sgn k ([48] ++ digs 8 false n) n _ (by simp) (by simp) (by simp) (const_oct n (by unfold maxI; omega)) (by omega), if_neg (by simp)]
theorem num_sz (k n : Nat) (h : n < 4294967296) : (num (sgn k ++ (dtx n ++ [122]))).2 = 14 := by
  have hf := dtx_front n h [122]
  have hc := const_digs n (by unfold maxI; omega) [122] (.inr rfl)
  have hl := (digs_len 10 false n).1
  rw [num_sgn k (dtx n ++ [122]) n _ hf.1 hf.2.1 hf.2.2 hc (by omega), if_pos (by simp [dtx])]
end Pg
end Go.Proofs.YtppcjmbblkbkdaaGreatDoor
