/- The walk of shape.conversion. Conditions as typed. -/
import Derived.Test.YtppcjmbblkbkdaaGreatDoorShape1
import Derived.Test.YtppcjmbblkbkdaaGreatDoorFmt
import Derived.Deep.DeepCutAuto
import Derived.Deep.LoopGhost
import Derived.Deep.CutBlock
namespace Go.Proofs.YtppcjmbblkbkdaaGreatDoor
open Go.RowKit Pg

theorem fl_cases (x : Nat) : (x = 45 ∧ isFl x = true ∧ ∀ f : Fl, f.set x = { f with minus := true }) ∨ (x = 43 ∧ isFl x = true ∧ ∀ f : Fl, f.set x = { f with plus := true }) ∨ (x = 32 ∧ isFl x = true ∧ ∀ f : Fl, f.set x = { f with space := true }) ∨
    (x = 48 ∧ isFl x = true ∧ ∀ f : Fl, f.set x = { f with zero := true }) ∨ (x = 35 ∧ isFl x = true ∧ ∀ f : Fl, f.set x = { f with alt := true }) ∨ ((x ≠ 45 ∧ x ≠ 43 ∧ x ≠ 32 ∧ x ≠ 48 ∧ x ≠ 35) ∧ isFl x = false) := by
  by_cases h1 : x = 45
  · subst h1; exact .inl ⟨rfl, rfl, fun _ => rfl⟩
  · by_cases h2 : x = 43
    · subst h2; exact .inr (.inl ⟨rfl, rfl, fun _ => rfl⟩)
    · by_cases h3 : x = 32
      · subst h3; exact .inr (.inr (.inl ⟨rfl, rfl, fun _ => rfl⟩))
      · by_cases h4 : x = 48
        · subst h4; exact .inr (.inr (.inr (.inl ⟨rfl, rfl, fun _ => rfl⟩)))
        · by_cases h5 : x = 35
          · subst h5; exact .inr (.inr (.inr (.inr (.inl ⟨rfl, rfl, fun _ => rfl⟩))))
          · exact .inr (.inr (.inr (.inr (.inr ⟨⟨h1, h2, h3, h4, h5⟩, by simp [isFl, h1, h2, h3, h4, h5]⟩))))
theorem beqT {x n : Nat} (h : x = n) : ((x : Int) == (n : Int)) = true := beq_iff_eq.2 (by omega)
theorem beqF {x n : Nat} (h : x ≠ n) : ((x : Int) == (n : Int)) = false := beq_eq_false_iff_ne.2 (by omega)
theorem flags_yes' {l : List UInt8} {f : Fl} {k i x : Nat} (h : i < l.length) (hx : (l.getD i 0).toNat = x) (hc : isFl x = true) {g : Fl} (hg : f.set x = g) : flags (l.drop (i + 1)) g (k + 1) = flags (l.drop i) f k := by
  have e : l.getD i 0 = l[i] := by simp [h]
  rw [e] at hx
  subst hx
  rw [flags_yes l f k i h hc, hg]
theorem flags_no' {l : List UInt8} {f : Fl} {k i x : Nat} (h : i < l.length) (hx : (l.getD i 0).toNat = x) (hc : isFl x = false) : flags (l.drop i) f k = (f, k) := by
  have e : l.getD i 0 = l[i] := by simp [h]
  rw [e] at hx
  subst hx
  exact flags_no l f k i h hc

def ConvPost (w : World) (A : Nat → Addr) (r : Except (Nat × Nat) (Part × Nat)) (e : Ending) (w' : World) : Prop :=
  Below w.heap.size w w' ∧ match r with
  | .error (c, p) => ∃ (q : Part) (k : Int) (v : Value), e = .returned (.tuple #[.agg (partCells (.slice none 0 0) q), .int .i64 k, v]) ∧ ErrAt w' A v c p
  | .ok (p, j) => e = .returned (.tuple #[.agg (partCells (.slice none 0 0) p), .int .i64 j, .nilIface])

theorem conv_flags {l : List UInt8} {i k : Nat} {f : Fl} (h : flags (l.drop i) fl0 0 = (f, k)) : conv l i = convWidth l i f (i + k) := by unfold conv; rw [h]
theorem conv_ok {w : World} {A : Nat → Addr} {r : Except (Nat × Nat) (Part × Nat)} {e : Ending} {w' : World} {p : Part} {j : Nat} (h : r = .ok (p, j)) (hb : Below w.heap.size w w') (he : e = .returned (.tuple #[.agg (partCells (.slice none 0 0) p), .int .i64 j, .nilIface])) : ConvPost w A r e w' := by
  subst h; exact ⟨hb, he⟩
theorem conv_err {w : World} {A : Nat → Addr} {r : Except (Nat × Nat) (Part × Nat)} {e : Ending} {w' : World} {c q : Nat} (h : r = .error (c, q)) (hb : Below w.heap.size w w') (p : Part) (k : Int) (v : Value)
    (he : e = .returned (.tuple #[.agg (partCells (.slice none 0 0) p), .int .i64 k, v])) (hE : ErrAt w' A v c q) : ConvPost w A r e w' := by
  subst h; exact ⟨hb, p, k, v, he, hE⟩
theorem ErrAt.drew {w : World} {A : Nat → Addr} {v : Value} {c : Nat} {q : Int} (h : ErrAt w A v c q) : ErrAt w.drew A v c q := h.kept (Below.refl w.heap.size w).drew (Nat.le_refl _)
theorem conv_drew {w : World} {A : Nat → Addr} {r : Except (Nat × Nat) (Part × Nat)} {e : Ending} {w' : World} (h : ConvPost w A r e w') : ConvPost w A r e w'.drew := by
  obtain ⟨hb, h⟩ := h
  refine ⟨hb.drew, ?_⟩
  split
  · obtain ⟨p, k, v, he, hE⟩ := h
    exact ⟨p, k, v, he, hE.drew⟩
  · exact h
theorem conv_err_end {w : World} {A : Nat → Addr} {r : Except (Nat × Nat) (Part × Nat)} {e : Ending} {c q : Nat} (h : r = .error (c, q)) (hS : Sents0 w A) (h1 : 1 ≤ c) (h2 : c ≤ 21) (c1 c2 : Array Value) (p : Part) (k : Int)
    (he : e = .returned (.tuple #[.agg (partCells (.slice none 0 0) p), .int .i64 k, .iface 69 (.pointer (some ⟨w.heap.size + 1 + 1 + 1, 0, none⟩))])) (z : Int) (hz : z = q) :
    ConvPost w A r e ((((w.alloc (.cells c1 59)).alloc (.cells c2 59)).alloc (.cells #[.iface 162 (.pointer (some (A c))), .int .i64 z] 68)).alloc (.cells #[.iface 64 (.pointer (some ⟨w.heap.size + 1 + 1, 0, none⟩)), .int .i64 5] 72)) := by
  subst hz
  have b2 : Below w.heap.size w ((w.alloc (.cells c1 59)).alloc (.cells c2 59)) := ((Below.refl _ _).alloc (Nat.le_refl _) _).alloc (by simp) _
  have hE := failW_err ((w.alloc (.cells c1 59)).alloc (.cells c2 59)) A (hS.kept b2 (Nat.le_refl _)) c h1 h2 q
  have b3 := below_failW ((w.alloc (.cells c1 59)).alloc (.cells c2 59)) (A c) q
  unfold failW at hE b3
  simp only [World.size_alloc] at hE b3
  exact conv_err h (b2.trans (b3.mono (by omega))) p k _ he hE
theorem conv_ok_end {w : World} {A : Nat → Addr} {r : Except (Nat × Nat) (Part × Nat)} {e : Ending} {p : Part} {j : Nat} (h : r = .ok (p, j)) (c1 c2 : Array Value) (z : Int) (hz : z = j)
    (he : e = .returned (.tuple #[.agg (partCells (.slice none 0 0) p), .int .i64 z, .nilIface])) : ConvPost w A r e ((w.alloc (.cells c1 59)).alloc (.cells c2 59)) := by
  subst hz
  exact conv_ok h (((Below.refl _ _).alloc (Nat.le_refl _) _).alloc (by simp) _) he
theorem getD_lt {l : List UInt8} (i : Nat) : (l.getD i 0).toNat < 256 := (l.getD i 0).toNat_lt
section
variable {l : List UInt8} {i j n x : Nat} {f : Fl} {pr : Int}
theorem convEnd_end (h : l.length ≤ j) : convEnd l i f n pr j = .error (3, l.length) := by unfold convEnd; rw [if_pos h]
theorem convEnd_bad (h : j < l.length) (hx : (l.getD j 0).toNat = x) (h1 : x = 37) (h2 : i < j) : convEnd l i f n pr j = .error (3, j) := by
  unfold convEnd; rw [if_neg (by omega), if_pos (by omega), if_pos h2]
theorem convEnd_pct (h : j < l.length) (hx : (l.getD j 0).toNat = x) (h1 : x = 37) (h2 : ¬ i < j) : convEnd l i f n pr j = .ok (⟨[], 37, f, n, pr⟩, j + 1) := by
  unfold convEnd; rw [if_neg (by omega), if_pos (by omega), if_neg h2]
theorem convEnd_pct' (h : j < l.length) (hx : (l.getD j 0).toNat = x) (h1 : x = 37) (h2 : ¬ i < j) : convEnd l i f n pr j = .ok (⟨[], x, f, n, pr⟩, j + 1) := by
  rw [convEnd_pct h hx h1 h2, h1]
theorem convEnd_letter (h : j < l.length) (hx : (l.getD j 0).toNat = x) (h1 : x ≠ 37) (h2 : isConv x = true) : convEnd l i f n pr j = .ok (⟨[], x, f, n, pr⟩, j + 1) := by
  subst hx; unfold convEnd; rw [if_neg (by omega), if_neg h1, if_pos h2]
theorem convEnd_i (h : j < l.length) (hx : (l.getD j 0).toNat = x) (h1 : x = 105) : convEnd l i f n pr j = .ok (⟨[], 100, f, n, pr⟩, j + 1) := by
  subst hx; unfold convEnd; rw [if_neg (by omega), if_neg (by omega), if_neg (by rw [h1]; decide), if_pos h1]
theorem convEnd_no (h : j < l.length) (hx : (l.getD j 0).toNat = x) (h1 : x ≠ 37) (h2 : isConv x = false) (h3 : x ≠ 105) : convEnd l i f n pr j = .error (3, j) := by
  subst hx; unfold convEnd; rw [if_neg (by omega), if_neg h1, if_neg (by rw [h2]; decide), if_neg h3]
end
theorem conv_cases (x : Nat) : x = 99 ∨ x = 115 ∨ x = 98 ∨ x = 100 ∨ x = 111 ∨ x = 117 ∨ x = 120 ∨ x = 88 ∨ ((x ≠ 99 ∧ x ≠ 115 ∧ x ≠ 98 ∧ x ≠ 100 ∧ x ≠ 111 ∧ x ≠ 117 ∧ x ≠ 120 ∧ x ≠ 88) ∧ isConv x = false) := by
  by_cases h : isConv x = true
  · simp only [isConv, Bool.or_eq_true, beq_iff_eq] at h
    omega
  · simp only [Bool.not_eq_true] at h
    have := h
    simp only [isConv, Bool.or_eq_false_iff, beq_eq_false_iff_ne] at this
    refine .inr (.inr (.inr (.inr (.inr (.inr (.inr (.inr ⟨?_, h⟩)))))))
    omega
theorem convWidth_no {l : List UInt8} {i j : Nat} {f : Fl} (h : number (l.drop j) = none) : convWidth l i f j = .error (6, j) := by unfold convWidth; rw [h]
theorem convWidth_ok {l : List UInt8} {i j n k : Nat} {f : Fl} (h : number (l.drop j) = some (n, k)) : convWidth l i f j = convPrec l i f n (j + k) := by unfold convWidth; rw [h]
theorem convPrec_no {l : List UInt8} {i j n : Nat} {f : Fl} (h1 : j < l.length) (h2 : (l.getD j 0).toNat = 46) (h : number (l.drop (j + 1)) = none) : convPrec l i f n j = .error (6, j + 1) := by
  unfold convPrec; rw [if_pos ⟨h1, h2⟩, h]
theorem convPrec_ok {l : List UInt8} {i j n m k : Nat} {f : Fl} (h1 : j < l.length) (h2 : (l.getD j 0).toNat = 46) (h : number (l.drop (j + 1)) = some (m, k)) : convPrec l i f n j = convEnd l i f n m (j + 1 + k) := by
  unfold convPrec; rw [if_pos ⟨h1, h2⟩, h]
theorem convPrec_nil {l : List UInt8} {i j n : Nat} {f : Fl} (h : ¬ (j < l.length ∧ (l.getD j 0).toNat = 46)) : convPrec l i f n j = convEnd l i f n (-1) j := by
  unfold convPrec; rw [if_neg h]

set_option maxRecDepth 100000 in
set_option maxHeartbeats 4000000 in
theorem shape_conversion (a : Option Addr) (cap : Nat) (l : List UInt8) (w : World) (hl : Bs w a cap l) (A : Nat → Addr) (hS : Sents0 w A) (i : Nat) (hi : i ≤ l.length) :
    Calls Tryz.prog 28 #[.slice a l.length cap, .int .i64 i] w (ConvPost w A (conv l i)) := by
  have HL := Lib.hid hl
  have hlc := hl.1
  have hcm := hl.2.1
  unfold maxLen at hcm
  have HS := Lib.hid hS
  clear hl hS
  go_enter Tryz.func28, Tryz.ntmps28
  go_upto_block 0 with fail
  go_step3
  go_upto_block 0 with fail
  go_step3
  go_upto_block 0 with fail
  go_cut [1, 20, 23, 26, 29, 32] (fun t _ _ _ _ _ wx => ∃ (f : Fl) (j : Nat), i ≤ j ∧ j ≤ l.length ∧ Hid (conv l i = convWidth l i f j) ∧ t = .int .i64 j ∧ wx = (w.alloc (.cells #[.slice none 0 0, .int .u8 0, .bool false, .bool false, .bool false, .bool false, .bool false, .int .i64 0, .int .i64 0] 59)).alloc (.cells #[.slice none 0 0, .int .u8 0, .bool f.minus, .bool f.plus, .bool f.space, .bool f.zero, .bool f.alt, .int .i64 0, .int .i64 (-1)] 59))
  case first =>
    go_wp2_with fail
    go_loopw [1] (fun t wr => ∃ (kk : Nat) (f : Fl), i + kk ≤ l.length ∧ t = .int .i64 ↑(i + kk) ∧ Hid (flags (l.drop (i + kk)) f kk = flags (l.drop i) fl0 0) ∧ wr = (w.alloc (.cells #[.slice none 0 0, .int .u8 0, .bool false, .bool false, .bool false, .bool false, .bool false, .int .i64 0, .int .i64 0] 59)).alloc (.cells #[.slice none 0 0, .int .u8 0, .bool f.minus, .bool f.plus, .bool f.space, .bool f.zero, .bool f.alt, .int .i64 0, .int .i64 (-1)] 59)) (fun t _ => l.length - (intOf t).toNat)
    case atStart => exact ⟨0, fl0, by omega, rfl, rfl, rfl⟩
    case round =>
      obtain ⟨kk, f, hk, rfl, HR, rfl⟩ := hrel
      by_cases hlt : i + kk < l.length
      · have hx0 := HL.out.head (i + kk) hlt
        obtain ⟨b, off, rfl, hc0⟩ := hx0
        have hb := lt_of_cell hc0
        obtain ⟨x, hx⟩ : ∃ x, (l.getD (i + kk) 0).toNat = x := ⟨_, rfl⟩
        rw [hx] at hc0
        have HX := Lib.hid hx
        clear hx
        rcases fl_cases x with ⟨hx, hfl, hset⟩ | ⟨hx, hfl, hset⟩ | ⟨hx, hfl, hset⟩ | ⟨hx, hfl, hset⟩ | ⟨hx, hfl, hset⟩ | ⟨⟨h1, h2, h3, h4, h5⟩, hfl⟩
        · have HF := Lib.hid (flags_yes' (k := kk) hlt HX.out hfl (hset f))
          have e45 := beqT (x := x) (n := 45) hx
          clear hfl hset hx
          simp only [Int.cast_ofNat_Int] at e45
          go_wp2_with fail
          go_roundw
          case rel => exact ⟨kk + 1, { f with minus := true }, by omega, by go_num, (by rw [show i + (kk + 1) = i + kk + 1 by omega]; exact HF.out.trans HR.out), rfl⟩
          case measure => simp [intOf]; omega
        · have HF := Lib.hid (flags_yes' (k := kk) hlt HX.out hfl (hset f))
          have e45 := beqF (x := x) (n := 45) (by omega)
          have e43 := beqT (x := x) (n := 43) hx
          clear hfl hset hx
          simp only [Int.cast_ofNat_Int] at e45 e43
          go_wp2_with fail
          go_roundw
          case rel => exact ⟨kk + 1, { f with plus := true }, by omega, by go_num, (by rw [show i + (kk + 1) = i + kk + 1 by omega]; exact HF.out.trans HR.out), rfl⟩
          case measure => simp [intOf]; omega
        · have HF := Lib.hid (flags_yes' (k := kk) hlt HX.out hfl (hset f))
          have e45 := beqF (x := x) (n := 45) (by omega)
          have e43 := beqF (x := x) (n := 43) (by omega)
          have e32 := beqT (x := x) (n := 32) hx
          clear hfl hset hx
          simp only [Int.cast_ofNat_Int] at e45 e43 e32
          go_wp2_with fail
          go_roundw
          case rel => exact ⟨kk + 1, { f with space := true }, by omega, by go_num, (by rw [show i + (kk + 1) = i + kk + 1 by omega]; exact HF.out.trans HR.out), rfl⟩
          case measure => simp [intOf]; omega
        · have HF := Lib.hid (flags_yes' (k := kk) hlt HX.out hfl (hset f))
          have e45 := beqF (x := x) (n := 45) (by omega)
          have e43 := beqF (x := x) (n := 43) (by omega)
          have e32 := beqF (x := x) (n := 32) (by omega)
          have e48 := beqT (x := x) (n := 48) hx
          clear hfl hset hx
          simp only [Int.cast_ofNat_Int] at e45 e43 e32 e48
          go_wp2_with fail
          go_roundw
          case rel => exact ⟨kk + 1, { f with zero := true }, by omega, by go_num, (by rw [show i + (kk + 1) = i + kk + 1 by omega]; exact HF.out.trans HR.out), rfl⟩
          case measure => simp [intOf]; omega
        · have HF := Lib.hid (flags_yes' (k := kk) hlt HX.out hfl (hset f))
          have e45 := beqF (x := x) (n := 45) (by omega)
          have e43 := beqF (x := x) (n := 43) (by omega)
          have e32 := beqF (x := x) (n := 32) (by omega)
          have e48 := beqF (x := x) (n := 48) (by omega)
          have e35 := beqT (x := x) (n := 35) hx
          clear hfl hset hx
          simp only [Int.cast_ofNat_Int] at e45 e43 e32 e48 e35
          go_wp2_with fail
          go_roundw
          case rel => exact ⟨kk + 1, { f with alt := true }, by omega, by go_num, (by rw [show i + (kk + 1) = i + kk + 1 by omega]; exact HF.out.trans HR.out), rfl⟩
          case measure => simp [intOf]; omega
        · have HF := Lib.hid (flags_no' (f := f) (k := kk) hlt HX.out hfl)
          have e1 := beqF h1
          have e2 := beqF h2
          have e3 := beqF h3
          have e4 := beqF h4
          have e5 := beqF h5
          clear hfl h1 h2 h3 h4 h5
          simp only [Int.cast_ofNat_Int] at e1 e2 e3 e4 e5
          go_wp2_with fail
          go_meet
          exact ⟨f, i + kk, by omega, by omega, conv_flags (HR.out.symm.trans HF.out), rfl, rfl⟩
      · have HF := Lib.hid (flags_end l f kk (i + kk) (by omega))
        go_wp2_with fail
        go_meet
        exact ⟨f, i + kk, by omega, by omega, conv_flags (HR.out.symm.trans HF.out), rfl, rfl⟩
  case rest =>
    obtain ⟨f, j, hij, hj, HF, rfl, rfl⟩ := hcut
    have bW : Below w.heap.size w ((w.alloc (.cells #[.slice none 0 0, .int .u8 0, .bool false, .bool false, .bool false, .bool false, .bool false, .int .i64 0, .int .i64 0] 59)).alloc (.cells #[.slice none 0 0, .int .u8 0, .bool f.minus, .bool f.plus, .bool f.space, .bool f.zero, .bool f.alt, .int .i64 0, .int .i64 (-1)] 59)) := ((Below.refl _ _).alloc (Nat.le_refl _) _).alloc (by simp) _
    have BW := Lib.hid bW
    have HLW := Lib.hid (HL.out.below bW (Nat.le_refl _))
    have HSW := Lib.hid (HS.out.kept bW (Nat.le_refl _))
    clear bW
    cases hn : number (l.drop j) with
    | none =>
      have C := Lib.hid (shape_number_no a cap l _ HLW.out A HSW.out j hj hn)
      have HN := Lib.hid (HF.out.trans (convWidth_no hn))
      clear hn
      simp only [failW] at C
      go_wp2_with (go_at_call 47; refine C.out.mono ?_; rintro e w' ⟨rfl, rfl⟩)
      rw [Exit.noGoto_ret]
      refine bodyPost_ret (v := .tuple #[.agg (partCells (.slice none 0 0) ⟨[], 0, f, 0, -1⟩), .int .i64 j, .iface 69 (.pointer (some ⟨w.heap.size + 1 + 1 + 1, 0, none⟩))]) (by simp [results, Tryz.results28, go_sem, partCells]) rfl ?_
      exact conv_err_end HN.out HS.out (by omega) (by omega) _ _ _ _ rfl _ (by omega)
    | some nk =>
      obtain ⟨n, k⟩ := nk
      obtain ⟨j1, hj1⟩ : ∃ j1, j1 = j + k := ⟨_, rfl⟩
      have C := Lib.hid (shape_number_ok a cap l _ HLW.out j hj n k hn)
      rw [show ((j : Int) + (k : Int)) = (j1 : Int) by omega] at C
      have HN : Hid (conv l i = convPrec l i f n j1) := by rw [hj1]; exact HF.out.trans (convWidth_ok hn)
      have hkl := (number_le hn).2
      rw [List.length_drop] at hkl
      have hj1l : j1 ≤ l.length := by omega
      have hjj1 : j ≤ j1 := by omega
      have hn1000 := (number_le hn).1
      clear hn hj1 hkl HF
      go_upto_region 20 with (go_at_call 47; refine C.out.mono ?_; rintro e w' ⟨rfl, rfl⟩)
      go_cut [60] (fun t wx => ∃ D : Bool, Hid (D = decide (j1 < l.length ∧ (l.getD j1 0).toNat = 46)) ∧ t = .bool D ∧ wx = (w.alloc (.cells #[.slice none 0 0, .int .u8 0, .bool false, .bool false, .bool false, .bool false, .bool false, .int .i64 0, .int .i64 0] 59)).alloc (.cells #[.slice none 0 0, .int .u8 0, .bool f.minus, .bool f.plus, .bool f.space, .bool f.zero, .bool f.alt, .int .i64 n, .int .i64 (-1)] 59))
      case first =>
        by_cases hlt : j1 < l.length
        · obtain ⟨b, off, rfl, hc0⟩ := HL.out.head j1 hlt
          have hb := lt_of_cell hc0
          obtain ⟨x, hx⟩ : ∃ x, (l.getD j1 0).toNat = x := ⟨_, rfl⟩
          rw [hx] at hc0
          have HX := Lib.hid hx
          clear hx
          by_cases h46 : x = 46
          · have e46 := beqT h46
            have HD : Hid (true = decide (j1 < l.length ∧ (l.getD j1 0).toNat = 46)) := (decide_eq_true ⟨hlt, HX.out.trans h46⟩).symm
            simp only [Int.cast_ofNat_Int] at e46
            clear h46
            go_wp2_with fail
            go_meet
            exact ⟨true, HD, rfl, rfl⟩
          · have e46 := beqF h46
            have HD : Hid (false = decide (j1 < l.length ∧ (l.getD j1 0).toNat = 46)) := (decide_eq_false fun h => h46 (HX.out.symm.trans h.2)).symm
            simp only [Int.cast_ofNat_Int] at e46
            clear h46
            go_wp2_with fail
            go_meet
            exact ⟨false, HD, rfl, rfl⟩
        · have HD : Hid (false = decide (j1 < l.length ∧ (l.getD j1 0).toNat = 46)) := (decide_eq_false fun h => hlt h.1).symm
          go_wp2_with fail
          go_meet
          exact ⟨false, HD, rfl, rfl⟩
      case rest =>
        obtain ⟨D, HD, rfl, rfl⟩ := hcut
        go_upto_if 60 with (fail)
        go_cut [1, 9] (fun t v wx => ∃ (j2 : Nat) (pr : Int), i ≤ j2 ∧ j2 ≤ l.length ∧ Hid (conv l i = convEnd l i f n pr j2) ∧ t = .int .i64 j2 ∧ v = .nilIface ∧ wx = (w.alloc (.cells #[.slice none 0 0, .int .u8 0, .bool false, .bool false, .bool false, .bool false, .bool false, .int .i64 0, .int .i64 0] 59)).alloc (.cells #[.slice none 0 0, .int .u8 0, .bool f.minus, .bool f.plus, .bool f.space, .bool f.zero, .bool f.alt, .int .i64 n, .int .i64 pr] 59))
        case first =>
          cases D
          · go_wp2_with fail
            go_meet
            exact ⟨j1, -1, by omega, by omega, HN.out.trans (convPrec_nil (of_decide_eq_false HD.out.symm)), rfl, rfl, rfl⟩
          · have hd := of_decide_eq_true HD.out.symm
            have hlt := hd.1
            have H46 := Lib.hid hd.2
            clear hd
            have bW : Below w.heap.size w ((w.alloc (.cells #[.slice none 0 0, .int .u8 0, .bool false, .bool false, .bool false, .bool false, .bool false, .int .i64 0, .int .i64 0] 59)).alloc (.cells #[.slice none 0 0, .int .u8 0, .bool f.minus, .bool f.plus, .bool f.space, .bool f.zero, .bool f.alt, .int .i64 n, .int .i64 (-1)] 59)) := ((Below.refl _ _).alloc (Nat.le_refl _) _).alloc (by simp) _
            have BW2 := Lib.hid bW
            have HLW2 := Lib.hid (HL.out.below bW (Nat.le_refl _))
            have HSW2 := Lib.hid (HS.out.kept bW (Nat.le_refl _))
            clear bW
            cases hm : number (l.drop (j1 + 1)) with
            | none =>
              have C2 := Lib.hid (shape_number_no a cap l _ HLW2.out A HSW2.out (j1 + 1) (by omega) hm)
              have HE := Lib.hid (HN.out.trans (convPrec_no hlt H46.out hm))
              clear hm
              simp only [failW, Int.natCast_add, Int.cast_ofNat_Int] at C2
              go_wp2_with fail
              refine C2.out.mono ?_
              rintro e w' ⟨rfl, rfl⟩
              go_wp2_with fail
              rw [Exit.noGoto_ret]
              refine bodyPost_ret (v := .tuple #[.agg (partCells (.slice none 0 0) ⟨[], 0, f, n, 0⟩), .int .i64 (j1 + 1), .iface 69 (.pointer (some ⟨w.heap.size + 1 + 1 + 1, 0, none⟩))]) (by simp [results, Tryz.results28, go_sem, partCells]) rfl ?_
              exact conv_err_end HE.out HS.out (by omega) (by omega) _ _ _ _ rfl _ (by omega)
            | some mk =>
              obtain ⟨m, k2⟩ := mk
              obtain ⟨j2, hj2⟩ : ∃ j2, j2 = j1 + 1 + k2 := ⟨_, rfl⟩
              have C2 := Lib.hid (shape_number_ok a cap l _ HLW2.out (j1 + 1) (by omega) m k2 hm)
              rw [show (((j1 + 1 : Nat) : Int) + (k2 : Int)) = (j2 : Int) by omega] at C2
              simp only [Int.natCast_add, Int.cast_ofNat_Int] at C2
              have HE : Hid (conv l i = convEnd l i f n m j2) := by rw [hj2]; exact HN.out.trans (convPrec_ok hlt H46.out hm)
              have hkl := (number_le hm).2
              rw [List.length_drop] at hkl
              have hj2l : j2 ≤ l.length := by omega
              have hj12 : j1 ≤ j2 := by omega
              clear hm hj2 hkl
              go_wp2_with fail
              refine C2.out.mono ?_
              rintro e w' ⟨rfl, rfl⟩
              go_wp2_with fail
              go_meet
              exact ⟨j2, m, by omega, by omega, HE.out, rfl, rfl, rfl⟩
        case rest =>
          obtain ⟨j2, pr, hij2, hj2, HE, rfl, rfl, rfl⟩ := hcut
          have bW : Below w.heap.size w ((w.alloc (.cells #[.slice none 0 0, .int .u8 0, .bool false, .bool false, .bool false, .bool false, .bool false, .int .i64 0, .int .i64 0] 59)).alloc (.cells #[.slice none 0 0, .int .u8 0, .bool f.minus, .bool f.plus, .bool f.space, .bool f.zero, .bool f.alt, .int .i64 n, .int .i64 pr] 59)).drew := (((Below.refl _ _).alloc (Nat.le_refl _) _).alloc (by simp) _).drew
          have BW3 := Lib.hid bW
          have HSW3 := Lib.hid (HS.out.kept bW (Nat.le_refl _))
          clear bW
          by_cases hlt : j2 < l.length
          · obtain ⟨b, off, rfl, hc0⟩ := HL.out.head j2 hlt
            have hb := lt_of_cell hc0
            obtain ⟨x, hx⟩ : ∃ x, (l.getD j2 0).toNat = x := ⟨_, rfl⟩
            rw [hx] at hc0
            have HX := Lib.hid hx
            clear hx
            by_cases h37 : x = 37
            · have e37 := beqT (x := x) (n := 37) h37
              simp only [Int.cast_ofNat_Int] at e37
              by_cases h2 : i < j2
              · have HC := Lib.hid (HE.out.trans (convEnd_bad (f := f) (n := n) (pr := pr) hlt HX.out h37 h2))
                have F := Lib.hid (shape_fail _ A HSW3.out 3 (by omega) (by omega) j2)
                simp only [failW] at F
                clear h37
                go_wp2_with fail
                go_region_with (go_at_call 25; refine F.out.mono ?_; rintro e w' ⟨rfl, rfl⟩)
                all_goals go_wp2_with fail
                all_goals try rw [Exit.noGoto_ret]
                all_goals refine bodyPost_ret (v := .tuple #[.agg (partCells (.slice none 0 0) ⟨[], 0, f, n, pr⟩), .int .i64 j2, .iface 69 (.pointer (some ⟨w.heap.size + 1 + 1 + 1, 0, none⟩))]) (by simp [results, Tryz.results28, go_sem, partCells]) rfl ?_
                all_goals exact conv_drew (conv_err_end HC.out HS.out (by omega) (by omega) _ _ _ _ rfl _ (by omega))
              · have HC := Lib.hid (HE.out.trans (convEnd_pct' (f := f) (n := n) (pr := pr) hlt HX.out h37 h2))
                clear h37
                go_wp2_with fail
                try rw [Exit.noGoto_ret]
                refine bodyPost_ret (v := .tuple #[.agg (partCells (.slice none 0 0) ⟨[], x, f, n, pr⟩), .int .i64 (j2 + 1), .nilIface]) (by simp [results, Tryz.results28, go_sem, partCells]) rfl ?_
                exact conv_ok_end HC.out _ _ _ (by omega) rfl
            by_cases hx105 : x = 105
            · have HC := Lib.hid (HE.out.trans (convEnd_i (f := f) (n := n) (pr := pr) (i := i) hlt HX.out hx105))
              have e37 := beqF (x := x) (n := 37) (by omega)
              have e105 := beqT hx105
              have e1 := beqF (x := x) (n := 99) (by omega)
              have e2 := beqF (x := x) (n := 115) (by omega)
              have e3 := beqF (x := x) (n := 98) (by omega)
              have e4 := beqF (x := x) (n := 100) (by omega)
              have e5 := beqF (x := x) (n := 111) (by omega)
              have e6 := beqF (x := x) (n := 117) (by omega)
              have e7 := beqF (x := x) (n := 120) (by omega)
              have e8 := beqF (x := x) (n := 88) (by omega)
              clear h37 hx105
              simp only [Int.cast_ofNat_Int] at e1 e2 e3 e4 e5 e6 e7 e8 e37 e105
              go_wp2_with fail
              try rw [Exit.noGoto_ret]
              refine bodyPost_ret (v := .tuple #[.agg (partCells (.slice none 0 0) ⟨[], 100, f, n, pr⟩), .int .i64 (j2 + 1), .nilIface]) (by simp [results, Tryz.results28, go_sem, partCells]) rfl ?_
              exact conv_ok_end HC.out _ _ _ (by omega) rfl
            rcases conv_cases x with hx | hx | hx | hx | hx | hx | hx | hx | ⟨⟨h1, h2, h3, h4, h5, h6, h7, h8⟩, hno⟩
            · have HC := Lib.hid (HE.out.trans (convEnd_letter (f := f) (n := n) (pr := pr) (i := i) hlt HX.out (by omega) (by rw [hx]; rfl)))
              have e37 := beqF (x := x) (n := 37) (by omega); have e99 := beqT (x := x) (n := 99) hx
              clear hx h37
              simp only [Int.cast_ofNat_Int] at e37 e99
              go_wp2_with fail
              try rw [Exit.noGoto_ret]
              refine bodyPost_ret (v := .tuple #[.agg (partCells (.slice none 0 0) ⟨[], x, f, n, pr⟩), .int .i64 (j2 + 1), .nilIface]) (by simp [results, Tryz.results28, go_sem, partCells]) rfl ?_
              exact conv_ok_end HC.out _ _ _ (by omega) rfl
            · have HC := Lib.hid (HE.out.trans (convEnd_letter (f := f) (n := n) (pr := pr) (i := i) hlt HX.out (by omega) (by rw [hx]; rfl)))
              have e37 := beqF (x := x) (n := 37) (by omega); have e99 := beqF (x := x) (n := 99) (by omega); have e115 := beqT (x := x) (n := 115) hx
              clear hx h37
              simp only [Int.cast_ofNat_Int] at e37 e99 e115
              go_wp2_with fail
              try rw [Exit.noGoto_ret]
              refine bodyPost_ret (v := .tuple #[.agg (partCells (.slice none 0 0) ⟨[], x, f, n, pr⟩), .int .i64 (j2 + 1), .nilIface]) (by simp [results, Tryz.results28, go_sem, partCells]) rfl ?_
              exact conv_ok_end HC.out _ _ _ (by omega) rfl
            · have HC := Lib.hid (HE.out.trans (convEnd_letter (f := f) (n := n) (pr := pr) (i := i) hlt HX.out (by omega) (by rw [hx]; rfl)))
              have e37 := beqF (x := x) (n := 37) (by omega); have e99 := beqF (x := x) (n := 99) (by omega); have e115 := beqF (x := x) (n := 115) (by omega); have e98 := beqT (x := x) (n := 98) hx
              clear hx h37
              simp only [Int.cast_ofNat_Int] at e37 e99 e115 e98
              go_wp2_with fail
              try rw [Exit.noGoto_ret]
              refine bodyPost_ret (v := .tuple #[.agg (partCells (.slice none 0 0) ⟨[], x, f, n, pr⟩), .int .i64 (j2 + 1), .nilIface]) (by simp [results, Tryz.results28, go_sem, partCells]) rfl ?_
              exact conv_ok_end HC.out _ _ _ (by omega) rfl
            · have HC := Lib.hid (HE.out.trans (convEnd_letter (f := f) (n := n) (pr := pr) (i := i) hlt HX.out (by omega) (by rw [hx]; rfl)))
              have e37 := beqF (x := x) (n := 37) (by omega); have e99 := beqF (x := x) (n := 99) (by omega); have e115 := beqF (x := x) (n := 115) (by omega); have e98 := beqF (x := x) (n := 98) (by omega); have e100 := beqT (x := x) (n := 100) hx
              clear hx h37
              simp only [Int.cast_ofNat_Int] at e37 e99 e115 e98 e100
              go_wp2_with fail
              try rw [Exit.noGoto_ret]
              refine bodyPost_ret (v := .tuple #[.agg (partCells (.slice none 0 0) ⟨[], x, f, n, pr⟩), .int .i64 (j2 + 1), .nilIface]) (by simp [results, Tryz.results28, go_sem, partCells]) rfl ?_
              exact conv_ok_end HC.out _ _ _ (by omega) rfl
            · have HC := Lib.hid (HE.out.trans (convEnd_letter (f := f) (n := n) (pr := pr) (i := i) hlt HX.out (by omega) (by rw [hx]; rfl)))
              have e37 := beqF (x := x) (n := 37) (by omega); have e99 := beqF (x := x) (n := 99) (by omega); have e115 := beqF (x := x) (n := 115) (by omega); have e98 := beqF (x := x) (n := 98) (by omega); have e100 := beqF (x := x) (n := 100) (by omega); have e111 := beqT (x := x) (n := 111) hx
              clear hx h37
              simp only [Int.cast_ofNat_Int] at e37 e99 e115 e98 e100 e111
              go_wp2_with fail
              try rw [Exit.noGoto_ret]
              refine bodyPost_ret (v := .tuple #[.agg (partCells (.slice none 0 0) ⟨[], x, f, n, pr⟩), .int .i64 (j2 + 1), .nilIface]) (by simp [results, Tryz.results28, go_sem, partCells]) rfl ?_
              exact conv_ok_end HC.out _ _ _ (by omega) rfl
            · have HC := Lib.hid (HE.out.trans (convEnd_letter (f := f) (n := n) (pr := pr) (i := i) hlt HX.out (by omega) (by rw [hx]; rfl)))
              have e37 := beqF (x := x) (n := 37) (by omega); have e99 := beqF (x := x) (n := 99) (by omega); have e115 := beqF (x := x) (n := 115) (by omega); have e98 := beqF (x := x) (n := 98) (by omega); have e100 := beqF (x := x) (n := 100) (by omega); have e111 := beqF (x := x) (n := 111) (by omega); have e117 := beqT (x := x) (n := 117) hx
              clear hx h37
              simp only [Int.cast_ofNat_Int] at e37 e99 e115 e98 e100 e111 e117
              go_wp2_with fail
              try rw [Exit.noGoto_ret]
              refine bodyPost_ret (v := .tuple #[.agg (partCells (.slice none 0 0) ⟨[], x, f, n, pr⟩), .int .i64 (j2 + 1), .nilIface]) (by simp [results, Tryz.results28, go_sem, partCells]) rfl ?_
              exact conv_ok_end HC.out _ _ _ (by omega) rfl
            · have HC := Lib.hid (HE.out.trans (convEnd_letter (f := f) (n := n) (pr := pr) (i := i) hlt HX.out (by omega) (by rw [hx]; rfl)))
              have e37 := beqF (x := x) (n := 37) (by omega); have e99 := beqF (x := x) (n := 99) (by omega); have e115 := beqF (x := x) (n := 115) (by omega); have e98 := beqF (x := x) (n := 98) (by omega); have e100 := beqF (x := x) (n := 100) (by omega); have e111 := beqF (x := x) (n := 111) (by omega); have e117 := beqF (x := x) (n := 117) (by omega); have e120 := beqT (x := x) (n := 120) hx
              clear hx h37
              simp only [Int.cast_ofNat_Int] at e37 e99 e115 e98 e100 e111 e117 e120
              go_wp2_with fail
              try rw [Exit.noGoto_ret]
              refine bodyPost_ret (v := .tuple #[.agg (partCells (.slice none 0 0) ⟨[], x, f, n, pr⟩), .int .i64 (j2 + 1), .nilIface]) (by simp [results, Tryz.results28, go_sem, partCells]) rfl ?_
              exact conv_ok_end HC.out _ _ _ (by omega) rfl
            · have HC := Lib.hid (HE.out.trans (convEnd_letter (f := f) (n := n) (pr := pr) (i := i) hlt HX.out (by omega) (by rw [hx]; rfl)))
              have e37 := beqF (x := x) (n := 37) (by omega); have e99 := beqF (x := x) (n := 99) (by omega); have e115 := beqF (x := x) (n := 115) (by omega); have e98 := beqF (x := x) (n := 98) (by omega); have e100 := beqF (x := x) (n := 100) (by omega); have e111 := beqF (x := x) (n := 111) (by omega); have e117 := beqF (x := x) (n := 117) (by omega); have e120 := beqF (x := x) (n := 120) (by omega); have e88 := beqT (x := x) (n := 88) hx
              clear hx h37
              simp only [Int.cast_ofNat_Int] at e37 e99 e115 e98 e100 e111 e117 e120 e88
              go_wp2_with fail
              try rw [Exit.noGoto_ret]
              refine bodyPost_ret (v := .tuple #[.agg (partCells (.slice none 0 0) ⟨[], x, f, n, pr⟩), .int .i64 (j2 + 1), .nilIface]) (by simp [results, Tryz.results28, go_sem, partCells]) rfl ?_
              exact conv_ok_end HC.out _ _ _ (by omega) rfl
            · have HC := Lib.hid (HE.out.trans (convEnd_no (f := f) (n := n) (pr := pr) (i := i) hlt HX.out h37 hno hx105))
              have F := Lib.hid (shape_fail _ A HSW3.out 3 (by omega) (by omega) j2)
              simp only [failW] at F
              have e37 := beqF h37
              have e105 := beqF hx105
              have e1 := beqF h1
              have e2 := beqF h2
              have e3 := beqF h3
              have e4 := beqF h4
              have e5 := beqF h5
              have e6 := beqF h6
              have e7 := beqF h7
              have e8 := beqF h8
              clear h37 h1 h2 h3 h4 h5 h6 h7 h8 hno hx105
              simp only [Int.cast_ofNat_Int] at e1 e2 e3 e4 e5 e6 e7 e8 e37 e105
              go_wp2_with fail
              go_region_with (go_at_call 25; refine F.out.mono ?_; rintro e w' ⟨rfl, rfl⟩)
              all_goals go_wp2_with fail
              all_goals try rw [Exit.noGoto_ret]
              all_goals refine bodyPost_ret (v := .tuple #[.agg (partCells (.slice none 0 0) ⟨[], 0, f, n, pr⟩), .int .i64 j2, .iface 69 (.pointer (some ⟨w.heap.size + 1 + 1 + 1, 0, none⟩))]) (by simp [results, Tryz.results28, go_sem, partCells]) rfl ?_
              all_goals exact conv_drew (conv_err_end HC.out HS.out (by omega) (by omega) _ _ _ _ rfl _ (by omega))
          · have HC := Lib.hid (HE.out.trans (convEnd_end (f := f) (n := n) (pr := pr) (i := i) (by omega)))
            have F := Lib.hid (shape_fail _ A HSW3.out 3 (by omega) (by omega) l.length)
            simp only [failW] at F
            go_wp2_with fail
            go_region_with (go_at_call 25; refine F.out.mono ?_; rintro e w' ⟨rfl, rfl⟩)
            all_goals go_wp2_with fail
            all_goals try rw [Exit.noGoto_ret]
            all_goals refine bodyPost_ret (v := .tuple #[.agg (partCells (.slice none 0 0) ⟨[], 0, f, n, pr⟩), .int .i64 j2, .iface 69 (.pointer (some ⟨w.heap.size + 1 + 1 + 1, 0, none⟩))]) (by simp [results, Tryz.results28, go_sem, partCells]) rfl ?_
            all_goals exact conv_drew (conv_err_end HC.out HS.out (by omega) (by omega) _ _ _ _ rfl _ (by omega))
end Go.Proofs.YtppcjmbblkbkdaaGreatDoor
