/- The walk of pidginref1.Hex: bytes to the base 16. Conditions as typed. -/
import Derived.Test.YtppcjmbblkbkdaaDoorPush
import Derived.Test.YtppcjmbblkbkdaaDoorStrs
import Derived.Test.YtppcjmbblkbkdaaDoorFText
import Derived.StillTailTactics
namespace Go.Proofs.YtppcjmbblkbkdaaDoor
open Go.RowKit Pg

/-- A string as bytes. -/
theorem conv_bytes (W : World) (S : ByteArray) (hz : S.size ≤ maxLen) :
    ∃ X gc, (convert 9 27 (.string S)).run Tryd.prog W = .ok (.slice (some ⟨W.heap.size, 0, none⟩) S.size gc) X ∧ Bs X (some ⟨W.heap.size, 0, none⟩) gc (bl S) ∧ Below W.heap.size W X :=
  ⟨_, _, Lib.run_convert_string_bytes (P := Tryd.prog) W 9 27 5 S Tryd.underlying9 Tryd.underlying27 Tryd.underlying5, bytes_bs W S hz, bytes_below W S⟩
/-- A digit to the base 16, out of a constant text. -/
theorem hexdig (x : Nat) (hx : x < 16) : ∀ W, (Instr.index 9 (.string ⟨#[48, 49, 50, 51, 52, 53, 54, 55, 56, 57, 97, 98, 99, 100, 101, 102]⟩) (.int .u8 x)).run Tryd.prog W = .ok (.int .u8 (sign false x).toNat) W := by
  have : x = 0 ∨ x = 1 ∨ x = 2 ∨ x = 3 ∨ x = 4 ∨ x = 5 ∨ x = 6 ∨ x = 7 ∨ x = 8 ∨ x = 9 ∨ x = 10 ∨ x = 11 ∨ x = 12 ∨ x = 13 ∨ x = 14 ∨ x = 15 := by omega
  intro W
  rcases this with rfl | rfl | rfl | rfl | rfl | rfl | rfl | rfl | rfl | rfl | rfl | rfl | rfl | rfl | rfl | rfl <;> kernel_rfl
/-- What the loop of Hex keeps. -/
structure HexR (W0 : World) (l : List UInt8) (i : Nat) (v : Value) (wr : World) : Prop where
  own : wr.ownsRow W0.heap.size 5 1 v ((l.take i).flatMap hex).length (u8s ((l.take i).flatMap hex))
  bel : Below W0.heap.size W0 wr
theorem HexR.next {W0 wr w1 : World} {l acc : List UInt8} {i n gg cap : Nat} {v : Value} {c a b : UInt8} (hT : (l.take (i + 1)).flatMap hex = (l.take i).flatMap hex ++ hex c) (hA : (l.take i).flatMap hex = acc) (hX : hex c = [a, b]) (ho : wr.ownsRow W0.heap.size 5 1 v acc.length (u8s acc)) (hb : Below W0.heap.size W0 wr)
    (h1 : w1.ownsRow W0.heap.size 5 1 (.slice (some ⟨gg, 0, none⟩) (acc.length + 2) cap) (acc.length + 2) (u8s acc ++ [.int .u8 a.toNat, .int .u8 b.toNat])) (hg : ∃ o, ((wr.alloc o).drew).grownBy w1 v.ownBlock) (hn : n = acc.length + 2) : HexR W0 l (i + 1) (.slice (some ⟨gg, 0, none⟩) n cap) w1 := by
  obtain ⟨o, hg⟩ := hg
  have e : (l.take (i + 1)).flatMap hex = acc ++ [a, b] := by rw [hT, hA, hX]
  subst hn
  refine ⟨?_, ?_⟩
  · rw [e, List.length_append, show u8s (acc ++ [a, b]) = u8s acc ++ [.int .u8 a.toNat, .int .u8 b.toNat] by simp [u8s]]
    exact h1
  · exact (((hb.alloc hb.size o).drew).grown hg (by show _ ≤ (wr.alloc o).heap.size; rw [World.size_alloc]; have := hb.size; omega) (fun k hk => (ho.lt k hk).1))
theorem ownStr {w : World} {B : Nat} {v : Value} {l : List UInt8} (h : w.ownsRow B 5 1 v l.length (u8s l)) : (convert 27 9 v).run Tryd.prog w = .ok (.string ⟨l.toArray⟩) w := by
  obtain ⟨a, cap, rfl, hb⟩ := (LitR.own h).bs
  exact bsS hb

set_option maxRecDepth 100000 in
set_option maxHeartbeats 8000000 in
/-- pidginref1.Hex. -/
theorem ref_Hex (S : ByteArray) (w : World) (hS : S.size ≤ 100000) :
    Calls Tryd.prog 34 #[.string S] w fun e w' => e = .returned (.string ⟨((bl S).flatMap hex).toArray⟩) ∧ Below w.heap.size w w' := by
  obtain ⟨i0, hi0, hz0, hz1, hz2⟩ := info_parts Tryd.infoU8
  obtain ⟨W0, cap, rc, hb, hB⟩ := conv_bytes w S (by unfold maxLen; omega)
  rw [← bl_length] at rc hS
  generalize ha : (some (⟨w.heap.size, 0, none⟩ : Addr)) = a at *
  generalize bl S = l at *
  have hlc := hb.1
  have hcm := hb.2.1
  unfold maxLen at hcm
  have HL := Lib.hid hb
  have HB0 := Lib.hid hB
  clear ha hb hB
  go_enter Tryd.func34, Tryd.ntmps34
  go_wp2_with fail
  go_loopw [3, 9] (fun v t wr => ∃ i : Nat, i ≤ l.length ∧ t = .int .i64 i ∧ Hid (HexR W0 l i v wr)) (fun _ t _ => l.length - (intOf t).toNat)
  case atStart => exact ⟨0, by omega, rfl, World.ownsRow_nil _ _ _ _, Below.refl _ _⟩
  case round =>
    obtain ⟨i, hi, rfl, HR⟩ := hrel
    by_cases hlt : i < l.length
    · have hsz := HR.out.bel.size
      obtain ⟨b0, o0, rfl, hc0⟩ := (HL.out.below HR.out.bel (Nat.le_refl _)).head i hlt
      have HTQ := Lib.hid (hex_take l i hlt)
      have hlen := hexs_length (l.take i)
      rw [List.length_take] at hlen
      obtain ⟨acc, hacc⟩ : ∃ acc, (l.take i).flatMap hex = acc := ⟨_, rfl⟩
      have HOWN := HR.out.own
      rw [hacc] at HOWN hlen
      have HOWN := Lib.hid HOWN
      have HBEL := Lib.hid HR.out.bel
      have HAC := Lib.hid hacc
      generalize l.getD i 0 = c at *
      have hcl := c.toNat_lt
      have hx1 : c.toNat / 16 < 16 := by omega
      have hx2 : c.toNat % 16 < 16 := by omega
      have hd1 := hexdig _ hx1
      have hd2 := hexdig _ hx2
      have ha2 := and15 c.toNat (by omega)
      have hdv : (c.toNat : Int) / 16 = ((c.toNat / 16 : Nat) : Int) := by omega
      have HX : Hid (hex c = [sign false (c.toNat / 16), sign false (c.toNat % 16)]) := rfl
      clear hacc HR
      generalize c.toNat / 16 = x1 at *
      generalize c.toNat % 16 = x2 at *
      go_upto_region 5 with (fail)
      have hwz := HBEL.out.size
      go_region_law
        ((refine step_append_lies _ (by rfl) _ _ _ (by rfl) W0.heap.size 5 i0 _ 1 1 Tryd.underlying27 hi0 hz0 hz1 hz2 rfl (by omega) u3 acc.length (u8s acc) (by rfl) ((HOWN.out.alloc _).drew)
            ⟨wr.heap.size, 0, none⟩ 2 2 [.int .u8 (sign false x1).toNat, .int .u8 (sign false x2).toNat] (by rfl) (by rfl) (World.news_of_block (cs := #[.int .u8 (sign false x1).toNat, .int .u8 (sign false x2).toNat]) (t := 5) (fr := (0, 0)) (heap_alloc_new wr _)) (by simp [Value.oneCell'])
            (by omega) (by unfold maxLen; omega) (by omega) (by simp; omega) (wr.heap.size + 1) (by simp) ?_; intro gg cap2 w1 hown1 hgrow hat hlt2; have HO1 := Lib.hid hown1; have HG1 : Hid (∃ o, ((wr.alloc o).drew).grownBy w1 (Value.ownBlock u3)) := ⟨_, hgrow⟩; clear hown1 hgrow hat))
      all_goals go_wp2_with fail
      all_goals go_roundw
      all_goals first
        | exact ⟨i + 1, by omega, by go_num, HexR.next HTQ.out HAC.out HX.out HOWN.out HBEL.out HO1.out HG1.out (by omega)⟩
        | (simp [intOf]; omega)
    · have HTL : Hid (l.take i = l) := List.take_of_length_le (by omega)
      have ks := ownStr HR.out.own
      rw [HTL.out] at ks
      have HBW := Lib.hid (HB0.out.trans (HR.out.bel.mono HB0.out.size))
      clear HR
      go_wp2_with fail
      go_ret
      exact ⟨rfl, HBW.out⟩
end Go.Proofs.YtppcjmbblkbkdaaDoor
