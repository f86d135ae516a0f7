/- The walk of fill.unescaped. Conditions as typed. -/
import Derived.Test.YtppcjmbblkbkdaaGreatDoorInteger
import Derived.Test.YtppcjmbblkbkdaaGreatDoorParse
import Derived.Test.YtppcjmbblkbkdaaGreatDoorPrinter
import Derived.Lib.BufferRead
namespace Go.Proofs.YtppcjmbblkbkdaaGreatDoor
open Go.RowKit Pg

section
variable {l : List UInt8} {i m : Nat} {acc : List UInt8}
theorem ue_end {n : Nat} (h : l.length ≤ i) : unescF n l i acc = (acc, false) := by
  cases n with
  | zero => rfl
  | succ n => unfold unescF; rw [if_neg (by omega)]
theorem ue_byte (h : i < l.length) (hx : (l.getD i 0).toNat ≠ 92) : unescF (m + 1) l i acc = unescF m l (i + 1) (acc ++ [l.getD i 0]) := by
  rw [unescF, if_pos h, if_neg hx]
theorem ue_c (h : i + 1 < l.length) (hx : (l.getD i 0).toNat = 92) (hy : (l.getD (i + 1) 0).toNat = 99) : unescF (m + 1) l i acc = (acc, true) := by
  rw [unescF, if_pos (by omega), if_pos hx, if_pos ⟨h, hy⟩]
theorem ue_0 (h : i + 1 < l.length) (hx : (l.getD i 0).toNat = 92) (hy : (l.getD (i + 1) 0).toNat = 48) :
    unescF (m + 1) l i acc = unescF m l (i + ((digits 8 ((l.drop (i + 2)).take 3)).2.1 + 1) + 1) (acc ++ [UInt8.ofNat (digits 8 ((l.drop (i + 2)).take 3)).1]) := by
  rw [unescF, if_pos (by omega), if_pos hx, if_neg (by omega), if_pos ⟨h, hy⟩]
theorem ue_esc0 (h : i < l.length) (hx : (l.getD i 0).toNat = 92) (hy : ¬ (i + 1 < l.length ∧ (l.getD (i + 1) 0).toNat = 99)) (hz : ¬ (i + 1 < l.length ∧ (l.getD (i + 1) 0).toNat = 48)) (he : (esc (l.drop (i + 1))).2 = 0) :
    unescF (m + 1) l i acc = unescF m l (i + 1) (acc ++ [92]) := by
  rw [unescF, if_pos h, if_pos hx, if_neg hy, if_neg hz, if_pos he]
theorem ue_esc (h : i < l.length) (hx : (l.getD i 0).toNat = 92) (hy : ¬ (i + 1 < l.length ∧ (l.getD (i + 1) 0).toNat = 99)) (hz : ¬ (i + 1 < l.length ∧ (l.getD (i + 1) 0).toNat = 48)) (he : (esc (l.drop (i + 1))).2 ≠ 0) :
    unescF (m + 1) l i acc = unescF m l (i + (esc (l.drop (i + 1))).2 + 1) (acc ++ [(esc (l.drop (i + 1))).1]) := by
  rw [unescF, if_pos h, if_pos hx, if_neg hy, if_neg hz, if_neg he]
end

/-- What the loop keeps. -/
structure RelU (W0 : World) (l : List UInt8) (i n : Nat) (acc : List UInt8) (v : Value) (wr : World) : Prop where
  le : l.length - i ≤ n
  eq : unescF n l i acc = unesc l
  bel : Below W0.heap.size W0 wr
  own : wr.ownsRow W0.heap.size 5 1 v acc.length (u8s acc)
  al : acc.length ≤ i
theorem RelU.push {W0 : World} {l : List UInt8} {i i' m q : Nat} {acc : List UInt8} {v v1 : Value} {wr w1 : World} {X : Array Value} {c : UInt8} (h : RelU W0 l i (m + 1) acc v wr) (hi : i < i') (he : unescF (m + 1) l i acc = unescF m l i' (acc ++ [c])) (hq : q = acc.length)
    (hown : w1.ownsRow W0.heap.size 5 1 v1 (q + 1) (u8s acc ++ [.int .u8 c.toNat])) (hg : (wr.alloc (.cells X 5)).grownBy w1 v.ownBlock) : RelU W0 l i' m (acc ++ [c]) v1 w1 := by
  have hr := h.own.lt
  refine ⟨by have := h.le; omega, he.symm.trans h.eq, (h.bel.alloc h.bel.size _).grown hg (by have := h.bel.size; simp; omega) (fun k hk => (hr k hk).1), ?_, by have := h.al; simp; omega⟩
  subst hq
  simpa [u8s] using hown

/-- string(out) -/
theorem strOf {B : Nat} {W : World} {v : Value} {acc : List UInt8} (h : W.ownsRow B 5 1 v acc.length (u8s acc)) : (convert 25 9 v).run Tryz.prog W = .ok (.string ⟨acc.toArray⟩) W := by
  rcases h.2 with ⟨rfl, h0⟩ | ⟨g, cap, cur, rfl, _, hg, _, _, _, ht⟩
  · have : acc = [] := List.eq_nil_of_length_eq_zero h0
    subst this
    exact Lib.run_convert_nil_bytes W 25 9 5 0 Tryz.underlying25 Tryz.underlying5 Tryz.underlying9
  · refine run_convert_bytes_back W 25 9 5 ⟨g, 0, none⟩ cap acc Tryz.underlying25 Tryz.underlying5 Tryz.underlying9 (fun j hj => ?_)
    rw [addr_add, cell_of_row _ g _ _ _ (0, 0) hg, Nat.zero_add]
    have e : (cur.toList.take acc.length)[j]? = (u8s acc)[j]? := by rw [← ht, Nat.mul_one]
    rw [List.getElem?_take, if_pos hj] at e
    simpa [u8s, hj] using e

theorem Bs.mid {w : World} {b off cap : Nat} {l : List UInt8} (h : Bs w (some ⟨b, off, none⟩) cap l) (k : Nat) (hk : k ≤ l.length) : Bs w (some ⟨b, off + k, none⟩) (cap - k) (l.drop k) := by
  refine ⟨by have := h.1; simp; omega, by have := h.2.1; omega, fun i hi => ?_⟩
  have hi' : i < l.length - k := by simpa using hi
  obtain ⟨b', off', ha, hc⟩ := h.2.2 (k + i) (by omega)
  simp only [Option.some.injEq, Addr.mk.injEq] at ha
  obtain ⟨rfl, rfl, _⟩ := ha
  refine ⟨b, off + k, rfl, ?_⟩
  rw [Nat.add_assoc, hc]
  simp

/-- b[1:m] as a run. -/
theorem run_cutMid {P : Program} {t e : TypeId} (ht' : P.underlying t = some (.slice e)) (hs' : ∀ w, (sizeOf e).run P w = .ok 1 w) (b off len cap m : Nat) (h1 : 1 ≤ m) (h2 : m ≤ cap) (z : Int) (hz : z = m) (w : World) :
    (Instr.slice t (.slice (some ⟨b, off, none⟩) len cap) (some (.int .i64 1)) (some (.int .i64 z)) none).run P w = .ok (.slice (cutA (some ⟨b, off, none⟩) cap 1) (m - 1) (cap - 1)) w := by
  subst hz
  have ht : P.underlying t = some (.slice (P.elem t)) := by rw [elem_is ht']; exact ht'
  have hs : ∀ w, (sizeOf (P.elem t)).run P w = .ok 1 w := by rw [elem_is ht']; exact hs'
  rw [run_slice_lh w t (some ⟨b, off, none⟩) len cap ht .i64 .i64 1 m (by omega) (by omega) (by omega), hs]
  simp [Result.andThen, sliced, cutA]

set_option maxRecDepth 100000 in
set_option maxHeartbeats 8000000 in
/-- fill.unescaped. -/
theorem fill_unescaped (S : ByteArray) (w : World) (hS : S.size ≤ 140737488351232) :
    Calls Tryz.prog 64 #[.string S] w fun e w' => e = .returned (.tuple #[.string ⟨(unesc (bl S)).1.toArray⟩, .bool (unesc (bl S)).2]) ∧ Below w.heap.size w w' := by
  obtain ⟨i0, hi0, hz0, hz1, hz2⟩ := info_parts Tryz.infoU8
  have rc := Lib.run_convert_string_bytes (P := Tryz.prog) w 9 25 5 S Tryz.underlying9 Tryz.underlying25 Tryz.underlying5
  have hb := bytes_bs w S (by unfold maxLen; omega)
  have hB := bytes_below w S
  rw [← bl_length] at rc hS
  generalize hW0 : Lib.bytesWorld w 5 S = W0 at *
  generalize hcp : grownCap w S.size 0 5 = cap at *
  rw [bl_length, hcp, ← bl_length] at rc
  generalize ha : (some (⟨w.heap.size, 0, none⟩ : Addr)) = a at *
  generalize bl S = l at *
  have hlc := hb.1
  have hcm := hb.2.1
  unfold maxLen at hcm
  have HL := Lib.hid hb
  have HB0 := Lib.hid hB
  clear hW0 hcp ha hb hB
  go_enter Tryz.func64, Tryz.ntmps64
  go_wp2_with fail
  go_loopw [4, 6] (fun v t wr => ∃ (i n : Nat) (acc : List UInt8) (oa : Option Addr) (oc : Nat), i ≤ l.length ∧ t = .int .i64 i ∧ v = .slice oa acc.length oc ∧ Hid (RelU W0 l i n acc (.slice oa acc.length oc) wr)) (fun _ t _ => l.length - (intOf t).toNat)
  case atStart =>
    exact ⟨0, l.length, [], none, 0, by omega, rfl, rfl, ⟨by omega, rfl, Below.refl _ _, World.ownsRow_nil _ _ _ _, Nat.le_refl _⟩⟩
  case round =>
    obtain ⟨i, n, acc, oa, oc, hi, rfl, rfl, HR⟩ := hrel
    by_cases hlt : i < l.length
    · obtain ⟨m, rfl⟩ : ∃ m, n = m + 1 := ⟨n - 1, by have := HR.out.le; omega⟩
      have hal := HR.out.al
      have hB2 := HR.out.bel.size
      obtain ⟨q, hq⟩ : ∃ q, q = acc.length := ⟨_, rfl⟩
      have hown := HR.out.own
      rw [← hq] at hown hal
      have HOWN := Lib.hid hown
      have HQ := Lib.hid hq
      rw [← hq] at HR ⊢
      have HLR := Lib.hid (HL.out.below HR.out.bel (Nat.le_refl _))
      obtain ⟨b0, o0, rfl, hc0⟩ := HLR.out.head i hlt
      obtain ⟨x, hx⟩ : ∃ x, (l.getD i 0).toNat = x := ⟨_, rfl⟩
      rw [hx] at hc0
      have HX := Lib.hid hx
      clear hx hown hq
      by_cases h92 : x = 92
      · have e92 := eqT h92
        have HX92 : Hid ((l.getD i 0).toNat = 92) := HX.out.trans h92
        simp only [Int.cast_ofNat_Int] at e92
        clear h92
        by_cases hr : i + 1 < l.length
        · obtain ⟨r, hr1⟩ : ∃ r, r = l.length - (i + 1) := ⟨_, rfl⟩
          obtain ⟨c2, hc2⟩ : ∃ c2, c2 = cap - (i + 1) := ⟨_, rfl⟩
          obtain ⟨o1, ho1⟩ : ∃ o1, o1 = o0 + (i + 1) := ⟨_, rfl⟩
          have hcut := run_cutFrom (P := Tryz.prog) Tryz.underlying25 u8_size (some ⟨b0, o0, none⟩) l cap (i + 1) (by omega) ((i : Int) + 1) (by omega)
          rw [← hr1, ← hc2, show cutA (some ⟨b0, o0, none⟩) cap (i + 1) = some ⟨b0, o1, none⟩ by unfold cutA; rw [if_neg (by omega), ho1]; simp [addr_add]] at hcut
          have HR1 : Bs wr (some ⟨b0, o1, none⟩) c2 (l.drop (i + 1)) := by rw [ho1, hc2]; exact HLR.out.mid (i + 1) (by omega)
          have hRl : (l.drop (i + 1)).length = r := by rw [List.length_drop, hr1]
          have CE0 := shape_Escape _ c2 _ wr HR1
          rw [hRl] at CE0
          have hc1 : wr.cell? ⟨b0, o1, none⟩ = some (.int .u8 (l.getD (i + 1) 0).toNat) := by
            obtain ⟨b9, o9, h9, h8⟩ := HLR.out.head (i + 1) hr
            simp only [Option.some.injEq, Addr.mk.injEq] at h9
            rw [ho1, h9.1, h9.2.1]; exact h8
          obtain ⟨y, hy⟩ : ∃ y, (l.getD (i + 1) 0).toNat = y := ⟨_, rfl⟩
          rw [hy] at hc1
          have HY := Lib.hid hy
          have CE := Lib.hid CE0
          have hr2 : 0 < r := by omega
          have hrI : (0 : Int) < (r : Int) := by omega
          have hel := esc_le (l.drop (i + 1))
          rw [hRl] at hel
          clear hy CE0
          by_cases h99 : y = 99
          · have e99 := eqT h99
            have HE := Lib.hid (HR.out.eq.symm.trans (ue_c hr HX92.out (HY.out.trans h99)))
            have ks := strOf (v := .slice oa q oc) (acc := acc) (by rw [← HQ.out]; exact HOWN.out)
            simp only [Int.cast_ofNat_Int] at e99
            clear h99 hr1 hc2 ho1 hRl
            go_wp2_with fail
            go_ret2
            exact ⟨by rw [HE.out]; rfl, HB0.out.trans (HR.out.bel.mono HB0.out.size)⟩
          have e99 := eqF h99
          simp only [Int.cast_ofNat_Int] at e99
          by_cases h48 : y = 48
          · have e48 := eqT h48
            simp only [Int.cast_ofNat_Int] at e48
            have HE0 := ue_0 (m := m) (acc := acc) hr HX92.out (HY.out.trans h48)
            obtain ⟨m4, hm4⟩ : ∃ m4, m4 = min 4 r := ⟨_, rfl⟩
            have hcm := run_cutMid (P := Tryz.prog) Tryz.underlying25 u8_size b0 o1 r c2 m4 (by omega) (by omega) (min 4 (r : Int)) (by omega)
            have HM := (HR1.cut 1 (by omega)).take 3
            have hMl : (((l.drop (i + 1)).drop 1).take 3).length = m4 - 1 := by rw [List.length_take, List.length_drop, hRl, hm4]; omega
            have CD0 := scan_Digits _ _ _ 8 (by omega) (by omega) wr HM
            rw [hMl, List.drop_drop] at CD0
            have hdl := (digits_le 8 (by omega) ((l.drop (i + 2)).take 3)).2
            rw [List.length_take, List.length_drop] at hdl
            have CD := Lib.hid CD0
            generalize digits 8 ((l.drop (i + 2)).take 3) = d at *
            obtain ⟨d1, d2, d3⟩ := d
            simp only [] at hdl HE0
            have HE := Lib.hid HE0
            have hk0 : (((d2 : Int) + 1) == 0) = false := beq_eq_false_iff_ne.2 (by omega)
            obtain ⟨xb, hxb⟩ : ∃ xb, xb = UInt8.ofNat d1 := ⟨_, rfl⟩
            have hw8 : IntKind.u8.wrap (d1 : Int) = (xb.toNat : Int) := by rw [hxb, u8OfNat]; unfold IntKind.wrap; simp [IntKind.signed, IntKind.bits]
            rw [← hxb] at HE
            clear h48 h99 hr1 hc2 ho1 hRl hMl HE0 CD0 HM HR1 hm4 hxb
            go_wp2_with (first | (go_at_call 26; refine CE.out.mono ?_; rintro e w' ⟨rfl, rfl⟩) | (go_at_call 46; refine CD.out.mono ?_; rintro e w' ⟨rfl, rfl⟩) | (at_builtin; refine wpList_append_lies _ rfl (.tmp 78) (.tmp 80) _ rfl W0.heap.size 5 i0 _ 1 1 Tryz.underlying25 hi0 hz0 hz1 hz2 rfl (by omega) (.slice oa q oc) q (u8s acc) rfl (HOWN.out.alloc _) ⟨wr.heap.size, 0, none⟩ 1 1 [.int .u8 xb.toNat] rfl rfl (World.news_of_block (cs := #[.int .u8 xb.toNat]) (t := 5) (fr := (0, 0)) (heap_alloc_new wr _)) (by simp [Value.oneCell']) (by omega) (by unfold maxLen; omega) (by omega) (by simp; omega) (wr.heap.size + 1) (by simp) ?_; intro gg cap3 w3 hown3 hgrow3 hat3 hlt3; have HOWN3 := Lib.hid hown3; have HGROW3 := Lib.hid hgrow3; clear hown3 hgrow3 hat3 hlt3))
            go_roundw
            case rel => exact ⟨i + (d2 + 1) + 1, m, acc ++ [xb], _, _, by omega, by go_num, by rw [List.length_append, ← HQ.out]; rfl, by rw [List.length_append, ← HQ.out]; exact HR.out.push (by omega) HE.out HQ.out HOWN3.out HGROW3.out⟩
            case measure => simp [intOf]; omega

          · have e48 := eqF h48
            simp only [Int.cast_ofNat_Int] at e48
            have hn99 : ¬ (i + 1 < l.length ∧ (l.getD (i + 1) 0).toNat = 99) := fun h => h99 (HY.out.symm.trans h.2)
            have hn48 : ¬ (i + 1 < l.length ∧ (l.getD (i + 1) 0).toNat = 48) := fun h => h48 (HY.out.symm.trans h.2)
            have HE0 := ue_esc0 (m := m) (acc := acc) hlt HX92.out hn99 hn48
            have HE1 := ue_esc (m := m) (acc := acc) hlt HX92.out hn99 hn48
            clear hn99 hn48 HR1
            generalize esc (l.drop (i + 1)) = ek at *
            obtain ⟨c, ke⟩ := ek
            simp only [] at hel CE HE0 HE1
            have hel2 : ke + (i + 1) ≤ l.length := by omega
            by_cases h0 : ke = 0
            · have HE := Lib.hid (HE0 h0)
              have e0 := eqT h0
              simp only [Int.cast_ofNat_Int] at e0
              clear HE0 HE1 h48 h99 hr1 hc2 ho1 hRl
              subst h0
              go_wp2_with (first | (go_at_call 26; refine CE.out.mono ?_; rintro e w' ⟨rfl, rfl⟩) | (at_builtin; refine wpList_append_lies _ rfl (.tmp 78) (.tmp 80) _ rfl W0.heap.size 5 i0 _ 1 1 Tryz.underlying25 hi0 hz0 hz1 hz2 rfl (by omega) (.slice oa q oc) q (u8s acc) rfl (HOWN.out.alloc _) ⟨wr.heap.size, 0, none⟩ 1 1 [.int .u8 92] rfl rfl (World.news_of_block (cs := #[.int .u8 92]) (t := 5) (fr := (0, 0)) (heap_alloc_new wr _)) (by simp [Value.oneCell']) (by omega) (by unfold maxLen; omega) (by omega) (by simp; omega) (wr.heap.size + 1) (by simp) ?_; intro gg cap3 w3 hown3 hgrow3 hat3 hlt3; have HOWN3 := Lib.hid hown3; have HGROW3 := Lib.hid hgrow3; clear hown3 hgrow3 hat3 hlt3))
              go_roundw
              case rel => exact ⟨i + 1, m, acc ++ [92], _, _, by omega, by go_num, by rw [List.length_append, ← HQ.out]; rfl, by rw [List.length_append, ← HQ.out]; exact HR.out.push (by omega) HE.out HQ.out HOWN3.out HGROW3.out⟩
              case measure => simp [intOf]; omega

            · have HE := Lib.hid (HE1 h0)
              have e0 := eqF h0
              simp only [Int.cast_ofNat_Int] at e0
              clear HE0 HE1 h48 h99 hr1 hc2 ho1 hRl h0
              go_wp2_with (first | (go_at_call 26; refine CE.out.mono ?_; rintro e w' ⟨rfl, rfl⟩) | (at_builtin; refine wpList_append_lies _ rfl (.tmp 78) (.tmp 80) _ rfl W0.heap.size 5 i0 _ 1 1 Tryz.underlying25 hi0 hz0 hz1 hz2 rfl (by omega) (.slice oa q oc) q (u8s acc) rfl (HOWN.out.alloc _) ⟨wr.heap.size, 0, none⟩ 1 1 [.int .u8 c.toNat] rfl rfl (World.news_of_block (cs := #[.int .u8 c.toNat]) (t := 5) (fr := (0, 0)) (heap_alloc_new wr _)) (by simp [Value.oneCell']) (by omega) (by unfold maxLen; omega) (by omega) (by simp; omega) (wr.heap.size + 1) (by simp) ?_; intro gg cap3 w3 hown3 hgrow3 hat3 hlt3; have HOWN3 := Lib.hid hown3; have HGROW3 := Lib.hid hgrow3; clear hown3 hgrow3 hat3 hlt3))
              go_roundw
              case rel => exact ⟨i + ke + 1, m, acc ++ [c], _, _, by omega, by go_num, by rw [List.length_append, ← HQ.out]; rfl, by rw [List.length_append, ← HQ.out]; exact HR.out.push (by omega) HE.out HQ.out HOWN3.out HGROW3.out⟩
              case measure => simp [intOf]; omega

        · have hcut := run_cutFrom (P := Tryz.prog) Tryz.underlying25 u8_size (some ⟨b0, o0, none⟩) l cap (i + 1) (by omega) ((i : Int) + 1) (by omega)
          have HRC := HLR.out.cut (i + 1) (by omega)
          have hRl : (l.drop (i + 1)).length = 0 := by rw [List.length_drop]; omega
          have CE0 := shape_Escape _ _ _ wr HRC
          have hel := esc_le (l.drop (i + 1))
          rw [hRl] at CE0 hel
          rw [show l.length - (i + 1) = 0 by omega] at hcut
          have hn99 : ¬ (i + 1 < l.length ∧ (l.getD (i + 1) 0).toNat = 99) := fun h => hr h.1
          have hn48 : ¬ (i + 1 < l.length ∧ (l.getD (i + 1) 0).toNat = 48) := fun h => hr h.1
          have HE0 := ue_esc0 (m := m) (acc := acc) hlt HX92.out hn99 hn48
          have CE := Lib.hid CE0
          clear CE0 HRC hn99 hn48 hRl
          generalize cutA (some (⟨b0, o0, none⟩ : Addr)) cap (i + 1) = ra at *
          generalize cap - (i + 1) = c2 at *
          generalize esc (l.drop (i + 1)) = ek at *
          obtain ⟨c, ke⟩ := ek
          simp only [] at hel CE HE0
          obtain rfl : ke = 0 := by omega
          have HE := Lib.hid (HE0 rfl)
          clear HE0
          go_wp2_with (first | (go_at_call 26; refine CE.out.mono ?_; rintro e w' ⟨rfl, rfl⟩) | (at_builtin; refine wpList_append_lies _ rfl (.tmp 78) (.tmp 80) _ rfl W0.heap.size 5 i0 _ 1 1 Tryz.underlying25 hi0 hz0 hz1 hz2 rfl (by omega) (.slice oa q oc) q (u8s acc) rfl (HOWN.out.alloc _) ⟨wr.heap.size, 0, none⟩ 1 1 [.int .u8 92] rfl rfl (World.news_of_block (cs := #[.int .u8 92]) (t := 5) (fr := (0, 0)) (heap_alloc_new wr _)) (by simp [Value.oneCell']) (by omega) (by unfold maxLen; omega) (by omega) (by simp; omega) (wr.heap.size + 1) (by simp) ?_; intro gg cap3 w3 hown3 hgrow3 hat3 hlt3; have HOWN3 := Lib.hid hown3; have HGROW3 := Lib.hid hgrow3; clear hown3 hgrow3 hat3 hlt3))
          go_roundw
          case rel => exact ⟨i + 1, m, acc ++ [92], _, _, by omega, by go_num, by rw [List.length_append, ← HQ.out]; rfl, by rw [List.length_append, ← HQ.out]; exact HR.out.push (by omega) HE.out HQ.out HOWN3.out HGROW3.out⟩
          case measure => simp [intOf]; omega

      · have e92 := eqF h92
        have HE := Lib.hid (ue_byte (m := m) (acc := acc) hlt (fun h => h92 (HX.out.symm.trans h)))
        simp only [Int.cast_ofNat_Int] at e92
        clear h92
        go_wp2_with (at_builtin; refine wpList_append_lies _ rfl (.tmp 26) (.tmp 31) _ rfl W0.heap.size 5 i0 _ 1 1 Tryz.underlying25 hi0 hz0 hz1 hz2 rfl (by omega) (.slice oa q oc) q (u8s acc) rfl (HOWN.out.alloc _) ⟨wr.heap.size, 0, none⟩ 1 1 [.int .u8 x] rfl rfl (World.news_of_block (cs := #[.int .u8 x]) (t := 5) (fr := (0, 0)) (heap_alloc_new wr _)) (by simp [Value.oneCell']) (by omega) (by unfold maxLen; omega) (by omega) (by simp; omega) (wr.heap.size + 1) (by simp) ?_; intro gg cap3 w3 hown3 hgrow3 hat3 hlt3; have HOWN3 := Lib.hid hown3; have HGROW3 := Lib.hid hgrow3; clear hown3 hgrow3 hat3 hlt3)
        go_roundw
        case rel => exact ⟨i + 1, m, acc ++ [l.getD i 0], _, _, by omega, by go_num, by rw [List.length_append, ← HQ.out]; rfl, by rw [List.length_append, ← HQ.out]; exact HR.out.push (by omega) HE.out HQ.out (by rw [HX.out]; exact HOWN3.out) HGROW3.out⟩
        case measure => simp [intOf]; omega
    · have HE : Hid (unesc l = (acc, false)) := HR.out.eq.symm.trans (ue_end (by omega))
      have ks := strOf HR.out.own
      have hd : ¬ ((i : Int) < (l.length : Int)) := by omega
      go_wp2_with fail
      go_ret2
      exact ⟨by rw [HE.out]; rfl, HB0.out.trans (HR.out.bel.mono HB0.out.size)⟩
end Go.Proofs.YtppcjmbblkbkdaaGreatDoor
