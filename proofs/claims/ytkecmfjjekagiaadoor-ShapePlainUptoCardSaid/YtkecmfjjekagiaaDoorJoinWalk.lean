/- The walk of pidginlaw15.FillJoins: it returns true. Conditions as typed. -/
import Derived.Test.YtkecmfjjekagiaaDoorApp
import Derived.Test.YtkecmfjjekagiaaDoorJoinP
import Derived.Test.YtkecmfjjekagiaaDoorOnce2
import Derived.Test.YtkecmfjjekagiaaDoorTold
namespace Go.Proofs.YtkecmfjjekagiaaDoor
open Go.RowKit Pg

theorem ParsePost.any {w : World} {A : Nat → Addr} {r : Except (Nat × Nat) (List Part)} {e : Ending} {w' : World} (h : ParsePost w A r e w') : ∃ F v, e = .returned (.tuple #[.pointer F, v]) ∧ (v = .nilIface ∨ ∃ t x, v = .iface t x) ∧ Below w.heap.size w w' := by
  obtain ⟨hb, h⟩ := h
  cases r with
  | error cp =>
    obtain ⟨c, p⟩ := cp
    obtain ⟨v, rfl, b, hc, _⟩ := h
    exact ⟨none, v, rfl, .inr hc.iface, hb⟩
  | ok L =>
    obtain ⟨F, rfl, _⟩ := h
    exact ⟨_, _, rfl, .inl rfl, hb⟩
theorem ParsePost.bad {w : World} {A : Nat → Addr} {r : Except (Nat × Nat) (List Part)} {e : Ending} {w' : World} (h : ParsePost w A r e w') (hr : ∀ L, r ≠ .ok L) : ∃ F t x, e = .returned (.tuple #[.pointer F, .iface t x]) ∧ Below w.heap.size w w' := by
  obtain ⟨hb, h⟩ := h
  cases r with
  | error cp =>
    obtain ⟨c, p⟩ := cp
    obtain ⟨v, rfl, b, hc, _⟩ := h
    obtain ⟨t, x, rfl⟩ := hc.iface
    exact ⟨none, t, x, rfl, hb⟩
  | ok L => exact absurd rfl (hr L)
theorem ParsePost.good {w : World} {A : Nat → Addr} {L : List Part} {e : Ending} {w' : World} (h : ParsePost w A (.ok L) e w') : ∃ F, e = .returned (.tuple #[.pointer (some ⟨F, 0, none⟩), .nilIface]) ∧ FmtC w.heap.size w' F L ∧ Below w.heap.size w w' := by
  obtain ⟨hb, F, rfl, h⟩ := h
  exact ⟨F, rfl, h, hb⟩
theorem oct_iff (x : UInt8) : isOct x ↔ 48 ≤ x.toNat ∧ x.toNat ≤ 55 := by
  unfold isOct
  have := dig_cases x
  constructor
  · intro h; omega
  · intro h; omega

theorem ownBs' {w : World} {B n : Nat} {a : Option Addr} {cap : Nat} {l : List UInt8} (h : w.ownsRow B 5 1 (.slice a n cap) n (u8s l)) (hn : n = l.length) : Bs w a cap l := by
  subst hn
  obtain ⟨a', cap', he, hb⟩ := (LitR.own h).bs
  simp only [Value.slice.injEq, true_and] at he
  obtain ⟨rfl, rfl⟩ := he
  exact hb
/-- An empty row of bytes. -/
theorem own_empty (w : World) : (w.alloc (.cells #[] 5)).ownsRow w.heap.size 5 1 (.slice (some ⟨w.heap.size, 0, none⟩) 0 0) 0 (u8s []) :=
  ⟨rfl, .inr ⟨w.heap.size, 0, #[], rfl, Nat.le_refl _, heap_alloc_new w _, Nat.le_refl _, by unfold maxLen; omega, rfl, rfl⟩⟩
theorem below_own {w w1 w' : World} {g : Nat} (hb : Below w.heap.size w w1) (hg : w1.grownBy w' (some g)) (hB : w.heap.size ≤ g) : Below w.heap.size w w' := hb.grown hg hb.size (fun k hk => by have : g = k := Option.some.inj hk; omega)
/-- The part of the walk behind the looks at the operands: what it needs of memory. -/
structure JoinIn (w : World) (A : Nat → Addr) (a0 : Option Addr) (cap0 : Nat) (l0 : List UInt8) (a1 : Option Addr) (cap1 : Nat) (l1 : List UInt8) (a2 : Option Addr) (cap2 : Nat) (l2 : List ByteArray) : Prop where
  s : Sents0 w A
  h0 : Bs w a0 cap0 l0
  h1 : Bs w a1 cap1 l1
  h2 : Ss w a2 cap2 l2
  n0 : l0.length ≤ 300
  n1 : l1.length ≤ 300
  n2 : l2.length ≤ 30
  sz : ∀ S ∈ l2, S.size ≤ 200
  lst : ∀ c, l0.getLast? = some c → ¬ isOct c

set_option maxRecDepth 100000 in
set_option maxHeartbeats 8000000 in
/-- FillJoins: it returns true. -/
theorem fillJoins_walk (a0 : Option Addr) (cap0 : Nat) (l0 : List UInt8) (a1 : Option Addr) (cap1 : Nat) (l1 : List UInt8) (a2 : Option Addr) (cap2 : Nat) (l2 : List ByteArray) (w : World) (A : Nat → Addr) (hS : Sents0 w A) (h0 : Bs w a0 cap0 l0) (h1 : Bs w a1 cap1 l1) (h2 : Ss w a2 cap2 l2) :
    Calls Tryd.prog 17 #[.slice a0 l0.length cap0, .slice a1 l1.length cap1, .slice a2 l2.length cap2] w fun e w' => e = .returned (.bool true) ∧ Below w.heap.size w w' := by
  have HS := Lib.hid hS
  have H0 := Lib.hid h0
  have H1 := Lib.hid h1
  have H2 := Lib.hid h2
  have C0 := Lib.hid (fill_awake w A hS)
  have c0 := h0.1
  have m0 := h0.2.1
  have c1 := h1.1
  have m1 := h1.2.1
  have c2 := h2.1
  have m2 := h2.2.1
  unfold maxLen at m0 m1 m2
  clear hS h0 h1 h2
  by_cases b0 : 300 < l0.length
  · have d0 : decide (300 < (l0.length : Int)) = true := decide_eq_true (by omega)
    clear b0
    go_enter Tryd.func17, Tryd.ntmps17
    go_wp2_with (go_at_call 39; refine C0.out.mono ?_; rintro e w' ⟨rfl, hb⟩; have HB := Lib.hid hb; clear hb)
    go_ret
    exact ⟨rfl, HB.out⟩
  have d0 : decide (300 < (l0.length : Int)) = false := decide_eq_false (by omega)
  by_cases b1 : 300 < l1.length
  · have d1 : decide (300 < (l1.length : Int)) = true := decide_eq_true (by omega)
    clear b0 b1
    go_enter Tryd.func17, Tryd.ntmps17
    go_wp2_with (go_at_call 39; refine C0.out.mono ?_; rintro e w' ⟨rfl, hb⟩; have HB := Lib.hid hb; clear hb)
    go_ret
    exact ⟨rfl, HB.out⟩
  have d1 : decide (300 < (l1.length : Int)) = false := decide_eq_false (by omega)
  by_cases b2 : 30 < l2.length
  · have d2 : decide (30 < (l2.length : Int)) = true := decide_eq_true (by omega)
    clear b0 b1 b2
    go_enter Tryd.func17, Tryd.ntmps17
    go_wp2_with (go_at_call 39; refine C0.out.mono ?_; rintro e w' ⟨rfl, hb⟩; have HB := Lib.hid hb; clear hb)
    go_ret
    exact ⟨rfl, HB.out⟩
  have d2 : decide (30 < (l2.length : Int)) = false := decide_eq_false (by omega)
  have B0 := Lib.hid b0
  have B1 := Lib.hid b1
  have B2 := Lib.hid b2
  clear b0 b1 b2
  go_enter Tryd.func17, Tryd.ntmps17
  go_wp2_with fail
  go_loopw [38] (fun kv wr => ∃ k : Nat, k ≤ l2.length ∧ kv = .int .i64 k ∧ Hid (∀ s ∈ l2.take k, s.size ≤ 200) ∧ w = wr) (fun kv _ => l2.length - (intOf kv).toNat)
  case atStart => exact ⟨0, by omega, rfl, fun s hs => by simp at hs, rfl⟩
  case round =>
    obtain ⟨k, hk, rfl, HQ, rfl⟩ := hrel
    by_cases hlt : k < l2.length
    · obtain ⟨b, off, rfl, hc⟩ := H2.out.2.2 k hlt
      have HM : Hid (l2.take (k + 1) = l2.take k ++ [l2[k]]) := List.take_succ_eq_append_getElem hlt
      obtain ⟨s, hs⟩ : ∃ s, l2[k] = s := ⟨_, rfl⟩
      rw [hs] at hc HM
      clear hs
      by_cases hz : 200 < s.size
      · have e1 : decide (200 < (s.size : Int)) = true := decide_eq_true (by omega)
        clear hz
        go_wp2_with (go_at_call 39; refine C0.out.mono ?_; rintro e w' ⟨rfl, hb⟩; have HB := Lib.hid hb; clear hb)
        go_ret
        exact ⟨rfl, HB.out⟩
      · have e1 : decide (200 < (s.size : Int)) = false := decide_eq_false (by omega)
        have HQ2 : Hid (∀ z ∈ l2.take (k + 1), z.size ≤ 200) := by
          intro z hz'
          rw [HM.out] at hz'
          rcases List.mem_append.1 hz' with hz' | hz'
          · exact HQ.out z hz'
          · rw [List.mem_singleton.1 hz']; omega
        clear hz
        go_wp2_with fail
        go_roundw
        case rel => exact ⟨k + 1, by omega, by go_num, HQ2, trivial⟩
        case measure => simp [intOf]; omega
    · have HSZ : Hid (∀ z ∈ l2, z.size ≤ 200) := by have := HQ.out; rwa [List.take_of_length_le (by omega)] at this
      by_cases hne : l0.length = 0
      · have e1 : ¬ 0 < l0.length := by omega
        have HJ : Hid (JoinIn w A a0 cap0 l0 a1 cap1 l1 a2 cap2 l2) := ⟨HS.out, H0.out, H1.out, H2.out, by have := B0.out; omega, by have := B1.out; omega, by have := B2.out; omega, HSZ.out, fun c hc => by rw [List.eq_nil_of_length_eq_zero hne] at hc; simp at hc⟩
        clear hne
        go_wp2_with fail
        by_cases hok : (∃ P, parse l0 = .ok P) ∧ (∃ Q, parse l1 = .ok Q)
        · obtain ⟨⟨P, hP⟩, ⟨Q, hQ⟩⟩ := hok
          obtain ⟨L, lit, hL, hR⟩ := parse_join HJ.out.n0 HJ.out.n1 HJ.out.lst hP hQ
          have gP := parse_good hP
          have gQ := parse_good hQ
          have gR := parse_good hR
          have j1 := HJ.out
          refine (shape_Parse a0 cap0 l0 w j1.h0 A j1.s).mono ?_
          rintro e w1 hpp
          rw [hP] at hpp
          obtain ⟨F1, rfl, hf1, hb1⟩ := hpp.good
          have HF1 := Lib.hid hf1
          clear hf1
          have HB1 := Lib.hid hb1
          have CP2 := Lib.hid (shape_Parse a1 cap1 l1 w1 (j1.h1.below hb1 (Nat.le_refl _)) A (j1.s.kept hb1 (Nat.le_refl _)))
          clear j1 hb1
          go_wp2_with fail
          refine CP2.out.mono ?_
          rintro e w2 hpp
          rw [hQ] at hpp
          obtain ⟨F2, rfl, hf2, hb2⟩ := hpp.good
          have HF1 := Lib.hid (HF1.out.below hb2 (Nat.le_refl _))
          have HF2 := Lib.hid hf2
          clear hf2
          have HW2 := Lib.hid (HB1.out.trans (hb2.mono HB1.out.size))
          have HA0 := Lib.hid ((HJ.out.h0.below HW2.out (Nat.le_refl _)).below (BelowA w2 (.cells #[] 5)) (Nat.le_refl _))
          have HJ1 := Lib.hid (HJ.out.h1.below HW2.out (Nat.le_refl _))
          have j0 := HJ.out.s
          have n0 := HJ.out.n0
          have n1 := HJ.out.n1
          obtain ⟨m2, hm2⟩ : ∃ m2, l0.length + l1.length = m2 := ⟨_, rfl⟩
          have HM2 := Lib.hid hm2
          clear hm2 hb2
          have HGP := Lib.hid gP
          have HGQ := Lib.hid gQ
          have HGR := Lib.hid gR
          have HR := Lib.hid hR
          have HL := Lib.hid hL
          clear gP gQ gR hR hL hP hQ
          go_wp2_with (first
          | (at_builtin; refine wpList_append_bs rfl (.tmp 79) (.tmp 80) rfl w2.heap.size w2.heap.size 0 0 [] rfl (own_empty w2) a0 cap0 l0 rfl HA0.out (by omega) (by simp) l0.length (by omega) ?_; intro g1 k1 u1 hown1 hgr1; have HOWN1 := Lib.hid hown1; have HGR1 := Lib.hid hgr1; have HU1 := Lib.hid (below_own (BelowA w2 (.cells #[] 5)) hgr1 (Nat.le_refl _)); have HG1 := Lib.hid (hown1.lt g1 rfl); clear hown1 hgr1)
          | (at_builtin; go_must (refine wpList_append_bs rfl (.tmp 81) (.tmp 82) rfl w2.heap.size g1 l0.length k1 ([] ++ l0) rfl HOWN1.out a1 cap1 l1 rfl (HJ1.out.below HU1.out (Nat.le_refl _)) (by omega) HU1.out.size m2 HM2.out ?_); intro g2 k2 u2 hown2 hgr2; have HOWN2 := Lib.hid hown2; have HU2 := Lib.hid (below_own HU1.out hgr2 HG1.out.1); clear hown2 hgr2))
          obtain ⟨ln, hln⟩ : ∃ ln, ln = (l0 ++ l1).length := ⟨_, rfl⟩
          have hm2' : m2 = (l0 ++ l1).length := by rw [List.length_append]; exact HM2.out.symm
          have hs2 := j0.kept HW2.out (Nat.le_refl _)
          have CP3 := shape_Parse (some ⟨g2, 0, none⟩) k2 (l0 ++ l1) u2 (ownBs' HOWN2.out hm2') A (hs2.kept HU2.out (Nat.le_refl _))
          rw [← hm2', HR.out] at CP3
          refine CP3.mono ?_
          rintro e w4 hpp
          obtain ⟨F3, rfl, hf3, hb4⟩ := hpp.good
          have HB4 := Lib.hid (HW2.out.trans ((HU2.out.trans (hb4.mono HU2.out.size)).mono HW2.out.size))
          have hU4 := HU2.out.trans (hb4.mono HU2.out.size)
          have HF1 := Lib.hid (HF1.out.below hU4 (Nat.le_refl _))
          have HF2 := Lib.hid (HF2.out.below hU4 (Nat.le_refl _))
          have HF3 := Lib.hid hf3
          have hO4 := HJ.out.h2.below HB4.out (Nat.le_refl _)
          have HO4 := Lib.hid hO4
          have hsz : ∀ S ∈ l2, S.size ≤ 1000000000000 := fun S h => by have := HJ.out.sz S h; omega
          have HSZ4 := Lib.hid hsz
          obtain ⟨xr, nx, onx, hx⟩ : ∃ xr nx onx, once P (l2.map bl) ⟨[], [], false⟩ 0 = (xr, nx, onx) := ⟨_, _, _, rfl⟩
          have hnx := (once_taken P (l2.map bl) ⟨[], [], false⟩ 0 (by omega)).2.1
          have hbx := once_bounds P (l2.map bl) ⟨[], [], false⟩ 0 (by simp) rfl
          rw [hx, List.length_map] at hnx
          rw [hx] at hbx
          simp only [] at hnx hbx
          have HBX := Lib.hid hbx
          have HX := Lib.hid hx
          have CO1 := Lib.hid (fill_Once w4 _ F1 P HF1.out HGP.out.1 HGP.out.2 a2 cap2 l2 hO4 hsz xr nx onx hx)
          clear hm2' hs2 CP3 hpp hf3 hb4 hU4 hO4 hsz hx hbx hln
          go_wp2_with fail
          refine CO1.out.mono ?_
          rintro e w5 ⟨oa, no, oc, ca, nc, cc, rfl, hno, hnc, hb5, ho, hcd⟩
          have HNO := Lib.hid hno
          have HNC := Lib.hid hnc
          have HOX := Lib.hid ho
          have HB5 := Lib.hid (HB4.out.trans (hb5.mono HB4.out.size))
          have HC5 := Lib.hid hb5
          have n2 := HJ.out.n2
          clear hno hnc hb5 ho hcd
          obtain ⟨sx, hsx⟩ : ∃ sx, xr.stop = sx := ⟨_, rfl⟩
          rw [hsx]
          have HSX := Lib.hid hsx
          clear hsx
          have CA5 := Lib.hid (fun o => fill_awake (w5.alloc o) A (HS.out.kept (HB5.out.trans ((BelowA w5 o).mono HB5.out.size)) (Nat.le_refl _)))
          have HN2 := Lib.hid n2
          cases sx
          · by_cases hbig : 20000 < no
            · have dd : decide (20000 < (no : Int)) = true := decide_eq_true (by omega)
              clear hbig
              go_wp2_with (go_at_call 39; refine (CA5.out _).mono ?_; rintro e w' ⟨rfl, hb⟩; have HB := Lib.hid hb; clear hb)
              go_ret
              exact ⟨rfl, HB5.out.trans (((BelowA w5 _).trans (HB.out.mono (BelowA w5 _).size)).mono HB5.out.size)⟩
            · have dd : decide (20000 < (no : Int)) = false := decide_eq_false (by omega)
              have hcs := fun W => run_cutStr a2 l2.length cap2 nx hnx W
              obtain ⟨yr, ny, ony, hy⟩ : ∃ yr ny ony, once Q ((l2.drop nx).map bl) ⟨[], [], false⟩ 0 = (yr, ny, ony) := ⟨_, _, _, rfl⟩
              have hny := (once_taken Q ((l2.drop nx).map bl) ⟨[], [], false⟩ 0 (by omega)).2.1
              have hby := once_bounds Q ((l2.drop nx).map bl) ⟨[], [], false⟩ 0 (by simp) rfl
              rw [hy, List.length_map, List.length_drop] at hny
              rw [hy] at hby
              simp only [] at hny hby
              have b6 := BelowA w5 (.cells #[.slice oa no oc, .slice ca nc cc, .bool false] 62)
              have s6 : (w5.alloc (.cells #[.slice oa no oc, .slice ca nc cc, .bool false] 62)).heap.size = w5.heap.size + 1 := by simp
              have b46 := HC5.out.trans (b6.mono HC5.out.size)
              have CO2 := fill_Once (w5.alloc (.cells #[.slice oa no oc, .slice ca nc cc, .bool false] 62)) _ F2 Q (HF2.out.below b46 (Nat.le_refl _)) HGQ.out.1 HGQ.out.2 _ _ (l2.drop nx) ((HO4.out.below b46 (Nat.le_refl _)).cut nx hnx) (fun S h => HSZ4.out S (List.mem_of_mem_drop h)) yr ny ony hy
              rw [List.length_drop] at CO2
              have HF3' := Lib.hid (HF3.out.below b46 (Nat.le_refl _))
              have HO6 := Lib.hid (HO4.out.below b46 (Nat.le_refl _))
              have HB6 := Lib.hid (HB5.out.trans (b6.mono HB5.out.size))
              have HS6 := Lib.hid s6
              have HY := Lib.hid hy
              have HBY := Lib.hid hby
              have HCO2 := Lib.hid CO2
              have HBIG := Lib.hid hbig
              clear b6 b46 s6 CO2 hy hby hbig
              go_wp2_with fail
              refine HCO2.out.mono ?_
              rintro e w7 ⟨ob, nb, ocb, cb, mc, ccb, rfl, hnb, hmc, hb7, hob, hcd⟩
              have HNB := Lib.hid hnb
              have HMC := Lib.hid hmc
              have HOY := Lib.hid hob
              have HB7 := Lib.hid hb7
              obtain ⟨sy, hsy⟩ : ∃ sy, yr.stop = sy := ⟨_, rfl⟩
              rw [hsy]
              have HSY := Lib.hid hsy
              clear hnb hmc hob hcd hsy
              have b8 := BelowA w7 (.cells #[.slice ob nb ocb, .slice cb mc ccb, .bool sy] 62)
              have s8 : (w7.alloc (.cells #[.slice ob nb ocb, .slice cb mc ccb, .bool sy] 62)).heap.size = w7.heap.size + 1 := by simp
              have b68 := hb7.trans (b8.mono hb7.size)
              obtain ⟨zr, nz, onz, hz⟩ : ∃ zr nz onz, once (joinQ L lit Q) (l2.map bl) ⟨[], [], false⟩ 0 = (zr, nz, onz) := ⟨_, _, _, rfl⟩
              have CO3 := Lib.hid (fill_Once (w7.alloc (.cells #[.slice ob nb ocb, .slice cb mc ccb, .bool sy] 62)) _ F3 (joinQ L lit Q) (HF3'.out.below b68 (Nat.le_refl _)) HGR.out.1 HGR.out.2 a2 cap2 l2 (HO6.out.below b68 (Nat.le_refl _)) HSZ4.out zr nz onz hz)
              have HZ := Lib.hid hz
              have HB8 := Lib.hid b68
              have HS8 := Lib.hid s8
              clear hb7 b8 s8 b68 hz
              go_wp2_with fail
              refine CO3.out.mono ?_
              rintro e w9 ⟨oz, nzl, ocz, cz, nzc, ccz, rfl, hnzl, hnzc, hb9, hoz, hcd⟩
              have t7 : Below (w5.heap.size + 1) (w5.alloc (.cells #[.slice oa no oc, .slice ca nc cc, .bool false] 62)) (w7.alloc (.cells #[.slice ob nb ocb, .slice cb mc ccb, .bool sy] 62)) := HS6.out ▸ HB8.out
              have t9 := t7.trans (hb9.mono (by have := t7.size; rw [HS6.out] at this; exact this))
              have u9 : Below (w7.heap.size + 1) (w7.alloc (.cells #[.slice ob nb ocb, .slice cb mc ccb, .bool sy] 62)) w9 := HS8.out ▸ hb9
              have kqx := fun o => told_cells (w1 := w5) (W := w9.alloc o) (t9.trans ((BelowA w9 o).mono (by have := t9.size; rw [HS6.out] at this; exact this)))
              have kqy := fun o => told_cells (w1 := w7) (W := w9.alloc o) (u9.trans ((BelowA w9 o).mono (by have := u9.size; rw [HS8.out] at this; exact this)))
              have x0 := fun o => (kqx o).1
              have x1 := fun o => (kqx o).2.1
              have y0 := fun o => (kqy o).1
              have y1 := fun o => (kqy o).2.1
              have y2 := fun o => (kqy o).2.2
              have b79 := HB8.out.trans (hb9.mono HB8.out.size)
              have HB9 := Lib.hid (HB6.out.trans (b79.mono HB6.out.size))
              have CA9 := Lib.hid (fun o => fill_awake (w9.alloc o) A (HS.out.kept (HB9.out.trans ((BelowA w9 o).mono HB9.out.size)) (Nat.le_refl _)))
              by_cases hyl : 20000 < nb
              · have dy : decide (20000 < (nb : Int)) = true := decide_eq_true (by omega)
                clear hyl hnzl hnzc hoz hcd t7 t9 u9 kqx kqy b79 hb9
                go_wp2_with (go_at_call 39; refine (CA9.out _).mono ?_; rintro e w' ⟨rfl, hb⟩; have HB := Lib.hid hb; clear hb)
                go_ret
                exact ⟨rfl, HB9.out.trans (((BelowA w9 _).trans (HB.out.mono (BelowA w9 _).size)).mono HB9.out.size)⟩
              · have dy : decide (20000 < (nb : Int)) = false := decide_eq_false (by omega)
                obtain ⟨on3, hj⟩ := joins (l2.map bl) xr nx onx (HL.out ▸ HX.out) HSX.out (by have := HBIG.out; have := HNO.out; omega) (by rw [List.length_map]; exact hnx) yr ny ony (by rw [← List.map_drop]; exact HY.out) (by have := HNB.out; omega)
                have hzz := HZ.out.symm.trans hj
                simp only [Prod.mk.injEq] at hzz
                obtain ⟨hzr, hnzz, _⟩ := hzz
                have HZO : Hid (zr.out = xr.out ++ yr.out) := by show _ = _; rw [hzr]
                have hzs : zr.stop = sy := by rw [hzr]; exact HSY.out
                have hzc : nzc = nc + mc := by rw [hnzc, HNC.out, HMC.out, hzr]; simp
                rw [hzs]
                clear hzr hzs hnzc hj
                subst hzc
                subst hnzz
                obtain ⟨XS, hXS⟩ : ∃ XS : ByteArray, ⟨xr.out.toArray⟩ = XS := ⟨_, rfl⟩
                obtain ⟨YS, hYS⟩ : ∃ YS : ByteArray, ⟨yr.out.toArray⟩ = YS := ⟨_, rfl⟩
                have ksx : ∀ o, (convert 44 9 (.slice oa no oc)).run Tryd.prog (w9.alloc o) = .ok (.string XS) (w9.alloc o) := fun o => by
                  rw [← hXS]
                  exact ownStr HOX.out HNO.out (W := w9.alloc o) ((BelowA w5 _).trans ((t9.trans ((BelowA w9 o).mono (by have := t9.size; rw [HS6.out] at this; exact this))).mono (by omega))) (Nat.le_refl _)
                have ksy : ∀ o, (convert 44 9 (.slice ob nb ocb)).run Tryd.prog (w9.alloc o) = .ok (.string YS) (w9.alloc o) := fun o => by
                  rw [← hYS]
                  exact ownStr HOY.out HNB.out (W := w9.alloc o) ((BelowA w7 _).trans ((u9.trans ((BelowA w9 o).mono (by have := u9.size; rw [HS8.out] at this; exact this))).mono (by omega))) (Nat.le_refl _)
                have ksz : ∀ o, (convert 44 9 (.slice oz nzl ocz)).run Tryd.prog (w9.alloc o) = .ok (.string (XS ++ YS)) (w9.alloc o) := fun o => by
                  have := ownStr hoz hnzl (W := w9.alloc o) (BelowA w9 o) (Nat.le_refl _)
                  rw [HZO.out, show (⟨(xr.out ++ yr.out).toArray⟩ : ByteArray) = XS ++ YS by rw [← ByteArray.mk_append_mk, hXS, hYS]] at this
                  exact this
                have zx : XS.size ≤ 20000 := by rw [← hXS]; show xr.out.toArray.size ≤ 20000; rw [List.size_toArray]; have := HBIG.out; have := HNO.out; omega
                have zy : YS.size ≤ 20000 := by rw [← hYS]; show yr.out.toArray.size ≤ 20000; rw [List.size_toArray]; have := HNB.out; omega
                have hn2 := HN2.out
                have vnx : nx ≤ 30 := by omega
                have vny : ny ≤ 30 := by omega
                have vnc : nc ≤ 5000 := by have := HBX.out.2.1; have := HNC.out; have := HGP.out.1; simp at *; omega
                have vmc : mc ≤ 5000 := by have := HBY.out.2.1; have := HMC.out; have := HGQ.out.1; simp at *; omega
                have ek : (((nx + ny : Nat) : Int) == (nx : Int) + (ny : Int)) = true := beq_iff_eq.2 (by omega)
                have ec : (((nc + mc : Nat) : Int) == (nc : Int) + (mc : Int)) = true := beq_iff_eq.2 (by omega)
                clear hyl hnzl hoz hcd t7 t9 u9 kqx kqy b79 hb9 hXS hYS
                go_wp2_with (go_at_call 39; refine (CA9.out _).mono ?_; rintro e w' ⟨rfl, hb⟩; have HB := Lib.hid hb; clear hb)
                go_ret
                exact ⟨rfl, HB9.out.trans (((BelowA w9 _).trans (HB.out.mono (BelowA w9 _).size)).mono HB9.out.size)⟩
          · go_wp2_with (go_at_call 39; refine (CA5.out _).mono ?_; rintro e w' ⟨rfl, hb⟩; have HB := Lib.hid hb; clear hb)
            go_ret
            exact ⟨rfl, HB5.out.trans (((BelowA w5 _).trans (HB.out.mono (BelowA w5 _).size)).mono HB5.out.size)⟩
        · have hbad : (∀ P, parse l0 ≠ .ok P) ∨ ((∃ P, parse l0 = .ok P) ∧ ∀ Q, parse l1 ≠ .ok Q) := by
            by_cases hp : ∃ P, parse l0 = .ok P
            · exact .inr ⟨hp, fun Q hq => hok ⟨hp, Q, hq⟩⟩
            · exact .inl fun P h => hp ⟨P, h⟩
          clear hok
          rcases hbad with hbad | ⟨⟨P, hP⟩, hbad⟩
          · have j1 := HJ.out
            refine (shape_Parse a0 cap0 l0 w j1.h0 A j1.s).mono ?_
            rintro e w1 hpp
            obtain ⟨F1, t1, x1, rfl, hb1⟩ := hpp.bad hbad
            have HB1 := Lib.hid hb1
            have CP2 := Lib.hid (shape_Parse a1 cap1 l1 w1 (j1.h1.below hb1 (Nat.le_refl _)) A (j1.s.kept hb1 (Nat.le_refl _)))
            clear j1 hb1
            go_wp2_with fail
            refine CP2.out.mono ?_
            rintro e w2 hpp
            obtain ⟨F2, v2, rfl, hv2, hb2⟩ := hpp.any
            have HW2 := Lib.hid (HB1.out.trans (hb2.mono HB1.out.size))
            have HA0 := Lib.hid ((HJ.out.h0.below HW2.out (Nat.le_refl _)).below (BelowA w2 (.cells #[] 5)) (Nat.le_refl _))
            have HJ1 := Lib.hid (HJ.out.h1.below HW2.out (Nat.le_refl _))
            have j0 := HJ.out.s
            have n0 := HJ.out.n0
            have n1 := HJ.out.n1
            obtain ⟨m2, hm2⟩ : ∃ m2, l0.length + l1.length = m2 := ⟨_, rfl⟩
            have HM2 := Lib.hid hm2
            clear hm2 hb2
            rcases hv2 with rfl | ⟨t2, x2, rfl⟩
            all_goals (
              go_wp2_with (first
              | (at_builtin; refine wpList_append_bs rfl (.tmp 79) (.tmp 80) rfl w2.heap.size w2.heap.size 0 0 [] rfl (own_empty w2) a0 cap0 l0 rfl HA0.out (by omega) (by simp) l0.length (by omega) ?_; intro g1 k1 u1 hown1 hgr1; have HOWN1 := Lib.hid hown1; have HGR1 := Lib.hid hgr1; have HU1 := Lib.hid (below_own (BelowA w2 (.cells #[] 5)) hgr1 (Nat.le_refl _)); have HG1 := Lib.hid (hown1.lt g1 rfl); clear hown1 hgr1)
              | (at_builtin; go_must (refine wpList_append_bs rfl (.tmp 81) (.tmp 82) rfl w2.heap.size g1 l0.length k1 ([] ++ l0) rfl HOWN1.out a1 cap1 l1 rfl (HJ1.out.below HU1.out (Nat.le_refl _)) (by omega) HU1.out.size m2 HM2.out ?_); intro g2 k2 u2 hown2 hgr2; have HOWN2 := Lib.hid hown2; have HU2 := Lib.hid (below_own HU1.out hgr2 HG1.out.1); clear hown2 hgr2))
              have hm2' : m2 = (l0 ++ l1).length := by rw [List.length_append]; exact HM2.out.symm
              have hs2 := j0.kept HW2.out (Nat.le_refl _)
              have CP3 := shape_Parse (some ⟨g2, 0, none⟩) k2 (l0 ++ l1) u2 (ownBs' HOWN2.out hm2') A (hs2.kept HU2.out (Nat.le_refl _))
              rw [← hm2'] at CP3
              refine CP3.mono ?_
              rintro e w4 hpp
              obtain ⟨F3, v3, rfl, _, hb4⟩ := hpp.any
              have HB4 := Lib.hid (HW2.out.trans ((HU2.out.trans (hb4.mono HU2.out.size)).mono HW2.out.size))
              have CA4 := Lib.hid (fill_awake w4 A (HS.out.kept HB4.out (Nat.le_refl _)))
              clear hm2' hs2 CP3 hpp hb4
              go_wp2_with (go_at_call 39; refine CA4.out.mono ?_; rintro e w' ⟨rfl, hb⟩; have HB := Lib.hid hb; clear hb)
              go_ret
              exact ⟨rfl, HB4.out.trans (HB.out.mono HB4.out.size)⟩)
          · have j1 := HJ.out
            refine (shape_Parse a0 cap0 l0 w j1.h0 A j1.s).mono ?_
            rintro e w1 hpp
            rw [hP] at hpp
            obtain ⟨F1, rfl, _, hb1⟩ := hpp.good
            have HB1 := Lib.hid hb1
            have CP2 := Lib.hid (shape_Parse a1 cap1 l1 w1 (j1.h1.below hb1 (Nat.le_refl _)) A (j1.s.kept hb1 (Nat.le_refl _)))
            clear j1 hb1
            go_wp2_with fail
            refine CP2.out.mono ?_
            rintro e w2 hpp
            obtain ⟨F2, t2, x2, rfl, hb2⟩ := hpp.bad hbad
            have HW2 := Lib.hid (HB1.out.trans (hb2.mono HB1.out.size))
            have HA0 := Lib.hid ((HJ.out.h0.below HW2.out (Nat.le_refl _)).below (BelowA w2 (.cells #[] 5)) (Nat.le_refl _))
            have HJ1 := Lib.hid (HJ.out.h1.below HW2.out (Nat.le_refl _))
            have j0 := HJ.out.s
            have n0 := HJ.out.n0
            have n1 := HJ.out.n1
            obtain ⟨m2, hm2⟩ : ∃ m2, l0.length + l1.length = m2 := ⟨_, rfl⟩
            have HM2 := Lib.hid hm2
            clear hm2 hb2
            go_wp2_with (first
            | (at_builtin; refine wpList_append_bs rfl (.tmp 79) (.tmp 80) rfl w2.heap.size w2.heap.size 0 0 [] rfl (own_empty w2) a0 cap0 l0 rfl HA0.out (by omega) (by simp) l0.length (by omega) ?_; intro g1 k1 u1 hown1 hgr1; have HOWN1 := Lib.hid hown1; have HGR1 := Lib.hid hgr1; have HU1 := Lib.hid (below_own (BelowA w2 (.cells #[] 5)) hgr1 (Nat.le_refl _)); have HG1 := Lib.hid (hown1.lt g1 rfl); clear hown1 hgr1)
            | (at_builtin; go_must (refine wpList_append_bs rfl (.tmp 81) (.tmp 82) rfl w2.heap.size g1 l0.length k1 ([] ++ l0) rfl HOWN1.out a1 cap1 l1 rfl (HJ1.out.below HU1.out (Nat.le_refl _)) (by omega) HU1.out.size m2 HM2.out ?_); intro g2 k2 u2 hown2 hgr2; have HOWN2 := Lib.hid hown2; have HU2 := Lib.hid (below_own HU1.out hgr2 HG1.out.1); clear hown2 hgr2))
            have hm2' : m2 = (l0 ++ l1).length := by rw [List.length_append]; exact HM2.out.symm
            have hs2 := j0.kept HW2.out (Nat.le_refl _)
            have CP3 := shape_Parse (some ⟨g2, 0, none⟩) k2 (l0 ++ l1) u2 (ownBs' HOWN2.out hm2') A (hs2.kept HU2.out (Nat.le_refl _))
            rw [← hm2'] at CP3
            refine CP3.mono ?_
            rintro e w4 hpp
            obtain ⟨F3, v3, rfl, _, hb4⟩ := hpp.any
            have HB4 := Lib.hid (HW2.out.trans ((HU2.out.trans (hb4.mono HU2.out.size)).mono HW2.out.size))
            have CA4 := Lib.hid (fill_awake w4 A (HS.out.kept HB4.out (Nat.le_refl _)))
            clear hm2' hs2 CP3 hpp hb4
            go_wp2_with (go_at_call 39; refine CA4.out.mono ?_; rintro e w' ⟨rfl, hb⟩; have HB := Lib.hid hb; clear hb)
            go_ret
            exact ⟨rfl, HB4.out.trans (HB.out.mono HB4.out.size)⟩
      · obtain ⟨m, hm⟩ : ∃ m, l0.length = m + 1 := ⟨l0.length - 1, by omega⟩
        have e1 : decide (0 < (l0.length : Int)) = true := decide_eq_true (by omega)
        have e2 : (l0.length : Int) - 1 = (m : Int) := by omega
        have hml : m < l0.length := by omega
        obtain ⟨b, off, rfl, hc⟩ := H0.out.2.2 m hml
        obtain ⟨x, hx⟩ : ∃ x, l0[m] = x := ⟨_, rfl⟩
        rw [hx] at hc
        have hlast : l0.getLast? = some x := by rw [List.getLast?_eq_getElem?, hm, Nat.add_sub_cancel, List.getElem?_eq_getElem hml, hx]
        have hxl := x.toNat_lt
        have HLA := Lib.hid hlast
        have HM := Lib.hid hm
        clear hlast hx hm hne
        by_cases ho : 48 ≤ x.toNat ∧ x.toNat ≤ 55
        · have f1 : decide ((48 : Int) ≤ (x.toNat : Int)) = true := decide_eq_true (by omega)
          have f2 : decide ((x.toNat : Int) ≤ 55) = true := decide_eq_true (by omega)
          go_wp2_with (go_at_call 39; refine C0.out.mono ?_; rintro e w' ⟨rfl, hb⟩; have HB := Lib.hid hb; clear hb)
          go_ret
          exact ⟨rfl, HB.out⟩
        · have HJ : Hid (JoinIn w A (some ⟨b, off, none⟩) cap0 l0 a1 cap1 l1 a2 cap2 l2) := ⟨HS.out, H0.out, H1.out, H2.out, by have := B0.out; omega, by have := B1.out; omega, by have := B2.out; omega, HSZ.out, fun c hc => by
            rw [HLA.out] at hc
            obtain rfl : x = c := by simpa using hc
            rw [oct_iff]; exact ho⟩
          by_cases h48 : x.toNat < 48
          · have f1 : decide ((48 : Int) ≤ (x.toNat : Int)) = false := decide_eq_false (by omega)
            clear ho h48
            go_wp2_with fail
            by_cases hok : (∃ P, parse l0 = .ok P) ∧ (∃ Q, parse l1 = .ok Q)
            · obtain ⟨⟨P, hP⟩, ⟨Q, hQ⟩⟩ := hok
              obtain ⟨L, lit, hL, hR⟩ := parse_join HJ.out.n0 HJ.out.n1 HJ.out.lst hP hQ
              have gP := parse_good hP
              have gQ := parse_good hQ
              have gR := parse_good hR
              have j1 := HJ.out
              refine (shape_Parse (some ⟨b, off, none⟩) cap0 l0 w j1.h0 A j1.s).mono ?_
              rintro e w1 hpp
              rw [hP] at hpp
              obtain ⟨F1, rfl, hf1, hb1⟩ := hpp.good
              have HF1 := Lib.hid hf1
              clear hf1
              have HB1 := Lib.hid hb1
              have CP2 := Lib.hid (shape_Parse a1 cap1 l1 w1 (j1.h1.below hb1 (Nat.le_refl _)) A (j1.s.kept hb1 (Nat.le_refl _)))
              clear j1 hb1
              go_wp2_with fail
              refine CP2.out.mono ?_
              rintro e w2 hpp
              rw [hQ] at hpp
              obtain ⟨F2, rfl, hf2, hb2⟩ := hpp.good
              have HF1 := Lib.hid (HF1.out.below hb2 (Nat.le_refl _))
              have HF2 := Lib.hid hf2
              clear hf2
              have HW2 := Lib.hid (HB1.out.trans (hb2.mono HB1.out.size))
              have HA0 := Lib.hid ((HJ.out.h0.below HW2.out (Nat.le_refl _)).below (BelowA w2 (.cells #[] 5)) (Nat.le_refl _))
              have HJ1 := Lib.hid (HJ.out.h1.below HW2.out (Nat.le_refl _))
              have j0 := HJ.out.s
              have n0 := HJ.out.n0
              have n1 := HJ.out.n1
              obtain ⟨m2, hm2⟩ : ∃ m2, l0.length + l1.length = m2 := ⟨_, rfl⟩
              have HM2 := Lib.hid hm2
              clear hm2 hb2
              have HGP := Lib.hid gP
              have HGQ := Lib.hid gQ
              have HGR := Lib.hid gR
              have HR := Lib.hid hR
              have HL := Lib.hid hL
              clear gP gQ gR hR hL hP hQ
              go_wp2_with (first
              | (at_builtin; refine wpList_append_bs rfl (.tmp 79) (.tmp 80) rfl w2.heap.size w2.heap.size 0 0 [] rfl (own_empty w2) (some ⟨b, off, none⟩) cap0 l0 rfl HA0.out (by omega) (by simp) l0.length (by omega) ?_; intro g1 k1 u1 hown1 hgr1; have HOWN1 := Lib.hid hown1; have HGR1 := Lib.hid hgr1; have HU1 := Lib.hid (below_own (BelowA w2 (.cells #[] 5)) hgr1 (Nat.le_refl _)); have HG1 := Lib.hid (hown1.lt g1 rfl); clear hown1 hgr1)
              | (at_builtin; go_must (refine wpList_append_bs rfl (.tmp 81) (.tmp 82) rfl w2.heap.size g1 l0.length k1 ([] ++ l0) rfl HOWN1.out a1 cap1 l1 rfl (HJ1.out.below HU1.out (Nat.le_refl _)) (by omega) HU1.out.size m2 HM2.out ?_); intro g2 k2 u2 hown2 hgr2; have HOWN2 := Lib.hid hown2; have HU2 := Lib.hid (below_own HU1.out hgr2 HG1.out.1); clear hown2 hgr2))
              obtain ⟨ln, hln⟩ : ∃ ln, ln = (l0 ++ l1).length := ⟨_, rfl⟩
              have hm2' : m2 = (l0 ++ l1).length := by rw [List.length_append]; exact HM2.out.symm
              have hs2 := j0.kept HW2.out (Nat.le_refl _)
              have CP3 := shape_Parse (some ⟨g2, 0, none⟩) k2 (l0 ++ l1) u2 (ownBs' HOWN2.out hm2') A (hs2.kept HU2.out (Nat.le_refl _))
              rw [← hm2', HR.out] at CP3
              refine CP3.mono ?_
              rintro e w4 hpp
              obtain ⟨F3, rfl, hf3, hb4⟩ := hpp.good
              have HB4 := Lib.hid (HW2.out.trans ((HU2.out.trans (hb4.mono HU2.out.size)).mono HW2.out.size))
              have hU4 := HU2.out.trans (hb4.mono HU2.out.size)
              have HF1 := Lib.hid (HF1.out.below hU4 (Nat.le_refl _))
              have HF2 := Lib.hid (HF2.out.below hU4 (Nat.le_refl _))
              have HF3 := Lib.hid hf3
              have hO4 := HJ.out.h2.below HB4.out (Nat.le_refl _)
              have HO4 := Lib.hid hO4
              have hsz : ∀ S ∈ l2, S.size ≤ 1000000000000 := fun S h => by have := HJ.out.sz S h; omega
              have HSZ4 := Lib.hid hsz
              obtain ⟨xr, nx, onx, hx⟩ : ∃ xr nx onx, once P (l2.map bl) ⟨[], [], false⟩ 0 = (xr, nx, onx) := ⟨_, _, _, rfl⟩
              have hnx := (once_taken P (l2.map bl) ⟨[], [], false⟩ 0 (by omega)).2.1
              have hbx := once_bounds P (l2.map bl) ⟨[], [], false⟩ 0 (by simp) rfl
              rw [hx, List.length_map] at hnx
              rw [hx] at hbx
              simp only [] at hnx hbx
              have HBX := Lib.hid hbx
              have HX := Lib.hid hx
              have CO1 := Lib.hid (fill_Once w4 _ F1 P HF1.out HGP.out.1 HGP.out.2 a2 cap2 l2 hO4 hsz xr nx onx hx)
              clear hm2' hs2 CP3 hpp hf3 hb4 hU4 hO4 hsz hx hbx hln
              go_wp2_with fail
              refine CO1.out.mono ?_
              rintro e w5 ⟨oa, no, oc, ca, nc, cc, rfl, hno, hnc, hb5, ho, hcd⟩
              have HNO := Lib.hid hno
              have HNC := Lib.hid hnc
              have HOX := Lib.hid ho
              have HB5 := Lib.hid (HB4.out.trans (hb5.mono HB4.out.size))
              have HC5 := Lib.hid hb5
              have n2 := HJ.out.n2
              clear hno hnc hb5 ho hcd
              obtain ⟨sx, hsx⟩ : ∃ sx, xr.stop = sx := ⟨_, rfl⟩
              rw [hsx]
              have HSX := Lib.hid hsx
              clear hsx
              have CA5 := Lib.hid (fun o => fill_awake (w5.alloc o) A (HS.out.kept (HB5.out.trans ((BelowA w5 o).mono HB5.out.size)) (Nat.le_refl _)))
              have HN2 := Lib.hid n2
              cases sx
              · by_cases hbig : 20000 < no
                · have dd : decide (20000 < (no : Int)) = true := decide_eq_true (by omega)
                  clear hbig
                  go_wp2_with (go_at_call 39; refine (CA5.out _).mono ?_; rintro e w' ⟨rfl, hb⟩; have HB := Lib.hid hb; clear hb)
                  go_ret
                  exact ⟨rfl, HB5.out.trans (((BelowA w5 _).trans (HB.out.mono (BelowA w5 _).size)).mono HB5.out.size)⟩
                · have dd : decide (20000 < (no : Int)) = false := decide_eq_false (by omega)
                  have hcs := fun W => run_cutStr a2 l2.length cap2 nx hnx W
                  obtain ⟨yr, ny, ony, hy⟩ : ∃ yr ny ony, once Q ((l2.drop nx).map bl) ⟨[], [], false⟩ 0 = (yr, ny, ony) := ⟨_, _, _, rfl⟩
                  have hny := (once_taken Q ((l2.drop nx).map bl) ⟨[], [], false⟩ 0 (by omega)).2.1
                  have hby := once_bounds Q ((l2.drop nx).map bl) ⟨[], [], false⟩ 0 (by simp) rfl
                  rw [hy, List.length_map, List.length_drop] at hny
                  rw [hy] at hby
                  simp only [] at hny hby
                  have b6 := BelowA w5 (.cells #[.slice oa no oc, .slice ca nc cc, .bool false] 62)
                  have s6 : (w5.alloc (.cells #[.slice oa no oc, .slice ca nc cc, .bool false] 62)).heap.size = w5.heap.size + 1 := by simp
                  have b46 := HC5.out.trans (b6.mono HC5.out.size)
                  have CO2 := fill_Once (w5.alloc (.cells #[.slice oa no oc, .slice ca nc cc, .bool false] 62)) _ F2 Q (HF2.out.below b46 (Nat.le_refl _)) HGQ.out.1 HGQ.out.2 _ _ (l2.drop nx) ((HO4.out.below b46 (Nat.le_refl _)).cut nx hnx) (fun S h => HSZ4.out S (List.mem_of_mem_drop h)) yr ny ony hy
                  rw [List.length_drop] at CO2
                  have HF3' := Lib.hid (HF3.out.below b46 (Nat.le_refl _))
                  have HO6 := Lib.hid (HO4.out.below b46 (Nat.le_refl _))
                  have HB6 := Lib.hid (HB5.out.trans (b6.mono HB5.out.size))
                  have HS6 := Lib.hid s6
                  have HY := Lib.hid hy
                  have HBY := Lib.hid hby
                  have HCO2 := Lib.hid CO2
                  have HBIG := Lib.hid hbig
                  clear b6 b46 s6 CO2 hy hby hbig
                  go_wp2_with fail
                  refine HCO2.out.mono ?_
                  rintro e w7 ⟨ob, nb, ocb, cb, mc, ccb, rfl, hnb, hmc, hb7, hob, hcd⟩
                  have HNB := Lib.hid hnb
                  have HMC := Lib.hid hmc
                  have HOY := Lib.hid hob
                  have HB7 := Lib.hid hb7
                  obtain ⟨sy, hsy⟩ : ∃ sy, yr.stop = sy := ⟨_, rfl⟩
                  rw [hsy]
                  have HSY := Lib.hid hsy
                  clear hnb hmc hob hcd hsy
                  have b8 := BelowA w7 (.cells #[.slice ob nb ocb, .slice cb mc ccb, .bool sy] 62)
                  have s8 : (w7.alloc (.cells #[.slice ob nb ocb, .slice cb mc ccb, .bool sy] 62)).heap.size = w7.heap.size + 1 := by simp
                  have b68 := hb7.trans (b8.mono hb7.size)
                  obtain ⟨zr, nz, onz, hz⟩ : ∃ zr nz onz, once (joinQ L lit Q) (l2.map bl) ⟨[], [], false⟩ 0 = (zr, nz, onz) := ⟨_, _, _, rfl⟩
                  have CO3 := Lib.hid (fill_Once (w7.alloc (.cells #[.slice ob nb ocb, .slice cb mc ccb, .bool sy] 62)) _ F3 (joinQ L lit Q) (HF3'.out.below b68 (Nat.le_refl _)) HGR.out.1 HGR.out.2 a2 cap2 l2 (HO6.out.below b68 (Nat.le_refl _)) HSZ4.out zr nz onz hz)
                  have HZ := Lib.hid hz
                  have HB8 := Lib.hid b68
                  have HS8 := Lib.hid s8
                  clear hb7 b8 s8 b68 hz
                  go_wp2_with fail
                  refine CO3.out.mono ?_
                  rintro e w9 ⟨oz, nzl, ocz, cz, nzc, ccz, rfl, hnzl, hnzc, hb9, hoz, hcd⟩
                  have t7 : Below (w5.heap.size + 1) (w5.alloc (.cells #[.slice oa no oc, .slice ca nc cc, .bool false] 62)) (w7.alloc (.cells #[.slice ob nb ocb, .slice cb mc ccb, .bool sy] 62)) := HS6.out ▸ HB8.out
                  have t9 := t7.trans (hb9.mono (by have := t7.size; rw [HS6.out] at this; exact this))
                  have u9 : Below (w7.heap.size + 1) (w7.alloc (.cells #[.slice ob nb ocb, .slice cb mc ccb, .bool sy] 62)) w9 := HS8.out ▸ hb9
                  have kqx := fun o => told_cells (w1 := w5) (W := w9.alloc o) (t9.trans ((BelowA w9 o).mono (by have := t9.size; rw [HS6.out] at this; exact this)))
                  have kqy := fun o => told_cells (w1 := w7) (W := w9.alloc o) (u9.trans ((BelowA w9 o).mono (by have := u9.size; rw [HS8.out] at this; exact this)))
                  have x0 := fun o => (kqx o).1
                  have x1 := fun o => (kqx o).2.1
                  have y0 := fun o => (kqy o).1
                  have y1 := fun o => (kqy o).2.1
                  have y2 := fun o => (kqy o).2.2
                  have b79 := HB8.out.trans (hb9.mono HB8.out.size)
                  have HB9 := Lib.hid (HB6.out.trans (b79.mono HB6.out.size))
                  have CA9 := Lib.hid (fun o => fill_awake (w9.alloc o) A (HS.out.kept (HB9.out.trans ((BelowA w9 o).mono HB9.out.size)) (Nat.le_refl _)))
                  by_cases hyl : 20000 < nb
                  · have dy : decide (20000 < (nb : Int)) = true := decide_eq_true (by omega)
                    clear hyl hnzl hnzc hoz hcd t7 t9 u9 kqx kqy b79 hb9
                    go_wp2_with (go_at_call 39; refine (CA9.out _).mono ?_; rintro e w' ⟨rfl, hb⟩; have HB := Lib.hid hb; clear hb)
                    go_ret
                    exact ⟨rfl, HB9.out.trans (((BelowA w9 _).trans (HB.out.mono (BelowA w9 _).size)).mono HB9.out.size)⟩
                  · have dy : decide (20000 < (nb : Int)) = false := decide_eq_false (by omega)
                    obtain ⟨on3, hj⟩ := joins (l2.map bl) xr nx onx (HL.out ▸ HX.out) HSX.out (by have := HBIG.out; have := HNO.out; omega) (by rw [List.length_map]; exact hnx) yr ny ony (by rw [← List.map_drop]; exact HY.out) (by have := HNB.out; omega)
                    have hzz := HZ.out.symm.trans hj
                    simp only [Prod.mk.injEq] at hzz
                    obtain ⟨hzr, hnzz, _⟩ := hzz
                    have HZO : Hid (zr.out = xr.out ++ yr.out) := by show _ = _; rw [hzr]
                    have hzs : zr.stop = sy := by rw [hzr]; exact HSY.out
                    have hzc : nzc = nc + mc := by rw [hnzc, HNC.out, HMC.out, hzr]; simp
                    rw [hzs]
                    clear hzr hzs hnzc hj
                    subst hzc
                    subst hnzz
                    obtain ⟨XS, hXS⟩ : ∃ XS : ByteArray, ⟨xr.out.toArray⟩ = XS := ⟨_, rfl⟩
                    obtain ⟨YS, hYS⟩ : ∃ YS : ByteArray, ⟨yr.out.toArray⟩ = YS := ⟨_, rfl⟩
                    have ksx : ∀ o, (convert 44 9 (.slice oa no oc)).run Tryd.prog (w9.alloc o) = .ok (.string XS) (w9.alloc o) := fun o => by
                      rw [← hXS]
                      exact ownStr HOX.out HNO.out (W := w9.alloc o) ((BelowA w5 _).trans ((t9.trans ((BelowA w9 o).mono (by have := t9.size; rw [HS6.out] at this; exact this))).mono (by omega))) (Nat.le_refl _)
                    have ksy : ∀ o, (convert 44 9 (.slice ob nb ocb)).run Tryd.prog (w9.alloc o) = .ok (.string YS) (w9.alloc o) := fun o => by
                      rw [← hYS]
                      exact ownStr HOY.out HNB.out (W := w9.alloc o) ((BelowA w7 _).trans ((u9.trans ((BelowA w9 o).mono (by have := u9.size; rw [HS8.out] at this; exact this))).mono (by omega))) (Nat.le_refl _)
                    have ksz : ∀ o, (convert 44 9 (.slice oz nzl ocz)).run Tryd.prog (w9.alloc o) = .ok (.string (XS ++ YS)) (w9.alloc o) := fun o => by
                      have := ownStr hoz hnzl (W := w9.alloc o) (BelowA w9 o) (Nat.le_refl _)
                      rw [HZO.out, show (⟨(xr.out ++ yr.out).toArray⟩ : ByteArray) = XS ++ YS by rw [← ByteArray.mk_append_mk, hXS, hYS]] at this
                      exact this
                    have zx : XS.size ≤ 20000 := by rw [← hXS]; show xr.out.toArray.size ≤ 20000; rw [List.size_toArray]; have := HBIG.out; have := HNO.out; omega
                    have zy : YS.size ≤ 20000 := by rw [← hYS]; show yr.out.toArray.size ≤ 20000; rw [List.size_toArray]; have := HNB.out; omega
                    have hn2 := HN2.out
                    have vnx : nx ≤ 30 := by omega
                    have vny : ny ≤ 30 := by omega
                    have vnc : nc ≤ 5000 := by have := HBX.out.2.1; have := HNC.out; have := HGP.out.1; simp at *; omega
                    have vmc : mc ≤ 5000 := by have := HBY.out.2.1; have := HMC.out; have := HGQ.out.1; simp at *; omega
                    have ek : (((nx + ny : Nat) : Int) == (nx : Int) + (ny : Int)) = true := beq_iff_eq.2 (by omega)
                    have ec : (((nc + mc : Nat) : Int) == (nc : Int) + (mc : Int)) = true := beq_iff_eq.2 (by omega)
                    clear hyl hnzl hoz hcd t7 t9 u9 kqx kqy b79 hb9 hXS hYS
                    go_wp2_with (go_at_call 39; refine (CA9.out _).mono ?_; rintro e w' ⟨rfl, hb⟩; have HB := Lib.hid hb; clear hb)
                    go_ret
                    exact ⟨rfl, HB9.out.trans (((BelowA w9 _).trans (HB.out.mono (BelowA w9 _).size)).mono HB9.out.size)⟩
              · go_wp2_with (go_at_call 39; refine (CA5.out _).mono ?_; rintro e w' ⟨rfl, hb⟩; have HB := Lib.hid hb; clear hb)
                go_ret
                exact ⟨rfl, HB5.out.trans (((BelowA w5 _).trans (HB.out.mono (BelowA w5 _).size)).mono HB5.out.size)⟩
            · have hbad : (∀ P, parse l0 ≠ .ok P) ∨ ((∃ P, parse l0 = .ok P) ∧ ∀ Q, parse l1 ≠ .ok Q) := by
                by_cases hp : ∃ P, parse l0 = .ok P
                · exact .inr ⟨hp, fun Q hq => hok ⟨hp, Q, hq⟩⟩
                · exact .inl fun P h => hp ⟨P, h⟩
              clear hok
              rcases hbad with hbad | ⟨⟨P, hP⟩, hbad⟩
              · have j1 := HJ.out
                refine (shape_Parse (some ⟨b, off, none⟩) cap0 l0 w j1.h0 A j1.s).mono ?_
                rintro e w1 hpp
                obtain ⟨F1, t1, x1, rfl, hb1⟩ := hpp.bad hbad
                have HB1 := Lib.hid hb1
                have CP2 := Lib.hid (shape_Parse a1 cap1 l1 w1 (j1.h1.below hb1 (Nat.le_refl _)) A (j1.s.kept hb1 (Nat.le_refl _)))
                clear j1 hb1
                go_wp2_with fail
                refine CP2.out.mono ?_
                rintro e w2 hpp
                obtain ⟨F2, v2, rfl, hv2, hb2⟩ := hpp.any
                have HW2 := Lib.hid (HB1.out.trans (hb2.mono HB1.out.size))
                have HA0 := Lib.hid ((HJ.out.h0.below HW2.out (Nat.le_refl _)).below (BelowA w2 (.cells #[] 5)) (Nat.le_refl _))
                have HJ1 := Lib.hid (HJ.out.h1.below HW2.out (Nat.le_refl _))
                have j0 := HJ.out.s
                have n0 := HJ.out.n0
                have n1 := HJ.out.n1
                obtain ⟨m2, hm2⟩ : ∃ m2, l0.length + l1.length = m2 := ⟨_, rfl⟩
                have HM2 := Lib.hid hm2
                clear hm2 hb2
                rcases hv2 with rfl | ⟨t2, x2, rfl⟩
                all_goals (
                  go_wp2_with (first
                  | (at_builtin; refine wpList_append_bs rfl (.tmp 79) (.tmp 80) rfl w2.heap.size w2.heap.size 0 0 [] rfl (own_empty w2) (some ⟨b, off, none⟩) cap0 l0 rfl HA0.out (by omega) (by simp) l0.length (by omega) ?_; intro g1 k1 u1 hown1 hgr1; have HOWN1 := Lib.hid hown1; have HGR1 := Lib.hid hgr1; have HU1 := Lib.hid (below_own (BelowA w2 (.cells #[] 5)) hgr1 (Nat.le_refl _)); have HG1 := Lib.hid (hown1.lt g1 rfl); clear hown1 hgr1)
                  | (at_builtin; go_must (refine wpList_append_bs rfl (.tmp 81) (.tmp 82) rfl w2.heap.size g1 l0.length k1 ([] ++ l0) rfl HOWN1.out a1 cap1 l1 rfl (HJ1.out.below HU1.out (Nat.le_refl _)) (by omega) HU1.out.size m2 HM2.out ?_); intro g2 k2 u2 hown2 hgr2; have HOWN2 := Lib.hid hown2; have HU2 := Lib.hid (below_own HU1.out hgr2 HG1.out.1); clear hown2 hgr2))
                  have hm2' : m2 = (l0 ++ l1).length := by rw [List.length_append]; exact HM2.out.symm
                  have hs2 := j0.kept HW2.out (Nat.le_refl _)
                  have CP3 := shape_Parse (some ⟨g2, 0, none⟩) k2 (l0 ++ l1) u2 (ownBs' HOWN2.out hm2') A (hs2.kept HU2.out (Nat.le_refl _))
                  rw [← hm2'] at CP3
                  refine CP3.mono ?_
                  rintro e w4 hpp
                  obtain ⟨F3, v3, rfl, _, hb4⟩ := hpp.any
                  have HB4 := Lib.hid (HW2.out.trans ((HU2.out.trans (hb4.mono HU2.out.size)).mono HW2.out.size))
                  have CA4 := Lib.hid (fill_awake w4 A (HS.out.kept HB4.out (Nat.le_refl _)))
                  clear hm2' hs2 CP3 hpp hb4
                  go_wp2_with (go_at_call 39; refine CA4.out.mono ?_; rintro e w' ⟨rfl, hb⟩; have HB := Lib.hid hb; clear hb)
                  go_ret
                  exact ⟨rfl, HB4.out.trans (HB.out.mono HB4.out.size)⟩)
              · have j1 := HJ.out
                refine (shape_Parse (some ⟨b, off, none⟩) cap0 l0 w j1.h0 A j1.s).mono ?_
                rintro e w1 hpp
                rw [hP] at hpp
                obtain ⟨F1, rfl, _, hb1⟩ := hpp.good
                have HB1 := Lib.hid hb1
                have CP2 := Lib.hid (shape_Parse a1 cap1 l1 w1 (j1.h1.below hb1 (Nat.le_refl _)) A (j1.s.kept hb1 (Nat.le_refl _)))
                clear j1 hb1
                go_wp2_with fail
                refine CP2.out.mono ?_
                rintro e w2 hpp
                obtain ⟨F2, t2, x2, rfl, hb2⟩ := hpp.bad hbad
                have HW2 := Lib.hid (HB1.out.trans (hb2.mono HB1.out.size))
                have HA0 := Lib.hid ((HJ.out.h0.below HW2.out (Nat.le_refl _)).below (BelowA w2 (.cells #[] 5)) (Nat.le_refl _))
                have HJ1 := Lib.hid (HJ.out.h1.below HW2.out (Nat.le_refl _))
                have j0 := HJ.out.s
                have n0 := HJ.out.n0
                have n1 := HJ.out.n1
                obtain ⟨m2, hm2⟩ : ∃ m2, l0.length + l1.length = m2 := ⟨_, rfl⟩
                have HM2 := Lib.hid hm2
                clear hm2 hb2
                go_wp2_with (first
                | (at_builtin; refine wpList_append_bs rfl (.tmp 79) (.tmp 80) rfl w2.heap.size w2.heap.size 0 0 [] rfl (own_empty w2) (some ⟨b, off, none⟩) cap0 l0 rfl HA0.out (by omega) (by simp) l0.length (by omega) ?_; intro g1 k1 u1 hown1 hgr1; have HOWN1 := Lib.hid hown1; have HGR1 := Lib.hid hgr1; have HU1 := Lib.hid (below_own (BelowA w2 (.cells #[] 5)) hgr1 (Nat.le_refl _)); have HG1 := Lib.hid (hown1.lt g1 rfl); clear hown1 hgr1)
                | (at_builtin; go_must (refine wpList_append_bs rfl (.tmp 81) (.tmp 82) rfl w2.heap.size g1 l0.length k1 ([] ++ l0) rfl HOWN1.out a1 cap1 l1 rfl (HJ1.out.below HU1.out (Nat.le_refl _)) (by omega) HU1.out.size m2 HM2.out ?_); intro g2 k2 u2 hown2 hgr2; have HOWN2 := Lib.hid hown2; have HU2 := Lib.hid (below_own HU1.out hgr2 HG1.out.1); clear hown2 hgr2))
                have hm2' : m2 = (l0 ++ l1).length := by rw [List.length_append]; exact HM2.out.symm
                have hs2 := j0.kept HW2.out (Nat.le_refl _)
                have CP3 := shape_Parse (some ⟨g2, 0, none⟩) k2 (l0 ++ l1) u2 (ownBs' HOWN2.out hm2') A (hs2.kept HU2.out (Nat.le_refl _))
                rw [← hm2'] at CP3
                refine CP3.mono ?_
                rintro e w4 hpp
                obtain ⟨F3, v3, rfl, _, hb4⟩ := hpp.any
                have HB4 := Lib.hid (HW2.out.trans ((HU2.out.trans (hb4.mono HU2.out.size)).mono HW2.out.size))
                have CA4 := Lib.hid (fill_awake w4 A (HS.out.kept HB4.out (Nat.le_refl _)))
                clear hm2' hs2 CP3 hpp hb4
                go_wp2_with (go_at_call 39; refine CA4.out.mono ?_; rintro e w' ⟨rfl, hb⟩; have HB := Lib.hid hb; clear hb)
                go_ret
                exact ⟨rfl, HB4.out.trans (HB.out.mono HB4.out.size)⟩
          · have f1 : decide ((48 : Int) ≤ (x.toNat : Int)) = true := decide_eq_true (by omega)
            have f2 : decide ((x.toNat : Int) ≤ 55) = false := decide_eq_false (by omega)
            clear ho h48
            go_wp2_with fail
            by_cases hok : (∃ P, parse l0 = .ok P) ∧ (∃ Q, parse l1 = .ok Q)
            · obtain ⟨⟨P, hP⟩, ⟨Q, hQ⟩⟩ := hok
              obtain ⟨L, lit, hL, hR⟩ := parse_join HJ.out.n0 HJ.out.n1 HJ.out.lst hP hQ
              have gP := parse_good hP
              have gQ := parse_good hQ
              have gR := parse_good hR
              have j1 := HJ.out
              refine (shape_Parse (some ⟨b, off, none⟩) cap0 l0 w j1.h0 A j1.s).mono ?_
              rintro e w1 hpp
              rw [hP] at hpp
              obtain ⟨F1, rfl, hf1, hb1⟩ := hpp.good
              have HF1 := Lib.hid hf1
              clear hf1
              have HB1 := Lib.hid hb1
              have CP2 := Lib.hid (shape_Parse a1 cap1 l1 w1 (j1.h1.below hb1 (Nat.le_refl _)) A (j1.s.kept hb1 (Nat.le_refl _)))
              clear j1 hb1
              go_wp2_with fail
              refine CP2.out.mono ?_
              rintro e w2 hpp
              rw [hQ] at hpp
              obtain ⟨F2, rfl, hf2, hb2⟩ := hpp.good
              have HF1 := Lib.hid (HF1.out.below hb2 (Nat.le_refl _))
              have HF2 := Lib.hid hf2
              clear hf2
              have HW2 := Lib.hid (HB1.out.trans (hb2.mono HB1.out.size))
              have HA0 := Lib.hid ((HJ.out.h0.below HW2.out (Nat.le_refl _)).below (BelowA w2 (.cells #[] 5)) (Nat.le_refl _))
              have HJ1 := Lib.hid (HJ.out.h1.below HW2.out (Nat.le_refl _))
              have j0 := HJ.out.s
              have n0 := HJ.out.n0
              have n1 := HJ.out.n1
              obtain ⟨m2, hm2⟩ : ∃ m2, l0.length + l1.length = m2 := ⟨_, rfl⟩
              have HM2 := Lib.hid hm2
              clear hm2 hb2
              have HGP := Lib.hid gP
              have HGQ := Lib.hid gQ
              have HGR := Lib.hid gR
              have HR := Lib.hid hR
              have HL := Lib.hid hL
              clear gP gQ gR hR hL hP hQ
              go_wp2_with (first
              | (at_builtin; refine wpList_append_bs rfl (.tmp 79) (.tmp 80) rfl w2.heap.size w2.heap.size 0 0 [] rfl (own_empty w2) (some ⟨b, off, none⟩) cap0 l0 rfl HA0.out (by omega) (by simp) l0.length (by omega) ?_; intro g1 k1 u1 hown1 hgr1; have HOWN1 := Lib.hid hown1; have HGR1 := Lib.hid hgr1; have HU1 := Lib.hid (below_own (BelowA w2 (.cells #[] 5)) hgr1 (Nat.le_refl _)); have HG1 := Lib.hid (hown1.lt g1 rfl); clear hown1 hgr1)
              | (at_builtin; go_must (refine wpList_append_bs rfl (.tmp 81) (.tmp 82) rfl w2.heap.size g1 l0.length k1 ([] ++ l0) rfl HOWN1.out a1 cap1 l1 rfl (HJ1.out.below HU1.out (Nat.le_refl _)) (by omega) HU1.out.size m2 HM2.out ?_); intro g2 k2 u2 hown2 hgr2; have HOWN2 := Lib.hid hown2; have HU2 := Lib.hid (below_own HU1.out hgr2 HG1.out.1); clear hown2 hgr2))
              obtain ⟨ln, hln⟩ : ∃ ln, ln = (l0 ++ l1).length := ⟨_, rfl⟩
              have hm2' : m2 = (l0 ++ l1).length := by rw [List.length_append]; exact HM2.out.symm
              have hs2 := j0.kept HW2.out (Nat.le_refl _)
              have CP3 := shape_Parse (some ⟨g2, 0, none⟩) k2 (l0 ++ l1) u2 (ownBs' HOWN2.out hm2') A (hs2.kept HU2.out (Nat.le_refl _))
              rw [← hm2', HR.out] at CP3
              refine CP3.mono ?_
              rintro e w4 hpp
              obtain ⟨F3, rfl, hf3, hb4⟩ := hpp.good
              have HB4 := Lib.hid (HW2.out.trans ((HU2.out.trans (hb4.mono HU2.out.size)).mono HW2.out.size))
              have hU4 := HU2.out.trans (hb4.mono HU2.out.size)
              have HF1 := Lib.hid (HF1.out.below hU4 (Nat.le_refl _))
              have HF2 := Lib.hid (HF2.out.below hU4 (Nat.le_refl _))
              have HF3 := Lib.hid hf3
              have hO4 := HJ.out.h2.below HB4.out (Nat.le_refl _)
              have HO4 := Lib.hid hO4
              have hsz : ∀ S ∈ l2, S.size ≤ 1000000000000 := fun S h => by have := HJ.out.sz S h; omega
              have HSZ4 := Lib.hid hsz
              obtain ⟨xr, nx, onx, hx⟩ : ∃ xr nx onx, once P (l2.map bl) ⟨[], [], false⟩ 0 = (xr, nx, onx) := ⟨_, _, _, rfl⟩
              have hnx := (once_taken P (l2.map bl) ⟨[], [], false⟩ 0 (by omega)).2.1
              have hbx := once_bounds P (l2.map bl) ⟨[], [], false⟩ 0 (by simp) rfl
              rw [hx, List.length_map] at hnx
              rw [hx] at hbx
              simp only [] at hnx hbx
              have HBX := Lib.hid hbx
              have HX := Lib.hid hx
              have CO1 := Lib.hid (fill_Once w4 _ F1 P HF1.out HGP.out.1 HGP.out.2 a2 cap2 l2 hO4 hsz xr nx onx hx)
              clear hm2' hs2 CP3 hpp hf3 hb4 hU4 hO4 hsz hx hbx hln
              go_wp2_with fail
              refine CO1.out.mono ?_
              rintro e w5 ⟨oa, no, oc, ca, nc, cc, rfl, hno, hnc, hb5, ho, hcd⟩
              have HNO := Lib.hid hno
              have HNC := Lib.hid hnc
              have HOX := Lib.hid ho
              have HB5 := Lib.hid (HB4.out.trans (hb5.mono HB4.out.size))
              have HC5 := Lib.hid hb5
              have n2 := HJ.out.n2
              clear hno hnc hb5 ho hcd
              obtain ⟨sx, hsx⟩ : ∃ sx, xr.stop = sx := ⟨_, rfl⟩
              rw [hsx]
              have HSX := Lib.hid hsx
              clear hsx
              have CA5 := Lib.hid (fun o => fill_awake (w5.alloc o) A (HS.out.kept (HB5.out.trans ((BelowA w5 o).mono HB5.out.size)) (Nat.le_refl _)))
              have HN2 := Lib.hid n2
              cases sx
              · by_cases hbig : 20000 < no
                · have dd : decide (20000 < (no : Int)) = true := decide_eq_true (by omega)
                  clear hbig
                  go_wp2_with (go_at_call 39; refine (CA5.out _).mono ?_; rintro e w' ⟨rfl, hb⟩; have HB := Lib.hid hb; clear hb)
                  go_ret
                  exact ⟨rfl, HB5.out.trans (((BelowA w5 _).trans (HB.out.mono (BelowA w5 _).size)).mono HB5.out.size)⟩
                · have dd : decide (20000 < (no : Int)) = false := decide_eq_false (by omega)
                  have hcs := fun W => run_cutStr a2 l2.length cap2 nx hnx W
                  obtain ⟨yr, ny, ony, hy⟩ : ∃ yr ny ony, once Q ((l2.drop nx).map bl) ⟨[], [], false⟩ 0 = (yr, ny, ony) := ⟨_, _, _, rfl⟩
                  have hny := (once_taken Q ((l2.drop nx).map bl) ⟨[], [], false⟩ 0 (by omega)).2.1
                  have hby := once_bounds Q ((l2.drop nx).map bl) ⟨[], [], false⟩ 0 (by simp) rfl
                  rw [hy, List.length_map, List.length_drop] at hny
                  rw [hy] at hby
                  simp only [] at hny hby
                  have b6 := BelowA w5 (.cells #[.slice oa no oc, .slice ca nc cc, .bool false] 62)
                  have s6 : (w5.alloc (.cells #[.slice oa no oc, .slice ca nc cc, .bool false] 62)).heap.size = w5.heap.size + 1 := by simp
                  have b46 := HC5.out.trans (b6.mono HC5.out.size)
                  have CO2 := fill_Once (w5.alloc (.cells #[.slice oa no oc, .slice ca nc cc, .bool false] 62)) _ F2 Q (HF2.out.below b46 (Nat.le_refl _)) HGQ.out.1 HGQ.out.2 _ _ (l2.drop nx) ((HO4.out.below b46 (Nat.le_refl _)).cut nx hnx) (fun S h => HSZ4.out S (List.mem_of_mem_drop h)) yr ny ony hy
                  rw [List.length_drop] at CO2
                  have HF3' := Lib.hid (HF3.out.below b46 (Nat.le_refl _))
                  have HO6 := Lib.hid (HO4.out.below b46 (Nat.le_refl _))
                  have HB6 := Lib.hid (HB5.out.trans (b6.mono HB5.out.size))
                  have HS6 := Lib.hid s6
                  have HY := Lib.hid hy
                  have HBY := Lib.hid hby
                  have HCO2 := Lib.hid CO2
                  have HBIG := Lib.hid hbig
                  clear b6 b46 s6 CO2 hy hby hbig
                  go_wp2_with fail
                  refine HCO2.out.mono ?_
                  rintro e w7 ⟨ob, nb, ocb, cb, mc, ccb, rfl, hnb, hmc, hb7, hob, hcd⟩
                  have HNB := Lib.hid hnb
                  have HMC := Lib.hid hmc
                  have HOY := Lib.hid hob
                  have HB7 := Lib.hid hb7
                  obtain ⟨sy, hsy⟩ : ∃ sy, yr.stop = sy := ⟨_, rfl⟩
                  rw [hsy]
                  have HSY := Lib.hid hsy
                  clear hnb hmc hob hcd hsy
                  have b8 := BelowA w7 (.cells #[.slice ob nb ocb, .slice cb mc ccb, .bool sy] 62)
                  have s8 : (w7.alloc (.cells #[.slice ob nb ocb, .slice cb mc ccb, .bool sy] 62)).heap.size = w7.heap.size + 1 := by simp
                  have b68 := hb7.trans (b8.mono hb7.size)
                  obtain ⟨zr, nz, onz, hz⟩ : ∃ zr nz onz, once (joinQ L lit Q) (l2.map bl) ⟨[], [], false⟩ 0 = (zr, nz, onz) := ⟨_, _, _, rfl⟩
                  have CO3 := Lib.hid (fill_Once (w7.alloc (.cells #[.slice ob nb ocb, .slice cb mc ccb, .bool sy] 62)) _ F3 (joinQ L lit Q) (HF3'.out.below b68 (Nat.le_refl _)) HGR.out.1 HGR.out.2 a2 cap2 l2 (HO6.out.below b68 (Nat.le_refl _)) HSZ4.out zr nz onz hz)
                  have HZ := Lib.hid hz
                  have HB8 := Lib.hid b68
                  have HS8 := Lib.hid s8
                  clear hb7 b8 s8 b68 hz
                  go_wp2_with fail
                  refine CO3.out.mono ?_
                  rintro e w9 ⟨oz, nzl, ocz, cz, nzc, ccz, rfl, hnzl, hnzc, hb9, hoz, hcd⟩
                  have t7 : Below (w5.heap.size + 1) (w5.alloc (.cells #[.slice oa no oc, .slice ca nc cc, .bool false] 62)) (w7.alloc (.cells #[.slice ob nb ocb, .slice cb mc ccb, .bool sy] 62)) := HS6.out ▸ HB8.out
                  have t9 := t7.trans (hb9.mono (by have := t7.size; rw [HS6.out] at this; exact this))
                  have u9 : Below (w7.heap.size + 1) (w7.alloc (.cells #[.slice ob nb ocb, .slice cb mc ccb, .bool sy] 62)) w9 := HS8.out ▸ hb9
                  have kqx := fun o => told_cells (w1 := w5) (W := w9.alloc o) (t9.trans ((BelowA w9 o).mono (by have := t9.size; rw [HS6.out] at this; exact this)))
                  have kqy := fun o => told_cells (w1 := w7) (W := w9.alloc o) (u9.trans ((BelowA w9 o).mono (by have := u9.size; rw [HS8.out] at this; exact this)))
                  have x0 := fun o => (kqx o).1
                  have x1 := fun o => (kqx o).2.1
                  have y0 := fun o => (kqy o).1
                  have y1 := fun o => (kqy o).2.1
                  have y2 := fun o => (kqy o).2.2
                  have b79 := HB8.out.trans (hb9.mono HB8.out.size)
                  have HB9 := Lib.hid (HB6.out.trans (b79.mono HB6.out.size))
                  have CA9 := Lib.hid (fun o => fill_awake (w9.alloc o) A (HS.out.kept (HB9.out.trans ((BelowA w9 o).mono HB9.out.size)) (Nat.le_refl _)))
                  by_cases hyl : 20000 < nb
                  · have dy : decide (20000 < (nb : Int)) = true := decide_eq_true (by omega)
                    clear hyl hnzl hnzc hoz hcd t7 t9 u9 kqx kqy b79 hb9
                    go_wp2_with (go_at_call 39; refine (CA9.out _).mono ?_; rintro e w' ⟨rfl, hb⟩; have HB := Lib.hid hb; clear hb)
                    go_ret
                    exact ⟨rfl, HB9.out.trans (((BelowA w9 _).trans (HB.out.mono (BelowA w9 _).size)).mono HB9.out.size)⟩
                  · have dy : decide (20000 < (nb : Int)) = false := decide_eq_false (by omega)
                    obtain ⟨on3, hj⟩ := joins (l2.map bl) xr nx onx (HL.out ▸ HX.out) HSX.out (by have := HBIG.out; have := HNO.out; omega) (by rw [List.length_map]; exact hnx) yr ny ony (by rw [← List.map_drop]; exact HY.out) (by have := HNB.out; omega)
                    have hzz := HZ.out.symm.trans hj
                    simp only [Prod.mk.injEq] at hzz
                    obtain ⟨hzr, hnzz, _⟩ := hzz
                    have HZO : Hid (zr.out = xr.out ++ yr.out) := by show _ = _; rw [hzr]
                    have hzs : zr.stop = sy := by rw [hzr]; exact HSY.out
                    have hzc : nzc = nc + mc := by rw [hnzc, HNC.out, HMC.out, hzr]; simp
                    rw [hzs]
                    clear hzr hzs hnzc hj
                    subst hzc
                    subst hnzz
                    obtain ⟨XS, hXS⟩ : ∃ XS : ByteArray, ⟨xr.out.toArray⟩ = XS := ⟨_, rfl⟩
                    obtain ⟨YS, hYS⟩ : ∃ YS : ByteArray, ⟨yr.out.toArray⟩ = YS := ⟨_, rfl⟩
                    have ksx : ∀ o, (convert 44 9 (.slice oa no oc)).run Tryd.prog (w9.alloc o) = .ok (.string XS) (w9.alloc o) := fun o => by
                      rw [← hXS]
                      exact ownStr HOX.out HNO.out (W := w9.alloc o) ((BelowA w5 _).trans ((t9.trans ((BelowA w9 o).mono (by have := t9.size; rw [HS6.out] at this; exact this))).mono (by omega))) (Nat.le_refl _)
                    have ksy : ∀ o, (convert 44 9 (.slice ob nb ocb)).run Tryd.prog (w9.alloc o) = .ok (.string YS) (w9.alloc o) := fun o => by
                      rw [← hYS]
                      exact ownStr HOY.out HNB.out (W := w9.alloc o) ((BelowA w7 _).trans ((u9.trans ((BelowA w9 o).mono (by have := u9.size; rw [HS8.out] at this; exact this))).mono (by omega))) (Nat.le_refl _)
                    have ksz : ∀ o, (convert 44 9 (.slice oz nzl ocz)).run Tryd.prog (w9.alloc o) = .ok (.string (XS ++ YS)) (w9.alloc o) := fun o => by
                      have := ownStr hoz hnzl (W := w9.alloc o) (BelowA w9 o) (Nat.le_refl _)
                      rw [HZO.out, show (⟨(xr.out ++ yr.out).toArray⟩ : ByteArray) = XS ++ YS by rw [← ByteArray.mk_append_mk, hXS, hYS]] at this
                      exact this
                    have zx : XS.size ≤ 20000 := by rw [← hXS]; show xr.out.toArray.size ≤ 20000; rw [List.size_toArray]; have := HBIG.out; have := HNO.out; omega
                    have zy : YS.size ≤ 20000 := by rw [← hYS]; show yr.out.toArray.size ≤ 20000; rw [List.size_toArray]; have := HNB.out; omega
                    have hn2 := HN2.out
                    have vnx : nx ≤ 30 := by omega
                    have vny : ny ≤ 30 := by omega
                    have vnc : nc ≤ 5000 := by have := HBX.out.2.1; have := HNC.out; have := HGP.out.1; simp at *; omega
                    have vmc : mc ≤ 5000 := by have := HBY.out.2.1; have := HMC.out; have := HGQ.out.1; simp at *; omega
                    have ek : (((nx + ny : Nat) : Int) == (nx : Int) + (ny : Int)) = true := beq_iff_eq.2 (by omega)
                    have ec : (((nc + mc : Nat) : Int) == (nc : Int) + (mc : Int)) = true := beq_iff_eq.2 (by omega)
                    clear hyl hnzl hoz hcd t7 t9 u9 kqx kqy b79 hb9 hXS hYS
                    go_wp2_with (go_at_call 39; refine (CA9.out _).mono ?_; rintro e w' ⟨rfl, hb⟩; have HB := Lib.hid hb; clear hb)
                    go_ret
                    exact ⟨rfl, HB9.out.trans (((BelowA w9 _).trans (HB.out.mono (BelowA w9 _).size)).mono HB9.out.size)⟩
              · go_wp2_with (go_at_call 39; refine (CA5.out _).mono ?_; rintro e w' ⟨rfl, hb⟩; have HB := Lib.hid hb; clear hb)
                go_ret
                exact ⟨rfl, HB5.out.trans (((BelowA w5 _).trans (HB.out.mono (BelowA w5 _).size)).mono HB5.out.size)⟩
            · have hbad : (∀ P, parse l0 ≠ .ok P) ∨ ((∃ P, parse l0 = .ok P) ∧ ∀ Q, parse l1 ≠ .ok Q) := by
                by_cases hp : ∃ P, parse l0 = .ok P
                · exact .inr ⟨hp, fun Q hq => hok ⟨hp, Q, hq⟩⟩
                · exact .inl fun P h => hp ⟨P, h⟩
              clear hok
              rcases hbad with hbad | ⟨⟨P, hP⟩, hbad⟩
              · have j1 := HJ.out
                refine (shape_Parse (some ⟨b, off, none⟩) cap0 l0 w j1.h0 A j1.s).mono ?_
                rintro e w1 hpp
                obtain ⟨F1, t1, x1, rfl, hb1⟩ := hpp.bad hbad
                have HB1 := Lib.hid hb1
                have CP2 := Lib.hid (shape_Parse a1 cap1 l1 w1 (j1.h1.below hb1 (Nat.le_refl _)) A (j1.s.kept hb1 (Nat.le_refl _)))
                clear j1 hb1
                go_wp2_with fail
                refine CP2.out.mono ?_
                rintro e w2 hpp
                obtain ⟨F2, v2, rfl, hv2, hb2⟩ := hpp.any
                have HW2 := Lib.hid (HB1.out.trans (hb2.mono HB1.out.size))
                have HA0 := Lib.hid ((HJ.out.h0.below HW2.out (Nat.le_refl _)).below (BelowA w2 (.cells #[] 5)) (Nat.le_refl _))
                have HJ1 := Lib.hid (HJ.out.h1.below HW2.out (Nat.le_refl _))
                have j0 := HJ.out.s
                have n0 := HJ.out.n0
                have n1 := HJ.out.n1
                obtain ⟨m2, hm2⟩ : ∃ m2, l0.length + l1.length = m2 := ⟨_, rfl⟩
                have HM2 := Lib.hid hm2
                clear hm2 hb2
                rcases hv2 with rfl | ⟨t2, x2, rfl⟩
                all_goals (
                  go_wp2_with (first
                  | (at_builtin; refine wpList_append_bs rfl (.tmp 79) (.tmp 80) rfl w2.heap.size w2.heap.size 0 0 [] rfl (own_empty w2) (some ⟨b, off, none⟩) cap0 l0 rfl HA0.out (by omega) (by simp) l0.length (by omega) ?_; intro g1 k1 u1 hown1 hgr1; have HOWN1 := Lib.hid hown1; have HGR1 := Lib.hid hgr1; have HU1 := Lib.hid (below_own (BelowA w2 (.cells #[] 5)) hgr1 (Nat.le_refl _)); have HG1 := Lib.hid (hown1.lt g1 rfl); clear hown1 hgr1)
                  | (at_builtin; go_must (refine wpList_append_bs rfl (.tmp 81) (.tmp 82) rfl w2.heap.size g1 l0.length k1 ([] ++ l0) rfl HOWN1.out a1 cap1 l1 rfl (HJ1.out.below HU1.out (Nat.le_refl _)) (by omega) HU1.out.size m2 HM2.out ?_); intro g2 k2 u2 hown2 hgr2; have HOWN2 := Lib.hid hown2; have HU2 := Lib.hid (below_own HU1.out hgr2 HG1.out.1); clear hown2 hgr2))
                  have hm2' : m2 = (l0 ++ l1).length := by rw [List.length_append]; exact HM2.out.symm
                  have hs2 := j0.kept HW2.out (Nat.le_refl _)
                  have CP3 := shape_Parse (some ⟨g2, 0, none⟩) k2 (l0 ++ l1) u2 (ownBs' HOWN2.out hm2') A (hs2.kept HU2.out (Nat.le_refl _))
                  rw [← hm2'] at CP3
                  refine CP3.mono ?_
                  rintro e w4 hpp
                  obtain ⟨F3, v3, rfl, _, hb4⟩ := hpp.any
                  have HB4 := Lib.hid (HW2.out.trans ((HU2.out.trans (hb4.mono HU2.out.size)).mono HW2.out.size))
                  have CA4 := Lib.hid (fill_awake w4 A (HS.out.kept HB4.out (Nat.le_refl _)))
                  clear hm2' hs2 CP3 hpp hb4
                  go_wp2_with (go_at_call 39; refine CA4.out.mono ?_; rintro e w' ⟨rfl, hb⟩; have HB := Lib.hid hb; clear hb)
                  go_ret
                  exact ⟨rfl, HB4.out.trans (HB.out.mono HB4.out.size)⟩)
              · have j1 := HJ.out
                refine (shape_Parse (some ⟨b, off, none⟩) cap0 l0 w j1.h0 A j1.s).mono ?_
                rintro e w1 hpp
                rw [hP] at hpp
                obtain ⟨F1, rfl, _, hb1⟩ := hpp.good
                have HB1 := Lib.hid hb1
                have CP2 := Lib.hid (shape_Parse a1 cap1 l1 w1 (j1.h1.below hb1 (Nat.le_refl _)) A (j1.s.kept hb1 (Nat.le_refl _)))
                clear j1 hb1
                go_wp2_with fail
                refine CP2.out.mono ?_
                rintro e w2 hpp
                obtain ⟨F2, t2, x2, rfl, hb2⟩ := hpp.bad hbad
                have HW2 := Lib.hid (HB1.out.trans (hb2.mono HB1.out.size))
                have HA0 := Lib.hid ((HJ.out.h0.below HW2.out (Nat.le_refl _)).below (BelowA w2 (.cells #[] 5)) (Nat.le_refl _))
                have HJ1 := Lib.hid (HJ.out.h1.below HW2.out (Nat.le_refl _))
                have j0 := HJ.out.s
                have n0 := HJ.out.n0
                have n1 := HJ.out.n1
                obtain ⟨m2, hm2⟩ : ∃ m2, l0.length + l1.length = m2 := ⟨_, rfl⟩
                have HM2 := Lib.hid hm2
                clear hm2 hb2
                go_wp2_with (first
                | (at_builtin; refine wpList_append_bs rfl (.tmp 79) (.tmp 80) rfl w2.heap.size w2.heap.size 0 0 [] rfl (own_empty w2) (some ⟨b, off, none⟩) cap0 l0 rfl HA0.out (by omega) (by simp) l0.length (by omega) ?_; intro g1 k1 u1 hown1 hgr1; have HOWN1 := Lib.hid hown1; have HGR1 := Lib.hid hgr1; have HU1 := Lib.hid (below_own (BelowA w2 (.cells #[] 5)) hgr1 (Nat.le_refl _)); have HG1 := Lib.hid (hown1.lt g1 rfl); clear hown1 hgr1)
                | (at_builtin; go_must (refine wpList_append_bs rfl (.tmp 81) (.tmp 82) rfl w2.heap.size g1 l0.length k1 ([] ++ l0) rfl HOWN1.out a1 cap1 l1 rfl (HJ1.out.below HU1.out (Nat.le_refl _)) (by omega) HU1.out.size m2 HM2.out ?_); intro g2 k2 u2 hown2 hgr2; have HOWN2 := Lib.hid hown2; have HU2 := Lib.hid (below_own HU1.out hgr2 HG1.out.1); clear hown2 hgr2))
                have hm2' : m2 = (l0 ++ l1).length := by rw [List.length_append]; exact HM2.out.symm
                have hs2 := j0.kept HW2.out (Nat.le_refl _)
                have CP3 := shape_Parse (some ⟨g2, 0, none⟩) k2 (l0 ++ l1) u2 (ownBs' HOWN2.out hm2') A (hs2.kept HU2.out (Nat.le_refl _))
                rw [← hm2'] at CP3
                refine CP3.mono ?_
                rintro e w4 hpp
                obtain ⟨F3, v3, rfl, _, hb4⟩ := hpp.any
                have HB4 := Lib.hid (HW2.out.trans ((HU2.out.trans (hb4.mono HU2.out.size)).mono HW2.out.size))
                have CA4 := Lib.hid (fill_awake w4 A (HS.out.kept HB4.out (Nat.le_refl _)))
                clear hm2' hs2 CP3 hpp hb4
                go_wp2_with (go_at_call 39; refine CA4.out.mono ?_; rintro e w' ⟨rfl, hb⟩; have HB := Lib.hid hb; clear hb)
                go_ret
                exact ⟨rfl, HB4.out.trans (HB.out.mono HB4.out.size)⟩
end Go.Proofs.YtkecmfjjekagiaaDoor
