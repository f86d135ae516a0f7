/- The walk of fault.Text; the tables that texts want; strconv.Itoa. Conditions as typed. -/
import Derived.Test.YtppcjmbblkbkdaaDoorBuild
import Derived.Test.YtppcjmbblkbkdaaDoorReg
import Derived.Test.YtppcjmbblkbkdaaDoorShelf
import Derived.Lib.SmallJoins
import Derived.Lib.AppendIntMem
import Derived.OpenShut
import Derived.Lib.ItoaLen
namespace Go.Proofs.YtppcjmbblkbkdaaDoor
open Go.RowKit Go.Sort

/-- The word number n, or a question mark. -/
def nth (l : List (List UInt8)) (n : Int) : ByteArray := if 0 ≤ n ∧ n < l.length then ⟨(l.getD n.toNat []).toArray⟩ else ⟨#[63]⟩

theorem fault_word (s : ByteArray) (hs : s.size < 4294967281) (hascii : ∀ (j : Nat) b, s.data.toList[j]? = some b → b.toNat < 128) (n : Int) (w : World) (htab : Lib.TabIs Tryd.prog w "strings.asciiSpace" .u8 Lib.asciiSpaceTab) :
    Calls Tryd.prog 18 #[.string s, .int .i64 n] w fun e w' => e = .returned (.string (nth (Lib.fields s.data.toList) n)) ∧ Below w.heap.size w w' := by
  have HF := Lib.hid (Tryd.strings_Fields s w hs hascii htab)
  clear hs hascii htab
  generalize hl : Lib.fields s.data.toList = l at *
  have bel := (Below.refl w.heap.size w).alloc (Nat.le_refl _) (.cells (l.map fun l => Value.string ⟨l.toArray⟩).toArray 9)
  have BEL := Lib.hid bel
  clear bel hl
  by_cases h0 : n < 0
  · have hd : decide (n < 0) = true := decide_eq_true h0
    have hn : nth l n = ⟨#[63]⟩ := by unfold nth; rw [if_neg (by omega)]
    rw [hn]
    clear hn h0
    go_enter Tryd.func18, Tryd.ntmps18
    go_wp2_with (go_at_call 35; refine HF.out.mono ?_; rintro e w' ⟨rfl, rfl⟩)
    go_ret
    exact ⟨rfl, BEL.out⟩
  have hd : decide (n < 0) = false := decide_eq_false h0
  by_cases h1 : (l.length : Int) ≤ n
  · have hd2 : decide ((l.length : Int) ≤ n) = true := decide_eq_true h1
    have hn : nth l n = ⟨#[63]⟩ := by unfold nth; rw [if_neg (by omega)]
    rw [hn]
    clear hn h0 h1
    go_enter Tryd.func18, Tryd.ntmps18
    go_wp2_with (go_at_call 35; refine HF.out.mono ?_; rintro e w' ⟨rfl, rfl⟩)
    go_ret
    exact ⟨rfl, BEL.out⟩
  obtain ⟨k, rfl⟩ := Int.eq_ofNat_of_zero_le (show 0 ≤ n by omega)
  have hk : k < l.length := by omega
  have hd2 : decide ((l.length : Int) ≤ k) = false := decide_eq_false h1
  have hn : nth l k = ⟨(l[k]).toArray⟩ := by unfold nth; rw [if_pos (by omega)]; simp [List.getD_eq_getElem?_getD, hk]
  rw [hn]
  have hc : (w.alloc (.cells (l.map fun l => Value.string ⟨l.toArray⟩).toArray 9)).cell? ⟨w.heap.size, k, none⟩ = some (.string ⟨(l[k]).toArray⟩) := by
    have hn := heap_alloc_new w (.cells (l.map fun l => Value.string ⟨l.toArray⟩).toArray 9)
    unfold World.cell?
    rw [hn]
    simp [hk]
  clear hn h0 h1
  go_enter Tryd.func18, Tryd.ntmps18
  go_wp2_with (go_at_call 35; refine HF.out.mono ?_; rintro e w' ⟨rfl, rfl⟩)
  go_ret
  exact ⟨rfl, BEL.out⟩

/-- The languages' names, the codes' names. -/
def langs : List (List UInt8) := [[112, 105, 100, 103, 105, 110], [97, 114, 105, 116, 104], [103, 108, 111, 98], [98, 114, 101], [101, 114, 101], [112, 114, 105, 110, 116, 102], [116, 101, 115, 116], [101, 120, 112, 114], [115, 101, 100], [102, 105, 110, 100], [115, 104], [107, 101, 114, 110]]
def codes : List (List UInt8) := [[110, 111, 110, 101], [97, 114, 103, 117, 109, 101, 110, 116], [108, 111, 110, 103], [115, 121, 110, 116, 97, 120], [100, 101, 101, 112], [109, 97, 110, 121], [110, 117, 109, 98, 101, 114], [114, 97, 110, 103, 101], [98, 114, 97, 99, 107, 101, 116], [103, 114, 111, 117, 112], [101, 115, 99, 97, 112, 101], [115, 116, 97, 116, 101, 115], [100, 105, 118, 105, 100, 101], [118, 97, 108, 117, 101], [111, 112, 101, 114, 97, 110, 100], [110, 97, 109, 101], [102, 105, 108, 101], [100, 105, 114], [101, 120, 105, 115, 116, 115], [102, 117, 108, 108], [108, 97, 98, 101, 108], [102, 117, 101, 108], [111, 116, 104, 101, 114]]
/-- A fault's text. -/
def txt (c p l : Int) : ByteArray := nth langs l ++ ⟨#[58]⟩ ++ ⟨(Lib.itoa p).toArray⟩ ++ ⟨#[58, 32]⟩ ++ nth codes c

theorem TabIs.kept {w w' : World} {n : String} {g : Nat} {k : IntKind} {zs : List Int} (hg : Tryd.prog.globalNamed n = some g) (h : Lib.TabIs Tryd.prog w n k zs) (hb : Below w.heap.size w w') : Lib.TabIs Tryd.prog w' n k zs :=
  Go.Joins.tab_stays hg h hb (Nat.le_refl _)
/-- The tables that texts want. -/
structure Tabs (w : World) : Prop where
  sp : Lib.TabIs Tryd.prog w "strings.asciiSpace" .u8 Lib.asciiSpaceTab
  pw : Lib.TabIs Tryd.prog w "internal/strconv.uint64pow10" .u64 Lib.pow10Tab
theorem Tabs.kept {w w' : World} (h : Tabs w) (hb : Below w.heap.size w w') : Tabs w' :=
  ⟨TabIs.kept (g := 11) (by kernel_rfl) h.sp hb, TabIs.kept (g := 24) (by kernel_rfl) h.pw hb⟩
theorem Tabs.regrown {w : World} (h : Tabs w) (p : Regrown) : Tabs (grow (redrawn w p.d) p.os) := h.kept (below_regrown w p.d p.os)

theorem ascii_of {s : ByteArray} (h : s.data.toList.all (fun b => decide (b.toNat < 128)) = true) : ∀ (j : Nat) b, s.data.toList[j]? = some b → b.toNat < 128 := fun j b hb => by
  simpa using List.all_eq_true.1 h b (List.mem_of_getElem? hb)
/-- These words are in this text. -/
def wordsIn (s : ByteArray) (L : List (List UInt8)) : Bool := decide (s.size < 4294967281) && s.data.toList.all (fun b => decide (b.toNat < 128)) && Lib.fields s.data.toList == L
theorem word_any (L : List (List UInt8)) (s : ByteArray) (h : wordsIn s L = true) (n : Int) (v : ByteArray) (hv : nth L n = v) (w : World) (ht : Tabs w) :
    Calls Tryd.prog 18 #[.string s, .int .i64 n] w fun e w' => e = .returned (.string v) ∧ Below w.heap.size w w' := by
  unfold wordsIn at h
  simp only [Bool.and_eq_true] at h
  obtain ⟨⟨h1, h2⟩, h3⟩ := h
  have := fault_word s (of_decide_eq_true h1) (ascii_of h2) n w ht.sp
  rwa [eq_of_beq h3, hv] at this
theorem word_langs (n : Int) (v : ByteArray) (hv : nth langs n = v) (w : World) (h : Tabs w) :
    Calls Tryd.prog 18 #[.string ⟨#[112, 105, 100, 103, 105, 110, 32, 97, 114, 105, 116, 104, 32, 103, 108, 111, 98, 32, 98, 114, 101, 32, 101, 114, 101, 32, 112, 114, 105, 110, 116, 102, 32, 116, 101, 115, 116, 32, 101, 120, 112, 114, 32, 115, 101, 100, 32, 102, 105, 110, 100, 32, 115, 104, 32, 107, 101, 114, 110]⟩, .int .i64 n] w fun e w' => e = .returned (.string v) ∧ Below w.heap.size w w' := word_any langs _ (by kernel_rfl) n v hv w h
theorem word_codes (n : Int) (v : ByteArray) (hv : nth codes n = v) (w : World) (h : Tabs w) :
    Calls Tryd.prog 18 #[.string ⟨#[110, 111, 110, 101, 32, 97, 114, 103, 117, 109, 101, 110, 116, 32, 108, 111, 110, 103, 32, 115, 121, 110, 116, 97, 120, 32, 100, 101, 101, 112, 32, 109, 97, 110, 121, 32, 110, 117, 109, 98, 101, 114, 32, 114, 97, 110, 103, 101, 32, 98, 114, 97, 99, 107, 101, 116, 32, 103, 114, 111, 117, 112, 32, 101, 115, 99, 97, 112, 101, 32, 115, 116, 97, 116, 101, 115, 32, 100, 105, 118, 105, 100, 101, 32, 118, 97, 108, 117, 101, 32, 111, 112, 101, 114, 97, 110, 100, 32, 110, 97, 109, 101, 32, 102, 105, 108, 101, 32, 100, 105, 114, 32, 101, 120, 105, 115, 116, 115, 32, 102, 117, 108, 108, 32, 108, 97, 98, 101, 108, 32, 102, 117, 101, 108, 32, 111, 116, 104, 101, 114]⟩, .int .i64 n] w fun e w' => e = .returned (.string v) ∧ Below w.heap.size w w' := word_any codes _ (by kernel_rfl) n v hv w h
theorem itoa_call (n : Int) (hn : (Lit.int .i64 n).wf = true) (w : World) (h : Tabs w) :
    Calls Tryd.prog 19 #[.int .i64 n] w fun e w' => e = .returned (.string ⟨(Lib.itoa n).toArray⟩) ∧ Below w.heap.size w w' := by
  obtain ⟨h0, h1⟩ := bounds_i64 hn
  refine (Tryd.strconv_Itoa n h0 h1 w h.pw).mono ?_
  rintro e w' ⟨he, k, os, rfl⟩
  exact ⟨he, Lib.below_grow _ _ (Nat.le_refl _) k os⟩

theorem nth_size (l : List (List UInt8)) (h : (l.all fun x => decide (x.length ≤ 20)) = true) (n : Int) : (nth l n).size ≤ 20 := by
  unfold nth
  split
  · next hn =>
    have hk : n.toNat < l.length := by omega
    have := List.all_eq_true.1 h _ (List.getElem_mem hk)
    rw [List.getD_eq_getElem?_getD, List.getElem?_eq_getElem hk]
    show (l[n.toNat]).toArray.size ≤ 20
    simpa using this
  · decide
theorem itoa_size (p : Int) (hp : (Lit.int .i64 p).wf = true) : (ByteArray.mk (Lib.itoa p).toArray).size ≤ 21 := by
  obtain ⟨h0, h1⟩ := bounds_i64 hp
  have := Lib.itoa_length_le p h0 h1
  show (Lib.itoa p).toArray.size ≤ 21
  simpa using this
/-- What the sums of lengths are. -/
theorem sums (a b c : ByteArray) (ha : a.size ≤ 20) (hb : b.size ≤ 21) (hc : c.size ≤ 20) :
    ¬ 9223372036854775807 < a.size + 1 ∧ ¬ 9223372036854775807 < a.size + 1 + b.size ∧ ¬ 9223372036854775807 < a.size + 1 + b.size + 2 ∧ ¬ 9223372036854775807 < a.size + 1 + b.size + 2 + c.size := by omega

set_option maxRecDepth 20000 in
/-- fault.Text: the text. -/
theorem fault_Text (c p l : Int) (hp : (Lit.int .i64 p).wf = true) (w : World) (h : Tabs w) :
    Calls Tryd.prog 5 #[fv c p l] w fun e w' => e = .returned (.string (txt c p l)) ∧ Below w.heap.size w w' := by
  have b1 := (Below.refl w.heap.size w).alloc (Nat.le_refl _) (.cells #[.int .i64 c, .int .i64 p, .int .i64 l] 23)
  have h1 := h.kept b1
  have hc := heap_alloc_new w (.cells #[.int .i64 c, .int .i64 p, .int .i64 l] 23)
  have HP := Lib.hid hp
  have H1 := Lib.hid h1
  have B1 := Lib.hid b1
  have HC := Lib.hid hc
  clear h b1 h1 hc hp
  simp only [fv]
  go_enter Tryd.func5, Tryd.ntmps5
  go_wp2_with fail
  generalize w.alloc (.cells #[.int .i64 c, .int .i64 p, .int .i64 l] 23) = W at *
  generalize hN : w.heap.size = N at *
  obtain ⟨q0, q1, q2, _, _, _⟩ := cells3 HC.out
  have k0 := fun (p : Regrown) => cell_regrown q0 p.d p.os
  have k1 := fun (p : Regrown) => cell_regrown q1 p.d p.os
  have k2 := fun (p : Regrown) => cell_regrown q2 p.d p.os
  have CI := Lib.hid fun q : Regrown => Calls.regrown_of (itoa_call p HP.out _ (H1.out.regrown q))
  clear HC q0 q1 q2
  have hT : nth langs l ++ ⟨#[58]⟩ ++ ⟨(Lib.itoa p).toArray⟩ ++ ⟨#[58, 32]⟩ ++ nth codes c = txt c p l := rfl
  have za := nth_size langs (by decide) l
  have zb := itoa_size p HP.out
  have zc := nth_size codes (by decide) c
  generalize hsa : nth langs l = sa at *
  generalize hsc : nth codes c = sc at *
  generalize (ByteArray.mk (Lib.itoa p).toArray) = sb at *
  obtain ⟨z1, z2, z3, z4⟩ := sums sa sb sc za zb zc
  have HT := Lib.hid hT
  have HSA := Lib.hid hsa
  have HSC := Lib.hid hsc
  have CL := Lib.hid fun p : Regrown => Calls.regrown_of (word_langs l sa hsa _ (H1.out.regrown p))
  have CC := Lib.hid fun p : Regrown => Calls.regrown_of (word_codes c sc hsc _ (H1.out.regrown p))
  clear za zb zc hT hsa hsc
  refine wp_region_quiet_below (by kernel_rfl) (by kernel_rfl) ?_
  repeat (go_big_quiet_step (first | (go_at_call 18; first | (with_reducible exact CL.out _) | (with_reducible exact CC.out _)) | (go_at_call 19; exact CI.out _)))
  refine wpQuiet_nil ?_
  intro _ hw'
  obtain ⟨⟨dq, osq⟩, hw''⟩ := hw'
  subst hw''
  go_wp2
  go_ret
  exact ⟨congrArg (fun x => Ending.returned (Value.string x)) HT.out, B1.out.trans ((below_regrown W dq osq).mono (hN ▸ B1.out.size))⟩

theorem row_cell {W : World} {b : Nat} {t : TypeId} (L : List (List UInt8)) (hb : W.heap[b]? = some (.cells (L.map fun x => Value.string ⟨x.toArray⟩).toArray t (0, 0))) (k : Nat) (hk : k < L.length) : W.cell? ⟨b, k, none⟩ = some (.string (nth L k)) := by
  unfold World.cell?
  rw [hb]
  have : nth L k = ⟨(L[k]).toArray⟩ := by unfold nth; rw [if_pos (by omega)]; simp [List.getD_eq_getElem?_getD, hk]
  rw [this]
  simp [hk]
theorem nth_no (L : List (List UInt8)) (n : Int) (h : n < 0 ∨ (L.length : Int) ≤ n) : nth L n = ⟨#[63]⟩ := by unfold nth; rw [if_neg (by omega)]
/-- The two tables as Go lays them. -/
def langsO : Array Value := #[.string ⟨#[112, 105, 100, 103, 105, 110]⟩, .string ⟨#[97, 114, 105, 116, 104]⟩, .string ⟨#[103, 108, 111, 98]⟩, .string ⟨#[98, 114, 101]⟩, .string ⟨#[101, 114, 101]⟩, .string ⟨#[112, 114, 105, 110, 116, 102]⟩, .string ⟨#[116, 101, 115, 116]⟩, .string ⟨#[101, 120, 112, 114]⟩, .string ⟨#[115, 101, 100]⟩, .string ⟨#[102, 105, 110, 100]⟩, .string ⟨#[115, 104]⟩, .string ⟨#[107, 101, 114, 110]⟩]
def codesO : Array Value := #[.string ⟨#[110, 111, 110, 101]⟩, .string ⟨#[97, 114, 103, 117, 109, 101, 110, 116]⟩, .string ⟨#[108, 111, 110, 103]⟩, .string ⟨#[115, 121, 110, 116, 97, 120]⟩, .string ⟨#[100, 101, 101, 112]⟩, .string ⟨#[109, 97, 110, 121]⟩, .string ⟨#[110, 117, 109, 98, 101, 114]⟩, .string ⟨#[114, 97, 110, 103, 101]⟩, .string ⟨#[98, 114, 97, 99, 107, 101, 116]⟩, .string ⟨#[103, 114, 111, 117, 112]⟩, .string ⟨#[101, 115, 99, 97, 112, 101]⟩, .string ⟨#[115, 116, 97, 116, 101, 115]⟩, .string ⟨#[100, 105, 118, 105, 100, 101]⟩, .string ⟨#[118, 97, 108, 117, 101]⟩, .string ⟨#[111, 112, 101, 114, 97, 110, 100]⟩, .string ⟨#[110, 97, 109, 101]⟩, .string ⟨#[102, 105, 108, 101]⟩, .string ⟨#[100, 105, 114]⟩, .string ⟨#[101, 120, 105, 115, 116, 115]⟩, .string ⟨#[102, 117, 108, 108]⟩, .string ⟨#[108, 97, 98, 101, 108]⟩, .string ⟨#[102, 117, 101, 108]⟩, .string ⟨#[111, 116, 104, 101, 114]⟩]

end Go.Proofs.YtppcjmbblkbkdaaDoor
