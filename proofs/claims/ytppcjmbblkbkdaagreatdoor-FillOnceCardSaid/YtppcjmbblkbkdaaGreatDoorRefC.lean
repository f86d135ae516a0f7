/- Towards the walk of pidginref14.once: what it holds. Conditions as typed. -/
import Derived.Test.YtppcjmbblkbkdaaGreatDoorRefB
import Derived.Test.YtppcjmbblkbkdaaGreatDoorRunP
import Derived.Deep.CutRange
import Derived.Deep.AppendSrc
import Derived.Test.YtppcjmbblkbkdaaGreatDoorPrintf
import Derived.Test.YtppcjmbblkbkdaaGreatDoorRefD
import Derived.Test.YtppcjmbblkbkdaaGreatDoorAppW
namespace Go.Proofs.YtppcjmbblkbkdaaGreatDoor
open Go.RowKit Pg

/-- What one part leaves: its bytes put, then the parts behind it. -/
def afterOne (R : List Part) (O : List (List UInt8)) (r : Out) (s : List UInt8) (st : Bool) (t : Nat) : Out × Nat × Bool :=
  if (put r s).2 = false then ((put r s).1, t, false) else if st = true then ({ (put r s).1 with stop := true }, t, false) else once R O (put r s).1 t
theorem after_lit {p : Part} {L : List Part} {O : List (List UInt8)} {r : Out} {t : Nat} (h : p.conv = 0) : once (p :: L) O r t = afterOne L O r p.lit false t := by
  rw [once_lit h]
  unfold afterOne
  cases (put r p.lit).2 <;> simp
theorem after_field {p : Part} {L : List Part} {O : List (List UInt8)} {r : Out} {t : Nat} (h : p.conv ≠ 0) :
    once (p :: L) O r t = afterOne L O (if (one p (O.getD t [])).2.2 = 0 then r else { r with codes := r.codes ++ [(one p (O.getD t [])).2.2] }) (one p (O.getD t [])).1 (one p (O.getD t [])).2.1 (if t < O.length then t + 1 else t) := by
  rw [once, if_neg h]
  rfl
/-- The loop's state at part k. -/
structure OnceR (w : World) (L : List Part) (O : List (List UInt8)) (pre : Out) (k t : Nat) (o : List UInt8) (c : List Nat) (vo vc : Value) (wr : World) : Prop where
  blk : Blk wr (w.heap.size + 1) 28 #[vo, vc, .bool false]
  b6 : Blk wr w.heap.size 28 #[.slice none 0 0, .slice none 0 0, .bool false]
  ro : wr.ownsRow (w.heap.size + 2) 5 1 vo o.length (u8s o)
  rc : wr.ownsRow (w.heap.size + 2) 3 1 vc c.length (i64s c)
  bel : Below w.heap.size w wr
  sz : w.heap.size + 2 ≤ wr.heap.size
  full : pre.out.length + o.length ≤ 65536
  cl : c.length ≤ k
  eq : once (L.drop k) O ⟨pre.out ++ o, pre.codes ++ c, false⟩ t = once L O pre 0
  tk : t ≤ O.length
  n19 : ∀ x ∈ c, x ≠ 19
/-- The state ahead of the put. -/
structure OnceM (w : World) (L : List Part) (O : List (List UInt8)) (pre : Out) (k t : Nat) (o : List UInt8) (c : List Nat) (vo vc : Value) (S : ByteArray) (st : Bool) (wr : World) : Prop where
  blk : Blk wr (w.heap.size + 1) 28 #[vo, vc, .bool false]
  b6 : Blk wr w.heap.size 28 #[.slice none 0 0, .slice none 0 0, .bool false]
  ro : wr.ownsRow (w.heap.size + 2) 5 1 vo o.length (u8s o)
  rc : wr.ownsRow (w.heap.size + 2) 3 1 vc c.length (i64s c)
  bel : Below w.heap.size w wr
  sz : w.heap.size + 2 ≤ wr.heap.size
  full : pre.out.length + o.length ≤ 65536
  cl : c.length ≤ k + 1
  eq : once L O pre 0 = afterOne (L.drop (k + 1)) O ⟨pre.out ++ o, pre.codes ++ c, false⟩ (bl S) st t
  tk : t ≤ O.length
  ss : S.size ≤ 140737488551232
  n19 : ∀ x ∈ c, x ≠ 19
/-- The state in a world in which more is made. -/
theorem OnceM.below {w : World} {L : List Part} {O : List (List UInt8)} {pre : Out} {k t : Nat} {o : List UInt8} {c : List Nat} {vo vc : Value} {S : ByteArray} {st : Bool} {wr w' : World} (h : OnceM w L O pre k t o c vo vc S st wr) (hb : Below wr.heap.size wr w') : OnceM w L O pre k t o c vo vc S st w' :=
  ⟨h.blk.below hb h.blk.lt, h.b6.below hb h.b6.lt, ownsRow_below h.ro hb (Nat.le_refl _), ownsRow_below h.rc hb (Nat.le_refl _), h.bel.trans (hb.mono h.bel.size), Nat.le_trans h.sz hb.size, h.full, h.cl, h.eq, h.tk, h.ss, h.n19⟩
theorem OnceR.below {w : World} {L : List Part} {O : List (List UInt8)} {pre : Out} {k t : Nat} {o : List UInt8} {c : List Nat} {vo vc : Value} {wr w' : World} (h : OnceR w L O pre k t o c vo vc wr) (hb : Below wr.heap.size wr w') : OnceR w L O pre k t o c vo vc w' :=
  ⟨h.blk.below hb h.blk.lt, h.b6.below hb h.b6.lt, ownsRow_below h.ro hb (Nat.le_refl _), ownsRow_below h.rc hb (Nat.le_refl _), h.bel.trans (hb.mono h.bel.size), Nat.le_trans h.sz hb.size, h.full, h.cl, h.eq, h.tk, h.n19⟩
/-- A literal. -/
theorem OnceR.lit {w : World} {L : List Part} {O : List (List UInt8)} {pre : Out} {k t : Nat} {o : List UInt8} {c : List Nat} {vo vc : Value} {wr : World} (h : OnceR w L O pre k t o c vo vc wr) (hk : k < L.length) (h0 : L[k].conv = 0) (S : ByteArray) (hS : bl S = L[k].lit) (hs : S.size ≤ 140737488551232) : OnceM w L O pre k t o c vo vc S false wr :=
  ⟨h.blk, h.b6, h.ro, h.rc, h.bel, h.sz, h.full, by have := h.cl; omega, by rw [← h.eq, List.drop_eq_getElem_cons hk, after_lit h0, hS], h.tk, hs, h.n19⟩
/-- A conversion without a code. -/
theorem OnceR.conv0 {w : World} {L : List Part} {O : List (List UInt8)} {pre : Out} {k t t' : Nat} {o : List UInt8} {c : List Nat} {vo vc : Value} {wr : World} (h : OnceR w L O pre k t o c vo vc wr) (hk : k < L.length) (h0 : L[k].conv ≠ 0) (s : List UInt8) (hs : O.getD t [] = s) (ht : t' = if t < O.length then t + 1 else t)
    (S : ByteArray) (st : Bool) (hS : bl S = (one L[k] s).1) (hst : st = (one L[k] s).2.1) (hc : (one L[k] s).2.2 = 0) (hsz : S.size ≤ 140737488551232) : OnceM w L O pre k t' o c vo vc S st wr :=
  ⟨h.blk, h.b6, h.ro, h.rc, h.bel, h.sz, h.full, by have := h.cl; omega, by rw [← h.eq, List.drop_eq_getElem_cons hk, after_field h0, hs, if_pos hc, hS, hst, ht], by have := h.tk; rw [ht]; split <;> omega, hsz, h.n19⟩
/-- A conversion with a code: the codes' row, grown, is set. -/
theorem OnceR.conv1 {w : World} {L : List Part} {O : List (List UInt8)} {pre : Out} {k t t' : Nat} {o : List UInt8} {c : List Nat} {vo vc vc' : Value} {wr w1 : World} {X : Obj} (h : OnceR w L O pre k t o c vo vc wr) (hk : k < L.length) (h0 : L[k].conv ≠ 0) (s : List UInt8) (hs : O.getD t [] = s) (ht : t' = if t < O.length then t + 1 else t)
    (S : ByteArray) (st : Bool) (hS : bl S = (one L[k] s).1) (hst : st = (one L[k] s).2.1) (x : Nat) (hx : (one L[k] s).2.2 = x) (hc : x ≠ 0) (hx19 : x ≠ 19) (hsz : S.size ≤ 140737488551232)
    (hown : w1.ownsRow (w.heap.size + 2) 3 1 vc' (c ++ [x]).length (i64s (c ++ [x]))) (hg : (wr.alloc X).grownBy w1 vc.ownBlock) : OnceM w L O pre k t' o (c ++ [x]) vo vc' S st (w1.setCell ⟨w.heap.size + 1, 1, none⟩ vc') := by
  have hr := h.rc.lt
  have hsz1 := hg.size
  rw [World.size_alloc] at hsz1
  have hs2 := h.sz
  have hv : vc.ownBlock ≠ some (w.heap.size + 1) := own_blk_ne h.rc h.blk (by decide)
  have hv6 : vc.ownBlock ≠ some w.heap.size := own_blk_ne h.rc h.b6 (by decide)
  have b1 : Blk w1 (w.heap.size + 1) 28 _ := (h.blk.alloc X).grown hg (Ne.symm hv)
  have b6 : Blk w1 w.heap.size 28 _ := (h.b6.alloc X).grown hg (Ne.symm hv6)
  have ro1 := ownsRow_keptNe (h.ro.alloc X) (h.rc.alloc X) hg (by decide)
  refine ⟨by simpa using b1.set_ 1 vc', b6.far (p := ⟨w.heap.size + 1, 1, none⟩) (by show w.heap.size ≠ w.heap.size + 1; omega) _, ownsRow_setNe ro1 (a := ⟨w.heap.size + 1, 1, none⟩) b1 (by decide) _, ownsRow_setNe hown (a := ⟨w.heap.size + 1, 1, none⟩) b1 (by decide) _, ?_, by rw [size_setCell]; omega, h.full, by have := h.cl; simp; omega, ?_, by have := h.tk; rw [ht]; split <;> omega, hsz, ?_⟩
  · refine ((h.bel.alloc h.bel.size X).grown hg (by rw [World.size_alloc]; have := h.bel.size; omega) (fun j hj => by have := (hr j hj).1; omega)).setCell (by show w.heap.size ≤ w.heap.size + 1; omega) _
  · rw [← h.eq, List.drop_eq_getElem_cons hk, after_field h0, hs, if_neg (by rw [hx]; exact hc), hS, hst, ht, hx, List.append_assoc]
  · intro y hy
    rcases List.mem_append.1 hy with hy | hy
    · exact h.n19 y hy
    · rw [List.mem_singleton.1 hy]; exact hx19
/-- No conversion's code is that of a full output. -/
theorem one_code (p : Part) (s : List UInt8) : (one p s).2.2 ≠ 19 := by
  have hn : (num s).2 ≠ 19 := by
    unfold num
    repeat' split
    all_goals (simp only []; decide)
  unfold one
  repeat' split
  all_goals first | exact hn | (simp only []; decide)
/-- The state behind the put: the bytes' row, grown, is set. -/
structure OnceP (w : World) (L : List Part) (O : List (List UInt8)) (pre : Out) (k t : Nat) (o : List UInt8) (c : List Nat) (vo vc : Value) (S : ByteArray) (st : Bool) (wr : World) : Prop where
  blk : Blk wr (w.heap.size + 1) 28 #[vo, vc, .bool false]
  b6 : Blk wr w.heap.size 28 #[.slice none 0 0, .slice none 0 0, .bool false]
  ro : wr.ownsRow (w.heap.size + 2) 5 1 vo (o ++ bl S).length (u8s (o ++ bl S))
  rc : wr.ownsRow (w.heap.size + 2) 3 1 vc c.length (i64s c)
  bel : Below w.heap.size w wr
  sz : w.heap.size + 2 ≤ wr.heap.size
  full : pre.out.length + o.length ≤ 65536
  cl : c.length ≤ k + 1
  eq : once L O pre 0 = afterOne (L.drop (k + 1)) O ⟨pre.out ++ o, pre.codes ++ c, false⟩ (bl S) st t
  tk : t ≤ O.length
  ss : S.size ≤ 140737488551232
  n19 : ∀ x ∈ c, x ≠ 19
theorem OnceM.put {w : World} {L : List Part} {O : List (List UInt8)} {pre : Out} {k t : Nat} {o : List UInt8} {c : List Nat} {vo vc vo' : Value} {S : ByteArray} {st : Bool} {wr w1 : World} (h : OnceM w L O pre k t o c vo vc S st wr)
    (hown : w1.ownsRow (w.heap.size + 2) 5 1 vo' (o.length + S.size) (u8s o ++ Lib.strCells S)) (hg : wr.grownBy w1 vo.ownBlock) : OnceP w L O pre k t o c vo' vc S st (w1.setCell ⟨w.heap.size + 1, 0, none⟩ vo') := by
  have hr := h.ro.lt
  have hs2 := h.sz
  have hv : vo.ownBlock ≠ some (w.heap.size + 1) := own_blk_ne h.ro h.blk (by decide)
  have hv6 : vo.ownBlock ≠ some w.heap.size := own_blk_ne h.ro h.b6 (by decide)
  have b1 : Blk w1 (w.heap.size + 1) 28 _ := h.blk.grown hg (Ne.symm hv)
  have b6 : Blk w1 w.heap.size 28 _ := h.b6.grown hg (Ne.symm hv6)
  have rc1 := ownsRow_keptNe h.rc h.ro hg (by decide)
  rw [strCells_bl, ← u8s_append, ← bl_length, ← List.length_append] at hown
  refine ⟨by simpa using b1.set_ 0 vo', b6.far (p := ⟨w.heap.size + 1, 0, none⟩) (by show w.heap.size ≠ w.heap.size + 1; omega) _, ownsRow_setNe hown (a := ⟨w.heap.size + 1, 0, none⟩) b1 (by decide) _, ownsRow_setNe rc1 (a := ⟨w.heap.size + 1, 0, none⟩) b1 (by decide) _, ?_, by rw [size_setCell]; exact Nat.le_trans hs2 hg.size, h.full, h.cl, h.eq, h.tk, h.ss, h.n19⟩
  exact (h.bel.grown hg h.bel.size (fun j hj => by have := (hr j hj).1; omega)).setCell (by show w.heap.size ≤ w.heap.size + 1; omega) _
/-- It is not full, and goes on. -/
theorem OnceP.next {w : World} {L : List Part} {O : List (List UInt8)} {pre : Out} {k t : Nat} {o : List UInt8} {c : List Nat} {vo vc : Value} {S : ByteArray} {wr : World} (h : OnceP w L O pre k t o c vo vc S false wr) (hf : ¬ 65536 < pre.out.length + (o ++ bl S).length) : OnceR w L O pre (k + 1) t (o ++ bl S) c vo vc wr := by
  refine ⟨h.blk, h.b6, h.ro, h.rc, h.bel, h.sz, by omega, h.cl, ?_, h.tk, h.n19⟩
  rw [h.eq]
  unfold afterOne put room
  rw [List.length_append] at hf
  have hle : (pre.out ++ o).length + (bl S).length ≤ 65536 := by rw [List.length_append]; omega
  simp only [if_pos hle]
  simp
/-- It is not full, and stops. -/
theorem OnceP.stop {w : World} {L : List Part} {O : List (List UInt8)} {pre : Out} {k t : Nat} {o : List UInt8} {c : List Nat} {vo vc : Value} {S : ByteArray} {wr : World} (h : OnceP w L O pre k t o c vo vc S true wr) (hf : ¬ 65536 < pre.out.length + (o ++ bl S).length) : once L O pre 0 = (⟨pre.out ++ (o ++ bl S), pre.codes ++ c, true⟩, t, false) := by
  rw [h.eq]
  unfold afterOne put room
  rw [List.length_append] at hf
  have hle : (pre.out ++ o).length + (bl S).length ≤ 65536 := by rw [List.length_append]; omega
  simp only [if_pos hle]
  simp
/-- It is full. -/
theorem OnceP.isFull {w : World} {L : List Part} {O : List (List UInt8)} {pre : Out} {k t : Nat} {o : List UInt8} {c : List Nat} {vo vc : Value} {S : ByteArray} {st : Bool} {wr : World} (h : OnceP w L O pre k t o c vo vc S st wr) (hf : 65536 < pre.out.length + (o ++ bl S).length) : once L O pre 0 = (⟨pre.out ++ (o ++ bl S).take (65536 - pre.out.length), pre.codes ++ (c ++ [19]), false⟩, t, false) := by
  rw [h.eq]
  unfold afterOne put room
  rw [List.length_append] at hf
  have hle : ¬ (pre.out ++ o).length + (bl S).length ≤ 65536 := by rw [List.length_append]; omega
  have hfl := h.full
  simp only [if_neg hle]
  have e1 : (o ++ bl S).take (65536 - pre.out.length) = o ++ (bl S).take (65536 - (pre.out ++ o).length) := by
    rw [List.take_append, List.take_of_length_le (by omega), List.length_append]
    congr 2
    omega
  rw [e1]
  simp
/-- What pidginref14.once tells. -/
def ROncePost (w : World) (L : List Part) (O : List (List UInt8)) (pre : Out) (e : Ending) (w' : World) : Prop :=
  ∃ (o : List UInt8) (c : List Nat) (stop : Bool) (t : Nat) (go : Bool) (vo vc : Value), e = .returned (.tuple #[.agg #[vo, vc, .bool stop], .int .i64 t]) ∧ Below w.heap.size w w' ∧ w'.ownsRow w.heap.size 5 1 vo o.length (u8s o) ∧ w'.ownsRow w.heap.size 3 1 vc c.length (i64s c) ∧
    once L O pre 0 = (⟨pre.out ++ o, pre.codes ++ c, stop⟩, t, go) ∧ t ≤ O.length ∧ c.length ≤ L.length + 1 ∧ (go = false ↔ stop = true ∨ 19 ∈ c)
end Go.Proofs.YtppcjmbblkbkdaaGreatDoor

/- The walk of pidginref14.once. Conditions as typed. -/
namespace Go.Proofs.YtppcjmbblkbkdaaGreatDoor
open Go.RowKit Pg

theorem filled_le (p : Part) (a b : List UInt8) (nz : Bool) : (filled p a b nz).length ≤ p.width + a.length + b.length := by
  unfold filled
  repeat' split
  all_goals (simp only [List.length_append, List.length_replicate]; omega)
theorem one_le (p : Part) (s : List UInt8) (hw : p.width ≤ 5000) (hpr : p.prec < 5000) (hs : s.length ≤ 140737488351232) : (one p s).1.length ≤ 140737488551232 := by
  unfold one
  split
  · have := filled_le p [] (s.take 1) false
    have h2 := List.length_take_le 1 s
    simp only [List.length_nil] at *; omega
  · split
    · have := filled_le p [] (cut p s) false
      have h2 := cut_len p s
      simp only [List.length_nil] at *; omega
    · split
      · have := filled_le p [] (cut p (unesc s).1) false
        have h2 := cut_len p (unesc s).1
        have h3 := unesc_len s
        simp only [List.length_nil] at *; omega
      · have h1 := filled_le p (Pg.ahead p (num s).1) (body2 p (num s).1) (p.fl.zero && decide (p.prec < 0))
        have h2 := ahead_len p (num s).1
        have h3 : (body0 p (num s).1).length ≤ 64 := by
          unfold body0
          split
          · simp
          · exact (digs_len _ _ _).2
        have h4 : (body1 p (num s).1).length ≤ 5064 := by
          unfold body1
          rw [List.length_append, List.length_replicate]
          split <;> omega
        have h5 : (body2 p (num s).1).length ≤ 5065 := by
          unfold body2
          split
          · rw [List.length_cons]; omega
          · omega
        show (integer p (num s).1).length ≤ _
        unfold integer
        omega

theorem set3F {W : World} {g : Nat} {t : TypeId} {a0 a1 a2 : Value} (h : Blk W g t #[a0, a1, a2]) (x y z : Value) : Blk (((W.setCell ⟨g, 0, none⟩ x).setCell ⟨g, 1, none⟩ y).setCell ⟨g, 2, none⟩ z) g t #[x, y, z] := by
  have := ((h.set_ 0 x).set_ 1 y).set_ 2 z
  simpa using this
/-- The answer is laid into its block. -/
theorem once_end {w wx : World} {L : List Part} {O : List (List UInt8)} {pre : Out} {o : List UInt8} {c : List Nat} {vo vc : Value} {stop go : Bool} {t : Nat} {cs : Array Value} (b6 : Blk wx w.heap.size 28 cs) (ro : wx.ownsRow (w.heap.size + 2) 5 1 vo o.length (u8s o)) (rc : wx.ownsRow (w.heap.size + 2) 3 1 vc c.length (i64s c))
    (bel : Below w.heap.size w wx) (eq : once L O pre 0 = (⟨pre.out ++ o, pre.codes ++ c, stop⟩, t, go)) (ht : t ≤ O.length) (hc : c.length ≤ L.length + 1) (hgo : go = false ↔ stop = true ∨ 19 ∈ c) :
    ROncePost w L O pre (.returned (.tuple #[.agg #[vo, vc, .bool stop], .int .i64 t])) (((wx.setCell ⟨w.heap.size, 0, none⟩ vo).setCell ⟨w.heap.size, 1, none⟩ vc).setCell ⟨w.heap.size, 2, none⟩ (.bool stop)) := by
  have b1 := b6.set_ 0 vo
  have b2 := b1.set_ 1 vc
  have r1 := ownsRow_setNe (ownsRow_setNe (ownsRow_setNe ro (a := ⟨w.heap.size, 0, none⟩) b6 (by decide) vo) (a := ⟨w.heap.size, 1, none⟩) b1 (by decide) vc) (a := ⟨w.heap.size, 2, none⟩) b2 (by decide) (.bool stop)
  have r2 := ownsRow_setNe (ownsRow_setNe (ownsRow_setNe rc (a := ⟨w.heap.size, 0, none⟩) b6 (by decide) vo) (a := ⟨w.heap.size, 1, none⟩) b1 (by decide) vc) (a := ⟨w.heap.size, 2, none⟩) b2 (by decide) (.bool stop)
  exact ⟨o, c, stop, t, go, vo, vc, rfl, ((bel.setCell (p := ⟨w.heap.size, 0, none⟩) (Nat.le_refl _) _).setCell (p := ⟨w.heap.size, 1, none⟩) (Nat.le_refl _) _).setCell (p := ⟨w.heap.size, 2, none⟩) (Nat.le_refl _) _, ownsRow_base r1 (by omega), ownsRow_base r2 (by omega), eq, ht, hc, hgo⟩
theorem go_on {c : List Nat} (h : ∀ x ∈ c, x ≠ 19) : true = false ↔ (false = true ∨ 19 ∈ c) := by
  constructor
  · intro h2
    cases h2
  · rintro (h2 | h2)
    · cases h2
    · exact absurd rfl (h 19 h2)
theorem go_stop {c : List Nat} : false = false ↔ (true = true ∨ 19 ∈ c) := ⟨fun _ => .inl rfl, fun _ => rfl⟩
theorem go_full {c : List Nat} : false = false ↔ (false = true ∨ 19 ∈ c ++ [19]) := ⟨fun _ => .inr (by simp), fun _ => rfl⟩
theorem OnceR.fin {w wr : World} {L : List Part} {O : List (List UInt8)} {pre : Out} {k t : Nat} {o : List UInt8} {c : List Nat} {vo vc : Value} (h : OnceR w L O pre k t o c vo vc wr) (hk : L.length ≤ k) : once L O pre 0 = (⟨pre.out ++ o, pre.codes ++ c, false⟩, t, true) := by
  rw [← h.eq, List.drop_eq_nil_of_le hk]; rfl

/-- A row, cut short. -/
theorem ownsRow_takeTo {w : World} {B e n k cap : Nat} {a : Option Addr} {xs : List Value} (h : w.ownsRow B e 1 (.slice a n cap) n xs) (hk : k ≤ n) : w.ownsRow B e 1 (.slice a k cap) k (xs.take k) := by
  refine ⟨by rw [List.length_take, h.1]; omega, ?_⟩
  rcases h.2 with ⟨h1, h2⟩ | ⟨g, cap', cur, h1, h2, h3, h4, h5, h6, h7⟩
  · injection h1 with h1 _ h3
    subst h1 h3 h2
    obtain rfl : k = 0 := by omega
    exact .inl ⟨rfl, rfl⟩
  · injection h1 with h1 _ h8
    subst h1 h8
    refine .inr ⟨g, cap, cur, rfl, h2, h3, by omega, h5, h6, ?_⟩
    rw [← h7, List.take_take]
    congr 1
    omega
/-- It is full: the bytes are cut short. -/
structure OnceF (w : World) (o : List UInt8) (c : List Nat) (vo vc : Value) (wr : World) : Prop where
  blk : Blk wr (w.heap.size + 1) 28 #[vo, vc, .bool false]
  b6 : Blk wr w.heap.size 28 #[.slice none 0 0, .slice none 0 0, .bool false]
  ro : wr.ownsRow (w.heap.size + 2) 5 1 vo o.length (u8s o)
  rc : wr.ownsRow (w.heap.size + 2) 3 1 vc c.length (i64s c)
  bel : Below w.heap.size w wr
  sz : w.heap.size + 2 ≤ wr.heap.size
theorem OnceP.cutF {w : World} {L : List Part} {O : List (List UInt8)} {pre : Out} {k t : Nat} {o : List UInt8} {c : List Nat} {oa : Option Addr} {n oc : Nat} {vc : Value} {S : ByteArray} {st : Bool} {wr : World} (h : OnceP w L O pre k t o c (.slice oa n oc) vc S st wr) (hn : (o ++ bl S).length = n) (kk : Nat) (hk : kk ≤ n) :
    OnceF w ((o ++ bl S).take kk) c (.slice oa kk oc) vc (wr.setCell ⟨w.heap.size + 1, 0, none⟩ (.slice oa kk oc)) := by
  have hs := h.sz
  have h1 := h.ro
  rw [hn] at h1
  have h2 := ownsRow_takeTo h1 hk
  have h3 : u8s ((o ++ bl S).take kk) = (u8s (o ++ bl S)).take kk := by simp [u8s, List.map_take]
  refine ⟨by simpa using h.blk.set_ 0 (.slice oa kk oc), h.b6.far (p := ⟨w.heap.size + 1, 0, none⟩) (by show w.heap.size ≠ w.heap.size + 1; omega) _, ?_, ownsRow_setNe h.rc (a := ⟨w.heap.size + 1, 0, none⟩) h.blk (by decide) _, h.bel.setCell (by show w.heap.size ≤ w.heap.size + 1; omega) _, by rw [size_setCell]; exact hs⟩
  rw [h3, show ((o ++ bl S).take kk).length = kk by rw [List.length_take, hn]; omega]
  exact ownsRow_setNe h2 (a := ⟨w.heap.size + 1, 0, none⟩) h.blk (by decide) _
theorem OnceF.code {w : World} {o : List UInt8} {c : List Nat} {vo vc vc' : Value} {wr w1 : World} {X : Obj} (h : OnceF w o c vo vc wr) (x : Nat)
    (hown : w1.ownsRow (w.heap.size + 2) 3 1 vc' (c ++ [x]).length (i64s (c ++ [x]))) (hg : (wr.alloc X).grownBy w1 vc.ownBlock) : OnceF w o (c ++ [x]) vo vc' (w1.setCell ⟨w.heap.size + 1, 1, none⟩ vc') := by
  have hr := h.rc.lt
  have hsz1 := hg.size
  rw [World.size_alloc] at hsz1
  have hs2 := h.sz
  have hv : vc.ownBlock ≠ some (w.heap.size + 1) := own_blk_ne h.rc h.blk (by decide)
  have hv6 : vc.ownBlock ≠ some w.heap.size := own_blk_ne h.rc h.b6 (by decide)
  have b1 : Blk w1 (w.heap.size + 1) 28 _ := (h.blk.alloc X).grown hg (Ne.symm hv)
  have b6 : Blk w1 w.heap.size 28 _ := (h.b6.alloc X).grown hg (Ne.symm hv6)
  have ro1 := ownsRow_keptNe (h.ro.alloc X) (h.rc.alloc X) hg (by decide)
  refine ⟨by simpa using b1.set_ 1 vc', b6.far (p := ⟨w.heap.size + 1, 1, none⟩) (by show w.heap.size ≠ w.heap.size + 1; omega) _, ownsRow_setNe ro1 (a := ⟨w.heap.size + 1, 1, none⟩) b1 (by decide) _, ownsRow_setNe hown (a := ⟨w.heap.size + 1, 1, none⟩) b1 (by decide) _, ?_, by rw [size_setCell]; omega⟩
  exact ((h.bel.alloc h.bel.size X).grown hg (by rw [World.size_alloc]; have := h.bel.size; omega) (fun j hj => by have := (hr j hj).1; omega)).setCell (by show w.heap.size ≤ w.heap.size + 1; omega) _

set_option maxRecDepth 100000 in
set_option maxHeartbeats 8000000 in
/-- pidginref14.once. -/
theorem ref_once (B : Nat) (v : Value) (L : List Part) (w : World) (hp : PartsC B w v L) (hL : L.length ≤ 5000) (hlits : ∀ p ∈ L, p.lit.length ≤ 5000) (hwp : ∀ p ∈ L, p.width ≤ 5000 ∧ p.prec < 5000)
    (hcv : ∀ p ∈ L, p.conv ≠ 0 → p.conv = 99 ∨ p.conv = 115 ∨ p.conv = 98 ∨ p.conv = 100 ∨ p.conv = 117 ∨ p.conv = 111 ∨ p.conv = 120 ∨ p.conv = 88)
    (ao : Option Addr) (capo : Nat) (ops : List ByteArray) (hO : Ss w ao capo ops) (hops : ∀ S ∈ ops, S.size ≤ 140737488351232) (pre : Out) (hpre : pre.out.length ≤ 65536) (hstop : pre.stop = false) :
    Calls Tryz.prog 21 #[v, .slice ao ops.length capo, .int .i64 pre.out.length] w (ROncePost w L (ops.map bl) pre) := by
  obtain ⟨i1, hi1, hy0, hy1, hy2⟩ := info_parts Tryz.infoInt
  obtain ⟨i0, hi0, hz0, hz1, hz2⟩ := info_parts Tryz.infoU8
  obtain ⟨a, cap, rfl, hc, hm, hcell⟩ := hp.cells
  unfold maxLen at hm
  have hoc := hO.1
  have hom := hO.2.1
  unfold maxLen at hom
  have HC := Lib.hid hcell
  have HLIT := Lib.hid hlits
  have HWP := Lib.hid hwp
  have HCVL := Lib.hid hcv
  have HO := Lib.hid hO
  have HOPS := Lib.hid hops
  have HPE : Hid (once L (ops.map bl) ⟨pre.out ++ [], pre.codes ++ [], false⟩ 0 = once L (ops.map bl) pre 0) := by
    show _ = _
    rw [List.append_nil, List.append_nil, ← hstop]
  have HST := Lib.hid hstop
  clear hp hlits hwp hcv hO hops hcell hstop
  go_enter Tryz.func21, Tryz.ntmps21
  go_wp2_with fail
  go_loopw [9, 19] (fun tv iv wr => ∃ (k t : Nat) (o : List UInt8) (c : List Nat) (vo vc : Value), k ≤ L.length ∧ tv = .int .i64 t ∧ iv = .int .i64 k ∧ t ≤ ops.length ∧ Hid (OnceR w L (ops.map bl) pre k t o c vo vc wr)) (fun _ iv _ => L.length - (intOf iv).toNat)
  case atStart =>
    refine ⟨0, 0, [], [], .slice none 0 0, .slice none 0 0, by omega, rfl, rfl, by omega, ⟨?_, (Blk.new w _ _).alloc _, World.ownsRow_nil _ _ _ _, World.ownsRow_nil _ _ _ _, ((Below.refl _ _).alloc (Nat.le_refl _) _).alloc (by simp) _, by simp, by simpa using hpre, by simp, HPE.out, by simp, by simp⟩⟩
    have := Blk.new (w.alloc (.cells #[.slice none 0 0, .slice none 0 0, .bool false] 28)) 28 #[.slice none 0 0, .slice none 0 0, .bool false]
    rwa [World.size_alloc] at this
  case round =>
    obtain ⟨k, t, o, c, vo, vc, hk, rfl, rfl, hto, HR⟩ := hrel
    by_cases hlt : k < L.length
    · obtain ⟨g, la, lcap, rfl, hg, hlit, c0, c1, c2, c3, c4, c5, c6, c7, c8⟩ := HC.out k hlt
      have HB := Lib.hid HR.out.bel
      have hs := HB.out.size
      have d := fun (j : Nat) (u : Value) (hu : w.cell? ⟨g, j, none⟩ = some u) => (HB.out.cell (p := ⟨g, j, none⟩) hg).trans hu
      have d0 := d _ _ c0
      have d1 := d _ _ c1
      have d2 := d _ _ c2
      have d3 := d _ _ c3
      have d4 := d _ _ c4
      have d5 := d _ _ c5
      have d6 := d _ _ c6
      have d7 := d _ _ c7
      have d8 := d _ _ c8
      have HLR := Lib.hid ((hlit.kept (U8Kept.below HB.out (Nat.le_refl _))).more hs)
      have hmem : L[k] ∈ L := List.getElem_mem hlt
      have hll := HLIT.out L[k] hmem
      have hpw := (HWP.out L[k] hmem).1
      have hpp := (HWP.out L[k] hmem).2
      have HCV := Lib.hid (HCVL.out L[k] hmem)
      clear d c0 c1 c2 c3 c4 c5 c6 c7 c8 hlit hmem
      obtain ⟨p, hpk⟩ : ∃ p, L[k] = p := ⟨_, rfl⟩
      rw [hpk] at d0 d1 d2 d3 d4 d5 d6 d7 d8 hll hpw hpp HLR HCV
      have HPK := Lib.hid hpk
      clear hpk
      have HR5 : Hid (OnceR w L (ops.map bl) pre k t o c vo vc (wr.alloc (.cells #[.slice la p.lit.length lcap, .int .u8 p.conv, .bool p.fl.minus, .bool p.fl.plus, .bool p.fl.space, .bool p.fl.zero, .bool p.fl.alt, .int .i64 p.width, .int .i64 p.prec] 59))) := HR.out.below (belowS wr _)
      have HO5 : Hid (Ss (wr.alloc (.cells #[.slice la p.lit.length lcap, .int .u8 p.conv, .bool p.fl.minus, .bool p.fl.plus, .bool p.fl.space, .bool p.fl.zero, .bool p.fl.alt, .int .i64 p.width, .int .i64 p.prec] 59)) ao capo ops) := ⟨HO.out.1, HO.out.2.1, fun i hi => by
        obtain ⟨b, off, h1, h2⟩ := HO.out.2.2 i hi
        have hb : b < w.heap.size := lt_of_cell h2
        exact ⟨b, off, h1, ((HB.out.alloc hs _).cell (p := ⟨b, off + i, none⟩) hb).trans h2⟩⟩
      have kl := litStr ((HLR.out.kept (U8Kept.alloc _ wr (.cells #[.slice la p.lit.length lcap, .int .u8 p.conv, .bool p.fl.minus, .bool p.fl.plus, .bool p.fl.space, .bool p.fl.zero, .bool p.fl.alt, .int .i64 p.width, .int .i64 p.prec] 59))))
      go_upto_if 28 with (fail)
      go_cut [9, 12, 13, 14, 15, 19] from 20 to 82 (fun tv sv stv _ _ iv wx => ∃ (t' : Nat) (S : ByteArray) (st : Bool) (c' : List Nat) (vc' : Value), tv = .int .i64 t' ∧ sv = .string S ∧ stv = .bool st ∧ iv = .int .i64 k ∧ Hid (OnceM w L (ops.map bl) pre k t' o c' vo vc' S st wx))
      case first =>
        by_cases h0 : p.conv = 0
        · have e0 : ((p.conv : Int) != 0) = false := by rw [h0]; rfl
          have HM := Lib.hid (HR5.out.lit hlt (by rw [HPK.out]; exact h0) ⟨p.lit.toArray⟩ (by rw [HPK.out, bl_mk]) (by show p.lit.toArray.size ≤ _; rw [List.size_toArray]; omega))
          clear h0
          go_wp2_with fail
          go_meet
          exact ⟨t, _, false, c, vc, rfl, rfl, rfl, rfl, HM⟩
        · have e0 : ((p.conv : Int) != 0) = true := bne_iff_ne.2 (by omega)
          by_cases ht : t < ops.length
          · have et : decide ((t : Int) < (ops.length : Int)) = true := decide_eq_true (by omega)
            have eti : (t : Int) < (ops.length : Int) := by omega
            obtain ⟨b0, o0, rfl, hcS⟩ := HO5.out.2.2 t ht
            obtain ⟨SV, hSV⟩ : ∃ SV, ops[t] = SV := ⟨_, rfl⟩
            have hGD : (ops.map bl).getD t [] = bl SV := by rw [List.getD_eq_getElem?_getD, List.getElem?_map, List.getElem?_eq_getElem ht, hSV]; rfl
            have hSz : SV.size ≤ 140737488351232 := HOPS.out SV (hSV ▸ List.getElem_mem ht)
            rw [hSV] at hcS
            clear hSV
            have CO := ref_one (.slice la p.lit.length lcap) p SV (wr.alloc (.cells #[.slice la p.lit.length lcap, .int .u8 p.conv, .bool p.fl.minus, .bool p.fl.plus, .bool p.fl.space, .bool p.fl.zero, .bool p.fl.alt, .int .i64 p.width, .int .i64 p.prec] 59)) (HCV.out h0) hpw hpp hSz
            have hle := one_le p (bl SV) hpw hpp (by rw [bl_length]; exact hSz)
            have h19 := one_code p (bl SV)
            have hcond := fun (o : List UInt8) (c : List Nat) (vo vc : Value) (W : World) (hr : OnceR w L (ops.map bl) pre k t o c vo vc W) => hr
            obtain ⟨u, hu⟩ : ∃ u, u = one p (bl SV) := ⟨_, rfl⟩
            rw [← hu] at CO hle h19
            have HU : Hid (u = one L[k] ((ops.map bl).getD t [])) := by show _ = _; rw [HPK.out, hGD, hu]
            obtain ⟨ul, us, ux⟩ := u
            simp only [] at CO hle h19
            obtain ⟨X, hX⟩ : ∃ X : ByteArray, ⟨ul.toArray⟩ = X := ⟨_, rfl⟩
            have hXb : bl X = ul := by rw [← hX, bl_mk]
            have hXs : X.size ≤ 140737488551232 := by rw [← bl_length, hXb]; exact hle
            rw [hX] at CO
            have CO := Lib.hid CO
            have HXB := Lib.hid hXb
            have H19 := Lib.hid h19
            have h0L : L[k].conv ≠ 0 := by rw [HPK.out]; exact h0
            have HT' : Hid ((t + 1) = if t < (ops.map bl).length then t + 1 else t) := by show _ = _; rw [List.length_map]; rw [if_pos ht]
            have H0L := Lib.hid h0L
            clear hu hX hXb hle h19 h0L h0 hcond
            by_cases hx : ux = 0
            · have ex : ((ux : Int) != 0) = false := by rw [hx]; rfl
              have HX0 := Lib.hid hx
              clear hx
              go_wp2_with fail
              refine CO.out.mono ?_
              rintro e w7 ⟨rfl, hb7⟩
              have HM : Hid (OnceM w L (ops.map bl) pre k (t + 1) o c vo vc X us w7) := (HR5.out.below hb7).conv0 hlt H0L.out _ rfl HT'.out X us (by rw [HXB.out, ← HU.out]) (by rw [← HU.out]) (by rw [← HU.out]; exact HX0.out) hXs
              clear hb7
              go_wp2_with fail
              go_meet
              exact ⟨(t + 1), X, us, c, vc, by go_num, rfl, rfl, rfl, HM⟩
            · have ex : ((ux : Int) != 0) = true := bne_iff_ne.2 (by omega)
              have HX0 := Lib.hid hx
              clear hx
              go_wp2_with fail
              refine CO.out.mono ?_
              rintro e w7 ⟨rfl, hb7⟩
              have hR7 := HR5.out.below hb7
              have HR7 := Lib.hid hR7
              have z0 : w7.cell? ⟨w.heap.size + 1, 0, none⟩ = some vo := by rw [hR7.blk.cell 0]; rfl
              have z1 : w7.cell? ⟨w.heap.size + 1, 1, none⟩ = some vc := by rw [hR7.blk.cell 1]; rfl
              have hs7 := hR7.sz
              have hcl := hR7.cl
              have HVG := Lib.hid (own_blk_ne hR7.rc hR7.blk (by decide))
              have HBA := Lib.hid (hR7.blk.alloc (.cells #[.int .i64 ux] 3))
              clear hb7 hR7
              go_wp2_with (at_builtin; refine wpList_append_lies _ rfl (.tmp 49) (.tmp 51) _ rfl (w.heap.size + 2) 3 i1 _ 1 8 Tryz.underlying26 hi1 hy0 hy1 hy2 rfl (by omega) vc c.length (i64s c) rfl (HR7.out.rc.alloc _) ⟨w7.heap.size, 0, none⟩ 1 1 [.int .i64 ux] rfl rfl (World.news_of_block (cs := #[.int .i64 ux]) (t := 3) (fr := (0, 0)) (heap_alloc_new w7 _)) (by simp [Value.oneCell']) (by omega) (by unfold maxLen; omega) (by omega) (by simp; omega) (w7.heap.size + 1) (by simp) ?_; intro gg cap3 w8 hown3 hgrow3 hat3 hlt3; obtain ⟨dd1, dd2⟩ := pr_facts hgrow3 HBA.out.lt HVG.out (HBA.out.cell 1) (HBA.out.frozen 1); have HOWN3 := Lib.hid hown3; have HGROW3 := Lib.hid hgrow3; clear hown3 hgrow3)
              have HM := Lib.hid (HR7.out.conv1 hlt H0L.out _ rfl HT'.out X us (by rw [HXB.out, ← HU.out]) (by rw [← HU.out]) ux (by rw [← HU.out]) HX0.out H19.out hXs (by rw [List.length_append, show i64s (c ++ [ux]) = i64s c ++ [.int .i64 ux] by simp [i64s]]; exact HOWN3.out) HGROW3.out)
              go_meet
              exact ⟨(t + 1), X, us, c ++ [ux], _, by go_num, rfl, rfl, rfl, HM⟩
          · have et : decide ((t : Int) < (ops.length : Int)) = false := decide_eq_false (by omega)
            have eti : ¬ (t : Int) < (ops.length : Int) := by omega
            have hGD : (ops.map bl).getD t [] = bl ⟨#[]⟩ := by rw [List.getD_eq_getElem?_getD, List.getElem?_eq_none (by rw [List.length_map]; omega)]; rfl
            have CO := ref_one (.slice la p.lit.length lcap) p ⟨#[]⟩ (wr.alloc (.cells #[.slice la p.lit.length lcap, .int .u8 p.conv, .bool p.fl.minus, .bool p.fl.plus, .bool p.fl.space, .bool p.fl.zero, .bool p.fl.alt, .int .i64 p.width, .int .i64 p.prec] 59)) (HCV.out h0) hpw hpp (show (⟨#[]⟩ : ByteArray).size ≤ 140737488351232 by decide)
            have hle := one_le p (bl ⟨#[]⟩) hpw hpp (by rw [bl_length]; exact (show (⟨#[]⟩ : ByteArray).size ≤ 140737488351232 by decide))
            have h19 := one_code p (bl ⟨#[]⟩)
            have hcond := fun (o : List UInt8) (c : List Nat) (vo vc : Value) (W : World) (hr : OnceR w L (ops.map bl) pre k t o c vo vc W) => hr
            obtain ⟨u, hu⟩ : ∃ u, u = one p (bl ⟨#[]⟩) := ⟨_, rfl⟩
            rw [← hu] at CO hle h19
            have HU : Hid (u = one L[k] ((ops.map bl).getD t [])) := by show _ = _; rw [HPK.out, hGD, hu]
            obtain ⟨ul, us, ux⟩ := u
            simp only [] at CO hle h19
            obtain ⟨X, hX⟩ : ∃ X : ByteArray, ⟨ul.toArray⟩ = X := ⟨_, rfl⟩
            have hXb : bl X = ul := by rw [← hX, bl_mk]
            have hXs : X.size ≤ 140737488551232 := by rw [← bl_length, hXb]; exact hle
            rw [hX] at CO
            have CO := Lib.hid CO
            have HXB := Lib.hid hXb
            have H19 := Lib.hid h19
            have h0L : L[k].conv ≠ 0 := by rw [HPK.out]; exact h0
            have HT' : Hid (t = if t < (ops.map bl).length then t + 1 else t) := by show _ = _; rw [List.length_map]; rw [if_neg ht]
            have H0L := Lib.hid h0L
            clear hu hX hXb hle h19 h0L h0 hcond
            by_cases hx : ux = 0
            · have ex : ((ux : Int) != 0) = false := by rw [hx]; rfl
              have HX0 := Lib.hid hx
              clear hx
              go_wp2_with fail
              refine CO.out.mono ?_
              rintro e w7 ⟨rfl, hb7⟩
              have HM : Hid (OnceM w L (ops.map bl) pre k t o c vo vc X us w7) := (HR5.out.below hb7).conv0 hlt H0L.out _ rfl HT'.out X us (by rw [HXB.out, ← HU.out]) (by rw [← HU.out]) (by rw [← HU.out]; exact HX0.out) hXs
              clear hb7
              go_wp2_with fail
              go_meet
              exact ⟨t, X, us, c, vc, by go_num, rfl, rfl, rfl, HM⟩
            · have ex : ((ux : Int) != 0) = true := bne_iff_ne.2 (by omega)
              have HX0 := Lib.hid hx
              clear hx
              go_wp2_with fail
              refine CO.out.mono ?_
              rintro e w7 ⟨rfl, hb7⟩
              have hR7 := HR5.out.below hb7
              have HR7 := Lib.hid hR7
              have z0 : w7.cell? ⟨w.heap.size + 1, 0, none⟩ = some vo := by rw [hR7.blk.cell 0]; rfl
              have z1 : w7.cell? ⟨w.heap.size + 1, 1, none⟩ = some vc := by rw [hR7.blk.cell 1]; rfl
              have hs7 := hR7.sz
              have hcl := hR7.cl
              have HVG := Lib.hid (own_blk_ne hR7.rc hR7.blk (by decide))
              have HBA := Lib.hid (hR7.blk.alloc (.cells #[.int .i64 ux] 3))
              clear hb7 hR7
              go_wp2_with (at_builtin; refine wpList_append_lies _ rfl (.tmp 49) (.tmp 51) _ rfl (w.heap.size + 2) 3 i1 _ 1 8 Tryz.underlying26 hi1 hy0 hy1 hy2 rfl (by omega) vc c.length (i64s c) rfl (HR7.out.rc.alloc _) ⟨w7.heap.size, 0, none⟩ 1 1 [.int .i64 ux] rfl rfl (World.news_of_block (cs := #[.int .i64 ux]) (t := 3) (fr := (0, 0)) (heap_alloc_new w7 _)) (by simp [Value.oneCell']) (by omega) (by unfold maxLen; omega) (by omega) (by simp; omega) (w7.heap.size + 1) (by simp) ?_; intro gg cap3 w8 hown3 hgrow3 hat3 hlt3; obtain ⟨dd1, dd2⟩ := pr_facts hgrow3 HBA.out.lt HVG.out (HBA.out.cell 1) (HBA.out.frozen 1); have HOWN3 := Lib.hid hown3; have HGROW3 := Lib.hid hgrow3; clear hown3 hgrow3)
              have HM := Lib.hid (HR7.out.conv1 hlt H0L.out _ rfl HT'.out X us (by rw [HXB.out, ← HU.out]) (by rw [← HU.out]) ux (by rw [← HU.out]) HX0.out H19.out hXs (by rw [List.length_append, show i64s (c ++ [ux]) = i64s c ++ [.int .i64 ux] by simp [i64s]]; exact HOWN3.out) HGROW3.out)
              go_meet
              exact ⟨t, X, us, c ++ [ux], _, by go_num, rfl, rfl, rfl, HM⟩
      case rest =>
        obtain ⟨t', S, st, c', vc', rfl, rfl, rfl, rfl, HM⟩ := hcut
        obtain ⟨wm, hwm⟩ : ∃ wm, wm = wc := ⟨_, rfl⟩
        subst hwm
        have m0 := HM.out.blk.cell 0
        have m1 := HM.out.blk.cell 1
        have m2 := HM.out.blk.cell 2
        have hszm := HM.out.sz
        have hfl := HM.out.full
        have hss := HM.out.ss
        have hcl := HM.out.cl
        have HVO := Lib.hid (own_blk_ne HM.out.ro HM.out.blk (by decide))
        clear HR5 HO5 kl d0 d1 d2 d3 d4 d5 d6 d7 d8 HLR HCV HPK
        go_upto_region 18 with (at_builtin; refine wpList_append_strW rfl (.tmp 55) (.tmp 56) _ _ rfl (w.heap.size + 2) 5 i0 Tryz.underlying25 Tryz.underlying9 hi0 hz0 hz1 hz2 vo o.length (u8s o) rfl HM.out.ro S rfl (by omega) hszm ?_; intro vo2 w8 hown hgrow hnil; obtain ⟨dd1, dd2⟩ := pr_facts hgrow HM.out.blk.lt HVO.out (HM.out.blk.cell 0) (HM.out.blk.frozen 0); obtain ⟨oa, oc, hvo2, ho1, ho2, _⟩ := ownsRow_form hown; subst hvo2; have HP := Lib.hid (HM.out.put hown hgrow); clear hown hgrow hnil)
        have hP0 := HP.out
        clear HP dd1 dd2
        generalize (World.setCell w8 ⟨w.heap.size + 1, 0, none⟩ _) = W9 at *
        obtain ⟨n2, hn2⟩ : ∃ n2, n2 = o.length + S.size := ⟨_, rfl⟩
        have hn2' : (o ++ bl S).length = n2 := by rw [List.length_append, bl_length, hn2]
        rw [← hn2] at hP0 ho1 ⊢
        obtain ⟨ca, cc, hvc, hc1, hc2, _⟩ := ownsRow_form hP0.rc
        subst hvc
        unfold maxLen at hc2
        have HP := Lib.hid hP0
        have p0 := hP0.blk.cell 0
        have p1 := hP0.blk.cell 1
        have p2 := hP0.blk.cell 2
        have yy0 := hP0.blk.frozen 0
        have yy1 := hP0.blk.frozen 1
        have yy2 := hP0.blk.frozen 2
        have g0 := hP0.b6.cell 0
        have g1 := hP0.b6.cell 1
        have g2 := hP0.b6.cell 2
        have gy0 := hP0.b6.frozen 0
        have gy1 := hP0.b6.frozen 1
        have gy2 := hP0.b6.frozen 2
        have HN2 := Lib.hid hn2'
        have hn2b : n2 ≤ 140737488616768 := by omega
        have hsz9 := hP0.sz
        unfold maxLen at ho2
        clear hP0 hn2 hn2' m0 m1 m2 HM HVO
        by_cases hf : 65536 < pre.out.length + n2
        · have el : decide (65536 < (pre.out.length : Int) + (n2 : Int)) = true := decide_eq_true (by omega)
          have eli : 65536 < (pre.out.length : Int) + (n2 : Int) := by omega
          obtain ⟨kk, hkk⟩ : ∃ kk, kk = 65536 - pre.out.length := ⟨_, rfl⟩
          have hkn : kk ≤ n2 := by omega
          have hcut := fun (W : World) => run_cutTo (P := Tryz.prog) Tryz.underlying25 u8_size oa (o ++ bl S) oc kk (by rw [HN2.out]; exact hkn) (by rw [HN2.out]; exact ho1) (65536 - (pre.out.length : Int)) (by omega) W
          rw [HN2.out] at hcut
          have HE := Lib.hid (HP.out.isFull (by rw [HN2.out]; exact hf))
          have HF := Lib.hid (HP.out.cutF HN2.out kk hkn)
          have HTK := Lib.hid HP.out.tk
          have HCL := Lib.hid HP.out.cl
          rw [← hkk] at HE
          obtain ⟨wf, hwf0⟩ : ∃ wf, wf = World.setCell W9 ⟨w.heap.size + 1, 0, none⟩ (.slice oa kk oc) := ⟨_, rfl⟩
          clear hf hkk
          have HWF := Lib.hid hwf0
          clear hwf0
          go_upto_region 20 with (fail)
          have hwf := HWF.out
          rw [← hwf] at HF ⊢
          have hF := HF.out
          clear hwf HWF HP p0 p1 p2 yy0 yy1 yy2 g0 g1 g2 gy0 gy1 gy2
          have z0 : wf.cell? ⟨w.heap.size + 1, 0, none⟩ = some (.slice oa kk oc) := by rw [hF.blk.cell 0]; rfl
          have z1 : wf.cell? ⟨w.heap.size + 1, 1, none⟩ = some (.slice ca c'.length cc) := by rw [hF.blk.cell 1]; rfl
          have hs7 := hF.sz
          have HVG := Lib.hid (own_blk_ne hF.rc hF.blk (by decide))
          have HBA := Lib.hid (hF.blk.alloc (.cells #[.int .i64 19] 3))
          clear hF
          go_wp2_with (at_builtin; refine wpList_append_lies _ rfl (.tmp 72) (.tmp 73) _ rfl (w.heap.size + 2) 3 i1 _ 1 8 Tryz.underlying26 hi1 hy0 hy1 hy2 rfl (by omega) (.slice ca c'.length cc) c'.length (i64s c') rfl (HF.out.rc.alloc _) ⟨wf.heap.size, 0, none⟩ 1 1 [.int .i64 19] rfl rfl (World.news_of_block (cs := #[.int .i64 19]) (t := 3) (fr := (0, 0)) (heap_alloc_new wf _)) (by simp [Value.oneCell']) (by omega) (by unfold maxLen; omega) (by omega) (by simp; omega) (wf.heap.size + 1) (by simp) ?_; intro gg cap3 w8 hown3 hgrow3 hat3 hlt3; obtain ⟨dd1, dd2⟩ := pr_facts hgrow3 HBA.out.lt HVG.out (HBA.out.cell 1) (HBA.out.frozen 1); have hG := HF.out.code 19 (by rw [List.length_append, show i64s (c' ++ [19]) = i64s c' ++ [.int .i64 19] by simp [i64s]]; exact hown3) hgrow3; have f0 := hG.blk.cell 0; have f1 := hG.blk.cell 1; have f2 := hG.blk.cell 2; have g0 := hG.b6.cell 0; have g1 := hG.b6.cell 1; have g2 := hG.b6.cell 2; have gy0 := hG.b6.frozen 0; have gy1 := hG.b6.frozen 1; have gy2 := hG.b6.frozen 2; have HG := Lib.hid hG; clear hown3 hgrow3 hat3 hG)
          try rw [Exit.noGoto_ret]
          have b3 := set3F HG.out.b6 (.slice oa kk oc) (.slice (some ⟨gg, 0, none⟩) (c'.length + 1) cap3) (.bool false)
          have q0 := b3.cell 0
          have q1 := b3.cell 1
          have q2 := b3.cell 2
          have hpost := once_end HG.out.b6 HG.out.ro HG.out.rc HG.out.bel HE.out HTK.out (by rw [List.length_append]; have := HCL.out; simp; omega) go_full
          generalize (World.setCell _ ⟨w.heap.size, 2, none⟩ _) = W3 at *
          refine bodyPost_ret (v := .tuple #[.agg #[.slice oa kk oc, .slice (some ⟨gg, 0, none⟩) (c'.length + 1) cap3, .bool false], .int .i64 t']) (by simp [results, Tryz.results21, go_sem, q0, q1, q2]) rfl ?_
          exact hpost
        · have el : decide (65536 < (pre.out.length : Int) + (n2 : Int)) = false := decide_eq_false (by omega)
          have eli : ¬ 65536 < (pre.out.length : Int) + (n2 : Int) := by omega
          cases st
          · have HR' := Lib.hid (HP.out.next (by rw [HN2.out]; exact hf))
            clear hf
            go_wp2_with fail
            go_roundw
            case rel => exact ⟨k + 1, t', o ++ bl S, c', _, _, by omega, rfl, by go_num, (by have := HP.out.tk; rwa [List.length_map] at this), HR'.out⟩
            case measure => simp [intOf]; omega
          · have HE := Lib.hid (HP.out.stop (by rw [HN2.out]; exact hf))
            have b6' := HP.out.b6.far (p := ⟨w.heap.size + 1, 2, none⟩) (by show w.heap.size ≠ w.heap.size + 1; omega) (.bool true)
            have bR' := HP.out.blk.set_ 2 (.bool true)
            have s0 := b6'.cell 0
            have s1 := b6'.cell 1
            have s2 := b6'.cell 2
            have t0 := b6'.frozen 0
            have t1 := b6'.frozen 1
            have t2 := b6'.frozen 2
            have u0 := bR'.cell 0
            have u1 := bR'.cell 1
            have u2 := bR'.cell 2
            have HB6 := Lib.hid b6'
            clear hf b6' bR'
            go_wp2_with fail
            try rw [Exit.noGoto_ret]
            have ro' := ownsRow_setNe HP.out.ro (a := ⟨w.heap.size + 1, 2, none⟩) HP.out.blk (by decide) (.bool true)
            have rc' := ownsRow_setNe HP.out.rc (a := ⟨w.heap.size + 1, 2, none⟩) HP.out.blk (by decide) (.bool true)
            have be' := HP.out.bel.setCell (p := ⟨w.heap.size + 1, 2, none⟩) (by show w.heap.size ≤ w.heap.size + 1; omega) (.bool true)
            have hq := HN2.out
            have b3 := set3F (HB6.out) (.slice oa n2 oc) (.slice ca c'.length cc) (.bool true)
            have q0 := b3.cell 0
            have q1 := b3.cell 1
            have q2 := b3.cell 2
            have hpost := once_end HB6.out ro' rc' be' HE.out HP.out.tk (by have := HP.out.cl; omega) go_stop
            generalize (World.setCell _ ⟨w.heap.size, 2, none⟩ _) = W3 at *
            refine bodyPost_ret (v := .tuple #[.agg #[.slice oa n2 oc, .slice ca c'.length cc, .bool true], .int .i64 t']) (by simp [results, Tryz.results21, go_sem, q0, q1, q2]) rfl ?_
            exact hpost
    · have HE := Lib.hid (HR.out.fin (by omega))
      obtain ⟨oa, oc, hvo, _, _, _⟩ := ownsRow_form HR.out.ro
      obtain ⟨ca, cc, hvc, _, _, _⟩ := ownsRow_form HR.out.rc
      subst hvo hvc
      have p0 := HR.out.blk.cell 0
      have p1 := HR.out.blk.cell 1
      have p2 := HR.out.blk.cell 2
      have g0 := HR.out.b6.cell 0
      have g1 := HR.out.b6.cell 1
      have g2 := HR.out.b6.cell 2
      have gy0 := HR.out.b6.frozen 0
      have gy1 := HR.out.b6.frozen 1
      have gy2 := HR.out.b6.frozen 2
      go_wp2_with fail
      try rw [Exit.noGoto_ret]
      have b3 := set3F (HR.out.b6) (.slice oa o.length oc) (.slice ca c.length cc) (.bool false)
      have q0 := b3.cell 0
      have q1 := b3.cell 1
      have q2 := b3.cell 2
      have hpost := once_end HR.out.b6 HR.out.ro HR.out.rc HR.out.bel HE.out HR.out.tk (by have := HR.out.cl; omega) (go_on HR.out.n19)
      generalize (World.setCell _ ⟨w.heap.size, 2, none⟩ _) = W3 at *
      refine bodyPost_ret (v := .tuple #[.agg #[.slice oa o.length oc, .slice ca c.length cc, .bool false], .int .i64 t]) (by simp [results, Tryz.results21, go_sem, q0, q1, q2]) rfl ?_
      exact hpost
end Go.Proofs.YtppcjmbblkbkdaaGreatDoor

/- Towards the walk of pidginref14.Run: plain facts, and an append of bytes that may be none to a row that may be none. Conditions as typed. -/
namespace Go.Proofs.YtppcjmbblkbkdaaGreatDoor
open Go.RowKit Pg

/-- A letter that a conversion ends with. -/
def Letter (c : Nat) : Prop := c = 99 ∨ c = 115 ∨ c = 98 ∨ c = 100 ∨ c = 117 ∨ c = 111 ∨ c = 120 ∨ c = 88
theorem conv_letter {l : List UInt8} {i : Nat} {p : Part} {j : Nat} (h : conv l i = .ok (p, j)) : p.conv = 37 ∨ Letter p.conv := by
  have hend : ∀ f n pr i2, convEnd l i f n pr i2 = .ok (p, j) → p.conv = 37 ∨ Letter p.conv := by
    intro f n pr i2 h
    unfold convEnd at h
    split at h
    · cases h
    · split at h
      · split at h
        · cases h
        · cases h; exact .inl rfl
      · split at h
        · rename_i hc
          cases h
          right
          show Letter (l.getD i2 0).toNat
          unfold isConv at hc
          simp only [Bool.or_eq_true, beq_iff_eq] at hc
          unfold Letter
          omega
        · split at h
          · cases h
            right
            show Letter 100
            unfold Letter
            omega
          · cases h
  have hprec : ∀ f n i2, convPrec l i f n i2 = .ok (p, j) → p.conv = 37 ∨ Letter p.conv := by
    intro f n i2 h
    unfold convPrec at h
    split at h
    · cases hn2 : number (l.drop (i2 + 1)) with
      | none => rw [hn2] at h; cases h
      | some nk => rw [hn2] at h; exact hend _ _ _ _ h
    · exact hend _ _ _ _ h
  unfold conv convWidth at h
  cases hn : number (l.drop (i + (flags (l.drop i) fl0 0).2)) with
  | none => rw [hn] at h; cases h
  | some nk => rw [hn] at h; exact hprec _ _ _ h
theorem render_letter {L : List Part} {lit : List UInt8} (h : ∀ p ∈ L, p.conv ≠ 0 → Letter p.conv) : ∀ p ∈ render L lit, p.conv ≠ 0 → Letter p.conv := by
  unfold render
  split
  · exact h
  · intro p hp h0
    rcases List.mem_append.1 hp with hp | hp
    · exact h p hp h0
    · rw [List.mem_singleton.1 hp] at h0; exact absurd rfl h0
theorem parseF_letter : ∀ (n : Nat) {b : List UInt8} {i : Nat} {L : List Part} {lit : List UInt8} {R : List Part}, (∀ p ∈ L, p.conv ≠ 0 → Letter p.conv) → parseF n b i L lit = .ok R → ∀ p ∈ R, p.conv ≠ 0 → Letter p.conv
  | 0, b, i, L, lit, R, hg, h => by cases h; exact render_letter hg
  | n + 1, b, i, L, lit, R, hg, h => by
    unfold parseF at h
    split at h
    · split at h
      · split at h
        · cases h
        · exact parseF_letter n hg h
      · split at h
        · cases hc : conv b (i + 1) with
          | error e => rw [hc] at h; cases h
          | ok pj =>
            obtain ⟨p, j⟩ := pj
            rw [hc] at h
            simp only [] at h
            split at h
            · exact parseF_letter n hg h
            · rename_i h37
              refine parseF_letter n (fun q hq h0 => ?_) h
              rcases List.mem_append.1 hq with hq | hq
              · exact render_letter hg q hq h0
              · rw [List.mem_singleton.1 hq]
                rcases conv_letter hc with h1 | h1
                · exact absurd h1 h37
                · exact h1
        · exact parseF_letter n hg h
    · cases h; exact render_letter hg
theorem parse_letter {b : List UInt8} {R : List Part} (h : parse b = .ok R) : ∀ p ∈ R, p.conv ≠ 0 → Letter p.conv := by
  unfold parse at h
  split at h
  · cases h
  · exact parseF_letter _ (by simp) h
theorem runF_norm : ∀ (n : Nat) (L : List Part) (O : List (List UInt8)) (r : Out), runF n (L.map norm) O r = runF n L O r
  | 0, _, _, _ => rfl
  | n + 1, L, O, r => by
    unfold runF
    simp only [once_norm, runF_norm n]
theorem run_norm (L : List Part) (O : List (List UInt8)) : run (L.map norm) O = run L O := by
  unfold run
  simp only [runF_norm]

/-- Bytes that may be none are appended to a row that may be none. -/
theorem run_append_bsN {w : World} {base n0 : Nat} {v : Value} {l1 : List UInt8} (hown : w.ownsRow base 5 1 v n0 (u8s l1)) {ax : Option Addr} {capx : Nat} {l2 : List UInt8} (hb : Bs w ax capx l2) (hs : n0 + l2.length ≤ 2000000) (hbase : base ≤ w.heap.size) (ty : TypeId) :
    ∃ v' w', (Builtin.append_ #[25, 25] ty #[v, .slice ax l2.length capx]).run Tryz.prog w = .ok v' w' ∧
      w'.ownsRow base 5 1 v' (n0 + l2.length) (u8s (l1 ++ l2)) ∧ w.grownBy w' v.ownBlock := by
  obtain ⟨i0, hi0, hz0, hz1, hz2⟩ := info_parts Tryz.infoU8
  cases ax with
  | none =>
    have h0 : l2 = [] := by
      cases l2 with
      | nil => rfl
      | cons c t => obtain ⟨b, off, ha, _⟩ := hb.2.2 0 (by simp); cases ha
    subst h0
    rcases hown.2 with ⟨rfl, rfl⟩ | ⟨g0, cap0, cur, rfl, _, _, hle, _⟩
    · refine ⟨.slice none 0 0, w, ?_, by simpa using hown, World.grownBy.refl w _⟩
      simp [Builtin.append_, run_underlying Tryz.underlying25, sizeOf, typeInfo, hi0, Builtin.lenOf, Builtin.firstCells]
    · refine ⟨.slice (some ⟨g0, 0, none⟩) n0 cap0, w, ?_, by simpa using hown, World.grownBy.refl w _⟩
      have := run_append_room_src (P := Tryz.prog) w 25 25 ty 5 i0 Tryz.underlying25 hi0 g0 0 n0 cap0 (.slice none 0 capx) 0 [] (Src.ofNil w Tryz.underlying25 capx)
        (by omega) (fun j h => by simp at h) (fun j h => by simp at h)
      simpa [World.setCells] using this
  | some ad =>
    obtain ⟨v', w', h1, h2, h3, h4⟩ := run_append_own (P := Tryz.prog) w base 25 ty 5 i0 _ 1 1 Tryz.underlying25 hi0 hz0 hz1 hz2 rfl (by omega) v n0 (u8s l1) hown ad l2.length capx (u8s l2) (by simp [u8s])
      (fun j u hu => by
        have hj : j < l2.length := by
          rcases Nat.lt_or_ge j l2.length with h | h
          · exact h
          · rw [List.getElem?_eq_none (by simp [u8s]; omega)] at hu; cases hu
        obtain ⟨b, off, ha, hc⟩ := hb.2.2 j hj
        obtain rfl : ad = ⟨b, off, none⟩ := by simpa using ha
        rw [addr_add, hc, ← hu]
        simp [u8s, hj]) (by simp [u8s, Value.oneCell']) (by unfold maxLen; omega) (by omega) hbase
    exact ⟨v', w', h1, by rw [show u8s (l1 ++ l2) = u8s l1 ++ u8s l2 by simp [u8s]]; exact h2, h3⟩
theorem wpList_append_bsN {w : World} {ops : Array Oper} {rest : List Oper} {o : Oper} {a : Act} {Q : Exit → Act → World → Prop} (hgd : o.guard = none) (s x : Operand)
    (ho : o.op = .call { callee := .builtin .append, args := #[s, x], argTypes := #[25, 25] }) (base n0 : Nat) (v : Value) (l1 : List UInt8) (hs : a.eval s = v) (hown : w.ownsRow base 5 1 v n0 (u8s l1))
    (ax : Option Addr) (nx capx : Nat) (l2 : List UInt8) (hx : a.eval x = .slice ax nx capx) (hnx : nx = l2.length) (hb : Bs w ax capx l2) (hsz : n0 + nx ≤ 2000000) (hbase : base ≤ w.heap.size)
    (h : ∀ oa oc w', w'.ownsRow base 5 1 (.slice oa (n0 + nx) oc) (n0 + nx) (u8s (l1 ++ l2)) → w.grownBy w' v.ownBlock → wpList Tryz.prog ops Q rest (a.put o.dst (.slice oa (n0 + nx) oc)) w') : wpList Tryz.prog ops Q (o :: rest) a w := by
  refine wpList_plain hgd fun K' hK => ?_
  subst hnx
  obtain ⟨v', w', hr, h2, h3⟩ := run_append_bsN hown hb hsz hbase o.type
  obtain ⟨oa, oc, hv, _⟩ := ownsRow_form h2
  subst hv
  unfold Oper.wp execOp
  simp only [ho, resolve, invoke, builtin, Sem.run_bind, Sem.run_pure, Result.andThen_ok, List.map_toArray, List.map_cons, List.map_nil, hs, hx, hr]
  exact hK _ _ (h oa oc w' h2 h3)

/-- What the loop of Run leaves of another row: a row of numbers that is read. -/
def IsR (w : World) (v : Value) (l : List Nat) : Prop := ∃ a cap, v = .slice a l.length cap ∧ l.length ≤ cap ∧ cap ≤ maxLen ∧ ∀ i (_ : i < l.length), ∃ b, a = some ⟨b, 0, none⟩ ∧ w.cell? ⟨b, i, none⟩ = some (.int .i64 (l[i]))
theorem IsR.own {w : World} {B : Nat} {v : Value} {l : List Nat} (h : w.ownsRow B 3 1 v l.length (i64s l)) : IsR w v l := by
  obtain ⟨a', cap', he, h1, h2, h3⟩ := ownsRow_form h
  subst he
  refine ⟨a', cap', rfl, h1, h2, fun i hi => ?_⟩
  obtain ⟨g, rfl, _, _⟩ := h3 (by omega)
  refine ⟨g, rfl, ?_⟩
  have := h.cellAt i (by omega)
  rw [this]
  simp [i64s, hi]
theorem IsR.grown {w w' : World} {v : Value} {l : List Nat} {row : Option Nat} (h : IsR w v l) (hg : w.grownBy w' row) (hne : ∀ b, v.ownBlock = some b → some b ≠ row) : IsR w' v l := by
  obtain ⟨a, cap, rfl, h1, h2, h3⟩ := h
  refine ⟨a, cap, rfl, h1, h2, fun i hi => ?_⟩
  obtain ⟨b, rfl, hc⟩ := h3 i hi
  exact ⟨b, rfl, hg.cell hc (hne b rfl)⟩
theorem IsR.below {w w' : World} {v : Value} {l : List Nat} {B : Nat} (h : IsR w v l) (hb : Below B w w') (hB : w.heap.size ≤ B) : IsR w' v l := by
  obtain ⟨a, cap, rfl, h1, h2, h3⟩ := h
  refine ⟨a, cap, rfl, h1, h2, fun i hi => ?_⟩
  obtain ⟨b, rfl, hc⟩ := h3 i hi
  exact ⟨b, rfl, by rw [hb.cell (p := ⟨b, i, none⟩) (Nat.lt_of_lt_of_le (lt_of_cell hc) hB)]; exact hc⟩

/-- What pidginref14.Run tells. -/
def RRunPost (w : World) (x : Except (Nat × Nat) Out) (e : Ending) (w' : World) : Prop :=
  Below w.heap.size w w' ∧ match x with
  | .error (c, q) => e = .returned (.tuple #[.agg #[.slice none 0 0, .slice none 0 0, .bool false], .agg #[.int .i64 c, .int .i64 q, .int .i64 5]])
  | .ok r => ∃ vo vc : Value, e = .returned (.tuple #[.agg #[vo, vc, .bool r.stop], .agg #[.int .i64 0, .int .i64 0, .int .i64 0]]) ∧ w'.ownsRow w.heap.size 5 1 vo r.out.length (u8s r.out) ∧ w'.ownsRow w.heap.size 3 1 vc r.codes.length (i64s r.codes)
end Go.Proofs.YtppcjmbblkbkdaaGreatDoor

/- The walks of pidginref14.Run and pidginref14.Once. Conditions as typed. -/
namespace Go.Proofs.YtppcjmbblkbkdaaGreatDoor
open Go.RowKit Pg

theorem ownsRow_set3 {e t : TypeId} {w : World} {B size n g : Nat} {v : Value} {xs : List Value} {cs : Array Value} (h : w.ownsRow B e size v n xs) (hb : Blk w g t cs) (ht : e ≠ t) (u0 u1 u2 : Value) :
    (((w.setCell ⟨g, 0, none⟩ u0).setCell ⟨g, 1, none⟩ u1).setCell ⟨g, 2, none⟩ u2).ownsRow B e size v n xs :=
  ownsRow_setNe (ownsRow_setNe (ownsRow_setNe h (a := ⟨g, 0, none⟩) hb ht u0) (a := ⟨g, 1, none⟩) (hb.set_ 0 u0) ht u1) (a := ⟨g, 2, none⟩) ((hb.set_ 0 u0).set_ 1 u1) ht u2
theorem Blk.far3 {w : World} {g g' : Nat} {t : TypeId} {cs : Array Value} (h : Blk w g t cs) (hne : g ≠ g') (u0 u1 u2 : Value) : Blk (((w.setCell ⟨g', 0, none⟩ u0).setCell ⟨g', 1, none⟩ u1).setCell ⟨g', 2, none⟩ u2) g t cs :=
  ((h.far (p := ⟨g', 0, none⟩) hne u0).far (p := ⟨g', 1, none⟩) hne u1).far (p := ⟨g', 2, none⟩) hne u2
theorem below_set3 {B : Nat} {w w' : World} {g : Nat} (h : Below B w w') (hg : B ≤ g) (u0 u1 u2 : Value) : Below B w (((w'.setCell ⟨g, 0, none⟩ u0).setCell ⟨g, 1, none⟩ u1).setCell ⟨g, 2, none⟩ u2) :=
  ((h.setCell (p := ⟨g, 0, none⟩) hg u0).setCell (p := ⟨g, 1, none⟩) hg u1).setCell (p := ⟨g, 2, none⟩) hg u2
theorem rrun_err {w : World} {x : Except (Nat × Nat) Out} {e : Ending} {w' : World} {c q : Nat} (h : x = .error (c, q)) (hb : Below w.heap.size w w') (he : e = .returned (.tuple #[.agg #[.slice none 0 0, .slice none 0 0, .bool false], .agg #[.int .i64 c, .int .i64 q, .int .i64 5]])) : RRunPost w x e w' := by
  subst h; exact ⟨hb, he⟩
theorem rrun_ok {w W9 : World} {x : Except (Nat × Nat) Out} {r : Out} {vo vc : Value} {B : Nat} {cs c5 : Array Value} (hx : x = .ok r) (b4 : Blk W9 w.heap.size 28 cs) (b5 : Blk W9 (w.heap.size + 1) 35 c5) (hB : w.heap.size ≤ B)
    (ro : W9.ownsRow B 5 1 vo r.out.length (u8s r.out)) (rc : W9.ownsRow B 3 1 vc r.codes.length (i64s r.codes)) (bel : Below w.heap.size w W9) (u0 u1 u2 z0 z1 z2 : Value) :
    RRunPost w x (.returned (.tuple #[.agg #[vo, vc, .bool r.stop], .agg #[.int .i64 0, .int .i64 0, .int .i64 0]])) ((((((W9.setCell ⟨w.heap.size, 0, none⟩ u0).setCell ⟨w.heap.size, 1, none⟩ u1).setCell ⟨w.heap.size, 2, none⟩ u2).setCell ⟨w.heap.size + 1, 0, none⟩ z0).setCell ⟨w.heap.size + 1, 1, none⟩ z1).setCell ⟨w.heap.size + 1, 2, none⟩ z2) := by
  subst hx
  have b5' := b5.far3 (show w.heap.size + 1 ≠ w.heap.size by omega) u0 u1 u2
  exact ⟨below_set3 (below_set3 bel (Nat.le_refl _) u0 u1 u2) (by omega) z0 z1 z2, vo, vc, rfl, ownsRow_base (ownsRow_set3 (ownsRow_set3 ro b4 (by decide) u0 u1 u2) b5' (by decide) z0 z1 z2) hB, ownsRow_base (ownsRow_set3 (ownsRow_set3 rc b4 (by decide) u0 u1 u2) b5' (by decide) z0 z1 z2) hB⟩

/-- What Run's loop keeps. -/
structure RunQ (w : World) (L : List Part) (O : List (List UInt8)) (n : Nat) (ops : List ByteArray) (a : Option Addr) (cap : Nat) (r : Out) (vo vc : Value) (wr : World) : Prop where
  eq : runF n L (ops.map bl) r = runF (O.length + 1) L O ⟨[], [], false⟩
  fuel : ops.length + 1 ≤ n
  blk : Blk wr (w.heap.size + 2) 28 #[vo, vc, .bool false]
  b4 : Blk wr w.heap.size 28 #[.slice none 0 0, .slice none 0 0, .bool false]
  b5 : Blk wr (w.heap.size + 1) 35 #[.int .i64 0, .int .i64 0, .int .i64 0]
  ro : wr.ownsRow (w.heap.size + 3) 5 1 vo r.out.length (u8s r.out)
  rc : wr.ownsRow (w.heap.size + 3) 3 1 vc r.codes.length (i64s r.codes)
  bel : Below w.heap.size w wr
  sz : w.heap.size + 3 ≤ wr.heap.size
  st : r.stop = false
  rol : r.out.length ≤ 65536
  rcl : r.codes.length + 6000 * ops.length ≤ 6000 * 64
  os : Ss w a cap ops
  opz : ∀ S ∈ ops, S.size ≤ 1024
/-- What the loop over the codes keeps: gx: the block of what once told. -/
structure InQ (w : World) (BX gx : Nat) (r : Out) (o : List UInt8) (c : List Nat) (st : Bool) (xo xc : Value) (k : Nat) (vo vc : Value) (wk : World) : Prop where
  blk : Blk wk (w.heap.size + 2) 28 #[vo, vc, .bool false]
  b4 : Blk wk w.heap.size 28 #[.slice none 0 0, .slice none 0 0, .bool false]
  b5 : Blk wk (w.heap.size + 1) 35 #[.int .i64 0, .int .i64 0, .int .i64 0]
  bx : Blk wk gx 28 #[xo, xc, .bool st]
  gxl : w.heap.size + 3 ≤ gx
  ro : wk.ownsRow (w.heap.size + 3) 5 1 vo r.out.length (u8s r.out)
  rc : wk.ownsRow (w.heap.size + 3) 3 1 vc (r.codes ++ c.take k).length (i64s (r.codes ++ c.take k))
  xro : wk.ownsRow BX 5 1 xo o.length (u8s o)
  xrc : wk.ownsRow BX 3 1 xc c.length (i64s c)
  ne : ∀ b, xc.ownBlock = some b → vc.ownBlock ≠ some b
  bel : Below w.heap.size w wk
  sz : w.heap.size + 3 ≤ wk.heap.size
theorem i64s_snoc (l : List Nat) (x : Nat) : i64s (l ++ [x]) = i64s l ++ [.int .i64 x] := by simp [i64s]
/-- A code is put behind. -/
theorem InQ.step {w : World} {BX gx : Nat} {r : Out} {o : List UInt8} {c : List Nat} {st : Bool} {xo xc : Value} {k : Nat} {vo vc : Value} {wk w1 : World} (h : InQ w BX gx r o c st xo xc k vo vc wk) (hk : k < c.length) {X : Obj} {gg cap n : Nat} (hn : n = (r.codes ++ c.take k).length)
    (hown : w1.ownsRow (w.heap.size + 3) 3 1 (.slice (some ⟨gg, 0, none⟩) (n + 1) cap) (n + 1) (i64s (r.codes ++ c.take k) ++ [.int .i64 (c[k])])) (hg : (wk.alloc X).grownBy w1 vc.ownBlock) (hat : vc.ownBlock = some gg ∨ gg = wk.heap.size + 1) :
    InQ w BX gx r o c st xo xc (k + 1) vo (.slice (some ⟨gg, 0, none⟩) (n + 1) cap) (w1.setCell ⟨w.heap.size + 2, 1, none⟩ (.slice (some ⟨gg, 0, none⟩) (n + 1) cap)) := by
  have hr := h.rc.lt
  have hsz1 := hg.size
  rw [World.size_alloc] at hsz1
  have hs2 := h.sz
  have hv : vc.ownBlock ≠ some (w.heap.size + 2) := own_blk_ne h.rc h.blk (by decide)
  have hv4 : vc.ownBlock ≠ some w.heap.size := own_blk_ne h.rc h.b4 (by decide)
  have hv5 : vc.ownBlock ≠ some (w.heap.size + 1) := own_blk_ne h.rc h.b5 (by decide)
  have hvx : vc.ownBlock ≠ some gx := own_blk_ne h.rc h.bx (by decide)
  have b1 : Blk w1 (w.heap.size + 2) 28 _ := (h.blk.alloc X).grown hg (Ne.symm hv)
  have b4 : Blk w1 w.heap.size 28 _ := (h.b4.alloc X).grown hg (Ne.symm hv4)
  have b5 : Blk w1 (w.heap.size + 1) 35 _ := (h.b5.alloc X).grown hg (Ne.symm hv5)
  have bx : Blk w1 gx 28 _ := (h.bx.alloc X).grown hg (Ne.symm hvx)
  have ro1 := ownsRow_keptNe (h.ro.alloc X) (h.rc.alloc X) hg (by decide)
  have xo1 := ownsRow_keptNe (h.xro.alloc X) (h.rc.alloc X) hg (by decide)
  have xc1 := (h.xrc.alloc X).kept hg (by
    cases hb : xc.ownBlock with
    | none => exact .inl rfl
    | some b => exact .inr (fun he => h.ne b hb he.symm))
  have hgx := h.gxl
  have etk : r.codes ++ c.take (k + 1) = (r.codes ++ c.take k) ++ [c[k]] := by rw [List.take_succ_eq_append_getElem hk, List.append_assoc]
  refine ⟨by simpa using b1.set_ 1 _, b4.far (p := ⟨w.heap.size + 2, 1, none⟩) (by show w.heap.size ≠ w.heap.size + 2; omega) _, b5.far (p := ⟨w.heap.size + 2, 1, none⟩) (by show w.heap.size + 1 ≠ w.heap.size + 2; omega) _, bx.far (p := ⟨w.heap.size + 2, 1, none⟩) (by show gx ≠ w.heap.size + 2; omega) _, hgx, ownsRow_setNe ro1 (a := ⟨w.heap.size + 2, 1, none⟩) b1 (by decide) _, ?_, ownsRow_setNe xo1 (a := ⟨w.heap.size + 2, 1, none⟩) b1 (by decide) _, ownsRow_setNe xc1 (a := ⟨w.heap.size + 2, 1, none⟩) b1 (by decide) _, ?_, ?_, by rw [size_setCell]; omega⟩
  · have := ownsRow_setNe hown (a := ⟨w.heap.size + 2, 1, none⟩) b1 (by decide) (.slice (some ⟨gg, 0, none⟩) (n + 1) cap)
    rw [etk, i64s_snoc, List.length_append, ← hn]
    exact this
  · intro b hb he
    have he' : gg = b := by simpa [Value.ownBlock] using he
    rcases hat with h1 | h1
    · exact h.ne b hb (he' ▸ h1)
    · have := (h.xrc.lt b hb).2
      omega
  · exact ((h.bel.alloc h.bel.size X).grown hg (by rw [World.size_alloc]; have := h.bel.size; omega) (fun j hj => by have := (hr j hj).1; omega)).setCell (by show w.heap.size ≤ w.heap.size + 2; omega) _
/-- The bytes are put behind, and the stop. -/
structure OutQ (w : World) (gx : Nat) (r1 : Out) (vo vc : Value) (st : Bool) (xo xc : Value) (wk : World) : Prop where
  blk : Blk wk (w.heap.size + 2) 28 #[vo, vc, .bool st]
  b4 : Blk wk w.heap.size 28 #[.slice none 0 0, .slice none 0 0, .bool false]
  b5 : Blk wk (w.heap.size + 1) 35 #[.int .i64 0, .int .i64 0, .int .i64 0]
  bx : Blk wk gx 28 #[xo, xc, .bool r1.stop]
  ro : wk.ownsRow (w.heap.size + 3) 5 1 vo r1.out.length (u8s r1.out)
  rc : wk.ownsRow (w.heap.size + 3) 3 1 vc r1.codes.length (i64s r1.codes)
  bel : Below w.heap.size w wk
  sz : w.heap.size + 3 ≤ wk.heap.size
theorem InQ.out {w : World} {BX gx : Nat} {r : Out} {o : List UInt8} {c : List Nat} {st : Bool} {xo xc : Value} {vo vc vo' : Value} {wk w1 : World} (h : InQ w BX gx r o c st xo xc c.length vo vc wk)
    (hown : w1.ownsRow (w.heap.size + 3) 5 1 vo' (r.out.length + o.length) (u8s (r.out ++ o))) (hg : wk.grownBy w1 vo.ownBlock) : OutQ w gx ⟨r.out ++ o, r.codes ++ c, st⟩ vo' vc false xo xc (w1.setCell ⟨w.heap.size + 2, 0, none⟩ vo') := by
  have hr := h.ro.lt
  have hsz1 := hg.size
  have hs2 := h.sz
  have hv : vo.ownBlock ≠ some (w.heap.size + 2) := own_blk_ne h.ro h.blk (by decide)
  have hv4 : vo.ownBlock ≠ some w.heap.size := own_blk_ne h.ro h.b4 (by decide)
  have hv5 : vo.ownBlock ≠ some (w.heap.size + 1) := own_blk_ne h.ro h.b5 (by decide)
  have hvx : vo.ownBlock ≠ some gx := own_blk_ne h.ro h.bx (by decide)
  have b1 : Blk w1 (w.heap.size + 2) 28 _ := h.blk.grown hg (Ne.symm hv)
  have b4 : Blk w1 w.heap.size 28 _ := h.b4.grown hg (Ne.symm hv4)
  have b5 : Blk w1 (w.heap.size + 1) 35 _ := h.b5.grown hg (Ne.symm hv5)
  have bx : Blk w1 gx 28 _ := h.bx.grown hg (Ne.symm hvx)
  have hrc := h.rc
  rw [List.take_length] at hrc
  have rc1 := ownsRow_keptNe hrc h.ro hg (by decide)
  have hgx := h.gxl
  refine ⟨by simpa using b1.set_ 0 vo', b4.far (p := ⟨w.heap.size + 2, 0, none⟩) (by show w.heap.size ≠ w.heap.size + 2; omega) _, b5.far (p := ⟨w.heap.size + 2, 0, none⟩) (by show w.heap.size + 1 ≠ w.heap.size + 2; omega) _, bx.far (p := ⟨w.heap.size + 2, 0, none⟩) (by show gx ≠ w.heap.size + 2; omega) _, ?_, ownsRow_setNe rc1 (a := ⟨w.heap.size + 2, 0, none⟩) b1 (by decide) _, ?_, by rw [size_setCell]; omega⟩
  · have := ownsRow_setNe hown (a := ⟨w.heap.size + 2, 0, none⟩) b1 (by decide) vo'
    show (w1.setCell _ _).ownsRow _ _ 1 vo' (r.out ++ o).length _
    rw [List.length_append]
    exact this
  · exact (h.bel.grown hg h.bel.size (fun j hj => by have := (hr j hj).1; omega)).setCell (by show w.heap.size ≤ w.heap.size + 2; omega) _
theorem OutQ.set {w : World} {gx : Nat} {r1 : Out} {vo vc : Value} {st : Bool} {xo xc : Value} {wk : World} (h : OutQ w gx r1 vo vc st xo xc wk) (hgx : w.heap.size + 3 ≤ gx) (s : Bool) : OutQ w gx r1 vo vc s xo xc (wk.setCell ⟨w.heap.size + 2, 2, none⟩ (.bool s)) :=
  ⟨by simpa using h.blk.set_ 2 (.bool s), h.b4.far (p := ⟨w.heap.size + 2, 2, none⟩) (by show w.heap.size ≠ w.heap.size + 2; omega) _, h.b5.far (p := ⟨w.heap.size + 2, 2, none⟩) (by show w.heap.size + 1 ≠ w.heap.size + 2; omega) _, h.bx.far (p := ⟨w.heap.size + 2, 2, none⟩) (by show gx ≠ w.heap.size + 2; omega) _,
    ownsRow_setNe h.ro (a := ⟨w.heap.size + 2, 2, none⟩) h.blk (by decide) _, ownsRow_setNe h.rc (a := ⟨w.heap.size + 2, 2, none⟩) h.blk (by decide) _, h.bel.setCell (by show w.heap.size ≤ w.heap.size + 2; omega) _, by rw [size_setCell]; exact h.sz⟩
/-- One round of Run's loop in plain words. -/
theorem runF_end {m : Nat} {L : List Part} {O : List (List UInt8)} {r r1 : Out} {t : Nat} {go : Bool} (hx : once L O r 0 = (r1, t, go)) (h : go = false ∨ (O.drop t).length = 0 ∨ t = 0) : runF (m + 1) L O r = r1 := by
  unfold runF
  rw [hx]
  exact if_pos h
theorem runF_go {m : Nat} {L : List Part} {O : List (List UInt8)} {r r1 : Out} {t : Nat} {go : Bool} (hx : once L O r 0 = (r1, t, go)) (h : ¬ (go = false ∨ (O.drop t).length = 0 ∨ t = 0)) : runF (m + 1) L O r = runF m L (O.drop t) r1 := by
  conv => lhs; unfold runF
  rw [hx]
  exact if_neg h

theorem own_at {w : World} {B n cap k : Nat} {e : TypeId} {a : Option Addr} {xs : List Value} (h : w.ownsRow B e 1 (.slice a n cap) n xs) (hk : k < n) : ∃ b, a = some ⟨b, 0, none⟩ ∧ w.cell? ⟨b, k, none⟩ = xs[k]? := by
  obtain ⟨a', cap', he, h1, h2, h3⟩ := ownsRow_form h
  simp only [Value.slice.injEq, true_and] at he
  obtain ⟨rfl, rfl⟩ := he
  obtain ⟨g, rfl, _, _⟩ := h3 (by omega)
  exact ⟨g, rfl, h.cellAt _ (by omega)⟩
theorem own_bs {w : World} {B cap : Nat} {a : Option Addr} {l : List UInt8} (h : w.ownsRow B 5 1 (.slice a l.length cap) l.length (u8s l)) : Bs w a cap l := by
  obtain ⟨a', cap', he, h1, h2, h3⟩ := ownsRow_form h
  simp only [Value.slice.injEq, true_and] at he
  obtain ⟨rfl, rfl⟩ := he
  refine ⟨h1, h2, fun i hi => ?_⟩
  obtain ⟨g, rfl, _, _⟩ := h3 (by omega)
  refine ⟨g, 0, rfl, ?_⟩
  rw [Nat.zero_add, h.cellAt i (by omega)]
  simp [u8s, hi]
theorem mem19 {c : List Nat} {k : Nat} (h : k < c.length) : decide (19 ∈ c.take (k + 1)) = (decide (19 ∈ c.take k) || (c[k] == 19)) := by
  have e : 19 ∈ c.take (k + 1) ↔ (19 ∈ c.take k ∨ 19 = c[k]) := by rw [List.take_succ_eq_append_getElem h, List.mem_append, List.mem_singleton]
  by_cases h1 : 19 ∈ c.take k
  · rw [decide_eq_true (e.2 (.inl h1)), decide_eq_true h1]; rfl
  · by_cases h2 : c[k] = 19
    · rw [decide_eq_true (e.2 (.inr h2.symm)), h2]; simp
    · rw [decide_eq_false (fun h' => (e.1 h').elim h1 (fun h3 => h2 h3.symm)), decide_eq_false h1]; simp [h2]
theorem OutQ.next {w : World} {gx : Nat} {L : List Part} {O : List (List UInt8)} {m t : Nat} {ops : List ByteArray} {a : Option Addr} {cap : Nat} {r : Out} {o : List UInt8} {c : List Nat} {go : Bool} {vo vc xo xc : Value} {wk : World} (h : OutQ w gx ⟨r.out ++ o, r.codes ++ c, false⟩ vo vc false xo xc wk)
    (hx : once L (ops.map bl) r 0 = (⟨r.out ++ o, r.codes ++ c, false⟩, t, go)) (heq : runF (m + 1) L (ops.map bl) r = runF (O.length + 1) L O ⟨[], [], false⟩) (hfu : ops.length + 1 ≤ m + 1) (hn : ¬ (go = false ∨ ops.length - t = 0 ∨ t = 0)) (ht : t ≤ ops.length)
    (hcl : r.codes.length + 6000 * ops.length ≤ 6000 * 64) (hc : c.length ≤ 6000) (hol : r.out.length + o.length ≤ 65536) (hos : Ss w a cap ops) (hoz : ∀ S ∈ ops, S.size ≤ 1024) :
    RunQ w L O m (ops.drop t) (cutA a cap t) (cap - t) ⟨r.out ++ o, r.codes ++ c, false⟩ vo vc wk := by
  refine ⟨?_, by rw [List.length_drop]; omega, h.blk, h.b4, h.b5, h.ro, h.rc, h.bel, h.sz, rfl, by show (r.out ++ o).length ≤ _; rw [List.length_append]; exact hol, ?_, hos.cut t ht, fun S hS => hoz S (List.mem_of_mem_drop hS)⟩
  · rw [← heq, List.map_drop]
    refine (runF_go hx ?_).symm
    rw [List.length_drop, List.length_map]
    exact hn
  · show (r.codes ++ c).length + _ ≤ _
    rw [List.length_append, List.length_drop]
    omega

set_option maxRecDepth 100000 in
set_option maxHeartbeats 8000000 in
/-- pidginref14.Run. -/
theorem ref_Run (B : Nat) (v : Value) (L : List Part) (w : World) (hp : PartsC B w v L) (hL : L.length ≤ 5000) (hlits : ∀ p ∈ L, p.lit.length ≤ 5000) (hwp : ∀ p ∈ L, p.width ≤ 5000 ∧ p.prec < 5000)
    (hcv : ∀ p ∈ L, p.conv ≠ 0 → p.conv = 99 ∨ p.conv = 115 ∨ p.conv = 98 ∨ p.conv = 100 ∨ p.conv = 117 ∨ p.conv = 111 ∨ p.conv = 120 ∨ p.conv = 88)
    (a : Option Addr) (cap : Nat) (ops : List ByteArray) (hO : Ss w a cap ops) :
    Calls Tryz.prog 9 #[v, .slice a ops.length cap] w (RRunPost w (run L (ops.map bl))) := by
  have hoc := hO.1
  have hom := hO.2.1
  unfold maxLen at hom
  have CF := Lib.hid ref_fault
  by_cases h64 : 64 < ops.length
  · have HR : Hid (run L (ops.map bl) = .error (5, 0)) := by show run _ _ = _; unfold run; rw [List.length_map, if_pos h64]
    have hd : decide (64 < (ops.length : Int)) = true := decide_eq_true (by omega)
    clear hp hL hlits hwp hcv hO
    go_enter Tryz.func9, Tryz.ntmps9
    go_wp2_with (go_at_call 18; refine (CF.out _ _ _).mono ?_; rintro e w' ⟨rfl, rfl⟩)
    try rw [Exit.noGoto_ret]
    refine bodyPost_ret (v := .tuple #[.agg #[.slice none 0 0, .slice none 0 0, .bool false], .agg #[.int .i64 5, .int .i64 0, .int .i64 5]]) (by simp [results, Tryz.results9, go_sem]) rfl ?_
    exact rrun_err HR.out (((((Below.refl _ _).alloc (Nat.le_refl _) _).alloc (by simp) _).alloc (by simp; omega) _).alloc (by simp; omega) _) rfl
  have hd : decide (64 < (ops.length : Int)) = false := decide_eq_false (by omega)
  obtain ⟨i1, hi1, hy0, hy1, hy2⟩ := info_parts Tryz.infoInt
  have HR : Hid (run L (ops.map bl) = match tooLong (ops.map bl) 0 with | some i => .error (2, i) | none => .ok (runF ((ops.map bl).length + 1) L (ops.map bl) ⟨[], [], false⟩)) := by show run _ _ = _; unfold run; rw [List.length_map, if_neg (by omega)]; cases tooLong (ops.map bl) 0 <;> rfl
  obtain ⟨pa, pcap, rfl, hpc, hpm, _⟩ := hp.cells
  unfold maxLen at hpm
  have HP := Lib.hid hp
  have HLI := Lib.hid hlits
  have HWP := Lib.hid hwp
  have HCV := Lib.hid hcv
  have HO := Lib.hid hO
  clear hp hlits hwp hcv hO
  go_enter Tryz.func9, Tryz.ntmps9
  go_wp2_with fail
  go_loopw [21] (fun kv wr => ∃ (k : Nat), k ≤ ops.length ∧ kv = .int .i64 k ∧ Hid (tooLong ((ops.map bl).drop k) k = tooLong (ops.map bl) 0) ∧ ((w.alloc (.cells #[.slice none 0 0, .slice none 0 0, .bool false] 28)).alloc (.cells #[.int .i64 0, .int .i64 0, .int .i64 0] 35)) = wr) (fun kv _ => ops.length - (intOf kv).toNat)
  case atStart => exact ⟨0, by omega, rfl, rfl, rfl⟩
  case round =>
    obtain ⟨k, hk, rfl, HT, rfl⟩ := hrel
    by_cases hlt : k < ops.length
    · obtain ⟨b0, o0, rfl, hc0⟩ := HO.out.2.2 k hlt
      have hb0 := lt_of_cell hc0
      obtain ⟨S, hS⟩ : ∃ S, ops[k] = S := ⟨_, rfl⟩
      have hml : k < (ops.map bl).length := by rw [List.length_map]; exact hlt
      have hgl : (ops.map bl)[k].length = S.size := by rw [List.getElem_map, hS, bl_length]
      rw [hS] at hc0
      clear hS
      by_cases hs : 1024 < S.size
      · have ds : decide (1024 < (S.size : Int)) = true := decide_eq_true (by omega)
        have HE : Hid (run L (ops.map bl) = .error (2, k)) := by
          show _ = _
          rw [HR.out, ← HT.out, tooLong_yes hml (by omega)]
        clear hs hgl
        go_wp2_with (go_at_call 18; refine (CF.out _ _ _).mono ?_; rintro e w' ⟨rfl, rfl⟩)
        try rw [Exit.noGoto_ret]
        refine bodyPost_ret (v := .tuple #[.agg #[.slice none 0 0, .slice none 0 0, .bool false], .agg #[.int .i64 2, .int .i64 k, .int .i64 5]]) (by simp [results, Tryz.results9, go_sem]) rfl ?_
        exact rrun_err HE.out (((((Below.refl _ _).alloc (Nat.le_refl _) _).alloc (by simp) _).alloc (by simp; omega) _).alloc (by simp; omega) _) rfl
      · have ds : decide (1024 < (S.size : Int)) = false := decide_eq_false (by omega)
        have HT2 := Lib.hid ((tooLong_go hml (by omega)).symm.trans HT.out)
        clear hs hgl
        go_wp2_with fail
        go_roundw
        case rel => exact ⟨k + 1, by omega, by go_num, HT2, trivial⟩
        case measure => simp [intOf]; omega
    · have HT2 : Hid (tooLong (ops.map bl) 0 = none) := HT.out.symm.trans (tooLong_end (by rw [List.length_map]; omega))
      have HRR : Hid (run L (ops.map bl) = .ok (runF ((ops.map bl).length + 1) L (ops.map bl) ⟨[], [], false⟩)) := by show _ = _; rw [HR.out, HT2.out]
      have HSZ : Hid (∀ S ∈ ops, S.size ≤ 1024) := fun S hS => by rw [← bl_length]; exact tooLong_none _ _ HT2.out _ (List.mem_map.2 ⟨S, hS, rfl⟩)
      clear HT HT2 HR
      go_wp2_with fail
      go_loopw [1] (fun ov wr => ∃ (n : Nat) (ops' : List ByteArray) (a' : Option Addr) (cap' : Nat) (r : Out) (vo vc : Value), ops'.length ≤ cap' ∧ cap' ≤ 2 ^ 63 - 1 ∧ ops'.length ≤ 64 ∧ ov = .slice a' ops'.length cap' ∧ Hid (RunQ w L (ops.map bl) n ops' a' cap' r vo vc wr)) (fun ov _ => match ov with | .slice _ n _ => n | _ => 0)
      case atStart =>
        refine ⟨(ops.map bl).length + 1, ops, a, cap, ⟨[], [], false⟩, .slice none 0 0, .slice none 0 0, hoc, hom, by omega, rfl, ⟨rfl, by rw [List.length_map]; omega, ?_, ((Blk.new w _ _).alloc _).alloc _, ?_, World.ownsRow_nil _ _ _ _, World.ownsRow_nil _ _ _ _, (((Below.refl _ _).alloc (Nat.le_refl _) _).alloc (by simp) _).alloc (by simp; omega) _, by simp, rfl, by simp, by simp; omega, HO.out, HSZ.out⟩⟩
        · have := Blk.new ((w.alloc (.cells #[.slice none 0 0, .slice none 0 0, .bool false] 28)).alloc (.cells #[.int .i64 0, .int .i64 0, .int .i64 0] 35)) 28 #[.slice none 0 0, .slice none 0 0, .bool false]
          simpa using this
        · have := (Blk.new (w.alloc (.cells #[.slice none 0 0, .slice none 0 0, .bool false] 28)) 35 #[.int .i64 0, .int .i64 0, .int .i64 0]).alloc (.cells #[.slice none 0 0, .slice none 0 0, .bool false] 28)
          simpa using this
      case round =>
        obtain ⟨n, ops', a', cap', r, vo, vc, hoc', hom', h64', rfl, HRL⟩ := hrel
        obtain ⟨m, rfl⟩ : ∃ m, n = m + 1 := ⟨n - 1, by have := HRL.out.fuel; omega⟩
        have hxb := once_bounds L (ops'.map bl) r 0 HRL.out.rol HRL.out.st
        have hbel := HRL.out.bel
        have CO := ref_once B _ L wr (HP.out.below hbel (Nat.le_refl _)) hL HLI.out HWP.out HCV.out a' cap' ops' (HRL.out.os.below hbel (Nat.le_refl _)) (fun S hS => by have := HRL.out.opz S hS; omega) r HRL.out.rol HRL.out.st
        obtain ⟨oa, oc, hvo, _, _, _⟩ := ownsRow_form HRL.out.ro
        subst hvo
        have p0 := HRL.out.blk.cell 0
        have hszr := HRL.out.sz
        have CO := Lib.hid CO
        have HXB := Lib.hid hxb
        clear hbel hxb
        go_wp2_with fail
        refine CO.out.mono ?_
        rintro e w2 ⟨o, c, st, t, go, xo, xc, rfl, hb2, hxo, hxc, hEQ, htk, hcl, hgo⟩
        rw [List.length_map] at htk
        obtain ⟨xoa, xoc, hxo', _, hxo2, _⟩ := ownsRow_form hxo
        subst hxo'
        obtain ⟨xca, xcc, hxc', _, hxc2, hxc3⟩ := ownsRow_form hxc
        subst hxc'
        unfold maxLen at hxc2 hxo2
        have HXB := Lib.hid HXB.out
        have hX := HXB.out
        rw [hEQ] at hX
        have hol : r.out.length + o.length ≤ 65536 := by have := hX.1; simpa using this
        have HEQ := Lib.hid hEQ
        have HGO := Lib.hid hgo
        have hszx := hb2.size
        have HIN : Hid (InQ w wr.heap.size w2.heap.size r o c st (.slice xoa o.length xoc) (.slice xca c.length xcc) 0 (.slice oa r.out.length oc) vc (w2.alloc (.cells #[.slice xoa o.length xoc, .slice xca c.length xcc, .bool st] 28))) :=
          ⟨(HRL.out.blk.below hb2 HRL.out.blk.lt).alloc _, (HRL.out.b4.below hb2 HRL.out.b4.lt).alloc _, (HRL.out.b5.below hb2 HRL.out.b5.lt).alloc _, Blk.new _ _ _, by omega, (ownsRow_below HRL.out.ro hb2 (Nat.le_refl _)).alloc _, (by rw [List.take_zero, List.append_nil]; exact (ownsRow_below HRL.out.rc hb2 (Nat.le_refl _)).alloc _), hxo.alloc _, hxc.alloc _,
            (fun b hb he => by have h1 := (hxc.lt b hb).1; have h2 := (HRL.out.rc.lt b he).2; omega), (HRL.out.bel.trans (hb2.mono HRL.out.bel.size)).alloc (by have := HRL.out.bel.size; omega) _, by rw [World.size_alloc]; omega⟩
        have hcut := fun (W : World) => run_cutStr a' ops'.length cap' t htk W
        have hrcl := HRL.out.rcl
        have HRF := Lib.hid HRL.out.eq
        have HFU := Lib.hid HRL.out.fuel
        have HOS := Lib.hid HRL.out.os
        have HOZ := Lib.hid HRL.out.opz
        obtain ⟨gx, hgx⟩ : ∃ gx, gx = w2.heap.size := ⟨_, rfl⟩
        clear HRL CO HXB hX hEQ hgo p0 hxo hxc hxc3
        go_wp2_with fail
        go_loopw [11, 49] (fun fv iv wk => ∃ (k : Nat) (fb : Bool) (vc' : Value), k ≤ c.length ∧ fv = .bool fb ∧ iv = .int .i64 k ∧ Hid (fb = decide (19 ∈ c.take k)) ∧ Hid (InQ w wr.heap.size w2.heap.size r o c st (.slice xoa o.length xoc) (.slice xca c.length xcc) k (.slice oa r.out.length oc) vc' wk)) (fun _ iv _ => c.length - (intOf iv).toNat)
        case atStart => exact ⟨0, false, vc, by omega, rfl, rfl, by show _ = _; simp, HIN.out⟩
        case round =>
          obtain ⟨k, fb, vc', hk, rfl, rfl, HFB, HI⟩ := hrel
          have hszk := HI.out.sz
          have z1 := HI.out.blk.cell 1
          by_cases hlt : k < c.length
          · obtain ⟨xb, rfl, hz⟩ := own_at HI.out.xrc hlt
            obtain ⟨x, hx⟩ : ∃ x, c[k] = x := ⟨_, rfl⟩
            have hz1 : wr.cell? ⟨xb, k, none⟩ = some (.int .i64 x) := by rw [hz]; simp [i64s, hlt, hx]
            have HXX := Lib.hid hx
            obtain ⟨nn, hnn⟩ : ∃ nn, nn = (r.codes ++ c.take k).length := ⟨_, rfl⟩
            have hnb : nn ≤ 500000 := by rw [hnn, List.length_append, List.length_take]; omega
            have hrc := HI.out.rc
            rw [← hnn] at hrc
            have HRC := Lib.hid hrc
            have HNN := Lib.hid hnn
            have HVG := Lib.hid (own_blk_ne HI.out.rc HI.out.blk (by decide))
            have HBA := Lib.hid (HI.out.blk.alloc (.cells #[.int .i64 x] 3))
            clear hz hx hnn hrc
            cases fb
            · by_cases h19 : x = 19
              · have e19 : ((x : Int) == 19) = true := beq_iff_eq.2 (by omega)
                have HFN : Hid (true = decide (19 ∈ c.take (k + 1))) := by show _ = _; rw [mem19 hlt, HXX.out, h19]; simp
                clear h19
                try simp only [Int.cast_ofNat_Int] at e19
                go_wp2_with (at_builtin; refine wpList_append_lies _ rfl (.tmp 59) (.tmp 61) _ rfl (w.heap.size + 3) 3 i1 _ 1 8 Tryz.underlying26 hi1 hy0 hy1 hy2 rfl (by omega) vc' nn (i64s (r.codes ++ c.take k)) rfl (HRC.out.alloc _) ⟨wr.heap.size, 0, none⟩ 1 1 [.int .i64 x] rfl rfl (World.news_of_block (cs := #[.int .i64 x]) (t := 3) (fr := (0, 0)) (heap_alloc_new wr _)) (by simp [Value.oneCell']) (by omega) (by unfold maxLen; omega) (by omega) (by simp; omega) (wr.heap.size + 1) (by simp) ?_; intro gg cap3 w8 hown3 hgrow3 hat3 hlt3; obtain ⟨dd1, dd2⟩ := pr_facts hgrow3 HBA.out.lt HVG.out (HBA.out.cell 1) (HBA.out.frozen 1); have HI8 := Lib.hid (HI.out.step hlt HNN.out (by rw [HXX.out]; exact hown3) hgrow3 hat3); clear hown3 hgrow3 hat3)
                go_roundw
                case rel => exact ⟨k + 1, true, _, by omega, rfl, by go_num, HFN, HI8⟩
                case measure => simp [intOf]; omega
              · have e19 : ((x : Int) == 19) = false := beq_eq_false_iff_ne.2 (by omega)
                have HFN : Hid (false = decide (19 ∈ c.take (k + 1))) := by show _ = _; rw [mem19 hlt, HXX.out, ← HFB.out]; simp [h19]
                clear h19
                try simp only [Int.cast_ofNat_Int] at e19
                go_wp2_with (at_builtin; refine wpList_append_lies _ rfl (.tmp 59) (.tmp 61) _ rfl (w.heap.size + 3) 3 i1 _ 1 8 Tryz.underlying26 hi1 hy0 hy1 hy2 rfl (by omega) vc' nn (i64s (r.codes ++ c.take k)) rfl (HRC.out.alloc _) ⟨wr.heap.size, 0, none⟩ 1 1 [.int .i64 x] rfl rfl (World.news_of_block (cs := #[.int .i64 x]) (t := 3) (fr := (0, 0)) (heap_alloc_new wr _)) (by simp [Value.oneCell']) (by omega) (by unfold maxLen; omega) (by omega) (by simp; omega) (wr.heap.size + 1) (by simp) ?_; intro gg cap3 w8 hown3 hgrow3 hat3 hlt3; obtain ⟨dd1, dd2⟩ := pr_facts hgrow3 HBA.out.lt HVG.out (HBA.out.cell 1) (HBA.out.frozen 1); have HI8 := Lib.hid (HI.out.step hlt HNN.out (by rw [HXX.out]; exact hown3) hgrow3 hat3); clear hown3 hgrow3 hat3)
                go_roundw
                case rel => exact ⟨k + 1, false, _, by omega, rfl, by go_num, HFN, HI8⟩
                case measure => simp [intOf]; omega
            · have HFN : Hid (true = decide (19 ∈ c.take (k + 1))) := by show _ = _; rw [mem19 hlt, ← HFB.out]; simp
              skip
              go_wp2_with (at_builtin; refine wpList_append_lies _ rfl (.tmp 59) (.tmp 61) _ rfl (w.heap.size + 3) 3 i1 _ 1 8 Tryz.underlying26 hi1 hy0 hy1 hy2 rfl (by omega) vc' nn (i64s (r.codes ++ c.take k)) rfl (HRC.out.alloc _) ⟨wr.heap.size, 0, none⟩ 1 1 [.int .i64 x] rfl rfl (World.news_of_block (cs := #[.int .i64 x]) (t := 3) (fr := (0, 0)) (heap_alloc_new wr _)) (by simp [Value.oneCell']) (by omega) (by unfold maxLen; omega) (by omega) (by simp; omega) (wr.heap.size + 1) (by simp) ?_; intro gg cap3 w8 hown3 hgrow3 hat3 hlt3; obtain ⟨dd1, dd2⟩ := pr_facts hgrow3 HBA.out.lt HVG.out (HBA.out.cell 1) (HBA.out.frozen 1); have HI8 := Lib.hid (HI.out.step hlt HNN.out (by rw [HXX.out]; exact hown3) hgrow3 hat3); clear hown3 hgrow3 hat3)
              go_roundw
              case rel => exact ⟨k + 1, true, _, by omega, rfl, by go_num, HFN, HI8⟩
              case measure => simp [intOf]; omega
          · obtain rfl : k = c.length := by omega
            have hfb := HFB.out
            rw [List.take_length] at hfb
            have HFC := Lib.hid hfb
            have z0 := HI.out.blk.cell 0
            have x0 := HI.out.bx.cell 0
            have x2 := HI.out.bx.cell 2
            have HBS := Lib.hid (own_bs HI.out.xro)
            have HVO := Lib.hid (own_blk_ne HI.out.ro HI.out.blk (by decide))
            have hgxl := HI.out.gxl
            clear hfb HFB
            go_upto_region 20 with (at_builtin; refine wpList_append_bsN rfl (.tmp 66) (.tmp 68) rfl (w.heap.size + 3) r.out.length (.slice oa r.out.length oc) r.out rfl HI.out.ro xoa o.length xoc o rfl rfl HBS.out (by omega) hszk ?_; intro oa2 oc2 w8 hown hgrow; obtain ⟨dd1, dd2⟩ := pr_facts hgrow HI.out.blk.lt HVO.out (HI.out.blk.cell 0) (HI.out.blk.frozen 0); have HQ := Lib.hid (HI.out.out hown hgrow); clear hown hgrow)
            have hQ := HQ.out
            clear HQ dd1 dd2 z0 x0 x2 z1 HBS HVO HI HIN
            generalize (World.setCell w8 ⟨w.heap.size + 2, 0, none⟩ _) = W9 at *
            obtain ⟨ca, cc, hvc, _, _, _⟩ := ownsRow_form hQ.rc
            obtain ⟨nc, hnc⟩ : ∃ nc, nc = (r.codes ++ c).length := ⟨_, rfl⟩
            have hvc2 : vc' = .slice ca nc cc := by rw [hvc, hnc]
            clear hvc hnc
            subst hvc2
            have x2 := hQ.bx.cell 2
            have u2 := hQ.blk.cell 2
            have uf2 := hQ.blk.frozen 2
            have HQ := Lib.hid hQ
            clear hQ
            go_upto_region 21 with (fail)
            have hQ := HQ.out.set hgxl st
            clear HQ x2 u2 uf2
            generalize (World.setCell W9 ⟨w.heap.size + 2, 2, none⟩ _) = W10 at *
            have x2 := hQ.bx.cell 2
            have HQ := Lib.hid hQ
            clear hQ
            go_cut [87] (fun v wx => v = .bool (fb || st || (ops'.length - t == 0) || (t == 0)) ∧ wx = W10)
            case first =>
              cases fb
              · cases st
                · by_cases hl : ops'.length - t = 0
                  · have el : (((ops'.length - t : Nat) : Int) == 0) = true := beq_iff_eq.2 (by omega)
                    have HL0 := Lib.hid hl
                    clear hl
                    go_wp2_with fail
                    go_meet
                    exact ⟨by simp [HL0.out], rfl⟩
                  · have el : (((ops'.length - t : Nat) : Int) == 0) = false := beq_eq_false_iff_ne.2 (by omega)
                    have HL0 := Lib.hid hl
                    clear hl
                    by_cases ht0 : t = 0
                    · have et : ((t : Int) == 0) = true := beq_iff_eq.2 (by omega)
                      have HT0 := Lib.hid ht0
                      clear ht0
                      go_wp2_with fail
                      go_meet
                      exact ⟨by simp [HT0.out], rfl⟩
                    · have et : ((t : Int) == 0) = false := beq_eq_false_iff_ne.2 (by omega)
                      have HT0 := Lib.hid ht0
                      clear ht0
                      go_wp2_with fail
                      go_meet
                      exact ⟨by simp [HT0.out, HL0.out], rfl⟩
                · go_wp2_with fail
                  go_meet
                  exact ⟨by simp, rfl⟩
              · go_wp2_with fail
                go_meet
                exact ⟨by simp, rfl⟩
            case rest =>
              obtain ⟨hv, hw⟩ := hcut
              subst hw
              generalize hbb : (fb || st || (ops'.length - t == 0) || (t == 0)) = bb at hv
              subst hv
              have hcond : bb = true ↔ (go = false ∨ ops'.length - t = 0 ∨ t = 0) := by
                rw [← hbb, HGO.out]
                simp only [Bool.or_eq_true, beq_iff_eq, HFC.out, decide_eq_true_eq]
                constructor
                · rintro (((h | h) | h) | h)
                  · exact .inl (.inr h)
                  · exact .inl (.inl h)
                  · exact .inr (.inl h)
                  · exact .inr (.inr h)
                · rintro ((h | h) | h | h)
                  · exact .inl (.inl (.inr h))
                  · exact .inl (.inl (.inl h))
                  · exact .inl (.inr h)
                  · exact .inr h
              cases bb
              · have hst : st = false := by cases st with | false => rfl | true => simp at hbb
                subst hst
                have HRND := Lib.hid (HQ.out.next HEQ.out HRF.out HFU.out (fun h => by have := hcond.2 h; cases this) htk hrcl (by omega) hol HOS.out HOZ.out)
                have ht0 : t ≠ 0 := fun h => by have := hcond.2 (.inr (.inr h)); cases this
                clear hbb hcond
                go_wp2_with fail
                go_roundw
                case rel => exact ⟨m, ops'.drop t, cutA a' cap' t, cap' - t, _, _, _, by rw [List.length_drop]; omega, by omega, by rw [List.length_drop]; omega, by rw [List.length_drop], HRND.out⟩
                case measure => simp; omega
              · have hE := runF_end (m := m) HEQ.out (by rw [List.length_drop, List.length_map]; exact hcond.1 rfl)
                have HRES : Hid (run L (ops.map bl) = .ok ⟨r.out ++ o, r.codes ++ c, st⟩) := by show _ = _; rw [HRR.out, ← HRF.out, hE]
                clear hE hbb hcond
                have r0 := HQ.out.blk.cell 0
                have r1 := HQ.out.blk.cell 1
                have r2 := HQ.out.blk.cell 2
                have y0 := HQ.out.b4.cell 0
                have y1 := HQ.out.b4.cell 1
                have y2 := HQ.out.b4.cell 2
                have yf0 := HQ.out.b4.frozen 0
                have yf1 := HQ.out.b4.frozen 1
                have yf2 := HQ.out.b4.frozen 2
                have e0 := HQ.out.b5.cell 0
                have e1 := HQ.out.b5.cell 1
                have e2 := HQ.out.b5.cell 2
                have ef0 := HQ.out.b5.frozen 0
                have ef1 := HQ.out.b5.frozen 1
                have ef2 := HQ.out.b5.frozen 2
                have b5s := HQ.out.b5.far3 (show w.heap.size + 1 ≠ w.heap.size by omega) (.slice oa2 (r.out.length + o.length) oc2) (.slice ca nc cc) (.bool st)
                have v0 := b5s.cell 0
                have v1 := b5s.cell 1
                have v2 := b5s.cell 2
                have vf0 := b5s.frozen 0
                have vf1 := b5s.frozen 1
                have vf2 := b5s.frozen 2
                have HB5 := Lib.hid b5s
                clear b5s
                go_wp2_with fail
                try rw [Exit.noGoto_ret]
                have b3 := (set3F HQ.out.b4 (.slice oa2 (r.out.length + o.length) oc2) (.slice ca nc cc) (.bool st)).far3 (show w.heap.size ≠ w.heap.size + 1 by omega) (.int .i64 0) (.int .i64 0) (.int .i64 0)
                have b7 := set3F HB5.out (.int .i64 0) (.int .i64 0) (.int .i64 0)
                have q0 := b3.cell 0
                have q1 := b3.cell 1
                have q2 := b3.cell 2
                have s0 := b7.cell 0
                have s1 := b7.cell 1
                have s2 := b7.cell 2
                have hro := HQ.out.ro
                have hpost := rrun_ok HRES.out HQ.out.b4 HQ.out.b5 (show w.heap.size ≤ w.heap.size + 3 by omega) HQ.out.ro HQ.out.rc HQ.out.bel (.slice oa2 (r.out.length + o.length) oc2) (.slice ca nc cc) (.bool st) (.int .i64 0) (.int .i64 0) (.int .i64 0)
                generalize (World.setCell _ ⟨w.heap.size + 1, 2, none⟩ _) = W13 at *
                refine bodyPost_ret (v := .tuple #[.agg #[.slice oa2 (r.out.length + o.length) oc2, .slice ca nc cc, .bool st], .agg #[.int .i64 0, .int .i64 0, .int .i64 0]]) (by simp [results, Tryz.results9, go_sem, q0, q1, q2, s0, s1, s2]) rfl ?_
                exact hpost
end Go.Proofs.YtppcjmbblkbkdaaGreatDoor
