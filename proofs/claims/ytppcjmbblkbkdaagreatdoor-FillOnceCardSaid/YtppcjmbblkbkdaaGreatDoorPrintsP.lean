/- What the walks of law 15 over the reference share: what Tell tells, what is the same, pidginref14.Run of what a format is parsed to. Conditions as typed. -/
import Derived.Test.YtppcjmbblkbkdaaGreatDoorRefC
import Derived.Test.YtppcjmbblkbkdaaGreatDoorSame
import Derived.Test.YtppcjmbblkbkdaaGreatDoorRefD
import Derived.Test.YtppcjmbblkbkdaaGreatDoorTell
namespace Go.Proofs.YtppcjmbblkbkdaaGreatDoor
open Go.RowKit Pg

/-- fault.Tell of an error of a code at a place, in a format. -/
theorem tell_errP (w : World) (A : Nat → Addr) (hS : Sents w A) (v : Value) (c : Nat) (p : Int) (h : ErrAt w A v c p) :
    Calls Tryz.prog 10 #[v] w fun e w' => e = .returned (.agg #[.int .i64 c, .int .i64 p, .int .i64 5]) ∧ Below w.heap.size w w' := by
  obtain ⟨b, hc, hb⟩ := h
  have := fault_Tell w A hS b c hb _ v hc
  exact this
/-- What a call leaves of a block behind which it began. -/
theorem blk_behind {W w' : World} {t : TypeId} {cs : Array Value} (hb : Below (W.alloc (.cells cs t)).heap.size (W.alloc (.cells cs t)) w') : Blk w' W.heap.size t cs := (Blk.new W t cs).below hb (by rw [World.size_alloc]; exact Nat.lt_succ_self _)
/-- The state ahead of the last line: what Tell tells of the error, and what lies in the blocks of r, f, x. -/
structure PrS (w : World) (ev : Value) (gr gf gx : Nat) (c q la : Int) (wx : World) : Prop where
  tell : ∀ W, Below wx.heap.size wx W → Calls Tryz.prog 10 #[ev] W fun e w' => e = .returned (.agg #[.int .i64 c, .int .i64 q, .int .i64 la]) ∧ Below W.heap.size W w'
  bf : Blk wx gf 35 #[.int .i64 c, .int .i64 q, .int .i64 la]
  same : ∃ r0 r1 r2 x0 x1 x2 : Value, Blk wx gr 28 #[r0, r1, r2] ∧ Blk wx gx 28 #[x0, x1, x2] ∧ ∀ W, Below wx.heap.size wx W → Calls Tryz.prog 11 #[.agg #[r0, r1, r2], .agg #[x0, x1, x2]] W fun e w' => e = .returned (.bool true) ∧ Below W.heap.size W w'
  bel : Below w.heap.size w wx
theorem same_zero (W : World) : Calls Tryz.prog 11 #[.agg #[.slice none 0 0, .slice none 0 0, .bool false], .agg #[.slice none 0 0, .slice none 0 0, .bool false]] W fun e w' => e = .returned (.bool true) ∧ Below W.heap.size W w' := by
  have := ref_Same W none none none none 0 0 0 0 0 0 0 0 [] [] [] [] false false rfl rfl rfl rfl (Bs.empty W) (Is.empty W) (Bs.empty W) (Is.empty W)
  simpa using this
/-- Bytes of a row of their own, read in a world behind. -/
theorem own_read {w W : World} {B K n cap : Nat} {a : Option Addr} {l : List UInt8} (h : w.ownsRow B 5 1 (.slice a n cap) n (u8s l)) (hn : n = l.length) (hb : Below K w W) (hK : w.heap.size ≤ K) : Bs W a cap l := by
  subst hn
  exact (own_bs h).below hb hK
theorem same_rows {wx W : World} {B1 B2 n1 n2 m1 m2 c1 c2 d1 d2 : Nat} {a1 a2 b1 b2 : Option Addr} {r : Out} (ho : wx.ownsRow B1 5 1 (.slice a1 n1 c1) n1 (u8s r.out)) (hc : wx.ownsRow B1 3 1 (.slice a2 n2 c2) n2 (i64s r.codes)) (xo : wx.ownsRow B2 5 1 (.slice b1 m1 d1) m1 (u8s r.out)) (xc : wx.ownsRow B2 3 1 (.slice b2 m2 d2) m2 (i64s r.codes)) (hn1 : n1 = r.out.length) (hn2 : n2 = r.codes.length) (hm1 : m1 = r.out.length) (hm2 : m2 = r.codes.length) (hb : Below wx.heap.size wx W) :
    Calls Tryz.prog 11 #[.agg #[.slice a1 n1 c1, .slice a2 n2 c2, .bool r.stop], .agg #[.slice b1 m1 d1, .slice b2 m2 d2, .bool r.stop]] W fun e w' => e = .returned (.bool true) ∧ Below W.heap.size W w' := by
  have := ref_Same W a1 a2 b1 b2 n1 n2 m1 m2 c1 c2 d1 d2 r.out r.out r.codes r.codes r.stop r.stop hn1 hn2 hm1 hm2 (own_read ho hn1 hb (Nat.le_refl _)) ((Is.own hc hn2).below hb (Nat.le_refl _)) (own_read xo hm1 hb (Nat.le_refl _)) ((Is.own xc hm2).below hb (Nat.le_refl _))
  simpa using this
theorem PrS.err {w wx : World} {A : Nat → Addr} {v : Value} {gr gf gx c q : Nat} (hS : Sents w A) (hE : ErrAt wx A v c q) (bf : Blk wx gf 35 #[.int .i64 c, .int .i64 q, .int .i64 5]) (br : Blk wx gr 28 #[.slice none 0 0, .slice none 0 0, .bool false]) (bx : Blk wx gx 28 #[.slice none 0 0, .slice none 0 0, .bool false]) (bel : Below w.heap.size w wx) : PrS w v gr gf gx c q 5 wx :=
  ⟨fun W hb => tell_errP W A (hS.kept (bel.trans (hb.mono bel.size)) (Nat.le_refl _)) v c q (hE.kept hb (Nat.le_refl _)), bf, ⟨_, _, _, _, _, _, br, bx, fun _ _ => same_zero _⟩, bel⟩
theorem tell_nil0 (W : World) : Calls Tryz.prog 10 #[.nilIface] W fun e w' => e = .returned (.agg #[.int .i64 0, .int .i64 0, .int .i64 0]) ∧ Below W.heap.size W w' := by
  have ct := fault_Tell_nil W
  simp only [fv] at ct
  exact ct
theorem PrS.ok {w wx : World} {gr gf gx B1 B2 n1 n2 m1 m2 c1 c2 d1 d2 : Nat} {a1 a2 b1 b2 : Option Addr} {r : Out} (ho : wx.ownsRow B1 5 1 (.slice a1 n1 c1) n1 (u8s r.out)) (hc : wx.ownsRow B1 3 1 (.slice a2 n2 c2) n2 (i64s r.codes)) (xo : wx.ownsRow B2 5 1 (.slice b1 m1 d1) m1 (u8s r.out)) (xc : wx.ownsRow B2 3 1 (.slice b2 m2 d2) m2 (i64s r.codes)) (hn1 : n1 = r.out.length) (hn2 : n2 = r.codes.length) (hm1 : m1 = r.out.length) (hm2 : m2 = r.codes.length)
    (bf : Blk wx gf 35 #[.int .i64 0, .int .i64 0, .int .i64 0]) (br : Blk wx gr 28 #[.slice a1 n1 c1, .slice a2 n2 c2, .bool r.stop]) (bx : Blk wx gx 28 #[.slice b1 m1 d1, .slice b2 m2 d2, .bool r.stop]) (bel : Below w.heap.size w wx) : PrS w .nilIface gr gf gx 0 0 0 wx :=
  ⟨fun _ _ => tell_nil0 _, bf, ⟨_, _, _, _, _, _, br, bx, fun _ hb => same_rows ho hc xo xc hn1 hn2 hm1 hm2 hb⟩, bel⟩
theorem printf_err {l : List UInt8} {O : List (List UInt8)} {e : Nat × Nat} (h : parse l = .error e) : printf l O = .error e := by unfold printf; rw [h]
theorem printf_ok {l : List UInt8} {O : List (List UInt8)} {L : List Part} (h : parse l = .ok L) : printf l O = run L O := by unfold printf; rw [h]
theorem norm_letter {L : List Part} (h : ∀ p ∈ L, p.conv ≠ 0 → Letter p.conv) : ∀ p ∈ L.map norm, p.conv ≠ 0 → p.conv = 99 ∨ p.conv = 115 ∨ p.conv = 98 ∨ p.conv = 100 ∨ p.conv = 117 ∨ p.conv = 111 ∨ p.conv = 120 ∨ p.conv = 88 := by
  intro p hp h0
  obtain ⟨q, hq, rfl⟩ := List.mem_map.1 hp
  rw [norm_conv] at h0 ⊢
  exact h q hq h0
/-- pidginref14.Run of what a format is parsed to. -/
theorem ref_RunL (B : Nat) (v : Value) (l : List UInt8) (L : List Part) (hl : parse l = .ok L) (w : World) (hp : PartsC B w v (L.map norm)) (a : Option Addr) (cap : Nat) (ops : List ByteArray) (hO : Ss w a cap ops) :
    Calls Tryz.prog 9 #[v, .slice a ops.length cap] w (RRunPost w (run L (ops.map bl))) := by
  obtain ⟨hg1, hg2⟩ := parse_good hl
  have := ref_Run B v (L.map norm) w hp (by rw [List.length_map]; omega)
    (fun p hp => by obtain ⟨q, hq, rfl⟩ := List.mem_map.1 hp; rw [norm_lit]; have := (hg2 q hq).1; omega)
    (fun p hp => by
      obtain ⟨q, hq, rfl⟩ := List.mem_map.1 hp
      have hg := hg2 q hq
      unfold GoodP at hg
      unfold norm
      split
      · exact ⟨by show q.width ≤ 5000; omega, by show (0 : Int) < 5000; omega⟩
      · omega)
    (norm_letter (parse_letter hl)) a cap ops hO
  rwa [run_norm] at this
end Go.Proofs.YtppcjmbblkbkdaaGreatDoor
