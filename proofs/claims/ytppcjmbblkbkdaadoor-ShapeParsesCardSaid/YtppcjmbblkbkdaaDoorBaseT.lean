/- The walk of scan.Text. Conditions as typed. -/
import Derived.Test.YtppcjmbblkbkdaaDoorBase
namespace Go.Proofs.YtppcjmbblkbkdaaDoor
open Go.RowKit Pg


set_option maxHeartbeats 1000000 in
/-- scan.Text of a number that is not below nought. -/
theorem scan_Text_nat (n : Nat) (w : World) (hn : n < 9223372036854775808) :
    Calls Tryd.prog 32 #[.int .i64 n] w fun e w' => e = .returned (.string ⟨(digs 10 false n).toArray⟩) ∧ Below w.heap.size w w' := by
  have C := Lib.hid (scan_Base n 10 false w (by omega) (by omega) (by omega))
  have hw := u64_of_nat (n := n) (by omega)
  have hd : decide ((n : Int) < 0) = false := decide_eq_false (by omega)
  clear hn
  go_enter Tryd.func32, Tryd.ntmps32
  go_wp2_with (go_at_call 31; refine C.out.mono ?_; rintro e w1 ⟨rfl, hb⟩; have HB := Lib.hid hb; clear hb)
  go_ret
  exact ⟨rfl, HB.out⟩
set_option maxHeartbeats 1000000 in
/-- .. below nought. -/
theorem scan_Text_neg (k : Nat) (w : World) (h1 : 1 ≤ k) (h2 : k ≤ 9223372036854775808) :
    Calls Tryd.prog 32 #[.int .i64 (-(k : Int))] w fun e w' => e = .returned (.string ⟨(45 :: digs 10 false k).toArray⟩) ∧ Below w.heap.size w w' := by
  have C := Lib.hid (scan_Base k 10 false w (by omega) (by omega) (by omega))
  have hw := u64_neg h1 h2
  have hw2 := u64_negneg h1 h2
  generalize ((18446744073709551616 - k : Nat) : Int) = X at *
  have hd : decide (-(k : Int) < 0) = true := decide_eq_true (by omega)
  have hln := digs_length 10 false k
  clear h2
  go_enter Tryd.func32, Tryd.ntmps32
  go_wp2_with (go_at_call 31; refine C.out.mono ?_; rintro e w1 ⟨rfl, hb⟩; have HB := Lib.hid hb; clear hb)
  go_ret
  exact ⟨congrArg (fun x => Ending.returned (Value.string x)) (ByteArray.mk_append_mk [45] (digs 10 false k)), HB.out⟩
end Go.Proofs.YtppcjmbblkbkdaaDoor
