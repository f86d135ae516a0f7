/- Arguments opened: bytes, strings. No conditions. -/
import Derived.Test.YtppcjmbblkbkdaaGreatDoorRun
import Derived.SliceStrings
import Derived.ChangeSlices
import Derived.OpenShut
namespace Go.Proofs.YtppcjmbblkbkdaaGreatDoor
open Go.RowKit Go.ChangeShapes Go.WideShapes

theorem strings_of {W : World} (x : Addr) (len cap : Nat) (ss : List ByteArray) (hz : len ≤ ss.length) (hl : len ≤ cap) (hm : cap ≤ maxLen) (hcell : ∀ i, i < ss.length → W.cell? (x.add i) = some (.string (ss.getD i ByteArray.empty))) :
    ∃ l, len = l.length ∧ Ss W (some x) cap l := by
  refine ⟨ss.take len, by simp; omega, by simp; omega, hm, fun i hi => ?_⟩
  have hi' : i < len ∧ i < ss.length := by simp at hi; omega
  have hc := hcell i hi'.2
  obtain ⟨bx, ox, spot⟩ := x
  have hspot : spot = none := by simpa [Addr.add] using World.cell?_spot (hcell 0 (by omega))
  subst hspot
  refine ⟨bx, ox, rfl, ?_⟩
  rw [addr_add] at hc
  rw [hc]
  simp [hi'.2]
theorem bytes_of {W : World} (x : Addr) (len cap : Nat) (zs : List Int) (hz : len ≤ zs.length) (hl : len ≤ cap) (hm : cap ≤ maxLen) (hcell : ∀ i, i < zs.length → W.cell? (x.add i) = some (.int .u8 (zs.getD i 0))) (hwz : ∀ z ∈ zs, (Lit.int .u8 z).wf = true) :
    ∃ l, len = l.length ∧ Bs W (some x) cap l := by
  refine ⟨(zs.take len).map fun z => UInt8.ofNat z.toNat, by simp; omega, by simp; omega, hm, fun i hi => ?_⟩
  have hi' : i < len ∧ i < zs.length := by simp at hi; omega
  have hc := hcell i hi'.2
  obtain ⟨bx, ox, spot⟩ := x
  have hspot : spot = none := by simpa [Addr.add] using World.cell?_spot (hcell 0 (by omega))
  subst hspot
  refine ⟨bx, ox, rfl, ?_⟩
  rw [addr_add] at hc
  have hb := bounds_u8 (hwz zs[i] (List.getElem_mem hi'.2))
  have e : zs.getD i 0 = (((UInt8.ofNat (zs[i]).toNat).toNat : Nat) : Int) := by
    rw [List.getD_eq_getElem?_getD, List.getElem?_eq_getElem hi'.2, Option.getD_some]
    simp
    omega
  rw [hc, e]
  simp
end Go.Proofs.YtppcjmbblkbkdaaGreatDoor
