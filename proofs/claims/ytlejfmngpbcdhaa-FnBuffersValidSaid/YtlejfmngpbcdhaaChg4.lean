/- What is proved here: the contract of the program's ChangeBuffer. No condition. -/
import Derived.Test.YtlejfmngpbcdhaaChg3
import Derived.Test.YtlejfmngpbcdhaaClo2
namespace Go.Proofs.Ytlejfmngpbcdhaa
open Go.RowKit

def cgSame (bs : List Bf) (nm : List UInt8) (a c : Int) (p : List UInt8) : Bool := match bs[(bfAt bs nm).toNat]? with | some b => chOk b.body a c p | none => false
def cgOk (bs : List Bf) (nm : List UInt8) (a c : Int) (p : List UInt8) : Bool := bvB bs && decide (0 ≤ bfAt bs nm) && cgSame bs nm a c p
def cgOne (bs : List Bf) (k : Nat) (a c : Int) (p : List UInt8) : List Bf := match bs[k]? with | some b => bs.set k ⟨b.name, apTo b.body a c p, b.saved⟩ | none => bs
def cgOut (bs : List Bf) (nm : List UInt8) (a c : Int) (p : List UInt8) : List Bf := if cgOk bs nm a c p then cgOne bs (bfAt bs nm).toNat a c p else if bvB bs then bs else []
theorem cgSame_at {bs : List Bf} {nm : List UInt8} {k : Nat} {a c : Int} {p : List UInt8} (hk : k < bs.length) (h : bfAt bs nm = (k : Nat)) : cgSame bs nm a c p = chOk bs[k].body a c p := by
  unfold cgSame; rw [h, Int.toNat_natCast, List.getElem?_eq_getElem hk]
theorem cgOne_at (bs : List Bf) (k : Nat) (a c : Int) (p : List UInt8) (hk : k < bs.length) : cgOne bs k a c p = bs.set k ⟨bs[k].name, apTo bs[k].body a c p, bs[k].saved⟩ := by
  unfold cgOne; rw [List.getElem?_eq_getElem hk]
theorem cgOut_len (bs : List Bf) (nm : List UInt8) (a c : Int) (p : List UInt8) : (cgOut bs nm a c p).length ≤ 9 := by
  unfold cgOut
  split
  · rename_i h
    have : bvB bs = true := by unfold cgOk at h; simp only [Bool.and_eq_true] at h; exact h.1.1
    have := bvB_len this
    unfold cgOne; split <;> simp <;> omega
  · split
    · rename_i h
      have := bvB_len h
      omega
    · simp

end Go.Proofs.Ytlejfmngpbcdhaa
