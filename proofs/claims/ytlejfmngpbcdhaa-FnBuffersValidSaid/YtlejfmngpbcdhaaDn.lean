/- What is proved here: plain facts on the names of files that are not saved; the cell of a string. No condition. -/
import Derived.Test.YtlejfmngpbcdhaaOpen1
namespace Go.Proofs.Ytlejfmngpbcdhaa
open Go.RowKit

/-- the cell of a string. -/
def strC (l : List UInt8) : List Value := [S l]
theorem strC_len (l : List UInt8) : (strC l).length = 1 := rfl
theorem str_info : (Try.prog.info? 9).map (fun i => (i.zero, i.size, i.bytes)) = some (some (S []), 1, 16) := by kernel_rfl
/-- names of the files that are not saved. -/
def dn (bs : List Bf) : List (List UInt8) := (bs.filter fun b => b.body != b.saved).map Bf.name
theorem dn_take (bs : List Bf) (k : Nat) (hk : k < bs.length) : dn (bs.take (k + 1)) = dn (bs.take k) ++ (if (bs[k].body != bs[k].saved) = true then [bs[k].name] else []) := by
  unfold dn
  rw [List.take_succ_eq_append_getElem hk, List.filter_append, List.map_append]
  congr 1
  split
  · rename_i h; simp [h]
  · rename_i h; simp [h]
theorem dn_len (bs : List Bf) : (dn bs).length ≤ bs.length := by
  unfold dn
  rw [List.length_map]
  exact List.length_filter_le _ _
def dnOut (bs : List Bf) : List (List UInt8) := if bvB bs then dn bs else []
theorem dnOut_len (bs : List Bf) : (dnOut bs).length ≤ 8 := by
  unfold dnOut
  split
  · rename_i h; have := bvB_len h; have := dn_len bs; omega
  · simp
end Go.Proofs.Ytlejfmngpbcdhaa
