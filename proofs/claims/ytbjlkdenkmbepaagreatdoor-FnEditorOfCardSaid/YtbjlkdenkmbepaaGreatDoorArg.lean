/- What is proved here: an argument that is a slice of bytes is opened into the words of the walks. No condition. -/
import Derived.Test.YtbjlkdenkmbepaaGreatDoorDraw1
import Derived.ProofKit
import Derived.OpenShut
namespace Go.Proofs.YtbjlkdenkmbepaaGreatDoor
open Go.ChangeShapes Go.WideShapes Go.ChangeAt Go.RowKit

theorem bytes_of {W : World} {x : Addr} {len cap : Nat} {zs : List Int} (hl : len ≤ cap) (hm : cap ≤ maxLen) (hz : zs.length = cap)
    (hcell : ∀ i, i < zs.length → W.cell? (x.add i) = some (.int .u8 (zs.getD i 0))) (hwz : ∀ n ∈ zs, (Lit.int .u8 n).wf = true) : Bytes W W.heap.size (.slice (some x) len cap) len (zs.take len) := by
  refine ⟨by rw [List.length_take]; omega, fun z hz' => ?_, some x, cap, rfl, hl, hm, fun hn => ?_⟩
  · exact bounds_u8 (hwz z (List.mem_of_mem_take hz'))
  · obtain ⟨b, o, spot⟩ := x
    have hc := hcell 0 (by omega)
    have hspot : spot = none := by simpa [Addr.add] using World.cell?_spot hc
    subst hspot
    have hadd : ∀ j, (⟨b, o, none⟩ : Addr).add j = ⟨b, o + j, none⟩ := fun j => by unfold Addr.add; split <;> simp_all
    have hlt := World.block_lt_of_cell? W _ hc
    rw [hadd] at hlt
    refine ⟨b, o, rfl, hlt, fun j z hj => ?_⟩
    rw [List.getElem?_take] at hj
    split at hj
    · have hjl : j < zs.length := by omega
      have := hcell j hjl
      rw [hadd] at this
      rw [this]
      rw [List.getElem?_eq_getElem hjl] at hj
      injection hj with hj
      simp [hjl, hj]
    · cases hj
theorem bytes_nil (W : World) : Bytes W W.heap.size (.slice none 0 0) 0 [] :=
  ⟨rfl, fun z hz => (by cases hz), none, 0, rfl, Nat.le_refl _, Nat.zero_le _, fun h => absurd h (by omega)⟩

end Go.Proofs.YtbjlkdenkmbepaaGreatDoor
