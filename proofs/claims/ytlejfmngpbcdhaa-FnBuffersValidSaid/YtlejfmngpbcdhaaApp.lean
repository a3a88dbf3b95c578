/- What is proved here: append of a slice that is read onto a row that the call owns, the source nil or not; the copy of a list of files. No condition. -/
import Derived.Test.YtlejfmngpbcdhaaBuf4
import Derived.Test.YtlejfmngpbcdhaaAppG
import Derived.Maps.AppendAt
namespace Go.Proofs.Ytlejfmngpbcdhaa
open Go.RowKit

theorem bf_oneCell (bs : List Bf) : ∀ x ∈ bs.flatMap bfC, x.oneCell' = true := by
  intro x hx
  rw [List.mem_flatMap] at hx
  obtain ⟨b, _, hx⟩ := hx
  simp [bfC] at hx
  rcases hx with rfl | rfl | rfl <;> rfl


end Go.Proofs.Ytlejfmngpbcdhaa
