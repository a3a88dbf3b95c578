/- What is proved here: a part of a string that is given as a list. No condition. -/
import Derived.Test.YtbjlkdenkmbepaaGreatDoorFlat
namespace Go.Proofs.YtbjlkdenkmbepaaGreatDoor
open Go.RowKit

@[go_sem] theorem str_ext (l : List UInt8) (a b : Nat) : (ByteArray.mk l.toArray).extract a b = ByteArray.mk ((l.take b).drop a).toArray := by
  apply ByteArray.ext
  simp [ByteArray.data_extract, List.drop_take]

end Go.Proofs.YtbjlkdenkmbepaaGreatDoor
