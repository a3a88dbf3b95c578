/- What is proved here: contracts of the reference's RunLine, command by command. No condition. -/
import Derived.Test.YtbjlkdenkmbepaaGreatDoorAc12
import Derived.Test.YtbjlkdenkmbepaaGreatDoorAc1
import Derived.Test.YtbjlkdenkmbepaaGreatDoorAc16
import Derived.Test.YtbjlkdenkmbepaaGreatDoorAc18
import Derived.Test.YtbjlkdenkmbepaaGreatDoorRn0
import Derived.Test.YtbjlkdenkmbepaaGreatDoorAc2
namespace Go.Proofs.YtbjlkdenkmbepaaGreatDoor
open Go.RowKit
set_option linter.unusedVariables false

theorem drop_cons {c r : List UInt8} {k : Nat} {b : UInt8} (h : c.drop k = b :: r) : ∃ hk : k < c.length, c[k] = b ∧ c.drop (k + 1) = r := by
  have hk : k < c.length := by
    rcases Nat.lt_or_ge k c.length with h1 | h1
    · exact h1
    · rw [List.drop_of_length_le h1] at h; cases h
  rw [List.drop_eq_getElem_cons hk] at h
  injection h with h1 h2
  exact ⟨hk, h1, h2⟩
theorem rnL_of {s c : List UInt8} {f t k : Nat} (h : rng c (nl s + 1) = some (f, t, k)) : rnL s c = cmDo s f t (cmOf (c.drop k)) := by
  unfold rnL
  rw [h]
theorem rsIs_some {c : List UInt8} {L f t k : Nat} {x y z : Int} (h : rng c L = some (f, t, k)) (hx : RsIs c L x y z) : x = f ∧ y = t ∧ z = k := by
  rcases hx with ⟨a, b, j, h1, h2, h3, h4⟩ | ⟨h1, _⟩
  · rw [h] at h1
    injection h1 with h1
    injection h1 with h5 h1
    injection h1 with h6 h7
    subst h5 h6 h7
    exact ⟨h2, h3, h4⟩
  · rw [h] at h1; cases h1
theorem set_same {α : Type} {l : List α} {i : Nat} {x : α} (h : l[i]? = some x) : l.set i x = l := by
  apply List.ext_getElem?
  intro j
  rw [List.getElem?_set]
  by_cases hj : i = j
  · subst hj
    rw [if_pos rfl, h]
    have hi : i < l.length := by
      rcases Nat.lt_or_ge i l.length with h1 | h1
      · exact h1
      · rw [List.getElem?_eq_none h1] at h; cases h
    rw [if_pos hi]
  · rw [if_neg hj]

end Go.Proofs.YtbjlkdenkmbepaaGreatDoor
