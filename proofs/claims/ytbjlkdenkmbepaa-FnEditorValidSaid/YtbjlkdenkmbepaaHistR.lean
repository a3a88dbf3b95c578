/- What is proved here: contracts of HistoryTo in the program and in the reference. No condition. -/
import Derived.Test.YtbjlkdenkmbepaaHistC
namespace Go.Proofs.Ytbjlkdenkmbepaa
open Go.RowKit
set_option linter.unusedVariables false

/-- what a call gives that returns a history, its text, and whether it was done. -/
def HRes (ms : List Mo) (a : Int) (t : List UInt8) (ok : Bool) (w : World) (e : Ending) (w' : World) : Prop :=
  ∃ v, e = .returned (.tuple #[.agg #[v, .int .i64 a], S t, .bool ok]) ∧ OwnM w' w.heap.size v ms ∧ Below w.heap.size w w'
theorem hres_no {w w' : World} (hb : Below w.heap.size w w') : HRes [] 0 [] false w (.returned (.tuple #[.agg #[.slice none 0 0, .int .i64 0], S [], .bool false])) w' :=
  ⟨_, rfl, World.ownsRow_nil _ _ _ _, hb⟩
def toAt (n : Nat) (a to_ : Int) : Int := if inB to_ 0 ((n : Int) - 1) = true then to_ else a
def toText (n : Nat) (o : List (List UInt8)) (s : List UInt8) (to_ : Int) : List UInt8 := if inB to_ 0 ((n : Int) - 1) = true then o.getD to_.toNat [] else s

theorem good_uniq {ms : List Mo} {a : Int} {s : List UInt8} {q o : List (List UInt8)} (hq : HGood ms a s q) (ho : HGood ms a s o) : q = o := by
  have key : ∀ k, k < ms.length → q.getD k [] = o.getD k [] → q.getD 0 [] = o.getD 0 [] := by
    intro k
    induction k using Nat.strongRecOn with
    | ind k ih =>
      intro hk he
      by_cases h0 : k = 0
      · subst h0; exact he
      · obtain ⟨b1, b2, _, b4⟩ := hq.back (by omega) hk
        obtain ⟨_, _, _, c4⟩ := ho.back (by omega) hk
        refine ih (ms.getD k m0).par.toNat (by omega) (by omega) ?_
        rw [b4, c4, he]
  have a0 := ho.a0
  have a1 := ho.a1
  have h0 := key a.toNat (by omega) (hq.at_.trans ho.at_.symm)
  have hs := good_same ho h0.symm (fun k h1 (h2 : k < ms.length) => hq.step k h1 h2)
  apply List.ext_getElem (by rw [hq.len, ho.len])
  intro k h1 h2
  have := hs k (by rw [← hq.len]; exact h1) (by rw [← hq.len]; exact h1)
  rwa [getD_at _ _ _ h1, getD_at _ _ _ h2] at this





end Go.Proofs.Ytbjlkdenkmbepaa
