/- What is proved here: plain facts about lists of open files of which one is saved, closed or changed. No condition. -/
import Derived.Test.YtlejfmngpbcdhaaOpen2
namespace Go.Proofs.Ytlejfmngpbcdhaa
open Go.RowKit

theorem flat_set2 : ∀ (bs : List Bf) (k : Nat) (hk : k < bs.length) (t : List UInt8), (bs.flatMap bfC).set (k * 3 + 2) (S t) = (bs.set k ⟨bs[k].name, bs[k].body, t⟩).flatMap bfC
  | [], k, hk, _ => by simp at hk
  | b :: bs, 0, _, t => rfl
  | b :: bs, k + 1, hk, t => by
    have := flat_set2 bs k (by simpa using hk) t
    simp only [List.flatMap_cons, List.set_cons_succ, List.getElem_cons_succ, ← this]
    rw [show (k + 1) * 3 + 2 = (k * 3 + 2) + 3 by omega]
    rfl
theorem flat_set1 : ∀ (bs : List Bf) (k : Nat) (hk : k < bs.length) (t : List UInt8), (bs.flatMap bfC).set (k * 3 + 1) (S t) = (bs.set k ⟨bs[k].name, t, bs[k].saved⟩).flatMap bfC
  | [], k, hk, _ => by simp at hk
  | b :: bs, 0, _, t => rfl
  | b :: bs, k + 1, hk, t => by
    have := flat_set1 bs k (by simpa using hk) t
    simp only [List.flatMap_cons, List.set_cons_succ, List.getElem_cons_succ, ← this]
    rw [show (k + 1) * 3 + 1 = (k * 3 + 1) + 3 by omega]
    rfl

/-- the place of a name, if there is one. -/
theorem bfAt_nat {bs : List Bf} {nm : List UInt8} (h : 0 ≤ bfAt bs nm) : ∃ k, k < bs.length ∧ bfAt bs nm = (k : Nat) := by
  have := bfAt_ge bs nm
  exact ⟨(bfAt bs nm).toNat, by omega, by omega⟩

/-- what a call gives that returns open files and whether it was done. -/
def DoPost (ok : Bool) (out : List Bf) (w : World) (e : Ending) (w' : World) : Prop :=
  ∃ v, e = .returned (.tuple #[v, .bool ok]) ∧ Own w' w.heap.size 37 3 v out.length (out.flatMap bfC) ∧ Below w.heap.size w w'
/-- the same with the file's place between them. -/
def DoPost3 (ok : Bool) (at_ : Int) (out : List Bf) (w : World) (e : Ending) (w' : World) : Prop :=
  ∃ v, e = .returned (.tuple #[v, .int .i64 at_, .bool ok]) ∧ Own w' w.heap.size 37 3 v out.length (out.flatMap bfC) ∧ Below w.heap.size w w'

def svOk (bs : List Bf) (nm : List UInt8) : Bool := bvB bs && decide (0 ≤ bfAt bs nm)
def svOne (bs : List Bf) (k : Nat) : List Bf := match bs[k]? with | some b => bs.set k ⟨b.name, b.body, b.body⟩ | none => bs
def svOut (bs : List Bf) (nm : List UInt8) : List Bf := if bvB bs then (if 0 ≤ bfAt bs nm then svOne bs (bfAt bs nm).toNat else bs) else []
theorem svOne_at (bs : List Bf) (k : Nat) (hk : k < bs.length) : svOne bs k = bs.set k ⟨bs[k].name, bs[k].body, bs[k].body⟩ := by
  unfold svOne; rw [List.getElem?_eq_getElem hk]
theorem svOut_len (bs : List Bf) (nm : List UInt8) : (svOut bs nm).length ≤ 9 := by
  unfold svOut
  split
  · rename_i h
    have := bvB_len h
    split
    · unfold svOne; split <;> simp <;> omega
    · omega
  · simp

end Go.Proofs.Ytlejfmngpbcdhaa
