/- What is proved here: words for the law on drawn regions that store, in a new box, a history that a call in the region made. No condition. -/
import Derived.Test.YtdngdlcibaiekaaGreatDoorEverL
import Derived.Test.YtdngdlcibaiekaaGreatDoorHistR
namespace Go.Proofs.YtdngdlcibaiekaaGreatDoor
open Go.RowKit
set_option linter.unusedVariables false

/-- block i is a history's box, and holds a history of the states ms. -/
def BoxH (base : Nat) (ms : List Mo) (a : Int) (w : World) (i : Nat) : Prop :=
  (∃ A, w.heap[i]? = some (.cells A 50 (0, 0))) ∧ ∃ v, Is w i #[v, .int .i64 a] ∧ OwnM w base v ms
/-- the world goes on: a block that was there is as it was, or it is a new history's box, that holds a history of ms now. -/
structure RH (B base : Nat) (ms : List Mo) (x : Int) (a b : World) : Prop where
  os : b.os = a.os
  tape : b.tape = a.tape
  output : b.output = a.output
  size : a.heap.size ≤ b.heap.size
  block : ∀ i, i < a.heap.size → b.heap[i]? = a.heap[i]? ∨ (B ≤ i ∧ (∃ A, a.heap[i]? = some (.cells A 50 (0, 0))) ∧ BoxH base ms x b i)
section
variable {B base : Nat} {ms : List Mo} {x : Int} {a b c : World}
theorem RH.own {bs : Nat} {v : Value} {xs : List Value} {n : Nat} (h : RH B base ms x a b) (ho : Own a bs 92 7 v n xs) : Own b bs 92 7 v n xs := by
  refine ⟨ho.1, ?_⟩
  rcases ho.2 with hn | ⟨g, cap, cur, rfl, hbg, hgg, rest⟩
  · exact .inl hn
  · refine .inr ⟨g, cap, cur, rfl, hbg, ?_, rest⟩
    rcases h.block g (Array.getElem?_eq_some_iff.1 hgg).1 with h1 | ⟨_, ⟨A, h2⟩, _⟩
    · rw [h1]; exact hgg
    · rw [hgg] at h2
      injection h2 with h2
      injection h2 with _ h3 _
      exact absurd h3 (by decide)
theorem RH.box {ms' : List Mo} {y : Int} {bs : Nat} (h : RH B base ms x a b) {i : Nat} (hi : i < a.heap.size) (hk : BoxH bs ms' y a i) : BoxH bs ms' y b i ∨ BoxH base ms x b i := by
  obtain ⟨⟨A, hA⟩, v, hv, ho⟩ := hk
  rcases h.block i hi with h1 | ⟨_, _, h2⟩
  · exact .inl ⟨⟨A, h1.trans hA⟩, v, hv.of_block h1, h.own ho⟩
  · exact .inr h2
theorem RH.refl (B base : Nat) (ms : List Mo) (x : Int) (a : World) : RH B base ms x a a := ⟨rfl, rfl, rfl, Nat.le_refl _, fun _ _ => .inl rfl⟩
theorem RH.trans (h : RH B base ms x a b) (k : RH B base ms x b c) : RH B base ms x a c := ⟨k.os.trans h.os, k.tape.trans h.tape, k.output.trans h.output, Nat.le_trans h.size k.size, fun i hi => by
  have hib := Nat.lt_of_lt_of_le hi h.size
  rcases h.block i hi with h1 | ⟨h1, h2, h3⟩
  · rcases k.block i hib with k1 | ⟨k1, ⟨A, k2⟩, k3⟩
    · exact .inl (k1.trans h1)
    · exact .inr ⟨k1, ⟨A, h1.symm.trans k2⟩, k3⟩
  · rcases k.box hib h3 with h4 | h4 <;> exact .inr ⟨h1, h2, h4⟩⟩
theorem RH.below (h : RH B base ms x a b) (k : Below b.heap.size b c) : RH B base ms x a c := h.trans ⟨k.os, k.tape, k.output, k.size, fun i hi => .inl (k.block i hi)⟩
theorem RH.of_below (k : Below b.heap.size b c) : RH B base ms x b c := (RH.refl _ _ _ _ _).below k
theorem RH.of_drew (h : RH B base ms x a.drew b) : RH B base ms x a b := ⟨h.os, h.tape, h.output, h.size, h.block⟩
theorem RH.to_below (h : RH a.heap.size base ms x a b) : Below a.heap.size a b := ⟨h.os, h.tape, h.output, h.size, fun i hi => by
  rcases h.block i hi with h1 | ⟨h1, _⟩
  · exact h1
  · omega⟩
theorem RH.same (h : RH B base ms x a b) {i : Nat} (hi : i < a.heap.size) (hB : i < B) : b.heap[i]? = a.heap[i]? := by
  rcases h.block i hi with h1 | ⟨h1, _⟩
  · exact h1
  · omega
theorem RH.cell (h : RH B base ms x a b) {i : Nat} (hi : i < a.heap.size) (hB : i < B) (o : Nat) : b.cell? ⟨i, o, none⟩ = a.cell? ⟨i, o, none⟩ := World.cell?_of_block (a := ⟨i, o, none⟩) (h.same hi hB)
end
section
variable (B base : Nat) (ms : List Mo) (x : Int)
def hAny : Ty (RH B base ms x) := ⟨fun _ _ => True, fun _ _ _ _ h => h⟩
def hEq (u : Value) : Ty (RH B base ms x) := ⟨fun v _ => v = u, fun _ _ _ _ h => h⟩
/-- a history of the region's own. -/
def hHis (ns : List Mo) (y : Int) : Ty (RH B base ms x) := ⟨fun v w => ∃ u, v = .agg #[u, .int .i64 y] ∧ OwnM w base u ns, fun _ _ _ hR ⟨u, hv, h⟩ => ⟨u, hv, hR.own h⟩⟩
/-- what a call gives: a history, its text, and whether it was done. -/
def hTup (t : List UInt8) (ok : Bool) : Ty (RH B base ms x) := ⟨fun v w => ∃ u, v = .tuple #[.agg #[u, .int .i64 x], S t, .bool ok] ∧ OwnM w base u ms, fun _ _ _ hR ⟨u, hv, h⟩ => ⟨u, hv, hR.own h⟩⟩
/-- a pointer to a new history's box. -/
def hBox : Ty (RH B base ms x) := ⟨fun v w => ∃ i, v = .pointer (some ⟨i, 0, none⟩) ∧ B ≤ i ∧ i < w.heap.size ∧ (∃ A, w.heap[i]? = some (.cells A 50 (0, 0))) ∧ ∃ a0 a1, Is w i #[a0, a1], fun v w w' hR ⟨i, hv, h1, h2, h3, h4⟩ =>
  ⟨i, hv, h1, Nat.lt_of_lt_of_le h2 hR.size, by
    rcases hR.block i h2 with h | ⟨_, _, h, ⟨v, hv, _⟩⟩
    · obtain ⟨A, h3⟩ := h3
      obtain ⟨a0, a1, h4⟩ := h4
      exact ⟨⟨A, h.trans h3⟩, a0, a1, h4.of_block h⟩
    · exact ⟨h, _, _, hv⟩⟩⟩
/-- the history is stored in the box to which slot t points. -/
def hPut (t : Nat) : Tl (RH B base ms x) := { hAny B base ms x with
  lk := some t
  s := fun u w => ∀ i, u = .pointer (some ⟨i, 0, none⟩) → i < w.heap.size ∧ BoxH base ms x w i
  us := fun u w w' hR h i hu => by
    obtain ⟨h1, h2⟩ := h i hu
    refine ⟨Nat.lt_of_lt_of_le h1 hR.size, ?_⟩
    rcases hR.box h1 h2 with h | h <;> exact h }
variable {B base : Nat} {ms : List Mo} {x : Int}
theorem hbox_mk {w : World} (u0 u1 : Value) : (∃ A, (w.alloc (.cells #[u0, u1] 50)).heap[w.heap.size]? = some (.cells A 50 (0, 0))) ∧ ∃ a0 a1, Is (w.alloc (.cells #[u0, u1] 50)) w.heap.size #[a0, a1] :=
  ⟨⟨#[u0, u1], heap_alloc_new w _⟩, u0, u1, new_is w _ _⟩
/-- both cells of a history's box are written. -/
theorem hput_mk {w : World} {i : Nat} {u : Value} (ht : ∃ A, w.heap[i]? = some (.cells A 50 (0, 0))) (hI : ∃ a0 a1, Is w i #[a0, a1]) (ho : OwnM w base u ms) (hB : B ≤ i) :
    BoxH base ms x ((w.setCell ⟨i, 0, none⟩ u).setCell ⟨i, 1, none⟩ (.int .i64 x)) i ∧ RH B base ms x w ((w.setCell ⟨i, 0, none⟩ u).setCell ⟨i, 1, none⟩ (.int .i64 x)) := by
  obtain ⟨A, hA⟩ := ht
  obtain ⟨a0, a1, hI⟩ := hI
  have h1 := heap_setCell_same w i 0 A 50 u hA
  have h2 := heap_setCell_same _ i 1 _ 50 (.int .i64 x) h1
  have hI2 : Is ((w.setCell ⟨i, 0, none⟩ u).setCell ⟨i, 1, none⟩ (.int .i64 x)) i #[u, .int .i64 x] := put_is (V := #[u, .int .i64 x]) hI rfl
  have hne : u.ownBlock ≠ some i := fun he => by
    rcases ho.2 with ⟨rfl, _⟩ | ⟨g, cap, cur, rfl, _, hgg, _⟩
    · cases he
    · injection he with he
      simp only at he
      subst he
      rw [hA] at hgg
      injection hgg with hgg
      injection hgg with _ h3 _
      exact absurd h3 (by decide)
  have hK : BoxH base ms x ((w.setCell ⟨i, 0, none⟩ u).setCell ⟨i, 1, none⟩ (.int .i64 x)) i := ⟨⟨_, h2⟩, u, hI2, own_setn (own_setn ho ⟨i, 0, none⟩ u fun g hg e => hne (by rw [hg]; exact congrArg some e)) ⟨i, 1, none⟩ _ fun g hg e => hne (by rw [hg]; exact congrArg some e)⟩
  refine ⟨hK, rfl, rfl, rfl, by simp [World.setCell], fun j hj => ?_⟩
  by_cases e : j = i
  · subst e
    exact .inr ⟨hB, ⟨A, hA⟩, hK⟩
  · exact .inl ((Below.heap_setCell _ ⟨i, 1, none⟩ _ j e).trans (Below.heap_setCell w ⟨i, 0, none⟩ u j e))
theorem box_ne {w : World} {i b : Nat} {v : Value} {ns : List Mo} (h : BoxH base ms x w i) (ho : OwnM w b v ns) : v.ownBlock ≠ some i := fun he => by
  obtain ⟨⟨A, hA⟩, _⟩ := h
  rcases ho.2 with ⟨rfl, _⟩ | ⟨g, cap, cur, rfl, _, hgg, _⟩
  · cases he
  · injection he with he
    simp only at he
    subst he
    rw [hA] at hgg
    injection hgg with hgg
    injection hgg with _ h3 _
    exact absurd h3 (by decide)
end

end Go.Proofs.YtdngdlcibaiekaaGreatDoor
