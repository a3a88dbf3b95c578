/- What is proved here: words for the law on drawn regions that store, in a new box, a value with one row that a call in the region made; for whatever kind of box. No condition. -/
import Derived.Test.YtlejfmngpbcdhaaEverL
namespace Go.Proofs.Ytlejfmngpbcdhaa
open Go.RowKit
set_option linter.unusedVariables false

/-- a kind of box: its type, the row's element type and size, the row's content, and the box's cells when the row is v. -/
structure Bxp where
  bt : TypeId
  et : TypeId
  sz : Nat
  n : Nat
  xs : List Value
  bx : Value → Array Value
  k : Nat
  ne : et ≠ bt
  hk : ∀ v, (bx v).size = k

/-- block i is a box of the kind, and holds what is to be stored. -/
def BoxX (X : Bxp) (base : Nat) (w : World) (i : Nat) : Prop :=
  (∃ A, w.heap[i]? = some (.cells A X.bt (0, 0))) ∧ ∃ v, Is w i (X.bx v) ∧ Own w base X.et X.sz v X.n X.xs
/-- the world goes on: a block that was there is as it was, or it is a new box of the kind, that holds what is to be stored now. -/
structure RX (X : Bxp) (B base : Nat) (a b : World) : Prop where
  os : b.os = a.os
  tape : b.tape = a.tape
  output : b.output = a.output
  size : a.heap.size ≤ b.heap.size
  block : ∀ i, i < a.heap.size → b.heap[i]? = a.heap[i]? ∨ (B ≤ i ∧ (∃ A, a.heap[i]? = some (.cells A X.bt (0, 0))) ∧ BoxX X base b i)
section
variable {X : Bxp} {B base : Nat} {a b c : World}
theorem RX.own {bs sz n : Nat} {et : TypeId} {v : Value} {xs : List Value} (h : RX X B base a b) (hne : et ≠ X.bt) (ho : Own a bs et sz v n xs) : Own b bs et sz v n xs := by
  refine ⟨ho.1, ?_⟩
  rcases ho.2 with hn | ⟨g, cap, cur, rfl, hbg, hgg, rest⟩
  · exact .inl hn
  · refine .inr ⟨g, cap, cur, rfl, hbg, ?_, rest⟩
    rcases h.block g (Array.getElem?_eq_some_iff.1 hgg).1 with h1 | ⟨_, ⟨A, h2⟩, _⟩
    · rw [h1]; exact hgg
    · rw [hgg] at h2
      injection h2 with h2
      injection h2 with _ h3 _
      exact absurd h3 hne
theorem RX.box {bs : Nat} (h : RX X B base a b) {i : Nat} (hi : i < a.heap.size) (hk : BoxX X bs a i) : BoxX X bs b i ∨ BoxX X base b i := by
  obtain ⟨⟨A, hA⟩, v, hv, ho⟩ := hk
  rcases h.block i hi with h1 | ⟨_, _, h2⟩
  · exact .inl ⟨⟨A, h1.trans hA⟩, v, hv.of_block h1, h.own X.ne ho⟩
  · exact .inr h2
theorem RX.refl (X : Bxp) (B base : Nat) (a : World) : RX X B base a a := ⟨rfl, rfl, rfl, Nat.le_refl _, fun _ _ => .inl rfl⟩
theorem RX.trans (h : RX X B base a b) (k : RX X B base b c) : RX X B base a c := ⟨k.os.trans h.os, k.tape.trans h.tape, k.output.trans h.output, Nat.le_trans h.size k.size, fun i hi => by
  have hib := Nat.lt_of_lt_of_le hi h.size
  rcases h.block i hi with h1 | ⟨h1, h2, h3⟩
  · rcases k.block i hib with k1 | ⟨k1, ⟨A, k2⟩, k3⟩
    · exact .inl (k1.trans h1)
    · exact .inr ⟨k1, ⟨A, h1.symm.trans k2⟩, k3⟩
  · rcases k.box hib h3 with h4 | h4 <;> exact .inr ⟨h1, h2, h4⟩⟩
theorem RX.below (h : RX X B base a b) (k : Below b.heap.size b c) : RX X B base a c := h.trans ⟨k.os, k.tape, k.output, k.size, fun i hi => .inl (k.block i hi)⟩
theorem RX.of_below (k : Below b.heap.size b c) : RX X B base b c := (RX.refl _ _ _ _).below k
theorem RX.of_drew (h : RX X B base a.drew b) : RX X B base a b := ⟨h.os, h.tape, h.output, h.size, h.block⟩
theorem RX.to_below (h : RX X a.heap.size base a b) : Below a.heap.size a b := ⟨h.os, h.tape, h.output, h.size, fun i hi => by
  rcases h.block i hi with h1 | ⟨h1, _⟩
  · exact h1
  · omega⟩
theorem RX.same (h : RX X B base a b) {i : Nat} (hi : i < a.heap.size) (hB : i < B) : b.heap[i]? = a.heap[i]? := by
  rcases h.block i hi with h1 | ⟨h1, _⟩
  · exact h1
  · omega
theorem RX.cell (h : RX X B base a b) {i : Nat} (hi : i < a.heap.size) (hB : i < B) (o : Nat) : b.cell? ⟨i, o, none⟩ = a.cell? ⟨i, o, none⟩ := World.cell?_of_block (a := ⟨i, o, none⟩) (h.same hi hB)

theorem own_setCells {w : World} {bs size n b : Nat} {e : TypeId} {v : Value} {xs : List Value} (hp : v.ownBlock ≠ some b) : ∀ (l : List Value) (o : Nat) (w : World), Own w bs e size v n xs → Own (w.setCells b o l) bs e size v n xs
  | [], _, _, h => h
  | u :: r, o, w, h => by
    rw [World.setCells]
    refine own_setCells (w := w) hp r (o + 1) _ ⟨h.1, ?_⟩
    rcases h.2 with hn | ⟨g, cap, cur, rfl, hbg, hgg, rest⟩
    · exact .inl hn
    · refine .inr ⟨g, cap, cur, rfl, hbg, ?_, rest⟩
      rw [Below.heap_setCell w ⟨b, o, none⟩ u g (fun e => hp (by rw [e]; rfl))]
      exact hgg
theorem tag_setCells {t : TypeId} {b : Nat} : ∀ (l : List Value) (o : Nat) (w : World), (∃ A, w.heap[b]? = some (.cells A t (0, 0))) → ∃ A, (w.setCells b o l).heap[b]? = some (.cells A t (0, 0))
  | [], _, _, h => h
  | u :: r, o, w, ⟨A, h⟩ => by
    rw [World.setCells]
    exact tag_setCells r (o + 1) _ ⟨_, heap_setCell_same w b o A t u h⟩
theorem ownBlock_ne_tag {w : World} {bs sz n i : Nat} {et bt : TypeId} {u : Value} {xs : List Value} (hne : et ≠ bt) (ht : ∃ A, w.heap[i]? = some (.cells A bt (0, 0))) (ho : Own w bs et sz u n xs) : u.ownBlock ≠ some i := fun he => by
  obtain ⟨A, hA⟩ := ht
  rcases ho.2 with ⟨rfl, _⟩ | ⟨g, cap, cur, rfl, _, hgg, _⟩
  · cases he
  · injection he with he
    simp only at he
    subst he
    rw [hA] at hgg
    injection hgg with hgg
    injection hgg with _ h3 _
    exact absurd h3.symm hne
/-- all cells of a box of the kind are written. -/
theorem xput_mk {w : World} {i : Nat} {u : Value} (ht : ∃ A, w.heap[i]? = some (.cells A X.bt (0, 0))) (hI : ∃ A : Array Value, A.size = X.k ∧ Is w i A) (ho : Own w base X.et X.sz u X.n X.xs) (hB : B ≤ i) :
    BoxX X base (putV w i (X.bx u)) i ∧ RX X B base w (putV w i (X.bx u)) := by
  obtain ⟨A, hA, hI⟩ := hI
  have hK : BoxX X base (putV w i (X.bx u)) i := ⟨tag_setCells _ _ _ ht, u, put_is hI (hA.trans (X.hk u).symm), own_setCells (w := w) (ownBlock_ne_tag X.ne ht ho) _ _ _ ho⟩
  obtain ⟨h1, h2, h3⟩ := setCells_rest i (X.bx u).toList 0 w
  refine ⟨hK, h1, h2, h3, Nat.le_of_eq (putV_size w i _).symm, fun j hj => ?_⟩
  by_cases e : j = i
  · subst e
    exact .inr ⟨hB, ht, hK⟩
  · exact .inl (setCells_other i e _ _ _)
theorem box_neX {w : World} {i bs sz n : Nat} {et : TypeId} {v : Value} {xs : List Value} (h : BoxX X base w i) (hne : et ≠ X.bt) (ho : Own w bs et sz v n xs) : v.ownBlock ≠ some i := ownBlock_ne_tag hne h.1 ho
theorem xbox_mk (X : Bxp) (w : World) (U : Array Value) (hU : U.size = X.k) : (∃ A, (w.alloc (.cells U X.bt)).heap[w.heap.size]? = some (.cells A X.bt (0, 0))) ∧ ∃ A : Array Value, A.size = X.k ∧ Is (w.alloc (.cells U X.bt)) w.heap.size A :=
  ⟨⟨U, heap_alloc_new w _⟩, U, hU, new_is w _ _⟩
end
section
variable (X : Bxp) (B base : Nat)
def xAny : Ty (RX X B base) := ⟨fun _ _ => True, fun _ _ _ _ h => h⟩
def xEq (u : Value) : Ty (RX X B base) := ⟨fun v _ => v = u, fun _ _ _ _ h => h⟩
/-- a value that holds a row of the region's own. -/
def xRow (mk : Value → Value) (et : TypeId) (hne : et ≠ X.bt) (sz n : Nat) (xs : List Value) : Ty (RX X B base) := ⟨fun v w => ∃ u, v = mk u ∧ Own w base et sz u n xs, fun _ _ _ hR ⟨u, hv, h⟩ => ⟨u, hv, hR.own hne h⟩⟩
/-- a pointer to a new box of the kind. -/
def xBox : Ty (RX X B base) := ⟨fun v w => ∃ i, v = .pointer (some ⟨i, 0, none⟩) ∧ B ≤ i ∧ i < w.heap.size ∧ (∃ A, w.heap[i]? = some (.cells A X.bt (0, 0))) ∧ ∃ A : Array Value, A.size = X.k ∧ Is w i A, fun v w w' hR ⟨i, hv, h1, h2, h3, h4⟩ =>
  ⟨i, hv, h1, Nat.lt_of_lt_of_le h2 hR.size, by
    rcases hR.block i h2 with h | ⟨_, _, h, ⟨v, hv, _⟩⟩
    · obtain ⟨A, h3⟩ := h3
      obtain ⟨A', hA', h4⟩ := h4
      exact ⟨⟨A, h.trans h3⟩, A', hA', h4.of_block h⟩
    · exact ⟨h, _, X.hk v, hv⟩⟩⟩
/-- what is to be stored is stored in the box to which slot t points. -/
def xPut (t : Nat) : Tl (RX X B base) := { xAny X B base with
  lk := some t
  s := fun u w => ∀ i, u = .pointer (some ⟨i, 0, none⟩) → i < w.heap.size ∧ BoxX X base w i
  us := fun u w w' hR h i hu => by
    obtain ⟨h1, h2⟩ := h i hu
    refine ⟨Nat.lt_of_lt_of_le h1 hR.size, ?_⟩
    rcases hR.box h1 h2 with h | h <;> exact h }
end

end Go.Proofs.Ytlejfmngpbcdhaa
