/- What is proved here: contracts of toBufferS and eqBufferS. No condition. -/
import Derived.Test.YtlejfmngpbcdhaaBuf3
namespace Go.Proofs.Ytlejfmngpbcdhaa
open Go.RowKit

theorem buf_info : (Try.prog.info? 37).map (fun i => (i.zero, i.size, i.bytes)) = some (some (.agg #[S [], S [], S []]), 3, 48) := by kernel_rfl

theorem set3 (a b : List Value) (u0 u1 u2 : Value) (k : Nat) (h : a.length = k) (hb : 3 ≤ b.length) : (((a ++ b).set k u0).set (k + 1) u1).set (k + 2) u2 = a ++ [u0, u1, u2] ++ b.drop 3 := by
  subst h
  obtain ⟨b0, b, rfl⟩ : ∃ x y, b = x :: y := by cases b with | nil => simp at hb | cons x y => exact ⟨x, y, rfl⟩
  obtain ⟨b1, b, rfl⟩ : ∃ x y, b = x :: y := by cases b with | nil => simp at hb | cons x y => exact ⟨x, y, rfl⟩
  obtain ⟨b2, b, rfl⟩ : ∃ x y, b = x :: y := by cases b with | nil => simp at hb | cons x y => exact ⟨x, y, rfl⟩
  simp

theorem own_set3 {w : World} {base : Nat} {e : TypeId} {g n cap k : Nat} {a b : List Value} (h : Own w base e 3 (.slice (some ⟨g, 0, none⟩) n cap) n (a ++ b)) (ha : a.length = k * 3) (hk : k < n) (u0 u1 u2 : Value) :
    Own (((w.setCell ⟨g, k * 3, none⟩ u0).setCell ⟨g, k * 3 + 1, none⟩ u1).setCell ⟨g, k * 3 + 2, none⟩ u2) base e 3 (.slice (some ⟨g, 0, none⟩) n cap) n (a ++ [u0, u1, u2] ++ b.drop 3) := by
  have h1 := (h.stored (k * 3) u0).1
  have h2 := (h1.stored (k * 3 + 1) u1).1
  have h3 := (h2.stored (k * 3 + 2) u2).1
  rw [set3 a b u0 u1 u2 (k * 3) ha (by have := h.1; rw [List.length_append] at this; omega)] at h3
  exact h3
theorem own_some {w : World} {base : Nat} {e : TypeId} {size g n cap j : Nat} {xs : List Value} (h : Own w base e size (.slice (some ⟨g, 0, none⟩) n cap) n xs) (hj : j < n * size) : ∃ u, w.cell? ⟨g, j, none⟩ = some u := by
  rw [h.cellAt j hj]
  exact ⟨_, List.getElem?_eq_getElem (by rw [h.1]; exact hj)⟩

def ToPost (bs : List Bf) (w : World) (e : Ending) (w' : World) : Prop := ∃ v, e = .returned v ∧ Own w' w.heap.size 37 3 v bs.length (bs.flatMap bfC) ∧ Below w.heap.size w w'

end Go.Proofs.Ytlejfmngpbcdhaa
