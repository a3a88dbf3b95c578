/- What is proved here: contracts of toMoment and toMomentS. No condition. -/
import Derived.Test.YtlejfmngpbcdhaaHistS
namespace Go.Proofs.Ytlejfmngpbcdhaa
open Go.RowKit
set_option linter.unusedVariables false


theorem set7 (a b : List Value) (u0 u1 u2 u3 u4 u5 u6 : Value) (k : Nat) (h : a.length = k) (hb : 7 ≤ b.length) : (((((((a ++ b).set k u0).set (k + 1) u1).set (k + 2) u2).set (k + 3) u3).set (k + 4) u4).set (k + 5) u5).set (k + 6) u6 = a ++ [u0, u1, u2, u3, u4, u5, u6] ++ b.drop 7 := by
  subst h
  obtain ⟨b0, b, rfl⟩ : ∃ x y, b = x :: y := by cases b with | nil => simp at hb | cons x y => exact ⟨x, y, rfl⟩
  obtain ⟨b1, b, rfl⟩ : ∃ x y, b = x :: y := by cases b with | nil => simp at hb | cons x y => exact ⟨x, y, rfl⟩
  obtain ⟨b2, b, rfl⟩ : ∃ x y, b = x :: y := by cases b with | nil => simp at hb | cons x y => exact ⟨x, y, rfl⟩
  obtain ⟨b3, b, rfl⟩ : ∃ x y, b = x :: y := by cases b with | nil => simp at hb | cons x y => exact ⟨x, y, rfl⟩
  obtain ⟨b4, b, rfl⟩ : ∃ x y, b = x :: y := by cases b with | nil => simp at hb | cons x y => exact ⟨x, y, rfl⟩
  obtain ⟨b5, b, rfl⟩ : ∃ x y, b = x :: y := by cases b with | nil => simp at hb | cons x y => exact ⟨x, y, rfl⟩
  obtain ⟨b6, b, rfl⟩ : ∃ x y, b = x :: y := by cases b with | nil => simp at hb | cons x y => exact ⟨x, y, rfl⟩
  simp
theorem own_set7 {w : World} {base : Nat} {e : TypeId} {g n cap k : Nat} {a b : List Value} (h : Own w base e 7 (.slice (some ⟨g, 0, none⟩) n cap) n (a ++ b)) (ha : a.length = k * 7) (hk : k < n) (u0 u1 u2 u3 u4 u5 u6 : Value) :
    Own (((((((w.setCell ⟨g, k * 7, none⟩ u0).setCell ⟨g, k * 7 + 1, none⟩ u1).setCell ⟨g, k * 7 + 2, none⟩ u2).setCell ⟨g, k * 7 + 3, none⟩ u3).setCell ⟨g, k * 7 + 4, none⟩ u4).setCell ⟨g, k * 7 + 5, none⟩ u5).setCell ⟨g, k * 7 + 6, none⟩ u6) base e 7 (.slice (some ⟨g, 0, none⟩) n cap) n (a ++ [u0, u1, u2, u3, u4, u5, u6] ++ b.drop 7) := by
  have h1 := (h.stored (k * 7) u0).1
  have h2 := (h1.stored (k * 7 + 1) u1).1
  have h3 := (h2.stored (k * 7 + 2) u2).1
  have h4 := (h3.stored (k * 7 + 3) u3).1
  have h5 := (h4.stored (k * 7 + 4) u4).1
  have h6 := (h5.stored (k * 7 + 5) u5).1
  have h7 := (h6.stored (k * 7 + 6) u6).1
  rw [set7 a b u0 u1 u2 u3 u4 u5 u6 (k * 7) ha (by have := h.1; rw [List.length_append] at this; omega)] at h7
  exact h7
theorem own_someM {w : World} {base : Nat} {e : TypeId} {size g n cap j : Nat} {xs : List Value} (h : Own w base e size (.slice (some ⟨g, 0, none⟩) n cap) n xs) (hj : j < n * size) : ∃ u, w.cell? ⟨g, j, none⟩ = some u := by
  rw [h.cellAt j hj]
  exact ⟨_, List.getElem?_eq_getElem (by rw [h.1]; exact hj)⟩
def ToMPost (ms : List Mo) (w : World) (e : Ending) (w' : World) : Prop := ∃ v, e = .returned v ∧ OwnM w' w.heap.size v ms ∧ Below w.heap.size w w'


end Go.Proofs.Ytlejfmngpbcdhaa

