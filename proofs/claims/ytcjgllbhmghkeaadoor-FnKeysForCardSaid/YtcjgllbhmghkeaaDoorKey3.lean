/- What is proved here: contracts of the reference's PressKey. No condition. -/
import Derived.Test.YtcjgllbhmghkeaaDoorKey2
import Derived.Deep.RegionWith
import Derived.StillTailTactics
namespace Go.Proofs.YtcjgllbhmghkeaaDoor
open Go.RowKit



theorem cut_tv {s : List UInt8} {n : Nat} (h : tv s = true) (h0 : 0 < n) (hn : n ≤ s.length) : tv (s.take (n - 1) ++ s.drop n) = true ∧ n - 1 ≤ (s.take (n - 1) ++ s.drop n).length := by
  have hl := tv_len h
  refine ⟨?_, by rw [List.length_append, List.length_take]; omega⟩
  simp only [tv, Bool.and_eq_true] at h ⊢
  refine ⟨?_, by simp; omega⟩
  have h1 := h.1
  rw [List.all_append, Bool.and_eq_true, List.all_eq_true, List.all_eq_true]
  rw [List.all_eq_true] at h1
  exact ⟨fun x hx => h1 x (List.mem_of_mem_take hx), fun x hx => h1 x (List.mem_of_mem_drop hx)⟩
/-- what a key does, at a desk in parts. -/
def SkPost (s : List UInt8) (p x : Int) (ok : Bool) (w : World) (e : Ending) (w' : World) : Prop := e = .returned (.tuple #[.agg #[S s, .int .i64 p, .int .i64 x], .bool ok]) ∧ Below w.heap.size w w'







end Go.Proofs.YtcjgllbhmghkeaaDoor
