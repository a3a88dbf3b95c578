/- What is proved here: the contract of strings.NewReplacer at the four texts of the program. No condition. -/
import Derived.Test.YtdngdlcibaiekaaGreatDoorAppG
import Derived.Test.YtdngdlcibaiekaaGreatDoorStrC
namespace Go.Proofs.YtdngdlcibaiekaaGreatDoor
open Go.RowKit
set_option linter.unusedVariables false

/-- what is replaced, and by what. -/
def oldL : List (List UInt8) := [[10], [92, 110], [92], [92, 92]]
/-- a block's cells, and that it may be written. -/
def IsB (w : World) (i : Nat) (V : Array Value) : Prop := (∀ o, w.cell? ⟨i, o, none⟩ = V[o]?) ∧ (∀ o, w.frozen? ⟨i, o, none⟩ = false) ∧ i < w.heap.size
/-- a row of the four texts in block q. -/
def OldAt (w : World) (q o : Nat) : Prop := q < w.heap.size ∧ w.cell? ⟨q, o, none⟩ = some (S [10]) ∧ w.cell? ⟨q, o + 1, none⟩ = some (S [92, 110]) ∧ w.cell? ⟨q, o + 2, none⟩ = some (S [92]) ∧ w.cell? ⟨q, o + 3, none⟩ = some (S [92, 92])
def NewRp (w : World) (e : Ending) (w' : World) : Prop := ∃ R q o c, e = .returned (.pointer (some ⟨R, 0, none⟩)) ∧ w.heap.size ≤ q ∧ q < R ∧ 4 ≤ c ∧
  IsB w' R #[.int .u32 0, .int .i32 0, .int .u32 0, .nilIface, .slice (some ⟨q, o, none⟩) 4 c] ∧ OldAt w' q o ∧ Below w.heap.size w w'
theorem oldL_oneCell : ∀ x ∈ oldL.flatMap strC, x.oneCell' = true := by decide

set_option maxRecDepth 100000 in
theorem newReplacer_any (v : Value) (w : World) (h : RdL w 1 strC v oldL) :
    Calls Tryz.prog 46 #[v] w (NewRp w) := by
  obtain ⟨A, c, rfl, _, _⟩ := h.form
  obtain ⟨i0, hi, hz0, hz1, hz2⟩ := info_parts str_info
  have hl : oldL.length = 4 := rfl
  rw [hl]
  have H := Lib.hid h
  rw [hl] at H
  clear hl h
  go_enter Tryz.func46, Tryz.ntmps46
  go_wp2_with (at_builtin; refine wpList_append_any _ rfl _ _ 34 rfl w.heap.size 9 i0 _ 1 16 Tryz.underlying34 hi hz0 hz1 hz2 rfl (by decide) _ _ _ rfl (World.ownsRow_nil _ _ _ _) _ 4 _ rfl H.out oldL_oneCell (by unfold maxLen; omega) (by omega) (Nat.le_refl _) ?_; intro v1 w1 how hgr; obtain ⟨A1, c1, rfl, -, hc1⟩ := (RdL.of_own (f := strC) (bs := oldL) (by have h4 := how; simp only [List.nil_append, Nat.zero_add] at h4; exact h4)).form; have hl1 : oldL.length = 4 := rfl; rw [hl1] at how hc1 ⊢; clear hl1)
  have hW : Below w.heap.size w w1 := up_grown (Below.refl _ _) hgr (fun k hk => by cases hk)
  have hR : RdL w1 1 strC (.slice A1 4 c1) oldL := RdL.of_own (f := strC) (bs := oldL) (by have h4 := how; simp only [List.nil_append, Nat.zero_add] at h4; exact h4)
  obtain ⟨q, o, rfl, hq, k0⟩ := hR.cells strC_len (show 0 < oldL.length by decide)
  obtain ⟨q', o', e1, -, k1⟩ := hR.cells strC_len (show 1 < oldL.length by decide)
  obtain ⟨q2, o2, e2, -, k2⟩ := hR.cells strC_len (show 2 < oldL.length by decide)
  obtain ⟨q3, o3, e3, -, k3⟩ := hR.cells strC_len (show 3 < oldL.length by decide)
  injection e1 with e1; injection e1 with e1 e1'; subst e1; subst e1'
  injection e2 with e2; injection e2 with e2 e2'; subst e2; subst e2'
  injection e3 with e3; injection e3 with e3 e3'; subst e3; subst e3'
  have hlow := own_lt how (Nat.le_refl _) q rfl
  go_ret
  refine ⟨w1.heap.size, q, o, c1, rfl, hlow, hq, hc1, ⟨fun j => by simp [go_sem], fun j => by simp [go_sem], by simp⟩, ⟨by simp; omega, ?_, ?_, ?_, ?_⟩, by (repeat (first | exact Below.refl _ _ | assumption | refine Below.drew ?_ | refine up_drewN ?_ _ | refine up_alloc ?_ _ | refine up_set ?_ _ _ (by first | exact Nat.le_refl _ | (simp; done) | (simp; omega) | omega) | refine up_trans ?_ (by assumption)))⟩
  · rw [World.cell?_alloc_past _ _ _ hq]; exact k0 0 _ rfl
  · rw [World.cell?_alloc_past _ _ _ hq]; exact k1 0 _ rfl
  · rw [World.cell?_alloc_past _ _ _ hq]; exact k2 0 _ rfl
  · rw [World.cell?_alloc_past _ _ _ hq]; exact k3 0 _ rfl

end Go.Proofs.YtdngdlcibaiekaaGreatDoor
