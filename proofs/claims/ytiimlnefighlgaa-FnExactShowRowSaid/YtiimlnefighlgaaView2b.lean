/- What is proved here: the walks of the exact laws of ScrollView and ShowRow. No condition. -/
import Derived.Test.YtiimlnefighlgaaView2
namespace Go.Proofs.Ytiimlnefighlgaa
open Go.RowKit

theorem exactScrollView_walk (t k rows d : Int) (w : World) :
    Calls Try.prog 4 #[.agg #[.int .i64 t, .int .i64 k], .int .i64 rows, .int .i64 d] w fun e w' => e = .returned (.bool true) ∧ Below w.heap.size w w' := by
  have hW := Below.refl w.heap.size w
  go_enter Try.func4, Try.ntmps4
  go_wp2_with fail
  refine (toView_any _ _ _).mono ?_
  rintro e w1 ⟨rfl, hb⟩
  have hB : Below w.heap.size w w1 := (by (repeat (first | exact Below.refl _ _ | assumption | refine Below.drew ?_ | refine up_alloc ?_ _ | refine up_set ?_ _ _ (by first | exact Nat.le_refl _ | (simp; done) | (simp; omega) | omega) | refine up_trans ?_ (by assumption)))); replace hW := up_trans hW hB; clear hB
  have xc : ∀ o, w1.cell? ⟨w.heap.size, o, none⟩ = #[.int .i64 t, .int .i64 k][o]? := (fun o => (hb.cell (p := ⟨w.heap.size, o, none⟩) (by simp <;> omega)).trans (by simp [go_sem])); have xf : ∀ o, w1.frozen? ⟨w.heap.size, o, none⟩ = false := (fun o => (hb.frozen (p := ⟨w.heap.size, o, none⟩) (by simp <;> omega)).trans (by simp [go_sem])); have xz : w.heap.size < w1.heap.size := (by have := hb.size; (try simp at this); omega)
  clear hb
  go_wp2_with fail
  refine (specScrollView_any _ _ _ _ _).mono ?_
  rintro e w2 ⟨rfl, hb⟩
  have hB : Below w1.heap.size w1 w2 := (by (repeat (first | exact Below.refl _ _ | assumption | refine Below.drew ?_ | refine up_alloc ?_ _ | refine up_set ?_ _ _ (by first | exact Nat.le_refl _ | (simp; done) | (simp; omega) | omega) | refine up_trans ?_ (by assumption)))); replace xc := up_c hB xz xc; replace xf := up_f hB xz xf; replace xz := Nat.lt_of_lt_of_le xz hB.size; replace hW := up_trans hW hB; clear hB
  clear hb
  go_wp2_with fail
  refine (toView_any _ _ _).mono ?_
  rintro e w3 ⟨rfl, hb⟩
  have hB : Below w2.heap.size w2 w3 := (by (repeat (first | exact Below.refl _ _ | assumption | refine Below.drew ?_ | refine up_alloc ?_ _ | refine up_set ?_ _ _ (by first | exact Nat.le_refl _ | (simp; done) | (simp; omega) | omega) | refine up_trans ?_ (by assumption)))); replace xc := up_c hB xz xc; replace xf := up_f hB xz xf; replace xz := Nat.lt_of_lt_of_le xz hB.size; replace hW := up_trans hW hB; clear hB
  have rc : ∀ o, w3.cell? ⟨w2.heap.size, o, none⟩ = #[.int .i64 (scrollT t k rows d), .int .i64 (scrollH t k rows d)][o]? := (fun o => (hb.cell (p := ⟨w2.heap.size, o, none⟩) (by simp <;> omega)).trans (by simp [go_sem])); have rf : ∀ o, w3.frozen? ⟨w2.heap.size, o, none⟩ = false := (fun o => (hb.frozen (p := ⟨w2.heap.size, o, none⟩) (by simp <;> omega)).trans (by simp [go_sem])); have rz : w2.heap.size < w3.heap.size := (by have := hb.size; (try simp at this); omega)
  clear hb
  go_wp2_with fail
  refine (implScrollView_any _ _ _ _ _).mono ?_
  rintro e w4 ⟨rfl, hb⟩
  have hB : Below w3.heap.size w3 w4 := (by (repeat (first | exact Below.refl _ _ | assumption | refine Below.drew ?_ | refine up_alloc ?_ _ | refine up_set ?_ _ _ (by first | exact Nat.le_refl _ | (simp; done) | (simp; omega) | omega) | refine up_trans ?_ (by assumption)))); replace xc := up_c hB xz xc; replace xf := up_f hB xz xf; replace xz := Nat.lt_of_lt_of_le xz hB.size; replace rc := up_c hB rz rc; replace rf := up_f hB rz rf; replace rz := Nat.lt_of_lt_of_le rz hB.size; replace hW := up_trans hW hB; clear hB
  clear hb
  go_wp2_with fail
  refine (eqView_any _ _ _ _ _).mono ?_
  rintro e w5 ⟨rfl, hb⟩
  have hB : Below w4.heap.size w4 w5 := (by (repeat (first | exact Below.refl _ _ | assumption | refine Below.drew ?_ | refine up_alloc ?_ _ | refine up_set ?_ _ _ (by first | exact Nat.le_refl _ | (simp; done) | (simp; omega) | omega) | refine up_trans ?_ (by assumption)))); replace xc := up_c hB xz xc; replace xf := up_f hB xz xf; replace xz := Nat.lt_of_lt_of_le xz hB.size; replace rc := up_c hB rz rc; replace rf := up_f hB rz rf; replace rz := Nat.lt_of_lt_of_le rz hB.size; replace hW := up_trans hW hB; clear hB
  clear hb
  go_wp2_with fail
  go_ret
  exact ⟨rfl, by (repeat (first | exact Below.refl _ _ | assumption | refine Below.drew ?_ | refine up_alloc ?_ _ | refine up_set ?_ _ _ (by first | exact Nat.le_refl _ | (simp; done) | (simp; omega) | omega) | refine up_trans ?_ (by assumption)))⟩

theorem exactShowRow_walk (t k rows d : Int) (w : World) :
    Calls Try.prog 5 #[.agg #[.int .i64 t, .int .i64 k], .int .i64 rows, .int .i64 d] w fun e w' => e = .returned (.bool true) ∧ Below w.heap.size w w' := by
  have hW := Below.refl w.heap.size w
  go_enter Try.func5, Try.ntmps5
  go_wp2_with fail
  refine (toView_any _ _ _).mono ?_
  rintro e w1 ⟨rfl, hb⟩
  have hB : Below w.heap.size w w1 := (by (repeat (first | exact Below.refl _ _ | assumption | refine Below.drew ?_ | refine up_alloc ?_ _ | refine up_set ?_ _ _ (by first | exact Nat.le_refl _ | (simp; done) | (simp; omega) | omega) | refine up_trans ?_ (by assumption)))); replace hW := up_trans hW hB; clear hB
  have xc : ∀ o, w1.cell? ⟨w.heap.size, o, none⟩ = #[.int .i64 t, .int .i64 k][o]? := (fun o => (hb.cell (p := ⟨w.heap.size, o, none⟩) (by simp <;> omega)).trans (by simp [go_sem])); have xf : ∀ o, w1.frozen? ⟨w.heap.size, o, none⟩ = false := (fun o => (hb.frozen (p := ⟨w.heap.size, o, none⟩) (by simp <;> omega)).trans (by simp [go_sem])); have xz : w.heap.size < w1.heap.size := (by have := hb.size; (try simp at this); omega)
  clear hb
  go_wp2_with fail
  refine (specShowRow_any _ _ _ _ _).mono ?_
  rintro e w2 ⟨rfl, hb⟩
  have hB : Below w1.heap.size w1 w2 := (by (repeat (first | exact Below.refl _ _ | assumption | refine Below.drew ?_ | refine up_alloc ?_ _ | refine up_set ?_ _ _ (by first | exact Nat.le_refl _ | (simp; done) | (simp; omega) | omega) | refine up_trans ?_ (by assumption)))); replace xc := up_c hB xz xc; replace xf := up_f hB xz xf; replace xz := Nat.lt_of_lt_of_le xz hB.size; replace hW := up_trans hW hB; clear hB
  clear hb
  go_wp2_with fail
  refine (toView_any _ _ _).mono ?_
  rintro e w3 ⟨rfl, hb⟩
  have hB : Below w2.heap.size w2 w3 := (by (repeat (first | exact Below.refl _ _ | assumption | refine Below.drew ?_ | refine up_alloc ?_ _ | refine up_set ?_ _ _ (by first | exact Nat.le_refl _ | (simp; done) | (simp; omega) | omega) | refine up_trans ?_ (by assumption)))); replace xc := up_c hB xz xc; replace xf := up_f hB xz xf; replace xz := Nat.lt_of_lt_of_le xz hB.size; replace hW := up_trans hW hB; clear hB
  have rc : ∀ o, w3.cell? ⟨w2.heap.size, o, none⟩ = #[.int .i64 (showT t k rows d), .int .i64 (showH t k rows d)][o]? := (fun o => (hb.cell (p := ⟨w2.heap.size, o, none⟩) (by simp <;> omega)).trans (by simp [go_sem])); have rf : ∀ o, w3.frozen? ⟨w2.heap.size, o, none⟩ = false := (fun o => (hb.frozen (p := ⟨w2.heap.size, o, none⟩) (by simp <;> omega)).trans (by simp [go_sem])); have rz : w2.heap.size < w3.heap.size := (by have := hb.size; (try simp at this); omega)
  clear hb
  go_wp2_with fail
  refine (implShowRow_any _ _ _ _ _).mono ?_
  rintro e w4 ⟨rfl, hb⟩
  have hB : Below w3.heap.size w3 w4 := (by (repeat (first | exact Below.refl _ _ | assumption | refine Below.drew ?_ | refine up_alloc ?_ _ | refine up_set ?_ _ _ (by first | exact Nat.le_refl _ | (simp; done) | (simp; omega) | omega) | refine up_trans ?_ (by assumption)))); replace xc := up_c hB xz xc; replace xf := up_f hB xz xf; replace xz := Nat.lt_of_lt_of_le xz hB.size; replace rc := up_c hB rz rc; replace rf := up_f hB rz rf; replace rz := Nat.lt_of_lt_of_le rz hB.size; replace hW := up_trans hW hB; clear hB
  clear hb
  go_wp2_with fail
  refine (eqView_any _ _ _ _ _).mono ?_
  rintro e w5 ⟨rfl, hb⟩
  have hB : Below w4.heap.size w4 w5 := (by (repeat (first | exact Below.refl _ _ | assumption | refine Below.drew ?_ | refine up_alloc ?_ _ | refine up_set ?_ _ _ (by first | exact Nat.le_refl _ | (simp; done) | (simp; omega) | omega) | refine up_trans ?_ (by assumption)))); replace xc := up_c hB xz xc; replace xf := up_f hB xz xf; replace xz := Nat.lt_of_lt_of_le xz hB.size; replace rc := up_c hB rz rc; replace rf := up_f hB rz rf; replace rz := Nat.lt_of_lt_of_le rz hB.size; replace hW := up_trans hW hB; clear hB
  clear hb
  go_wp2_with fail
  go_ret
  exact ⟨rfl, by (repeat (first | exact Below.refl _ _ | assumption | refine Below.drew ?_ | refine up_alloc ?_ _ | refine up_set ?_ _ _ (by first | exact Nat.le_refl _ | (simp; done) | (simp; omega) | omega) | refine up_trans ?_ (by assumption)))⟩
end Go.Proofs.Ytiimlnefighlgaa
