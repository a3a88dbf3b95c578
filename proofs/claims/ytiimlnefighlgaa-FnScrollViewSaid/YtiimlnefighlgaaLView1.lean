/- What is proved here: the walks of the laws FnViewValid and FnShownRows. No condition. -/
import Derived.Test.YtiimlnefighlgaaDraw2
import Derived.Test.YtiimlnefighlgaaAlive
import Derived.Test.YtiimlnefighlgaaShown
namespace Go.Proofs.Ytiimlnefighlgaa
open Go.RowKit

theorem vv_top (rows : Int) : vvB rows 1 rows = false := by
  rcases h : vvB rows 1 rows with _ | _
  · rfl
  · have := vvB_out h; omega
theorem vv_zero (rows : Int) : vvB 0 0 rows = false := by
  rcases h : vvB 0 0 rows with _ | _
  · rfl
  · have := vvB_out h; omega

theorem viewValid_walk (v : Value) (n : Nat) (zs : List Int) (w : World) (h : Bytes w w.heap.size v n zs) :
    Calls Try.prog 9 #[v] w fun e w' => e = .returned (.bool true) ∧ Below w.heap.size w w' := by
  have h' := h
  obtain ⟨h1, h2, A, c, rfl, h3, h4, h5⟩ := h
  clear h5 h2 h1 h4
  by_cases hn : n ≤ 1048576
  · have hW := Below.refl w.heap.size w
    have t1 := vv_top
    have t2 := vv_zero
    go_enter Try.func9, Try.ntmps9
    go_wp2_with fail
    refine (drawViewValid_any _ n zs _ (h'.to (by (repeat (first | exact Below.refl _ _ | assumption | refine Below.drew ?_ | refine up_drewN ?_ _ | refine up_alloc ?_ _ | refine up_set ?_ _ _ (by first | exact Nat.le_refl _ | (simp; done) | (simp; omega) | omega) | refine up_trans ?_ (by assumption)))))).mono ?_
    rintro e w1 ⟨t, k, rows, rfl, hb⟩
    have hB : Below w.heap.size w w1 := (by (repeat (first | exact Below.refl _ _ | assumption | refine Below.drew ?_ | refine up_drewN ?_ _ | refine up_alloc ?_ _ | refine up_set ?_ _ _ (by first | exact Nat.le_refl _ | (simp; done) | (simp; omega) | omega) | refine up_trans ?_ (by assumption)))); have sw1 := hB.size; replace hW := up_trans hW hB; clear hB
    clear hb h'
    go_wp2_with fail
    refine (implViewValid_any _ _ _ _).mono ?_
    rintro e w2 ⟨rfl, hb⟩
    have hB : Below w1.heap.size w1 w2 := (by (repeat (first | exact Below.refl _ _ | assumption | refine Below.drew ?_ | refine up_drewN ?_ _ | refine up_alloc ?_ _ | refine up_set ?_ _ _ (by first | exact Nat.le_refl _ | (simp; done) | (simp; omega) | omega) | refine up_trans ?_ (by assumption)))); have sw2 := hB.size; replace hW := up_trans hW hB; clear hB
    have uc : ∀ o, w2.cell? ⟨w1.heap.size, o, none⟩ = #[.int .i64 t, .int .i64 k][o]? := (fun o => (hb.cell (p := ⟨w1.heap.size, o, none⟩) (by simp <;> omega)).trans (by simp [go_sem])); have uf : ∀ o, w2.frozen? ⟨w1.heap.size, o, none⟩ = false := (fun o => (hb.frozen (p := ⟨w1.heap.size, o, none⟩) (by simp <;> omega)).trans (by simp [go_sem])); have uz : w1.heap.size < w2.heap.size := (by have := hb.size; (try simp at this); omega); have uy := uz
    clear hb
    go_wp2_with fail
    refine (specViewValid_any _ _ _ _).mono ?_
    rintro e w3 ⟨rfl, hb⟩
    have hB : Below w2.heap.size w2 w3 := (by (repeat (first | exact Below.refl _ _ | assumption | refine Below.drew ?_ | refine up_drewN ?_ _ | refine up_alloc ?_ _ | refine up_set ?_ _ _ (by first | exact Nat.le_refl _ | (simp; done) | (simp; omega) | omega) | refine up_trans ?_ (by assumption)))); replace uc := up_c hB uz uc; replace uf := up_f hB uz uf; replace uz := Nat.lt_of_lt_of_le uz hB.size; have sw3 := hB.size; replace hW := up_trans hW hB; clear hB
    clear hb
    go_wp2_with fail
    refine (implViewValid_any _ _ _ _).mono ?_
    rintro e w4 ⟨rfl, hb⟩
    have hB : Below w3.heap.size w3 w4 := (by (repeat (first | exact Below.refl _ _ | assumption | refine Below.drew ?_ | refine up_drewN ?_ _ | refine up_alloc ?_ _ | refine up_set ?_ _ _ (by first | exact Nat.le_refl _ | (simp; done) | (simp; omega) | omega) | refine up_trans ?_ (by assumption)))); replace uc := up_c hB uz uc; replace uf := up_f hB uz uf; replace uz := Nat.lt_of_lt_of_le uz hB.size; have sw4 := hB.size; replace hW := up_trans hW hB; clear hB
    clear hb
    go_wp2_with fail
    refine (implViewValid_any _ _ _ _).mono ?_
    rintro e w5 ⟨rfl, hb⟩
    have hB : Below w4.heap.size w4 w5 := (by (repeat (first | exact Below.refl _ _ | assumption | refine Below.drew ?_ | refine up_drewN ?_ _ | refine up_alloc ?_ _ | refine up_set ?_ _ _ (by first | exact Nat.le_refl _ | (simp; done) | (simp; omega) | omega) | refine up_trans ?_ (by assumption)))); replace uc := up_c hB uz uc; replace uf := up_f hB uz uf; replace uz := Nat.lt_of_lt_of_le uz hB.size; have sw5 := hB.size; replace hW := up_trans hW hB; clear hB
    clear hb
    go_wp2_with fail
    refine (alive_any _).mono ?_
    rintro e w6 ⟨rfl, rfl⟩
    go_wp2_with fail
    go_ret
    exact ⟨rfl, by (repeat (first | exact Below.refl _ _ | assumption | refine Below.drew ?_ | refine up_drewN ?_ _ | refine up_alloc ?_ _ | refine up_set ?_ _ _ (by first | exact Nat.le_refl _ | (simp; done) | (simp; omega) | omega) | refine up_trans ?_ (by assumption)))⟩
  · go_enter Try.func9, Try.ntmps9
    go_wp2_with fail
    go_ret
    exact ⟨rfl, Below.refl _ _⟩

end Go.Proofs.Ytiimlnefighlgaa
