/- What is proved here: the contract of l20Width. No condition but that the code is a slice of bytes. -/
import Derived.Test.YtcjgllbhmghkeaaDoorDrawPl
namespace Go.Proofs.YtcjgllbhmghkeaaDoor
open Go.RowKit

theorem at9 (x : Int) (a : 0 ≤ x) (b : x < 9) : ∃ y : Int, (#[Value.int .i64 0, .int .i64 0, .int .i64 0, .int .i64 0, .int .i64 0, .int .i64 0, .int .i64 2, .int .i64 1, .int .i64 3] : Array Value)[x.toNat]? = some (.int .i64 y) ∧ 0 ≤ y ∧ y ≤ 3 := by
  rcases (show x = 0 ∨ x = 1 ∨ x = 2 ∨ x = 3 ∨ x = 4 ∨ x = 5 ∨ x = 6 ∨ x = 7 ∨ x = 8 by omega) with rfl | rfl | rfl | rfl | rfl | rfl | rfl | rfl | rfl
  all_goals first | exact ⟨0, rfl, by omega, by omega⟩ | exact ⟨1, rfl, by omega, by omega⟩ | exact ⟨2, rfl, by omega, by omega⟩ | exact ⟨3, rfl, by omega, by omega⟩
theorem at4' (x0 x1 x2 x3 x : Int) (a : 0 ≤ x) (b : x < 4) : ∃ y : Int, (#[Value.int .i64 x0, .int .i64 x1, .int .i64 x2, .int .i64 x3] : Array Value)[x.toNat]? = some (.int .i64 y) := by
  rcases (show x = 0 ∨ x = 1 ∨ x = 2 ∨ x = 3 by omega) with rfl | rfl | rfl | rfl
  · exact ⟨x0, rfl⟩
  · exact ⟨x1, rfl⟩
  · exact ⟨x2, rfl⟩
  · exact ⟨x3, rfl⟩
set_option maxRecDepth 100000 in
set_option maxHeartbeats 1000000 in
theorem l20Width_any (g n : Nat) (zs : List Int) (p : Nat) (w : World) (hr : Rdr w g n zs p) (hp : p < 800000000) :
    Calls Tryd.prog 32 #[.pointer (some ⟨g, 0, none⟩)] w (PlacePost g n zs p w) := by
  have hg := hr.lt
  have hW := World.grownBy.refl w (some g)
  go_enter Tryd.func32, Tryd.ntmps32
  go_wp2_with fail
  refine (pick_any _ _ _ _ _ _ hr (by omega)).mono ?_
  rintro e w1 ⟨y1, rfl, h1, h2, hr1, hb⟩
  have hG : w.grownBy w1 (some g) := (by (repeat (first | exact World.grownBy.refl _ _ | assumption | refine gb_drew ?_ | refine gb_drewN ?_ _ | refine gb_alloc ?_ _ | refine gb_here ?_ rfl _ | refine gb_set ?_ _ _ (by first | exact Nat.le_refl _ | (simp; done) | (simp; omega) | omega) | refine gb_trans ?_ (by assumption) | refine gb_below ?_ (by assumption)))); have sw1 := hG.size; replace hW := gb_trans hW hG; clear hG
  have hy1 := h1 (by omega)
  have e1 : IntKind.i64.wrap (4 + y1) = 4 + y1 := IntWalk.i64_in _ (by omega)
  clear hb hr h1 h2
  go_wp2_with fail
  refine (pick_any _ _ _ _ _ _ (hr1.up (by (repeat (first | exact Below.refl _ _ | assumption | refine Below.drew ?_ | refine up_drewN ?_ _ | refine up_alloc ?_ _ | refine up_set ?_ _ _ (by first | exact Nat.le_refl _ | (simp; done) | (simp; omega) | omega) | refine up_trans ?_ (by assumption))))) (by omega)).mono ?_
  rintro e w2 ⟨y2, rfl, h1, h2, hr2, hb⟩
  have hG : w1.grownBy w2 (some g) := (by (repeat (first | exact World.grownBy.refl _ _ | assumption | refine gb_drew ?_ | refine gb_drewN ?_ _ | refine gb_alloc ?_ _ | refine gb_here ?_ rfl _ | refine gb_set ?_ _ _ (by first | exact Nat.le_refl _ | (simp; done) | (simp; omega) | omega) | refine gb_trans ?_ (by assumption) | refine gb_below ?_ (by assumption)))); have sw2 := hG.size; replace hW := gb_trans hW hG; clear hG
  have lc : ∀ o, w2.cell? ⟨w1.heap.size, o, none⟩ = #[.int .i64 (4 + y1), .int .i64 3, .int .i64 40, .int .i64 41][o]? := gup_c hb (by simp <;> omega) (by omega) (fun o => by simp [go_sem]); have lf : ∀ o, w2.frozen? ⟨w1.heap.size, o, none⟩ = false := gup_f hb (by simp <;> omega) (by omega) (fun o => by simp [go_sem]); have lz : w1.heap.size < w2.heap.size := (by have := hb.size; (try simp at this); omega); have ly := lz
  have kc : ∀ o, w2.cell? ⟨w1.heap.size + 1, o, none⟩ = #[.int .i64 0, .int .i64 0, .int .i64 0, .int .i64 0, .int .i64 0, .int .i64 0, .int .i64 2, .int .i64 1, .int .i64 3][o]? := gup_c hb (by simp <;> omega) (by omega) (fun o => by simp [go_sem]); have kf : ∀ o, w2.frozen? ⟨w1.heap.size + 1, o, none⟩ = false := gup_f hb (by simp <;> omega) (by omega) (fun o => by simp [go_sem]); have kz : w1.heap.size + 1 < w2.heap.size := (by have := hb.size; (try simp at this); omega); have ky := kz
  have hy2 := h1 (by omega)
  obtain ⟨y, hy, hyl, hyh⟩ := at9 y2 hy2.1 hy2.2
  obtain ⟨u, hu⟩ := at4' (4 + y1) 3 40 41 y hyl (by omega)
  have kc1 := (kc y2.toNat).trans hy
  have lc1 := (lc y.toNat).trans hu
  clear hb hr1 h1 h2 lc lf ly hy kc kf ky hu
  go_wp2_with fail
  go_ret
  exact ⟨_, rfl, ⟨_, by omega, hr2⟩, hW⟩

end Go.Proofs.YtcjgllbhmghkeaaDoor
