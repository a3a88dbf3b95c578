/- What is proved here: the contract of l20Place. No condition but that the code is a slice of bytes. -/
import Derived.Test.YtcjgllbhmghkeaaDoorDrawT
namespace Go.Proofs.YtcjgllbhmghkeaaDoor
open Go.RowKit

def PlacePost (g n : Nat) (zs : List Int) (p : Nat) (w : World) (e : Ending) (w' : World) : Prop :=
  ∃ x : Int, e = .returned (.int .i64 x) ∧ (∃ q, q ≤ p + 3 ∧ Rdr w' g n zs q) ∧ w.grownBy w' (some g)
theorem at6 (x : Int) (a : 0 ≤ x) (b : x < 6) : ∃ y : Int, (#[Value.int .i64 0, .int .i64 0, .int .i64 0, .int .i64 0, .int .i64 1, .int .i64 2] : Array Value)[x.toNat]? = some (.int .i64 y) ∧ 0 ≤ y ∧ y ≤ 2 := by
  rcases (show x = 0 ∨ x = 1 ∨ x = 2 ∨ x = 3 ∨ x = 4 ∨ x = 5 by omega) with rfl | rfl | rfl | rfl | rfl | rfl
  all_goals first | exact ⟨0, rfl, by omega, by omega⟩ | exact ⟨1, rfl, by omega, by omega⟩ | exact ⟨2, rfl, by omega, by omega⟩
theorem at2 (x0 x1 x : Int) (a : 0 ≤ x) (b : x < 2) : ∃ y : Int, (#[Value.int .i64 x0, .int .i64 x1] : Array Value)[x.toNat]? = some (.int .i64 y) := by
  rcases (show x = 0 ∨ x = 1 by omega) with rfl | rfl
  · exact ⟨x0, rfl⟩
  · exact ⟨x1, rfl⟩
theorem at3' (x0 x1 x2 x : Int) (a : 0 ≤ x) (b : x < 3) : ∃ y : Int, (#[Value.int .i64 x0, .int .i64 x1, .int .i64 x2] : Array Value)[x.toNat]? = some (.int .i64 y) := by
  rcases (show x = 0 ∨ x = 1 ∨ x = 2 by omega) with rfl | rfl | rfl
  · exact ⟨x0, rfl⟩
  · exact ⟨x1, rfl⟩
  · exact ⟨x2, rfl⟩

set_option maxRecDepth 100000 in
set_option maxHeartbeats 1000000 in
theorem l20Place_any (g n : Nat) (zs : List Int) (p : Nat) (m : Int) (s : List UInt8) (w : World) (hr : Rdr w g n zs p) (hp : p < 800000000) (hs : s.length ≤ 1000) :
    Calls Tryd.prog 35 #[.pointer (some ⟨g, 0, none⟩), S s, .int .i64 m] w (PlacePost g n zs p w) := by
  have hg := hr.lt
  have hW := World.grownBy.refl w (some g)
  rcases (show (((s.length : Int) + 1 < 256 ∧ (s.length : Int) + 1 ≤ 256)) ∨ (¬ (s.length : Int) + 1 < 256 ∧ (s.length : Int) + 1 ≤ 256) ∨ (256 < (s.length : Int) + 1 ∧ 256 ≤ (s.length : Int) + 1) by omega) with ⟨h256, h255⟩ | ⟨h256, h255⟩ | ⟨h256, h255⟩
  all_goals
    go_enter Tryd.func35, Tryd.ntmps35
    go_wp2_with fail
    refine (odd_any _ _ _ _ _ _ hr (by omega)).mono ?_
    rintro e w1 ⟨x1, rfl, ⟨q1, hq1, hr1⟩, hb⟩
    have hG : w.grownBy w1 (some g) := (by (repeat (first | exact World.grownBy.refl _ _ | assumption | refine gb_drew ?_ | refine gb_drewN ?_ _ | refine gb_alloc ?_ _ | refine gb_here ?_ rfl _ | refine gb_set ?_ _ _ (by first | exact Nat.le_refl _ | (simp; done) | (simp; omega) | omega) | refine gb_trans ?_ (by assumption) | refine gb_below ?_ (by assumption)))); have sw1 := hG.size; replace hW := gb_trans hW hG; clear hG
    clear hb hr
    rcases x1 with _ | _
    · go_wp2_with fail
      refine (pick_any _ _ _ _ _ _ (hr1.up (by (repeat (first | exact Below.refl _ _ | assumption | refine Below.drew ?_ | refine up_drewN ?_ _ | refine up_alloc ?_ _ | refine up_set ?_ _ _ (by first | exact Nat.le_refl _ | (simp; done) | (simp; omega) | omega) | refine up_trans ?_ (by assumption))))) (by omega)).mono ?_
      rintro e w2 ⟨y1, rfl, h1, h2, hr2, hb⟩
      have hG : w1.grownBy w2 (some g) := (by (repeat (first | exact World.grownBy.refl _ _ | assumption | refine gb_drew ?_ | refine gb_drewN ?_ _ | refine gb_alloc ?_ _ | refine gb_here ?_ rfl _ | refine gb_set ?_ _ _ (by first | exact Nat.le_refl _ | (simp; done) | (simp; omega) | omega) | refine gb_trans ?_ (by assumption) | refine gb_below ?_ (by assumption)))); have sw2 := hG.size; replace hW := gb_trans hW hG; clear hG
      have hy1 := h1 (by omega)
      clear hb hr1 h1 h2
      go_wp2_with fail
      refine (pick_any _ _ _ _ _ _ (hr2.up (by (repeat (first | exact Below.refl _ _ | assumption | refine Below.drew ?_ | refine up_drewN ?_ _ | refine up_alloc ?_ _ | refine up_set ?_ _ _ (by first | exact Nat.le_refl _ | (simp; done) | (simp; omega) | omega) | refine up_trans ?_ (by assumption))))) (by omega)).mono ?_
      rintro e w3 ⟨y2, rfl, h1, h2, hr3, hb⟩
      have hG : w2.grownBy w3 (some g) := (by (repeat (first | exact World.grownBy.refl _ _ | assumption | refine gb_drew ?_ | refine gb_drewN ?_ _ | refine gb_alloc ?_ _ | refine gb_here ?_ rfl _ | refine gb_set ?_ _ _ (by first | exact Nat.le_refl _ | (simp; done) | (simp; omega) | omega) | refine gb_trans ?_ (by assumption) | refine gb_below ?_ (by assumption)))); have sw3 := hG.size; replace hW := gb_trans hW hG; clear hG
      have lc : ∀ o, w3.cell? ⟨w2.heap.size, o, none⟩ = #[.int .i64 y1, .int .i64 0, .int .i64 s.length][o]? := gup_c hb (by simp <;> omega) (by omega) (fun o => by simp [go_sem]); have lf : ∀ o, w3.frozen? ⟨w2.heap.size, o, none⟩ = false := gup_f hb (by simp <;> omega) (by omega) (fun o => by simp [go_sem]); have lz : w2.heap.size < w3.heap.size := (by have := hb.size; (try simp at this); omega); have ly := lz
      have kc : ∀ o, w3.cell? ⟨w2.heap.size + 1, o, none⟩ = #[.int .i64 0, .int .i64 0, .int .i64 0, .int .i64 0, .int .i64 1, .int .i64 2][o]? := gup_c hb (by simp <;> omega) (by omega) (fun o => by simp [go_sem]); have kf : ∀ o, w3.frozen? ⟨w2.heap.size + 1, o, none⟩ = false := gup_f hb (by simp <;> omega) (by omega) (fun o => by simp [go_sem]); have kz : w2.heap.size + 1 < w3.heap.size := (by have := hb.size; (try simp at this); omega); have ky := kz
      have hy2 := h1 (by omega)
      obtain ⟨y, hy, hyl, hyh⟩ := at6 y2 hy2.1 hy2.2
      obtain ⟨u, hu⟩ := at3' y1 0 s.length y hyl (by omega)
      have kc1 := (kc y2.toNat).trans hy
      have lc1 := (lc y.toNat).trans hu
      clear hb hr2 h1 h2 lc lf ly hy kc kf ky hu
      go_wp2_with fail
      go_ret
      exact ⟨_, rfl, ⟨_, by omega, hr3⟩, hW⟩
    · go_wp2_with fail
      refine (pick_any _ _ _ _ _ _ (hr1.up (by (repeat (first | exact Below.refl _ _ | assumption | refine Below.drew ?_ | refine up_drewN ?_ _ | refine up_alloc ?_ _ | refine up_set ?_ _ _ (by first | exact Nat.le_refl _ | (simp; done) | (simp; omega) | omega) | refine up_trans ?_ (by assumption))))) (by omega)).mono ?_
      rintro e w2 ⟨y1, rfl, h1, h2, hr2, hb⟩
      have hG : w1.grownBy w2 (some g) := (by (repeat (first | exact World.grownBy.refl _ _ | assumption | refine gb_drew ?_ | refine gb_drewN ?_ _ | refine gb_alloc ?_ _ | refine gb_here ?_ rfl _ | refine gb_set ?_ _ _ (by first | exact Nat.le_refl _ | (simp; done) | (simp; omega) | omega) | refine gb_trans ?_ (by assumption) | refine gb_below ?_ (by assumption)))); have sw2 := hG.size; replace hW := gb_trans hW hG; clear hG
      have lc : ∀ o, w2.cell? ⟨w1.heap.size, o, none⟩ = #[.int .i64 (-1), .int .i64 (s.length + 1)][o]? := gup_c hb (by simp <;> omega) (by omega) (fun o => by simp [go_sem]); have lf : ∀ o, w2.frozen? ⟨w1.heap.size, o, none⟩ = false := gup_f hb (by simp <;> omega) (by omega) (fun o => by simp [go_sem]); have lz : w1.heap.size < w2.heap.size := (by have := hb.size; (try simp at this); omega); have ly := lz
      have hy1 := h1 (by omega)
      obtain ⟨y, hy⟩ := at2 (-1) (s.length + 1) y1 hy1.1 hy1.2
      have lc1 := (lc y1.toNat).trans hy
      clear hb hr1 h1 h2 lc lf ly hy
      go_wp2_with fail
      go_ret
      exact ⟨_, rfl, ⟨_, by omega, hr2⟩, hW⟩

end Go.Proofs.YtcjgllbhmghkeaaDoor
