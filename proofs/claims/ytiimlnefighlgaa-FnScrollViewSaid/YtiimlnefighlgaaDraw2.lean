/- What is proved here: contracts of the drawing of windows. No condition but that the code is a slice of bytes. -/
import Derived.Test.YtiimlnefighlgaaDraw1
namespace Go.Proofs.Ytiimlnefighlgaa
open Go.RowKit

def ViewPost (g n : Nat) (zs : List Int) (p : Nat) (w : World) (e : Ending) (w' : World) : Prop :=
  ∃ t k rows : Int, e = .returned (.tuple #[.agg #[.int .i64 t, .int .i64 k], .int .i64 rows]) ∧ (∃ q, q ≤ p + 20 ∧ Rdr w' g n zs q) ∧ w.grownBy w' (some g)

set_option maxHeartbeats 1000000 in
theorem l20View_any (g n : Nat) (zs : List Int) (p : Nat) (m : Int) (w : World) (hr : Rdr w g n zs p) (hp : p < 100000000) :
    Calls Try.prog 69 #[.pointer (some ⟨g, 0, none⟩), .int .i64 m] w (ViewPost g n zs p w) := by
  have hg := hr.lt
  have hW := World.grownBy.refl w (some g)
  go_enter Try.func69, Try.ntmps69
  go_wp2_with fail
  refine (pick_any _ _ _ _ _ _ (hr.up (by (repeat (first | exact Below.refl _ _ | assumption | refine Below.drew ?_ | refine up_drewN ?_ _ | refine up_alloc ?_ _ | refine up_set ?_ _ _ (by first | exact Nat.le_refl _ | (simp; done) | (simp; omega) | omega) | refine up_trans ?_ (by assumption))))) (by omega)).mono ?_
  rintro e w1 ⟨x1, rfl, h1, h2, hr1, hb⟩
  have hG : w.grownBy w1 (some g) := (by (repeat (first | exact World.grownBy.refl _ _ | assumption | refine gb_drew ?_ | refine gb_drewN ?_ _ | refine gb_alloc ?_ _ | refine gb_here ?_ rfl _ | refine gb_set ?_ _ _ (by first | exact Nat.le_refl _ | (simp; done) | (simp; omega) | omega) | refine gb_trans ?_ (by assumption) | refine gb_below ?_ (by assumption)))); have sw1 := hG.size; replace hW := gb_trans hW hG; clear hG
  have uc : ∀ o, w1.cell? ⟨w.heap.size, o, none⟩ = #[.int .i64 0, .int .i64 0][o]? := gup_c hb (by simp <;> omega) (by omega) (fun o => by simp [go_sem]); have uf : ∀ o, w1.frozen? ⟨w.heap.size, o, none⟩ = false := gup_f hb (by simp <;> omega) (by omega) (fun o => by simp [go_sem]); have uz : w.heap.size < w1.heap.size := (by have := hb.size; (try simp at this); omega); have uy := uz
  clear hb hr h2
  have hx1 := h1 (by omega)
  clear h1
  go_wp2_with fail
  refine (pick_any _ _ _ _ _ _ hr1 (by omega)).mono ?_
  rintro e w2 ⟨x2, rfl, h1, h2, hr2, hb⟩
  have hG : w1.grownBy w2 (some g) := (by (repeat (first | exact World.grownBy.refl _ _ | assumption | refine gb_drew ?_ | refine gb_drewN ?_ _ | refine gb_alloc ?_ _ | refine gb_here ?_ rfl _ | refine gb_set ?_ _ _ (by first | exact Nat.le_refl _ | (simp; done) | (simp; omega) | omega) | refine gb_trans ?_ (by assumption) | refine gb_below ?_ (by assumption)))); replace uc := gup_c hG uz (by omega) uc; replace uf := gup_f hG uz (by omega) uf; replace uz := Nat.lt_of_lt_of_le uz hG.size; have sw2 := hG.size; replace hW := gb_trans hW hG; clear hG
  clear hb hr1 h2 h1
  go_wp2_with fail
  refine (pick_any _ _ _ _ _ _ hr2 (by omega)).mono ?_
  rintro e w3 ⟨x3, rfl, h1, h2, hr3, hb⟩
  have hG : w2.grownBy w3 (some g) := (by (repeat (first | exact World.grownBy.refl _ _ | assumption | refine gb_drew ?_ | refine gb_drewN ?_ _ | refine gb_alloc ?_ _ | refine gb_here ?_ rfl _ | refine gb_set ?_ _ _ (by first | exact Nat.le_refl _ | (simp; done) | (simp; omega) | omega) | refine gb_trans ?_ (by assumption) | refine gb_below ?_ (by assumption)))); replace uc := gup_c hG uz (by omega) uc; replace uf := gup_f hG uz (by omega) uf; replace uz := Nat.lt_of_lt_of_le uz hG.size; have sw3 := hG.size; replace hW := gb_trans hW hG; clear hG
  have hx3 := h1 (by omega)
  clear hb hr2 h2 h1
  go_wp2_with fail
  refine (odd_any _ _ _ _ _ _ (hr3.up (by (repeat (first | exact Below.refl _ _ | assumption | refine Below.drew ?_ | refine up_drewN ?_ _ | refine up_alloc ?_ _ | refine up_set ?_ _ _ (by first | exact Nat.le_refl _ | (simp; done) | (simp; omega) | omega) | refine up_trans ?_ (by assumption))))) (by omega)).mono ?_
  rintro e w4 ⟨x4, rfl, ⟨q4, hq4, hr4⟩, hb⟩
  have hG : w3.grownBy w4 (some g) := (by (repeat (first | exact World.grownBy.refl _ _ | assumption | refine gb_drew ?_ | refine gb_drewN ?_ _ | refine gb_alloc ?_ _ | refine gb_here ?_ rfl _ | refine gb_set ?_ _ _ (by first | exact Nat.le_refl _ | (simp; done) | (simp; omega) | omega) | refine gb_trans ?_ (by assumption) | refine gb_below ?_ (by assumption)))); replace uc := gup_c hG uz (by omega) uc; replace uf := gup_f hG uz (by omega) uf; replace uz := Nat.lt_of_lt_of_le uz hG.size; have sw4 := hG.size; replace hW := gb_trans hW hG; clear hG
  have vc : ∀ o, w4.cell? ⟨w3.heap.size, o, none⟩ = #[.int .i64 x2, .int .i64 (1 + x3)][o]? := gup_c hb (by simp <;> omega) (by omega) (fun o => by simp [go_sem]); have vf : ∀ o, w4.frozen? ⟨w3.heap.size, o, none⟩ = false := gup_f hb (by simp <;> omega) (by omega) (fun o => by simp [go_sem]); have vz : w3.heap.size < w4.heap.size := (by have := hb.size; (try simp at this); omega); have vy := vz
  clear hb hr3
  rcases x4 with _ | _
  · go_wp2_with fail
    refine bodyPost_ret (v := .tuple #[.agg #[.int .i64 x2, .int .i64 (1 + x3)], .int .i64 (1 + x1)]) (by simp [results, Try.results69, go_sem, uc]) rfl ⟨_, _, _, rfl, ⟨q4, by omega, ?_⟩, by (repeat (first | exact World.grownBy.refl _ _ | assumption | refine gb_drew ?_ | refine gb_drewN ?_ _ | refine gb_alloc ?_ _ | refine gb_here ?_ rfl _ | refine gb_set ?_ _ _ (by first | exact Nat.le_refl _ | (simp; done) | (simp; omega) | omega) | refine gb_trans ?_ (by assumption) | refine gb_below ?_ (by assumption)))⟩
    refine Rdr.below hr4 ?_; repeat (first | exact Below.refl _ _ | refine Below.drew ?_ | refine Below.setCell ?_ (by first | (simp; done) | (simp; omega) | omega) _ | refine Below.alloc ?_ (by first | (simp; done) | (simp; omega) | omega) _)
  · go_wp2_with fail
    refine (pick_any _ _ _ _ _ _ hr4 (by omega)).mono ?_
    rintro e w5 ⟨x5, rfl, h1, h2, hr5, hb⟩
    have hG : w4.grownBy w5 (some g) := (by (repeat (first | exact World.grownBy.refl _ _ | assumption | refine gb_drew ?_ | refine gb_drewN ?_ _ | refine gb_alloc ?_ _ | refine gb_here ?_ rfl _ | refine gb_set ?_ _ _ (by first | exact Nat.le_refl _ | (simp; done) | (simp; omega) | omega) | refine gb_trans ?_ (by assumption) | refine gb_below ?_ (by assumption)))); replace uc := gup_c hG uz (by omega) uc; replace uf := gup_f hG uz (by omega) uf; replace uz := Nat.lt_of_lt_of_le uz hG.size; replace vc := gup_c hG vz (by omega) vc; replace vf := gup_f hG vz (by omega) vf; replace vz := Nat.lt_of_lt_of_le vz hG.size; have sw5 := hG.size; replace hW := gb_trans hW hG; clear hG
    clear hb hr4 h2
    have hx5 := h1 (by omega)
    clear h1
    by_cases e0 : x5 = 0
    · subst e0
      go_wp2_with fail
      refine (pick_any _ _ _ _ _ _ (hr5.up (by (repeat (first | exact Below.refl _ _ | assumption | refine Below.drew ?_ | refine up_drewN ?_ _ | refine up_alloc ?_ _ | refine up_set ?_ _ _ (by first | exact Nat.le_refl _ | (simp; done) | (simp; omega) | omega) | refine up_trans ?_ (by assumption))))) (by omega)).mono ?_
      rintro e w6 ⟨x6, rfl, h1, h2, hr6, hb⟩
      have hG : w5.grownBy w6 (some g) := (by (repeat (first | exact World.grownBy.refl _ _ | assumption | refine gb_drew ?_ | refine gb_drewN ?_ _ | refine gb_alloc ?_ _ | refine gb_here ?_ rfl _ | refine gb_set ?_ _ _ (by first | exact Nat.le_refl _ | (simp; done) | (simp; omega) | omega) | refine gb_trans ?_ (by assumption) | refine gb_below ?_ (by assumption)))); replace uc := gup_c hG uz (by omega) uc; replace uf := gup_f hG uz (by omega) uf; replace uz := Nat.lt_of_lt_of_le uz hG.size; replace vc := gup_c hG vz (by omega) vc; replace vf := gup_f hG vz (by omega) vf; replace vz := Nat.lt_of_lt_of_le vz hG.size; have sw6 := hG.size; replace hW := gb_trans hW hG; clear hG
      have lc : ∀ o, w6.cell? ⟨w5.heap.size, o, none⟩ = #[.int .i64 0, .int .i64 122][o]? := gup_c hb (by simp <;> omega) (by omega) (fun o => by simp [go_sem]); have lf : ∀ o, w6.frozen? ⟨w5.heap.size, o, none⟩ = false := gup_f hb (by simp <;> omega) (by omega) (fun o => by simp [go_sem]); have lz : w5.heap.size < w6.heap.size := (by have := hb.size; (try simp at this); omega); have ly := lz
      have hx6 := h1 (by omega)
      clear hb hr5 h1 h2
      rcases (show x6 = 0 ∨ x6 = 1 by omega) with rfl | rfl
      all_goals
        go_wp2_with fail
        refine bodyPost_ret (v := .tuple #[.agg #[.int .i64 x2, .int .i64 (1 + x3)], .int .i64 _]) (by simp [results, Try.results69, go_sem, uc]; rfl) rfl ⟨_, _, _, rfl, ⟨q4 + 1 + 1, by omega, ?_⟩, by (repeat (first | exact World.grownBy.refl _ _ | assumption | refine gb_drew ?_ | refine gb_drewN ?_ _ | refine gb_alloc ?_ _ | refine gb_here ?_ rfl _ | refine gb_set ?_ _ _ (by first | exact Nat.le_refl _ | (simp; done) | (simp; omega) | omega) | refine gb_trans ?_ (by assumption) | refine gb_below ?_ (by assumption)))⟩
        refine Rdr.below hr6 ?_; repeat (first | exact Below.refl _ _ | refine Below.drew ?_ | refine Below.setCell ?_ (by first | (simp; done) | (simp; omega) | omega) _ | refine Below.alloc ?_ (by first | (simp; done) | (simp; omega) | omega) _)
    · by_cases e1 : x5 = 1
      · subst e1
        go_wp2_with fail
        refine (pick_any _ _ _ _ _ _ (hr5.up (by (repeat (first | exact Below.refl _ _ | assumption | refine Below.drew ?_ | refine up_drewN ?_ _ | refine up_alloc ?_ _ | refine up_set ?_ _ _ (by first | exact Nat.le_refl _ | (simp; done) | (simp; omega) | omega) | refine up_trans ?_ (by assumption))))) (by omega)).mono ?_
        rintro e w6 ⟨x6, rfl, h1, h2, hr6, hb⟩
        have hG : w5.grownBy w6 (some g) := (by (repeat (first | exact World.grownBy.refl _ _ | assumption | refine gb_drew ?_ | refine gb_drewN ?_ _ | refine gb_alloc ?_ _ | refine gb_here ?_ rfl _ | refine gb_set ?_ _ _ (by first | exact Nat.le_refl _ | (simp; done) | (simp; omega) | omega) | refine gb_trans ?_ (by assumption) | refine gb_below ?_ (by assumption)))); replace uc := gup_c hG uz (by omega) uc; replace uf := gup_f hG uz (by omega) uf; replace uz := Nat.lt_of_lt_of_le uz hG.size; replace vc := gup_c hG vz (by omega) vc; replace vf := gup_f hG vz (by omega) vf; replace vz := Nat.lt_of_lt_of_le vz hG.size; have sw6 := hG.size; replace hW := gb_trans hW hG; clear hG
        have lc : ∀ o, w6.cell? ⟨w5.heap.size, o, none⟩ = #[.int .i64 0, .int .i64 31][o]? := gup_c hb (by simp <;> omega) (by omega) (fun o => by simp [go_sem]); have lf : ∀ o, w6.frozen? ⟨w5.heap.size, o, none⟩ = false := gup_f hb (by simp <;> omega) (by omega) (fun o => by simp [go_sem]); have lz : w5.heap.size < w6.heap.size := (by have := hb.size; (try simp at this); omega); have ly := lz
        have hx6 := h1 (by omega)
        clear hb hr5 h1 h2
        rcases (show x6 = 0 ∨ x6 = 1 by omega) with rfl | rfl
        all_goals
          go_wp2_with fail
          refine bodyPost_ret (v := .tuple #[.agg #[.int .i64 x2, .int .i64 _], .int .i64 _]) (by simp [results, Try.results69, go_sem, uc]; exact ⟨rfl, rfl⟩) rfl ⟨_, _, _, rfl, ⟨q4 + 1 + 1, by omega, ?_⟩, by (repeat (first | exact World.grownBy.refl _ _ | assumption | refine gb_drew ?_ | refine gb_drewN ?_ _ | refine gb_alloc ?_ _ | refine gb_here ?_ rfl _ | refine gb_set ?_ _ _ (by first | exact Nat.le_refl _ | (simp; done) | (simp; omega) | omega) | refine gb_trans ?_ (by assumption) | refine gb_below ?_ (by assumption)))⟩
          refine Rdr.below hr6 ?_; repeat (first | exact Below.refl _ _ | refine Below.drew ?_ | refine Below.setCell ?_ (by first | (simp; done) | (simp; omega) | omega) _ | refine Below.alloc ?_ (by first | (simp; done) | (simp; omega) | omega) _)
      · have hx5' : x5 = 2 := by omega
        subst hx5'
        clear e0 e1
        go_wp2_with fail
        refine (pick_any _ _ _ _ _ _ (hr5.up (by (repeat (first | exact Below.refl _ _ | assumption | refine Below.drew ?_ | refine up_drewN ?_ _ | refine up_alloc ?_ _ | refine up_set ?_ _ _ (by first | exact Nat.le_refl _ | (simp; done) | (simp; omega) | omega) | refine up_trans ?_ (by assumption))))) (by omega)).mono ?_
        rintro e w6 ⟨x6, rfl, h1, h2, hr6, hb⟩
        have hG : w5.grownBy w6 (some g) := (by (repeat (first | exact World.grownBy.refl _ _ | assumption | refine gb_drew ?_ | refine gb_drewN ?_ _ | refine gb_alloc ?_ _ | refine gb_here ?_ rfl _ | refine gb_set ?_ _ _ (by first | exact Nat.le_refl _ | (simp; done) | (simp; omega) | omega) | refine gb_trans ?_ (by assumption) | refine gb_below ?_ (by assumption)))); replace uc := gup_c hG uz (by omega) uc; replace uf := gup_f hG uz (by omega) uf; replace uz := Nat.lt_of_lt_of_le uz hG.size; replace vc := gup_c hG vz (by omega) vc; replace vf := gup_f hG vz (by omega) vf; replace vz := Nat.lt_of_lt_of_le vz hG.size; have sw6 := hG.size; replace hW := gb_trans hW hG; clear hG
        have lc : ∀ o, w6.cell? ⟨w5.heap.size, o, none⟩ = #[.int .i64 (-1), .int .i64 (1 + x1)][o]? := gup_c hb (by simp <;> omega) (by omega) (fun o => by simp [go_sem]); have lf : ∀ o, w6.frozen? ⟨w5.heap.size, o, none⟩ = false := gup_f hb (by simp <;> omega) (by omega) (fun o => by simp [go_sem]); have lz : w5.heap.size < w6.heap.size := (by have := hb.size; (try simp at this); omega); have ly := lz
        have hx6 := h1 (by omega)
        clear hb hr5 h1 h2
        rcases (show x6 = 0 ∨ x6 = 1 by omega) with rfl | rfl
        all_goals
          go_wp2_with fail
          refine bodyPost_ret (v := .tuple #[.agg #[.int .i64 _, .int .i64 (1 + x3)], .int .i64 _]) (by simp [results, Try.results69, go_sem, uc]; exact ⟨rfl, rfl⟩) rfl ⟨_, _, _, rfl, ⟨q4 + 1 + 1, by omega, ?_⟩, by (repeat (first | exact World.grownBy.refl _ _ | assumption | refine gb_drew ?_ | refine gb_drewN ?_ _ | refine gb_alloc ?_ _ | refine gb_here ?_ rfl _ | refine gb_set ?_ _ _ (by first | exact Nat.le_refl _ | (simp; done) | (simp; omega) | omega) | refine gb_trans ?_ (by assumption) | refine gb_below ?_ (by assumption)))⟩
          refine Rdr.below hr6 ?_; repeat (first | exact Below.refl _ _ | refine Below.drew ?_ | refine Below.setCell ?_ (by first | (simp; done) | (simp; omega) | omega) _ | refine Below.alloc ?_ (by first | (simp; done) | (simp; omega) | omega) _)

def DrawViewPost (w : World) (e : Ending) (w' : World) : Prop :=
  ∃ t k rows : Int, e = .returned (.tuple #[.agg #[.int .i64 t, .int .i64 k], .int .i64 rows]) ∧ Below w.heap.size w w'

theorem drawViewValid_any (v : Value) (n : Nat) (zs : List Int) (w : World) (h : Bytes w w.heap.size v n zs) :
    Calls Try.prog 38 #[v] w (DrawViewPost w) := by
  have hW := Below.refl w.heap.size w
  go_enter Try.func38, Try.ntmps38
  go_wp2_with fail
  refine (open_any v n zs _ (h.to (by (repeat (first | exact Below.refl _ _ | assumption | refine Below.drew ?_ | refine up_drewN ?_ _ | refine up_alloc ?_ _ | refine up_set ?_ _ _ (by first | exact Nat.le_refl _ | (simp; done) | (simp; omega) | omega) | refine up_trans ?_ (by assumption)))))).mono ?_
  rintro e w1 ⟨g, m, ys, rfl, hr, hb, hg⟩
  have hB : Below w.heap.size w w1 := (by (repeat (first | exact Below.refl _ _ | assumption | refine Below.drew ?_ | refine up_drewN ?_ _ | refine up_alloc ?_ _ | refine up_set ?_ _ _ (by first | exact Nat.le_refl _ | (simp; done) | (simp; omega) | omega) | refine up_trans ?_ (by assumption)))); have sw1 := hB.size; replace hW := up_trans hW hB; clear hB
  have uc : ∀ o, w1.cell? ⟨w.heap.size, o, none⟩ = #[.int .i64 0, .int .i64 0][o]? := (fun o => (hb.cell (p := ⟨w.heap.size, o, none⟩) (by simp <;> omega)).trans (by simp [go_sem])); have uf : ∀ o, w1.frozen? ⟨w.heap.size, o, none⟩ = false := (fun o => (hb.frozen (p := ⟨w.heap.size, o, none⟩) (by simp <;> omega)).trans (by simp [go_sem])); have uz : w.heap.size < w1.heap.size := (by have := hb.size; (try simp at this); omega); have uy := uz
  simp at hg
  clear hb h
  go_wp2_with fail
  refine (l20View_any _ _ _ _ _ _ hr (by omega)).mono ?_
  rintro e w2 ⟨t, k, rows, rfl, ⟨q, hq, hr2⟩, hb⟩
  have hU : w.grownBy w1 (some g) := gb_below (World.grownBy.refl _ _) hW
  have hgz := hr.lt
  clear hr
  have hG : w1.grownBy w2 (some g) := hb
  replace uc := gup_c hG uz (by omega) uc
  replace uf := gup_f hG uz (by omega) uf
  replace uz := Nat.lt_of_lt_of_le uz hG.size
  replace hW := below_of_gb (gb_trans hU hG) (by omega)
  clear hG hU hb hr2
  go_wp2_with fail
  refine bodyPost_ret (v := .tuple #[.agg #[.int .i64 t, .int .i64 k], .int .i64 rows]) (by simp [results, Try.results38, go_sem, uc]) rfl ⟨_, _, _, rfl, by (repeat (first | exact Below.refl _ _ | assumption | refine Below.drew ?_ | refine up_drewN ?_ _ | refine up_alloc ?_ _ | refine up_set ?_ _ _ (by first | exact Nat.le_refl _ | (simp; done) | (simp; omega) | omega) | refine up_trans ?_ (by assumption)))⟩

theorem drawShownRows_any (v : Value) (n : Nat) (zs : List Int) (w : World) (h : Bytes w w.heap.size v n zs) :
    Calls Try.prog 42 #[v] w (DrawViewPost w) := by
  have hW := Below.refl w.heap.size w
  go_enter Try.func42, Try.ntmps42
  go_wp2_with fail
  refine (open_any v n zs _ (h.to (by (repeat (first | exact Below.refl _ _ | assumption | refine Below.drew ?_ | refine up_drewN ?_ _ | refine up_alloc ?_ _ | refine up_set ?_ _ _ (by first | exact Nat.le_refl _ | (simp; done) | (simp; omega) | omega) | refine up_trans ?_ (by assumption)))))).mono ?_
  rintro e w1 ⟨g, m, ys, rfl, hr, hb, hg⟩
  have hB : Below w.heap.size w w1 := (by (repeat (first | exact Below.refl _ _ | assumption | refine Below.drew ?_ | refine up_drewN ?_ _ | refine up_alloc ?_ _ | refine up_set ?_ _ _ (by first | exact Nat.le_refl _ | (simp; done) | (simp; omega) | omega) | refine up_trans ?_ (by assumption)))); have sw1 := hB.size; replace hW := up_trans hW hB; clear hB
  have uc : ∀ o, w1.cell? ⟨w.heap.size, o, none⟩ = #[.int .i64 0, .int .i64 0][o]? := (fun o => (hb.cell (p := ⟨w.heap.size, o, none⟩) (by simp <;> omega)).trans (by simp [go_sem])); have uf : ∀ o, w1.frozen? ⟨w.heap.size, o, none⟩ = false := (fun o => (hb.frozen (p := ⟨w.heap.size, o, none⟩) (by simp <;> omega)).trans (by simp [go_sem])); have uz : w.heap.size < w1.heap.size := (by have := hb.size; (try simp at this); omega); have uy := uz
  simp at hg
  clear hb h
  go_wp2_with fail
  refine (l20View_any _ _ _ _ _ _ hr (by omega)).mono ?_
  rintro e w2 ⟨t, k, rows, rfl, ⟨q, hq, hr2⟩, hb⟩
  have hU : w.grownBy w1 (some g) := gb_below (World.grownBy.refl _ _) hW
  have hgz := hr.lt
  clear hr
  have hG : w1.grownBy w2 (some g) := hb
  replace uc := gup_c hG uz (by omega) uc
  replace uf := gup_f hG uz (by omega) uf
  replace uz := Nat.lt_of_lt_of_le uz hG.size
  replace hW := below_of_gb (gb_trans hU hG) (by omega)
  clear hG hU hb hr2
  go_wp2_with fail
  refine bodyPost_ret (v := .tuple #[.agg #[.int .i64 t, .int .i64 k], .int .i64 rows]) (by simp [results, Try.results42, go_sem, uc]) rfl ⟨_, _, _, rfl, by (repeat (first | exact Below.refl _ _ | assumption | refine Below.drew ?_ | refine up_drewN ?_ _ | refine up_alloc ?_ _ | refine up_set ?_ _ _ (by first | exact Nat.le_refl _ | (simp; done) | (simp; omega) | omega) | refine up_trans ?_ (by assumption)))⟩

end Go.Proofs.Ytiimlnefighlgaa
