/- What is proved here: contracts of l20Place, l20Desk and l20Keys. No condition but that the code is a slice of bytes. -/
import Derived.Test.YtndmidcilbghkaaDrawT
import Derived.Test.YtndmidcilbghkaaEverL
import Derived.Deep.Cut
import Derived.Deep.CutRange
import Derived.Test.YtndmidcilbghkaaLin2
import Derived.Test.YtndmidcilbghkaaKey0
namespace Go.Proofs.Ytndmidcilbghkaa
open Go.RowKit

def PlacePost (g n : Nat) (zs : List Int) (p : Nat) (w : World) (e : Ending) (w' : World) : Prop :=
  ∃ x : Int, e = .returned (.int .i64 x) ∧ (∃ q, q ≤ p + 3 ∧ Rdr w' g n zs q) ∧ w.grownBy w' (some g)
theorem at6 (x : Int) (a : 0 ≤ x) (b : x < 6) : ∃ y : Int, (#[Value.int .i64 0, .int .i64 0, .int .i64 0, .int .i64 0, .int .i64 1, .int .i64 2] : Array Value)[x.toNat]? = some (.int .i64 y) ∧ 0 ≤ y ∧ y ≤ 2 := by
  rcases (show x = 0 ∨ x = 1 ∨ x = 2 ∨ x = 3 ∨ x = 4 ∨ x = 5 by omega) with rfl | rfl | rfl | rfl | rfl | rfl
  all_goals first | exact ⟨0, rfl, by omega, by omega⟩ | exact ⟨1, rfl, by omega, by omega⟩ | exact ⟨2, rfl, by omega, by omega⟩
theorem at2 (x0 x1 x : Int) (a : 0 ≤ x) (b : x < 2) : ∃ y : Int, (#[Value.int .i64 x0, .int .i64 x1] : Array Value)[x.toNat]? = some (.int .i64 y) := by
  rcases (show x = 0 ∨ x = 1 by omega) with rfl | rfl
  · exact ⟨x0, rfl⟩
  · exact ⟨x1, rfl⟩
theorem at3' (x0 x1 x2 x : Int) (a : 0 ≤ x) (b : x < 3) : ∃ y : Int, (#[Value.int .i64 x0, .int .i64 x1, .int .i64 x2] : Array Value)[x.toNat]? = some (.int .i64 y) := by
  rcases (show x = 0 ∨ x = 1 ∨ x = 2 by omega) with rfl | rfl | rfl
  · exact ⟨x0, rfl⟩
  · exact ⟨x1, rfl⟩
  · exact ⟨x2, rfl⟩

set_option maxRecDepth 100000 in
set_option maxHeartbeats 1000000 in
theorem l20Place_any (g n : Nat) (zs : List Int) (p : Nat) (m : Int) (s : List UInt8) (w : World) (hr : Rdr w g n zs p) (hp : p < 800000000) (hs : s.length ≤ 1000) :
    Calls Try.prog 65 #[.pointer (some ⟨g, 0, none⟩), S s, .int .i64 m] w (PlacePost g n zs p w) := by
  have hg := hr.lt
  have hW := World.grownBy.refl w (some g)
  by_cases h256 : 256 ≤ s.length
  all_goals
    go_enter Try.func65, Try.ntmps65
    go_wp2_with fail
    refine (odd_any _ _ _ _ _ _ hr (by omega)).mono ?_
    rintro e w1 ⟨x1, rfl, ⟨q1, hq1, hr1⟩, hb⟩
    have hG : w.grownBy w1 (some g) := (by (repeat (first | exact World.grownBy.refl _ _ | assumption | refine gb_drew ?_ | refine gb_drewN ?_ _ | refine gb_alloc ?_ _ | refine gb_here ?_ rfl _ | refine gb_set ?_ _ _ (by first | exact Nat.le_refl _ | (simp; done) | (simp; omega) | omega) | refine gb_trans ?_ (by assumption) | refine gb_below ?_ (by assumption)))); have sw1 := hG.size; replace hW := gb_trans hW hG; clear hG
    clear hb hr
    rcases x1 with _ | _
    · go_wp2_with fail
      refine (pick_any _ _ _ _ _ _ (hr1.up (by (repeat (first | exact Below.refl _ _ | assumption | refine Below.drew ?_ | refine up_drewN ?_ _ | refine up_alloc ?_ _ | refine up_set ?_ _ _ (by first | exact Nat.le_refl _ | (simp; done) | (simp; omega) | omega) | refine up_trans ?_ (by assumption))))) (by omega)).mono ?_
      rintro e w2 ⟨y1, rfl, h1, h2, hr2, hb⟩
      have hG : w1.grownBy w2 (some g) := (by (repeat (first | exact World.grownBy.refl _ _ | assumption | refine gb_drew ?_ | refine gb_drewN ?_ _ | refine gb_alloc ?_ _ | refine gb_here ?_ rfl _ | refine gb_set ?_ _ _ (by first | exact Nat.le_refl _ | (simp; done) | (simp; omega) | omega) | refine gb_trans ?_ (by assumption) | refine gb_below ?_ (by assumption)))); have sw2 := hG.size; replace hW := gb_trans hW hG; clear hG
      have hy1 := h1 (by omega)
      clear hb hr1 h1 h2
      go_wp2_with fail
      refine (pick_any _ _ _ _ _ _ (hr2.up (by (repeat (first | exact Below.refl _ _ | assumption | refine Below.drew ?_ | refine up_drewN ?_ _ | refine up_alloc ?_ _ | refine up_set ?_ _ _ (by first | exact Nat.le_refl _ | (simp; done) | (simp; omega) | omega) | refine up_trans ?_ (by assumption))))) (by omega)).mono ?_
      rintro e w3 ⟨y2, rfl, h1, h2, hr3, hb⟩
      have hG : w2.grownBy w3 (some g) := (by (repeat (first | exact World.grownBy.refl _ _ | assumption | refine gb_drew ?_ | refine gb_drewN ?_ _ | refine gb_alloc ?_ _ | refine gb_here ?_ rfl _ | refine gb_set ?_ _ _ (by first | exact Nat.le_refl _ | (simp; done) | (simp; omega) | omega) | refine gb_trans ?_ (by assumption) | refine gb_below ?_ (by assumption)))); have sw3 := hG.size; replace hW := gb_trans hW hG; clear hG
      have lc : ∀ o, w3.cell? ⟨w2.heap.size, o, none⟩ = #[.int .i64 y1, .int .i64 0, .int .i64 s.length][o]? := gup_c hb (by simp <;> omega) (by omega) (fun o => by simp [go_sem]); have lf : ∀ o, w3.frozen? ⟨w2.heap.size, o, none⟩ = false := gup_f hb (by simp <;> omega) (by omega) (fun o => by simp [go_sem]); have lz : w2.heap.size < w3.heap.size := (by have := hb.size; (try simp at this); omega); have ly := lz
      have kc : ∀ o, w3.cell? ⟨w2.heap.size + 1, o, none⟩ = #[.int .i64 0, .int .i64 0, .int .i64 0, .int .i64 0, .int .i64 1, .int .i64 2][o]? := gup_c hb (by simp <;> omega) (by omega) (fun o => by simp [go_sem]); have kf : ∀ o, w3.frozen? ⟨w2.heap.size + 1, o, none⟩ = false := gup_f hb (by simp <;> omega) (by omega) (fun o => by simp [go_sem]); have kz : w2.heap.size + 1 < w3.heap.size := (by have := hb.size; (try simp at this); omega); have ky := kz
      have hy2 := h1 (by omega)
      obtain ⟨y, hy, hyl, hyh⟩ := at6 y2 hy2.1 hy2.2
      obtain ⟨u, hu⟩ := at3' y1 0 s.length y hyl (by omega)
      have kc1 := (kc y2.toNat).trans hy
      have lc1 := (lc y.toNat).trans hu
      clear hb hr2 h1 h2 lc lf ly hy kc kf ky hu
      go_wp2_with fail
      go_ret
      exact ⟨_, rfl, ⟨_, by omega, hr3⟩, hW⟩
    · go_wp2_with fail
      refine (pick_any _ _ _ _ _ _ (hr1.up (by (repeat (first | exact Below.refl _ _ | assumption | refine Below.drew ?_ | refine up_drewN ?_ _ | refine up_alloc ?_ _ | refine up_set ?_ _ _ (by first | exact Nat.le_refl _ | (simp; done) | (simp; omega) | omega) | refine up_trans ?_ (by assumption))))) (by omega)).mono ?_
      rintro e w2 ⟨y1, rfl, h1, h2, hr2, hb⟩
      have hG : w1.grownBy w2 (some g) := (by (repeat (first | exact World.grownBy.refl _ _ | assumption | refine gb_drew ?_ | refine gb_drewN ?_ _ | refine gb_alloc ?_ _ | refine gb_here ?_ rfl _ | refine gb_set ?_ _ _ (by first | exact Nat.le_refl _ | (simp; done) | (simp; omega) | omega) | refine gb_trans ?_ (by assumption) | refine gb_below ?_ (by assumption)))); have sw2 := hG.size; replace hW := gb_trans hW hG; clear hG
      have lc : ∀ o, w2.cell? ⟨w1.heap.size, o, none⟩ = #[.int .i64 (-1), .int .i64 (s.length + 1)][o]? := gup_c hb (by simp <;> omega) (by omega) (fun o => by simp [go_sem]); have lf : ∀ o, w2.frozen? ⟨w1.heap.size, o, none⟩ = false := gup_f hb (by simp <;> omega) (by omega) (fun o => by simp [go_sem]); have lz : w1.heap.size < w2.heap.size := (by have := hb.size; (try simp at this); omega); have ly := lz
      have hy1 := h1 (by omega)
      obtain ⟨y, hy⟩ := at2 (-1) (s.length + 1) y1 hy1.1 hy1.2
      have lc1 := (lc y1.toNat).trans hy
      clear hb hr1 h1 h2 lc lf ly hy
      go_wp2_with fail
      go_ret
      exact ⟨_, rfl, ⟨_, by omega, hr2⟩, hW⟩

theorem is_set2 {w : World} {b : Nat} {a0 a1 a2 : Value} (h : Is w b #[a0, a1, a2]) (x : Int) : Is (w.setCell ⟨b, 2, none⟩ (.int .i64 x)) b #[a0, a1, .int .i64 x] := by
  have h0 := h.1 0
  have h1 := h.1 1
  have h2 := h.1 2
  refine ⟨fun o => ?_, fun o => by simp [go_sem, h.2 o]⟩
  rcases o with _ | _ | _ | o
  · simp [go_sem, h0]
  · simp [go_sem, h1]
  · simp [go_sem, h2]
  · have h3 := h.1 (o + 3)
    simp [go_sem, h3]
theorem is_set1 {w : World} {b : Nat} {a0 a1 a2 : Value} (h : Is w b #[a0, a1, a2]) (x : Int) : Is (w.setCell ⟨b, 1, none⟩ (.int .i64 x)) b #[a0, .int .i64 x, a2] := by
  have h0 := h.1 0
  have h1 := h.1 1
  have h2 := h.1 2
  refine ⟨fun o => ?_, fun o => by simp [go_sem, h.2 o]⟩
  rcases o with _ | _ | _ | o
  · simp [go_sem, h0]
  · simp [go_sem, h1]
  · simp [go_sem, h2]
  · have h3 := h.1 (o + 3)
    simp [go_sem, h3]

def DeskPost (g n : Nat) (zs : List Int) (p : Nat) (w : World) (e : Ending) (w' : World) : Prop :=
  ∃ d : Dk, e = .returned (dkV d) ∧ d.body.length ≤ 130 ∧ (∃ q, q ≤ p + 60 ∧ Rdr w' g n zs q) ∧ w.grownBy w' (some g)

set_option maxRecDepth 100000 in
set_option maxHeartbeats 2000000 in
theorem l20Desk_any (g n : Nat) (zs : List Int) (p : Nat) (m : Int) (w : World) (hr : Rdr w g n zs p) (hp : p < 700000000) :
    Calls Try.prog 43 #[.pointer (some ⟨g, 0, none⟩), .int .i64 m] w (DeskPost g n zs p w) := by
  have hg := hr.lt
  have hW := World.grownBy.refl w (some g)
  go_enter Try.func43, Try.ntmps43
  go_wp2_with fail
  refine (l20Text_any _ _ _ _ _ _ (hr.up (by (repeat (first | exact Below.refl _ _ | assumption | refine Below.drew ?_ | refine up_drewN ?_ _ | refine up_alloc ?_ _ | refine up_set ?_ _ _ (by first | exact Nat.le_refl _ | (simp; done) | (simp; omega) | omega) | refine up_trans ?_ (by assumption))))) (by omega)).mono ?_
  rintro e w1 ⟨s, rfl, hs, ⟨q1, hq1, hr1⟩, hb⟩
  have hG : w.grownBy w1 (some g) := (by (repeat (first | exact World.grownBy.refl _ _ | assumption | refine gb_drew ?_ | refine gb_drewN ?_ _ | refine gb_alloc ?_ _ | refine gb_here ?_ rfl _ | refine gb_set ?_ _ _ (by first | exact Nat.le_refl _ | (simp; done) | (simp; omega) | omega) | refine gb_trans ?_ (by assumption) | refine gb_below ?_ (by assumption)))); have sw1 := hG.size; replace hW := gb_trans hW hG; clear hG
  have uc : ∀ o, w1.cell? ⟨w.heap.size, o, none⟩ = #[S [], .int .i64 0, .int .i64 0][o]? := gup_c hb (by simp <;> omega) (by omega) (fun o => by simp [go_sem]); have uf : ∀ o, w1.frozen? ⟨w.heap.size, o, none⟩ = false := gup_f hb (by simp <;> omega) (by omega) (fun o => by simp [go_sem]); have uz : w.heap.size < w1.heap.size := (by have := hb.size; (try simp at this); omega); have uy := uz
  clear hb hr uy
  go_wp2_with fail
  refine (l20Place_any _ _ _ _ _ _ _ (hr1.up (by (repeat (first | exact Below.refl _ _ | assumption | refine Below.drew ?_ | refine up_drewN ?_ _ | refine up_alloc ?_ _ | refine up_set ?_ _ _ (by first | exact Nat.le_refl _ | (simp; done) | (simp; omega) | omega) | refine up_trans ?_ (by assumption))))) (by omega) (by omega)).mono ?_
  rintro e w2 ⟨x, rfl, ⟨q2, hq2, hr2⟩, hb⟩
  have hG : w1.grownBy w2 (some g) := (by (repeat (first | exact World.grownBy.refl _ _ | assumption | refine gb_drew ?_ | refine gb_drewN ?_ _ | refine gb_alloc ?_ _ | refine gb_here ?_ rfl _ | refine gb_set ?_ _ _ (by first | exact Nat.le_refl _ | (simp; done) | (simp; omega) | omega) | refine gb_trans ?_ (by assumption) | refine gb_below ?_ (by assumption)))); replace uc := gup_c hG uz (by omega) uc; replace uf := gup_f hG uz (by omega) uf; replace uz := Nat.lt_of_lt_of_le uz hG.size; have sw2 := hG.size; replace hW := gb_trans hW hG; clear hG
  clear hb hr1
  have hC := Lib.hid (fun w => specColumnOf_any s x w (by unfold maxLen; omega))
  obtain ⟨c, hc⟩ : ∃ c : Int, c = (if (tv s && inB x 0 s.length) = true then (colOf s x.toNat : Int) else -1) := ⟨_, rfl⟩
  rw [← hc] at hC
  clear hc
  have ne1 : ¬ w2.heap.size = w.heap.size := by omega
  have ne2 : ¬ w.heap.size = w2.heap.size := by omega
  go_wp2_with fail
  refine (hC.out _).mono ?_
  rintro e w3 ⟨rfl, rfl⟩
  clear hC
  go_wp2_with fail
  refine (pick_any _ _ _ _ _ _ (hr2.up (by (repeat (first | exact Below.refl _ _ | assumption | refine Below.drew ?_ | refine up_drewN ?_ _ | refine up_alloc ?_ _ | refine up_set ?_ _ _ (by first | exact Nat.le_refl _ | (simp; done) | (simp; omega) | omega) | refine up_trans ?_ (by assumption))))) (by omega)).mono ?_
  rintro e w3 ⟨x3, rfl, h1, h2, hr3, hb⟩
  have vI : Is w3 w2.heap.size #[S s, .int .i64 x, .int .i64 (max 0 c)] := ⟨gup_c hb (by simp <;> omega) (by omega) (fun o => by simp [go_sem]), gup_f hb (by simp <;> omega) (by omega) (fun o => by simp [go_sem])⟩
  have hG3 : w2.grownBy w3 (some g) := by (repeat (first | exact World.grownBy.refl _ _ | assumption | refine gb_drew ?_ | refine gb_drewN ?_ _ | refine gb_alloc ?_ _ | refine gb_here ?_ rfl _ | refine gb_set ?_ _ _ (by first | exact Nat.le_refl _ | (simp; done) | (simp; omega) | omega) | refine gb_trans ?_ (by assumption) | refine gb_below ?_ (by assumption)))
  have hx3 := h1 (by omega)
  have hg2 : g < w2.heap.size := by omega
  have vz3 : w2.heap.size < w3.heap.size := (by have := hb.size; (try simp at this); omega)
  clear hb hr2 h1 h2
  generalize max 0 c = c0 at vI ⊢
  go_upto_if 23 with (fail)
  go_cut [] from 24 to 26 (fun wx => Hid (w2.grownBy wx (some g) ∧ (∃ q, q ≤ p + 40 ∧ Rdr wx g n zs q) ∧ ∃ k : Int, Is wx w2.heap.size #[S s, .int .i64 x, .int .i64 k]) ∧ w2.heap.size < wx.heap.size)
  case first =>
    have G3 := hG3
    clear hW uc uf hG3
    by_cases e0 : x3 = 0
    · subst e0
      have v0 := vI.1 0
      have v1 := vI.1 1
      have v2 := vI.1 2
      have vf := vI.2
      simp only [List.getElem?_toArray, List.getElem?_cons_zero, List.getElem?_cons_succ] at v0 v1 v2
      go_wp2_with fail
      refine (pick_any _ _ _ _ _ _ hr3 (by omega)).mono ?_
      rintro e w4 ⟨x4, rfl, h1, h2, hr4, hb⟩
      have vI4 : Is w4 w2.heap.size #[S s, .int .i64 x, .int .i64 c0] := ⟨gup_c hb (by omega) (by omega) vI.1, gup_f hb (by omega) (by omega) vI.2⟩
      have sz4 := hb.size
      have v4 := vI4.1 2
      have vf4 := vI4.2
      simp only [List.getElem?_toArray, List.getElem?_cons_zero, List.getElem?_cons_succ] at v4
      have HV := Lib.hid (show w2.grownBy (w4.setCell ⟨w2.heap.size, 2, none⟩ (.int .i64 x4)) (some g) ∧ (∃ q, q ≤ p + 40 ∧ Rdr (w4.setCell ⟨w2.heap.size, 2, none⟩ (.int .i64 x4)) g n zs q) ∧ ∃ k : Int, Is (w4.setCell ⟨w2.heap.size, 2, none⟩ (.int .i64 x4)) w2.heap.size #[S s, .int .i64 x, .int .i64 k] from
        ⟨gb_set (gb_trans G3 hb) _ _ (Nat.le_refl _), ⟨q2 + 1 + 1, by omega, by refine Rdr.below hr4 ?_; repeat (first | exact Below.refl _ _ | refine Below.drew ?_ | refine Below.setCell ?_ (by first | (simp; done) | (simp; omega) | omega) _ | refine Below.alloc ?_ (by first | (simp; done) | (simp; omega) | omega) _)⟩, x4, is_set2 vI4 x4⟩)
      clear hb v0 v1 v2 vf vI vI4 hr3 hr4 G3 h1 h2
      go_wp2_with fail
      go_meet
      exact ⟨HV, by simp; omega⟩
    · have HV := Lib.hid (show w2.grownBy w3 (some g) ∧ (∃ q, q ≤ p + 40 ∧ Rdr w3 g n zs q) ∧ ∃ k : Int, Is w3 w2.heap.size #[S s, .int .i64 x, .int .i64 k] from ⟨G3, ⟨_, by omega, hr3⟩, c0, vI⟩)
      clear vI hr3 G3
      go_wp2_with fail
      go_meet
      exact ⟨HV, vz3⟩
  case rest =>
  obtain ⟨H, hz4⟩ := hcut
  obtain ⟨hb, ⟨q4, hq4, hr4⟩, _⟩ := H.out
  have HH := H
  obtain ⟨w4, rfl⟩ : ∃ z, z = wc := ⟨_, rfl⟩
  have G4 := hb
  have sz4 := hb.size
  clear hb H hr3 hG3
  have hg2' : g < w4.heap.size := by omega
  clear vI
  obtain ⟨_, _, k, vI⟩ := HH.out
  clear HH
  go_wp2_with fail
  refine (odd_any _ _ _ _ _ _ hr4 (by omega)).mono ?_
  rintro e w5 ⟨x5, rfl, ⟨q5, hq5, hr5⟩, hb⟩
  have vI5 : Is w5 w2.heap.size #[S s, .int .i64 x, .int .i64 k] := ⟨gup_c hb (by omega) (by omega) vI.1, gup_f hb (by omega) (by omega) vI.2⟩
  have sz5 := hb.size
  have hG5 := gb_trans G4 hb
  have vz5 : w2.heap.size < w5.heap.size := by omega
  clear hb vI hr4 G4
  go_upto_if 29 with (fail)
  go_cut [] from 30 to 42 (fun wx => Hid (w2.grownBy wx (some g) ∧ (∃ q, q ≤ p + 50 ∧ Rdr wx g n zs q)) ∧ w2.heap.size < wx.heap.size ∧ ∃ x' k' : Int, Hid (Is wx w2.heap.size #[S s, .int .i64 x', .int .i64 k']))
  case first =>
    have G5 := hG5
    clear hW uc uf hG5
    rcases x5 with _ | _
    · have HV := Lib.hid (And.intro G5 (show ∃ q, q ≤ p + 50 ∧ Rdr w5 g n zs q from ⟨_, by omega, hr5⟩))
      have HI := Lib.hid vI5
      clear G5 hr5 vI5
      go_wp2_with fail
      go_meet
      exact ⟨HV, by omega, x, k, HI⟩
    · go_wp2_with fail
      refine (pick_any _ _ _ _ _ _ hr5 (by omega)).mono ?_
      rintro e w6 ⟨x6, rfl, h1, h2, hr6, hb⟩
      have vI6 : Is w6 w2.heap.size #[S s, .int .i64 x, .int .i64 k] := ⟨gup_c hb (by omega) (by omega) vI5.1, gup_f hb (by omega) (by omega) vI5.2⟩
      have sz6 := hb.size
      have G6 := gb_trans G5 hb
      have hx6 := h1 (by omega)
      clear hb vI5 hr5 G5 h1 h2
      by_cases e0 : x6 = 0
      · subst e0
        go_wp2_with fail
        refine (l20Place_any _ _ _ _ _ _ _ hr6 (by omega) (by omega)).mono ?_
        rintro e w7 ⟨x7, rfl, ⟨q7, hq7, hr7⟩, hb⟩
        have vI7 : Is w7 w2.heap.size #[S s, .int .i64 x, .int .i64 k] := ⟨gup_c hb (by omega) (by omega) vI6.1, gup_f hb (by omega) (by omega) vI6.2⟩
        have sz7 := hb.size
        have v7 := vI7.1 1
        have vf7 := vI7.2
        simp only [List.getElem?_toArray, List.getElem?_cons_zero, List.getElem?_cons_succ] at v7
        have HV := Lib.hid (show w2.grownBy (w7.setCell ⟨w2.heap.size, 1, none⟩ (.int .i64 x7)) (some g) ∧ (∃ q, q ≤ p + 50 ∧ Rdr (w7.setCell ⟨w2.heap.size, 1, none⟩ (.int .i64 x7)) g n zs q) from
          ⟨gb_set (gb_trans G6 hb) _ _ (Nat.le_refl _), ⟨q7, by omega, by refine Rdr.below hr7 ?_; repeat (first | exact Below.refl _ _ | refine Below.drew ?_ | refine Below.setCell ?_ (by first | (simp; done) | (simp; omega) | omega) _ | refine Below.alloc ?_ (by first | (simp; done) | (simp; omega) | omega) _)⟩⟩)
        have HI := Lib.hid (is_set1 vI7 x7)
        clear hb vI6 vI7 hr6 hr7 G6
        go_wp2_with fail
        go_meet
        exact ⟨HV, by simp; omega, x7, k, HI⟩
      · have e1 : x6 = 1 := by omega
        subst e1
        clear e0
        go_wp2_with fail
        refine (pick_any _ _ _ _ _ _ (hr6.up (by (repeat (first | exact Below.refl _ _ | assumption | refine Below.drew ?_ | refine up_drewN ?_ _ | refine up_alloc ?_ _ | refine up_set ?_ _ _ (by first | exact Nat.le_refl _ | (simp; done) | (simp; omega) | omega) | refine up_trans ?_ (by assumption))))) (by omega)).mono ?_
        rintro e w7 ⟨x7, rfl, h1, h2, hr7, hb⟩
        have sz7 := hb.size
        have hG : w6.grownBy w7 (some g) := by (repeat (first | exact World.grownBy.refl _ _ | assumption | refine gb_drew ?_ | refine gb_drewN ?_ _ | refine gb_alloc ?_ _ | refine gb_here ?_ rfl _ | refine gb_set ?_ _ _ (by first | exact Nat.le_refl _ | (simp; done) | (simp; omega) | omega) | refine gb_trans ?_ (by assumption) | refine gb_below ?_ (by assumption)))
        have vI7 : Is w7 w2.heap.size #[S s, .int .i64 x, .int .i64 k] := ⟨gup_c hG (by omega) (by omega) vI6.1, gup_f hG (by omega) (by omega) vI6.2⟩
        have lc : ∀ o, w7.cell? ⟨w6.heap.size, o, none⟩ = #[.int .i64 (-1), .int .i64 121][o]? := gup_c hb (by simp <;> omega) (by omega) (fun o => by simp [go_sem]); have lf : ∀ o, w7.frozen? ⟨w6.heap.size, o, none⟩ = false := gup_f hb (by simp <;> omega) (by omega) (fun o => by simp [go_sem]); have lz : w6.heap.size < w7.heap.size := (by have := hb.size; (try simp at this); omega); have ly := lz
        have hx7 := h1 (by omega)
        obtain ⟨y, hy⟩ := at2 (-1) 121 x7 hx7.1 hx7.2
        have lc1 := (lc x7.toNat).trans hy
        have v7 := vI7.1 2
        have vf7 := vI7.2
        simp only [List.getElem?_toArray, List.getElem?_cons_zero, List.getElem?_cons_succ] at v7
        have sz76 := hG.size
        have HV := Lib.hid (show w2.grownBy (w7.setCell ⟨w2.heap.size, 2, none⟩ (.int .i64 y)) (some g) ∧ (∃ q, q ≤ p + 50 ∧ Rdr (w7.setCell ⟨w2.heap.size, 2, none⟩ (.int .i64 y)) g n zs q) from
          ⟨gb_set (gb_trans G6 hG) _ _ (Nat.le_refl _), ⟨q5 + 1 + 1, by omega, by refine Rdr.below hr7 ?_; repeat (first | exact Below.refl _ _ | refine Below.drew ?_ | refine Below.setCell ?_ (by first | (simp; done) | (simp; omega) | omega) _ | refine Below.alloc ?_ (by first | (simp; done) | (simp; omega) | omega) _)⟩⟩)
        have HI := Lib.hid (is_set2 vI7 y)
        clear hb vI6 vI7 hr6 hr7 G6 hG h1 h2 lc lf ly hy
        go_wp2_with fail
        go_meet
        exact ⟨HV, by simp; omega, x, y, HI⟩
  case rest =>
  obtain ⟨H, hz9, x9, k9, HI⟩ := hcut
  obtain ⟨hb, ⟨q9, hq9, hr9⟩⟩ := H.out
  obtain ⟨w9, rfl⟩ : ∃ z, z = wc := ⟨_, rfl⟩
  have hG : w2.grownBy w9 (some g) := (by (repeat (first | exact World.grownBy.refl _ _ | assumption | refine gb_drew ?_ | refine gb_drewN ?_ _ | refine gb_alloc ?_ _ | refine gb_here ?_ rfl _ | refine gb_set ?_ _ _ (by first | exact Nat.le_refl _ | (simp; done) | (simp; omega) | omega) | refine gb_trans ?_ (by assumption) | refine gb_below ?_ (by assumption)))); replace uc := gup_c hG uz (by omega) uc; replace uf := gup_f hG uz (by omega) uf; replace uz := Nat.lt_of_lt_of_le uz hG.size; have sw9 := hG.size; replace hW := gb_trans hW hG; clear hG
  have v0 := HI.out.1 0
  have v1 := HI.out.1 1
  have v2 := HI.out.1 2
  simp only [List.getElem?_toArray, List.getElem?_cons_zero, List.getElem?_cons_succ] at v0 v1 v2
  clear hb H HI hG5
  go_wp2_with fail
  refine bodyPost_ret (v := .agg #[S s, .int .i64 x9, .int .i64 k9]) (by simp [results, Try.results43, go_sem, uc]) rfl ⟨⟨s, x9, k9⟩, rfl, by show s.length ≤ _; omega, ⟨q9, by omega, ?_⟩, by (repeat (first | exact World.grownBy.refl _ _ | assumption | refine gb_drew ?_ | refine gb_drewN ?_ _ | refine gb_alloc ?_ _ | refine gb_here ?_ rfl _ | refine gb_set ?_ _ _ (by first | exact Nat.le_refl _ | (simp; done) | (simp; omega) | omega) | refine gb_trans ?_ (by assumption) | refine gb_below ?_ (by assumption)))⟩
  refine Rdr.below hr9 ?_; repeat (first | exact Below.refl _ _ | refine Below.drew ?_ | refine Below.setCell ?_ (by first | (simp; done) | (simp; omega) | omega) _ | refine Below.alloc ?_ (by first | (simp; done) | (simp; omega) | omega) _)

end Go.Proofs.Ytndmidcilbghkaa
