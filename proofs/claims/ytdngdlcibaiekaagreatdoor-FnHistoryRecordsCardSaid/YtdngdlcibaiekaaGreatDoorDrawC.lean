/- What is proved here: the contract of l20Change. No condition but that the code is a slice of bytes. -/
import Derived.Test.YtdngdlcibaiekaaGreatDoorDrawT
import Derived.Deep.Cut
import Derived.Deep.CutRange
namespace Go.Proofs.YtdngdlcibaiekaaGreatDoor
open Go.RowKit

def ChgPost (g n : Nat) (zs : List Int) (p : Nat) (w : World) (e : Ending) (w' : World) : Prop :=
  ∃ (a c : Int) (t : List UInt8), e = .returned (.agg #[.int .i64 a, .int .i64 c, S t]) ∧ t.length ≤ 260 ∧ (∃ q, q ≤ p + 50 ∧ Rdr w' g n zs q) ∧ w.grownBy w' (some g)

theorem at3 (x0 x1 x2 x lo hi : Int) (h0 : lo ≤ x0 ∧ x0 ≤ hi) (h1 : lo ≤ x1 ∧ x1 ≤ hi) (h2 : lo ≤ x2 ∧ x2 ≤ hi) (a : 0 ≤ x) (b : x < 3) : ∃ y : Int, (#[Value.int .i64 x0, .int .i64 x1, .int .i64 x2] : Array Value)[x.toNat]? = some (.int .i64 y) ∧ lo ≤ y ∧ y ≤ hi := by
  rcases (show x = 0 ∨ x = 1 ∨ x = 2 by omega) with rfl | rfl | rfl
  · exact ⟨x0, rfl, h0⟩
  · exact ⟨x1, rfl, h1⟩
  · exact ⟨x2, rfl, h2⟩

set_option maxRecDepth 100000 in
set_option maxHeartbeats 4000000 in
theorem l20Change_any (g n : Nat) (zs : List Int) (p : Nat) (m : Int) (s : List UInt8) (w : World) (hr : Rdr w g n zs p) (hp : p < 800000000) (hs : s.length ≤ 130) :
    Calls Tryz.prog 77 #[.pointer (some ⟨g, 0, none⟩), S s, .int .i64 m] w (ChgPost g n zs p w) := by
  have hg := hr.lt
  have hW := World.grownBy.refl w (some g)
  go_enter Tryz.func77, Tryz.ntmps77
  go_wp2_with fail
  refine (pick_any _ _ _ _ _ _ (hr.up (by (repeat (first | exact Below.refl _ _ | assumption | refine Below.drew ?_ | refine up_drewN ?_ _ | refine up_alloc ?_ _ | refine up_set ?_ _ _ (by first | exact Nat.le_refl _ | (simp; done) | (simp; omega) | omega) | refine up_trans ?_ (by assumption))))) (by omega)).mono ?_
  rintro e w1 ⟨at_, rfl, h1, h2, hr1, hb⟩
  have hG : w.grownBy w1 (some g) := (by (repeat (first | exact World.grownBy.refl _ _ | assumption | refine gb_drew ?_ | refine gb_drewN ?_ _ | refine gb_alloc ?_ _ | refine gb_here ?_ rfl _ | refine gb_set ?_ _ _ (by first | exact Nat.le_refl _ | (simp; done) | (simp; omega) | omega) | refine gb_trans ?_ (by assumption) | refine gb_below ?_ (by assumption)))); have sw1 := hG.size; replace hW := gb_trans hW hG; clear hG
  have uc : ∀ o, w1.cell? ⟨w.heap.size, o, none⟩ = #[.int .i64 0, .int .i64 0, .string ⟨#[]⟩][o]? := gup_c hb (by simp <;> omega) (by omega) (fun o => by simp [go_sem]); have uf : ∀ o, w1.frozen? ⟨w.heap.size, o, none⟩ = false := gup_f hb (by simp <;> omega) (by omega) (fun o => by simp [go_sem]); have uz : w.heap.size < w1.heap.size := (by have := hb.size; (try simp at this); omega); have uy := uz
  have hx1 := h1 (by omega)
  clear hb hr h1 h2 uy
  have hx2 : at_ ≤ s.length := by omega
  go_upto_region 2 with (fail)
  go_cut [8] from 17 to 30 (fun c wx => ∃ z : Int, c = .int .i64 z ∧ Hid (w1.grownBy wx (some g) ∧ ∃ q, q ≤ p + 4 ∧ Rdr wx g n zs q))
  case first =>
    go_wp2_with fail
    refine (pick_any _ _ _ _ _ _ hr1 (by omega)).mono ?_
    rintro e w2 ⟨y1, rfl, h1, h2, hr2, hb⟩
    have hV := hb
    have sw2 := hb.size
    have hy1 := h1 (by omega)
    clear hb hr1 h1 h2
    go_wp2_with fail
    refine (pick_any _ _ _ _ _ _ hr2 (by omega)).mono ?_
    rintro e w3 ⟨y2, rfl, h1, h2, hr3, hb⟩
    replace hV := gb_trans hV hb
    have sw3 := hb.size
    have hy2 := h1 (by omega)
    clear hb hr2 h1 h2
    go_wp2_with fail
    refine (pick_any _ _ _ _ _ _ (hr3.up (by (repeat (first | exact Below.refl _ _ | assumption | refine Below.drew ?_ | refine up_drewN ?_ _ | refine up_alloc ?_ _ | refine up_set ?_ _ _ (by first | exact Nat.le_refl _ | (simp; done) | (simp; omega) | omega) | refine up_trans ?_ (by assumption))))) (by omega)).mono ?_
    rintro e w4 ⟨y3, rfl, h1, h2, hr4, hb⟩
    replace hV := gb_trans (gb_alloc hV _) hb
    have lc : ∀ o, w4.cell? ⟨w3.heap.size, o, none⟩ = #[.int .i64 0, .int .i64 y1, .int .i64 y2][o]? := gup_c hb (by simp <;> omega) (by omega) (fun o => by simp [go_sem]); have lf : ∀ o, w4.frozen? ⟨w3.heap.size, o, none⟩ = false := gup_f hb (by simp <;> omega) (by omega) (fun o => by simp [go_sem]); have lz : w3.heap.size < w4.heap.size := (by have := hb.size; (try simp at this); omega); have ly := lz
    have hy3 := h1 (by omega)
    obtain ⟨y, hy, hyl, hyh⟩ := at3 0 y1 y2 y3 0 39 (by omega) (by omega) (by omega) hy3.1 hy3.2
    have lc1 := (lc y3.toNat).trans hy
    have HV := Lib.hid (show w1.grownBy w4 (some g) ∧ ∃ q, q ≤ p + 4 ∧ Rdr w4 g n zs q from ⟨hV, _, (by omega), hr4⟩)
    clear hb hr3 h1 h2 lc lf ly hy hV hr4 hW uc uf
    by_cases hc : y < s.length - at_
    all_goals
      go_wp2_with fail
      go_meet
      exact ⟨_, rfl, HV⟩
  case rest =>
  obtain ⟨cut, rfl, H⟩ := hcut
  obtain ⟨hb, q4, hq4, hr4⟩ := H.out
  obtain ⟨w4, rfl⟩ : ∃ z, z = wc := ⟨_, rfl⟩
  have hG : w1.grownBy w4 (some g) := (by (repeat (first | exact World.grownBy.refl _ _ | assumption | refine gb_drew ?_ | refine gb_drewN ?_ _ | refine gb_alloc ?_ _ | refine gb_here ?_ rfl _ | refine gb_set ?_ _ _ (by first | exact Nat.le_refl _ | (simp; done) | (simp; omega) | omega) | refine gb_trans ?_ (by assumption) | refine gb_below ?_ (by assumption)))); replace uc := gup_c hG uz (by omega) uc; replace uf := gup_f hG uz (by omega) uf; replace uz := Nat.lt_of_lt_of_le uz hG.size; have sw4 := hG.size; replace hW := gb_trans hW hG; clear hG
  clear hb H hr1
  go_wp2_with fail
  refine (l20Text_any _ _ _ _ _ _ hr4 (by omega)).mono ?_
  rintro e w5 ⟨t, rfl, ht, ⟨q5, hq5, hr5⟩, hb⟩
  have hG : w4.grownBy w5 (some g) := (by (repeat (first | exact World.grownBy.refl _ _ | assumption | refine gb_drew ?_ | refine gb_drewN ?_ _ | refine gb_alloc ?_ _ | refine gb_here ?_ rfl _ | refine gb_set ?_ _ _ (by first | exact Nat.le_refl _ | (simp; done) | (simp; omega) | omega) | refine gb_trans ?_ (by assumption) | refine gb_below ?_ (by assumption)))); replace uc := gup_c hG uz (by omega) uc; replace uf := gup_f hG uz (by omega) uf; replace uz := Nat.lt_of_lt_of_le uz hG.size; have sw5 := hG.size; replace hW := gb_trans hW hG; clear hG
  clear hb hr4
  go_upto_region 4 with (fail)
  go_cut [9] from 33 to 46 (fun c wx => ∃ t2 : List UInt8, c = S t2 ∧ t2.length ≤ 130 ∧ Hid (w5.grownBy wx (some g) ∧ ∃ q, q ≤ q5 + 3 ∧ Rdr wx g n zs q))
  case first =>
    go_wp2_with fail
    refine (pick_any _ _ _ _ _ _ hr5 (by omega)).mono ?_
    rintro e w2 ⟨y1, rfl, h1, h2, hr2, hb⟩
    have hV := hb
    have sw2 := hb.size
    have hy1 := h1 (by omega)
    clear hb hr5 h1 h2
    go_wp2_with fail
    refine (pick_any _ _ _ _ _ _ hr2 (by omega)).mono ?_
    rintro e w3 ⟨y2, rfl, h1, h2, hr3, hb⟩
    replace hV := gb_trans hV hb
    have sw3 := hb.size
    have hy2 := h1 (by omega)
    clear hb hr2 h1 h2
    go_wp2_with fail
    refine (pick_any _ _ _ _ _ _ (hr3.up (by (repeat (first | exact Below.refl _ _ | assumption | refine Below.drew ?_ | refine up_drewN ?_ _ | refine up_alloc ?_ _ | refine up_set ?_ _ _ (by first | exact Nat.le_refl _ | (simp; done) | (simp; omega) | omega) | refine up_trans ?_ (by assumption))))) (by omega)).mono ?_
    rintro e w6 ⟨y3, rfl, h1, h2, hr6, hb⟩
    replace hV := gb_trans (gb_alloc hV _) hb
    have lc : ∀ o, w6.cell? ⟨w3.heap.size, o, none⟩ = #[.int .i64 0, .int .i64 y1, .int .i64 y2][o]? := gup_c hb (by simp <;> omega) (by omega) (fun o => by simp [go_sem]); have lf : ∀ o, w6.frozen? ⟨w3.heap.size, o, none⟩ = false := gup_f hb (by simp <;> omega) (by omega) (fun o => by simp [go_sem]); have lz : w3.heap.size < w6.heap.size := (by have := hb.size; (try simp at this); omega); have ly := lz
    have hy3 := h1 (by omega)
    obtain ⟨y, hy, hyl, hyh⟩ := at3 0 y1 y2 y3 0 19 (by omega) (by omega) (by omega) hy3.1 hy3.2
    have lc1 := (lc y3.toNat).trans hy
    have HV := Lib.hid (show w5.grownBy w6 (some g) ∧ ∃ q, q ≤ q5 + 3 ∧ Rdr w6 g n zs q from ⟨hV, _, (by omega), hr6⟩)
    clear hb hr3 h1 h2 lc lf ly hy hV hr6 hW uc uf
    by_cases hc2 : y < t.length
    all_goals
      go_wp2_with fail
      go_meet
      exact ⟨_, rfl, (by first | omega | (simp; done) | (simp; omega)), HV⟩
  case rest =>
    obtain ⟨t2, rfl, hl2, H⟩ := hcut
    obtain ⟨hb, q8, hq8, hr8⟩ := H.out
    obtain ⟨w8, rfl⟩ : ∃ z, z = wc := ⟨_, rfl⟩
    have hG : w5.grownBy w8 (some g) := (by (repeat (first | exact World.grownBy.refl _ _ | assumption | refine gb_drew ?_ | refine gb_drewN ?_ _ | refine gb_alloc ?_ _ | refine gb_here ?_ rfl _ | refine gb_set ?_ _ _ (by first | exact Nat.le_refl _ | (simp; done) | (simp; omega) | omega) | refine gb_trans ?_ (by assumption) | refine gb_below ?_ (by assumption)))); replace uc := gup_c hG uz (by omega) uc; replace uf := gup_f hG uz (by omega) uf; replace uz := Nat.lt_of_lt_of_le uz hG.size; have sw8 := hG.size; replace hW := gb_trans hW hG; clear hG
    clear hb H hr5
    have hne1 : ¬ w8.heap.size = w.heap.size := by omega
    have hne2 : ¬ w.heap.size = w8.heap.size := by omega
    go_wp2_with fail
    refine (odd_any _ _ _ _ _ _ (hr8.up (by (repeat (first | exact Below.refl _ _ | assumption | refine Below.drew ?_ | refine up_drewN ?_ _ | refine up_alloc ?_ _ | refine up_set ?_ _ _ (by first | exact Nat.le_refl _ | (simp; done) | (simp; omega) | omega) | refine up_trans ?_ (by assumption))))) (by omega)).mono ?_
    rintro e w9 ⟨x9, rfl, ⟨q9, hq9, hr9⟩, hb⟩
    have hG : w8.grownBy w9 (some g) := (by (repeat (first | exact World.grownBy.refl _ _ | assumption | refine gb_drew ?_ | refine gb_drewN ?_ _ | refine gb_alloc ?_ _ | refine gb_here ?_ rfl _ | refine gb_set ?_ _ _ (by first | exact Nat.le_refl _ | (simp; done) | (simp; omega) | omega) | refine gb_trans ?_ (by assumption) | refine gb_below ?_ (by assumption)))); replace uc := gup_c hG uz (by omega) uc; replace uf := gup_f hG uz (by omega) uf; replace uz := Nat.lt_of_lt_of_le uz hG.size; have sw9 := hG.size; replace hW := gb_trans hW hG; clear hG
    have vc : ∀ o, w9.cell? ⟨w8.heap.size, o, none⟩ = #[.int .i64 at_, .int .i64 cut, S t2][o]? := gup_c hb (by simp <;> omega) (by omega) (fun o => by simp [go_sem]); have vf : ∀ o, w9.frozen? ⟨w8.heap.size, o, none⟩ = false := gup_f hb (by simp <;> omega) (by omega) (fun o => by simp [go_sem]); have vz : w8.heap.size < w9.heap.size := (by have := hb.size; (try simp at this); omega); have vy := vz
    clear hb hr8
    rcases x9 with _ | _
    · go_wp2_with fail
      refine bodyPost_ret (v := .agg #[.int .i64 at_, .int .i64 cut, S t2]) (by simp [results, Tryz.results77, go_sem, uc]) rfl ⟨_, _, _, rfl, (by first | omega | (simp; done) | (simp; omega)), ⟨q9, by omega, ?_⟩, by (repeat (first | exact World.grownBy.refl _ _ | assumption | refine gb_drew ?_ | refine gb_drewN ?_ _ | refine gb_alloc ?_ _ | refine gb_here ?_ rfl _ | refine gb_set ?_ _ _ (by first | exact Nat.le_refl _ | (simp; done) | (simp; omega) | omega) | refine gb_trans ?_ (by assumption) | refine gb_below ?_ (by assumption)))⟩
      refine Rdr.below hr9 ?_; repeat (first | exact Below.refl _ _ | refine Below.drew ?_ | refine Below.setCell ?_ (by first | (simp; done) | (simp; omega) | omega) _ | refine Below.alloc ?_ (by first | (simp; done) | (simp; omega) | omega) _)
    · go_wp2_with fail
      refine (pick_any _ _ _ _ _ _ hr9 (by omega)).mono ?_
      rintro e w10 ⟨x10, rfl, h1, h2, hr10, hb⟩
      have hG : w9.grownBy w10 (some g) := (by (repeat (first | exact World.grownBy.refl _ _ | assumption | refine gb_drew ?_ | refine gb_drewN ?_ _ | refine gb_alloc ?_ _ | refine gb_here ?_ rfl _ | refine gb_set ?_ _ _ (by first | exact Nat.le_refl _ | (simp; done) | (simp; omega) | omega) | refine gb_trans ?_ (by assumption) | refine gb_below ?_ (by assumption)))); replace uc := gup_c hG uz (by omega) uc; replace uf := gup_f hG uz (by omega) uf; replace uz := Nat.lt_of_lt_of_le uz hG.size; replace vc := gup_c hG vz (by omega) vc; replace vf := gup_f hG vz (by omega) vf; replace vz := Nat.lt_of_lt_of_le vz hG.size; have sw10 := hG.size; replace hW := gb_trans hW hG; clear hG
      have hx10 := h1 (by omega)
      clear hb hr9 h1 h2
      by_cases e0 : x10 = 0
      · subst e0
        go_wp2_with fail
        refine (pick_any _ _ _ _ _ _ (hr10.up (by (repeat (first | exact Below.refl _ _ | assumption | refine Below.drew ?_ | refine up_drewN ?_ _ | refine up_alloc ?_ _ | refine up_set ?_ _ _ (by first | exact Nat.le_refl _ | (simp; done) | (simp; omega) | omega) | refine up_trans ?_ (by assumption))))) (by omega)).mono ?_
        rintro e w11 ⟨y4, rfl, h1, h2, hr11, hb⟩
        have hG : w10.grownBy w11 (some g) := (by (repeat (first | exact World.grownBy.refl _ _ | assumption | refine gb_drew ?_ | refine gb_drewN ?_ _ | refine gb_alloc ?_ _ | refine gb_here ?_ rfl _ | refine gb_set ?_ _ _ (by first | exact Nat.le_refl _ | (simp; done) | (simp; omega) | omega) | refine gb_trans ?_ (by assumption) | refine gb_below ?_ (by assumption)))); replace uc := gup_c hG uz (by omega) uc; replace uf := gup_f hG uz (by omega) uf; replace uz := Nat.lt_of_lt_of_le uz hG.size; replace vc := gup_c hG vz (by omega) vc; replace vf := gup_f hG vz (by omega) vf; replace vz := Nat.lt_of_lt_of_le vz hG.size; have sw11 := hG.size; replace hW := gb_trans hW hG; clear hG
        have lc : ∀ o, w11.cell? ⟨w10.heap.size, o, none⟩ = #[.int .i64 (-1), .int .i64 (s.length + 1), .int .i64 9223372036854775807][o]? := gup_c hb (by simp <;> omega) (by omega) (fun o => by simp [go_sem]); have lf : ∀ o, w11.frozen? ⟨w10.heap.size, o, none⟩ = false := gup_f hb (by simp <;> omega) (by omega) (fun o => by simp [go_sem]); have lz : w10.heap.size < w11.heap.size := (by have := hb.size; (try simp at this); omega); have ly := lz
        have hy4 := h1 (by omega)
        obtain ⟨y, hy, hyl, hyh⟩ := at3 (-1) (s.length + 1) 9223372036854775807 y4 (-1) 9223372036854775807 (by omega) (by omega) (by omega) hy4.1 hy4.2
        have lc1 := (lc y4.toNat).trans hy
        clear hb hr10 h1 h2 lc lf ly hy
        go_wp2_with fail
        refine bodyPost_ret (v := .agg #[.int .i64 y, .int .i64 cut, S t2]) (by simp [results, Tryz.results77, go_sem, uc]) rfl ⟨_, _, _, rfl, (by first | omega | (simp; done) | (simp; omega)), ⟨q9 + 1 + 1, by omega, ?_⟩, by (repeat (first | exact World.grownBy.refl _ _ | assumption | refine gb_drew ?_ | refine gb_drewN ?_ _ | refine gb_alloc ?_ _ | refine gb_here ?_ rfl _ | refine gb_set ?_ _ _ (by first | exact Nat.le_refl _ | (simp; done) | (simp; omega) | omega) | refine gb_trans ?_ (by assumption) | refine gb_below ?_ (by assumption)))⟩
        refine Rdr.below hr11 ?_; repeat (first | exact Below.refl _ _ | refine Below.drew ?_ | refine Below.setCell ?_ (by first | (simp; done) | (simp; omega) | omega) _ | refine Below.alloc ?_ (by first | (simp; done) | (simp; omega) | omega) _)
      · by_cases e1 : x10 = 1
        · subst e1
          go_wp2_with fail
          refine (pick_any _ _ _ _ _ _ (hr10.up (by (repeat (first | exact Below.refl _ _ | assumption | refine Below.drew ?_ | refine up_drewN ?_ _ | refine up_alloc ?_ _ | refine up_set ?_ _ _ (by first | exact Nat.le_refl _ | (simp; done) | (simp; omega) | omega) | refine up_trans ?_ (by assumption))))) (by omega)).mono ?_
          rintro e w11 ⟨y4, rfl, h1, h2, hr11, hb⟩
          have hG : w10.grownBy w11 (some g) := (by (repeat (first | exact World.grownBy.refl _ _ | assumption | refine gb_drew ?_ | refine gb_drewN ?_ _ | refine gb_alloc ?_ _ | refine gb_here ?_ rfl _ | refine gb_set ?_ _ _ (by first | exact Nat.le_refl _ | (simp; done) | (simp; omega) | omega) | refine gb_trans ?_ (by assumption) | refine gb_below ?_ (by assumption)))); replace uc := gup_c hG uz (by omega) uc; replace uf := gup_f hG uz (by omega) uf; replace uz := Nat.lt_of_lt_of_le uz hG.size; replace vc := gup_c hG vz (by omega) vc; replace vf := gup_f hG vz (by omega) vf; replace vz := Nat.lt_of_lt_of_le vz hG.size; have sw11 := hG.size; replace hW := gb_trans hW hG; clear hG
          have lc : ∀ o, w11.cell? ⟨w10.heap.size, o, none⟩ = #[.int .i64 (-1), .int .i64 (s.length - at_ + 1), .int .i64 9223372036854775807][o]? := gup_c hb (by simp <;> omega) (by omega) (fun o => by simp [go_sem]); have lf : ∀ o, w11.frozen? ⟨w10.heap.size, o, none⟩ = false := gup_f hb (by simp <;> omega) (by omega) (fun o => by simp [go_sem]); have lz : w10.heap.size < w11.heap.size := (by have := hb.size; (try simp at this); omega); have ly := lz
          have hy4 := h1 (by omega)
          obtain ⟨y, hy, hyl, hyh⟩ := at3 (-1) (s.length - at_ + 1) 9223372036854775807 y4 (-1) 9223372036854775807 (by omega) (by omega) (by omega) hy4.1 hy4.2
          have lc1 := (lc y4.toNat).trans hy
          clear hb hr10 h1 h2 lc lf ly hy
          go_wp2_with fail
          refine bodyPost_ret (v := .agg #[.int .i64 at_, .int .i64 y, S t2]) (by simp [results, Tryz.results77, go_sem, uc]) rfl ⟨_, _, _, rfl, (by first | omega | (simp; done) | (simp; omega)), ⟨q9 + 1 + 1, by omega, ?_⟩, by (repeat (first | exact World.grownBy.refl _ _ | assumption | refine gb_drew ?_ | refine gb_drewN ?_ _ | refine gb_alloc ?_ _ | refine gb_here ?_ rfl _ | refine gb_set ?_ _ _ (by first | exact Nat.le_refl _ | (simp; done) | (simp; omega) | omega) | refine gb_trans ?_ (by assumption) | refine gb_below ?_ (by assumption)))⟩
          refine Rdr.below hr11 ?_; repeat (first | exact Below.refl _ _ | refine Below.drew ?_ | refine Below.setCell ?_ (by first | (simp; done) | (simp; omega) | omega) _ | refine Below.alloc ?_ (by first | (simp; done) | (simp; omega) | omega) _)
        · by_cases e2 : x10 = 2
          · subst e2
            go_wp2_with fail
            refine bodyPost_ret (v := .agg #[.int .i64 at_, .int .i64 cut, S (t2 ++ [9])]) (by simp [results, Tryz.results77, go_sem, uc]) rfl ⟨_, _, _, rfl, (by first | omega | (simp; done) | (simp; omega)), ⟨q9 + 1, by omega, ?_⟩, by (repeat (first | exact World.grownBy.refl _ _ | assumption | refine gb_drew ?_ | refine gb_drewN ?_ _ | refine gb_alloc ?_ _ | refine gb_here ?_ rfl _ | refine gb_set ?_ _ _ (by first | exact Nat.le_refl _ | (simp; done) | (simp; omega) | omega) | refine gb_trans ?_ (by assumption) | refine gb_below ?_ (by assumption)))⟩
            refine Rdr.below hr10 ?_; repeat (first | exact Below.refl _ _ | refine Below.drew ?_ | refine Below.setCell ?_ (by first | (simp; done) | (simp; omega) | omega) _ | refine Below.alloc ?_ (by first | (simp; done) | (simp; omega) | omega) _)
          · have hx5 : x10 = 3 := by omega
            subst hx5
            clear e0 e1 e2
            have v0 := vc 0
            have v1 := vc 1
            have v2 := vc 2
            have v3 := vf 2
            simp only [List.getElem?_toArray, List.getElem?_cons_zero, List.getElem?_cons_succ] at v0 v1 v2
            have hlt8 : w.heap.size ≤ w8.heap.size := by omega
            have hg8 : g < w8.heap.size := by omega
            clear hx2 vc vf
            have HW := Lib.hid hW
            have HU := Lib.hid (And.intro uc uf)
            have HR := Lib.hid (show ∃ q, q ≤ q9 + 1 ∧ Rdr w10 g n zs q from ⟨_, Nat.le_refl _, hr10⟩)
            clear hW uc uf hr10
            go_wp2_with fail
            go_loopw [] (fun wr => ∃ l2 : List UInt8, l2.length ≤ 130 ∧ Hid (w.grownBy wr (some g)) ∧ Hid (∃ q, q ≤ q9 + 1 ∧ Rdr wr g n zs q) ∧ w8.heap.size < wr.heap.size ∧ w.heap.size < wr.heap.size ∧ wr.cell? ⟨w8.heap.size, 0, none⟩ = some (.int .i64 at_) ∧ wr.cell? ⟨w8.heap.size, 1, none⟩ = some (.int .i64 cut) ∧ wr.cell? ⟨w8.heap.size, 2, none⟩ = some (S l2) ∧ wr.frozen? ⟨w8.heap.size, 2, none⟩ = false ∧ Hid ((∀ o, wr.cell? ⟨w.heap.size, o, none⟩ = #[Value.int .i64 0, .int .i64 0, .string ⟨#[]⟩][o]?) ∧ (∀ o, wr.frozen? ⟨w.heap.size, o, none⟩ = false))) (fun wr => match wr.cell? ⟨w8.heap.size, 2, none⟩ with | some (.string b) => 300 - b.size | _ => 0)
            case atStart => exact ⟨t2, hl2, HW, HR, vz, uz, v0, v1, v2, v3, HU⟩
            case round =>
              obtain ⟨l2, hl3, HWr, HRr, vz', uz', v0', v1', v2', v3', HUr⟩ := hrel
              clear v0 v1 v2 v3 HW HR HU vz uz
              by_cases hlt : l2.length ≤ 120
              · go_wp2_with fail
                go_roundw
                case rel =>
                  refine ⟨l2 ++ [109, 111, 114, 101, 32], (by first | omega | (simp; done) | (simp; omega)), Lib.hid (gb_set HWr.out _ _ hlt8), Lib.hid ?_, by simpa using vz', by simpa using uz', by simp [go_sem, v0'], by simp [go_sem, v1'], by simp [go_sem, v2'], by simp [go_sem, v3'], Lib.hid ⟨fun o => ?_, fun o => ?_⟩⟩
                  · obtain ⟨q, hq, hr⟩ := HRr.out
                    exact ⟨q, hq, by refine Rdr.below hr ?_; repeat (first | exact Below.refl _ _ | refine Below.drew ?_ | refine Below.setCell ?_ (by first | (simp; done) | (simp; omega) | omega) _ | refine Below.alloc ?_ (by first | (simp; done) | (simp; omega) | omega) _)⟩
                  · exact (World.cell?_setCell_other wr ⟨w8.heap.size, 2, none⟩ ⟨w.heap.size, o, none⟩ _ (fun e => by injection e; omega)).trans (HUr.out.1 o)
                  · exact (by simp [go_sem]; exact HUr.out.2 o)
                case measure => simp [go_sem, v2', ByteArray.size]; omega
              · have uc := HUr.out.1
                have uf := HUr.out.2
                obtain ⟨q, hq, hr⟩ := HRr.out
                go_wp2_with fail
                refine bodyPost_ret (v := .agg #[.int .i64 at_, .int .i64 cut, S l2]) (by simp [results, Tryz.results77, go_sem, uc]) rfl ⟨_, _, _, rfl, (by first | omega | (simp; done) | (simp; omega)), ⟨q, by omega, ?_⟩, ?_⟩
                · refine Rdr.below hr ?_; repeat (first | exact Below.refl _ _ | refine Below.drew ?_ | refine Below.setCell ?_ (by first | (simp; done) | (simp; omega) | omega) _ | refine Below.alloc ?_ (by first | (simp; done) | (simp; omega) | omega) _)
                · have hW := HWr.out
                  (repeat (first | exact World.grownBy.refl _ _ | assumption | refine gb_drew ?_ | refine gb_drewN ?_ _ | refine gb_alloc ?_ _ | refine gb_here ?_ rfl _ | refine gb_set ?_ _ _ (by first | exact Nat.le_refl _ | (simp; done) | (simp; omega) | omega) | refine gb_trans ?_ (by assumption) | refine gb_below ?_ (by assumption)))

end Go.Proofs.YtdngdlcibaiekaaGreatDoor
