/- What is proved here: the walk of the law FnPressKey. No condition. -/
import Derived.Test.YtndmidcilbghkaaPKey
import Derived.Test.YtndmidcilbghkaaDrawK3
import Derived.Test.YtndmidcilbghkaaAlive
import Derived.Deep.Cut
import Derived.Deep.CutRange
namespace Go.Proofs.Ytndmidcilbghkaa
open Go.RowKit

set_option maxRecDepth 100000 in
set_option maxHeartbeats 2000000 in
theorem pressKey_walk (v : Value) (n : Nat) (zs : List Int) (w : World) (h : Bytes w w.heap.size v n zs) :
    Calls Try.prog 6 #[v] w fun e w' => e = .returned (.bool true) ∧ Below w.heap.size w w' := by
  have h' := h
  obtain ⟨h1, h2, A, c, rfl, h3, h4, h5⟩ := h
  clear h5 h2 h1 h4
  by_cases hn : n ≤ 1048576
  · have hW := Below.refl w.heap.size w
    go_enter Try.func6, Try.ntmps6
    go_wp2_with fail
    refine (drawPressKey_any _ n zs _ h').mono ?_
    rintro e w1 ⟨d, c, rfl, hd, hc0, hc1, hb⟩
    have I := Lib.hid (fun w => implPressKey_any d c w (by unfold maxLen; omega) hc0 hc1)
    have J := Lib.hid (fun w => specPressKey_any d c w (by unfold maxLen; omega) hc0 hc1)
    have hB : Below w.heap.size w w1 := (by (repeat (first | exact Below.refl _ _ | assumption | refine Below.drew ?_ | refine up_drewN ?_ _ | refine up_alloc ?_ _ | refine up_set ?_ _ _ (by first | exact Nat.le_refl _ | (simp; done) | (simp; omega) | omega) | refine up_trans ?_ (by assumption)))); have sw1 := hB.size; replace hW := up_trans hW hB; clear hB
    clear hb h'
    have hxl := pressK_len d c
    have B := press_law d c
    have K := Lib.hid (fun w => implPressKey_any (pressK d c).1 35 w (by unfold maxLen; omega) (by omega) (by omega))
    have DV := Lib.hid (fun w => implDeskValid_any (pressK d c).1 w (by unfold maxLen; omega))
    generalize pressK d c = r at *
    obtain ⟨x, ok⟩ := r
    simp only at hxl B K DV
    generalize pressK x 35 = y at *
    rcases B with ⟨rfl, B⟩ | ⟨rfl, hx, B⟩
    · have hB : (x.body = [] ∧ x.place = 0 ∧ x.want = 0) ∨ (x.body = d.body ∧ x.place = d.place ∧ x.want = d.want) := by
        rcases B with rfl | rfl
        · exact .inl ⟨rfl, rfl, rfl⟩
        · exact .inr ⟨rfl, rfl, rfl⟩
      obtain ⟨xb, xp, xx⟩ := x
      obtain ⟨db, dp, dx⟩ := d
      unfold DkPost dkV at I J
      simp only at I J hB hd
      unfold dkV
      simp only
      clear B K DV hxl
      rcases hB with ⟨rfl, rfl, rfl⟩ | ⟨rfl, rfl, rfl⟩
      · go_wp2_with fail
        refine (I.out _).mono ?_
        rintro e w2 ⟨rfl, hb⟩
        have hB : Below w1.heap.size w1 w2 := (by (repeat (first | exact Below.refl _ _ | assumption | refine Below.drew ?_ | refine up_drewN ?_ _ | refine up_alloc ?_ _ | refine up_set ?_ _ _ (by first | exact Nat.le_refl _ | (simp; done) | (simp; omega) | omega) | refine up_trans ?_ (by assumption)))); have sw2 := hB.size; replace hW := up_trans hW hB; clear hB
        have tc : ∀ o, w2.cell? ⟨w1.heap.size, o, none⟩ = #[S db, .int .i64 dp, .int .i64 dx][o]? := (fun o => (hb.cell (p := ⟨w1.heap.size, o, none⟩) (by simp <;> omega)).trans (by simp [go_sem])); have tf : ∀ o, w2.frozen? ⟨w1.heap.size, o, none⟩ = false := (fun o => (hb.frozen (p := ⟨w1.heap.size, o, none⟩) (by simp <;> omega)).trans (by simp [go_sem])); have tz : w1.heap.size < w2.heap.size := (by have := hb.size; (try simp at this); omega); have ty := tz
        clear hb I
        go_wp2_with fail
        refine (J.out _).mono ?_
        rintro e w3 ⟨rfl, hb⟩
        have hB : Below w2.heap.size w2 w3 := (by (repeat (first | exact Below.refl _ _ | assumption | refine Below.drew ?_ | refine up_drewN ?_ _ | refine up_alloc ?_ _ | refine up_set ?_ _ _ (by first | exact Nat.le_refl _ | (simp; done) | (simp; omega) | omega) | refine up_trans ?_ (by assumption)))); replace tc := up_c hB tz tc; replace tf := up_f hB tz tf; replace tz := Nat.lt_of_lt_of_le tz hB.size; have sw3 := hB.size; replace hW := up_trans hW hB; clear hB
        have xc : ∀ o, w3.cell? ⟨w2.heap.size, o, none⟩ = #[S [], .int .i64 0, .int .i64 0][o]? := (fun o => (hb.cell (p := ⟨w2.heap.size, o, none⟩) (by simp <;> omega)).trans (by simp [go_sem])); have xf : ∀ o, w3.frozen? ⟨w2.heap.size, o, none⟩ = false := (fun o => (hb.frozen (p := ⟨w2.heap.size, o, none⟩) (by simp <;> omega)).trans (by simp [go_sem])); have xz : w2.heap.size < w3.heap.size := (by have := hb.size; (try simp at this); omega); have xy := xz
        clear hb J ty xy
        go_wp2_with fail
        refine (alive_any _).mono ?_
        rintro e w4 ⟨rfl, rfl⟩
        go_wp2_with fail
        go_ret
        exact ⟨rfl, by (repeat (first | exact Below.refl _ _ | assumption | refine Below.drew ?_ | refine up_drewN ?_ _ | refine up_alloc ?_ _ | refine up_set ?_ _ _ (by first | exact Nat.le_refl _ | (simp; done) | (simp; omega) | omega) | refine up_trans ?_ (by assumption)))⟩
      · go_wp2_with fail
        refine (I.out _).mono ?_
        rintro e w2 ⟨rfl, hb⟩
        have hB : Below w1.heap.size w1 w2 := (by (repeat (first | exact Below.refl _ _ | assumption | refine Below.drew ?_ | refine up_drewN ?_ _ | refine up_alloc ?_ _ | refine up_set ?_ _ _ (by first | exact Nat.le_refl _ | (simp; done) | (simp; omega) | omega) | refine up_trans ?_ (by assumption)))); have sw2 := hB.size; replace hW := up_trans hW hB; clear hB
        have tc : ∀ o, w2.cell? ⟨w1.heap.size, o, none⟩ = #[S xb, .int .i64 xp, .int .i64 xx][o]? := (fun o => (hb.cell (p := ⟨w1.heap.size, o, none⟩) (by simp <;> omega)).trans (by simp [go_sem])); have tf : ∀ o, w2.frozen? ⟨w1.heap.size, o, none⟩ = false := (fun o => (hb.frozen (p := ⟨w1.heap.size, o, none⟩) (by simp <;> omega)).trans (by simp [go_sem])); have tz : w1.heap.size < w2.heap.size := (by have := hb.size; (try simp at this); omega); have ty := tz
        clear hb I
        go_wp2_with fail
        refine (J.out _).mono ?_
        rintro e w3 ⟨rfl, hb⟩
        have hB : Below w2.heap.size w2 w3 := (by (repeat (first | exact Below.refl _ _ | assumption | refine Below.drew ?_ | refine up_drewN ?_ _ | refine up_alloc ?_ _ | refine up_set ?_ _ _ (by first | exact Nat.le_refl _ | (simp; done) | (simp; omega) | omega) | refine up_trans ?_ (by assumption)))); replace tc := up_c hB tz tc; replace tf := up_f hB tz tf; replace tz := Nat.lt_of_lt_of_le tz hB.size; have sw3 := hB.size; replace hW := up_trans hW hB; clear hB
        have xc : ∀ o, w3.cell? ⟨w2.heap.size, o, none⟩ = #[S xb, .int .i64 xp, .int .i64 xx][o]? := (fun o => (hb.cell (p := ⟨w2.heap.size, o, none⟩) (by simp <;> omega)).trans (by simp [go_sem])); have xf : ∀ o, w3.frozen? ⟨w2.heap.size, o, none⟩ = false := (fun o => (hb.frozen (p := ⟨w2.heap.size, o, none⟩) (by simp <;> omega)).trans (by simp [go_sem])); have xz : w2.heap.size < w3.heap.size := (by have := hb.size; (try simp at this); omega); have xy := xz
        clear hb J ty xy
        go_wp2_with fail
        all_goals
          refine (alive_any _).mono ?_
          rintro e w4 ⟨rfl, rfl⟩
          go_wp2_with fail
          go_ret
          exact ⟨rfl, by (repeat (first | exact Below.refl _ _ | assumption | refine Below.drew ?_ | refine up_drewN ?_ _ | refine up_alloc ?_ _ | refine up_set ?_ _ _ (by first | exact Nat.le_refl _ | (simp; done) | (simp; omega) | omega) | refine up_trans ?_ (by assumption)))⟩
    · have hxx := (dkOk_out hx).2.2.2.2.2
      rw [hx] at DV
      obtain ⟨xb, xp, xx⟩ := x
      obtain ⟨db, dp, dx⟩ := d
      obtain ⟨⟨yb, yp, yx⟩, ok2⟩ := y
      unfold DkPost dkV at I J K
      unfold dkV at DV
      simp only at I J K DV B hd hxx
      unfold dkV
      simp only
      clear hx hxl
      go_wp2_with fail
      refine (I.out _).mono ?_
      rintro e w2 ⟨rfl, hb⟩
      have hB : Below w1.heap.size w1 w2 := (by (repeat (first | exact Below.refl _ _ | assumption | refine Below.drew ?_ | refine up_drewN ?_ _ | refine up_alloc ?_ _ | refine up_set ?_ _ _ (by first | exact Nat.le_refl _ | (simp; done) | (simp; omega) | omega) | refine up_trans ?_ (by assumption)))); have sw2 := hB.size; replace hW := up_trans hW hB; clear hB
      have tc : ∀ o, w2.cell? ⟨w1.heap.size, o, none⟩ = #[S db, .int .i64 dp, .int .i64 dx][o]? := (fun o => (hb.cell (p := ⟨w1.heap.size, o, none⟩) (by simp <;> omega)).trans (by simp [go_sem])); have tf : ∀ o, w2.frozen? ⟨w1.heap.size, o, none⟩ = false := (fun o => (hb.frozen (p := ⟨w1.heap.size, o, none⟩) (by simp <;> omega)).trans (by simp [go_sem])); have tz : w1.heap.size < w2.heap.size := (by have := hb.size; (try simp at this); omega); have ty := tz
      clear hb I
      go_wp2_with fail
      refine (J.out _).mono ?_
      rintro e w3 ⟨rfl, hb⟩
      have hB : Below w2.heap.size w2 w3 := (by (repeat (first | exact Below.refl _ _ | assumption | refine Below.drew ?_ | refine up_drewN ?_ _ | refine up_alloc ?_ _ | refine up_set ?_ _ _ (by first | exact Nat.le_refl _ | (simp; done) | (simp; omega) | omega) | refine up_trans ?_ (by assumption)))); replace tc := up_c hB tz tc; replace tf := up_f hB tz tf; replace tz := Nat.lt_of_lt_of_le tz hB.size; have sw3 := hB.size; replace hW := up_trans hW hB; clear hB
      have xc : ∀ o, w3.cell? ⟨w2.heap.size, o, none⟩ = #[S xb, .int .i64 xp, .int .i64 xx][o]? := (fun o => (hb.cell (p := ⟨w2.heap.size, o, none⟩) (by simp <;> omega)).trans (by simp [go_sem])); have xf : ∀ o, w3.frozen? ⟨w2.heap.size, o, none⟩ = false := (fun o => (hb.frozen (p := ⟨w2.heap.size, o, none⟩) (by simp <;> omega)).trans (by simp [go_sem])); have xz : w2.heap.size < w3.heap.size := (by have := hb.size; (try simp at this); omega); have xy := xz
      clear hb J ty xy
      rcases B with rfl | B | ⟨B, rfl, rfl, rfl⟩
      · have e0 : (((xb.length : Int) - (xb.length : Int)) == 1) = false := by simp
        go_wp2_with fail
        refine (DV.out _).mono ?_
        rintro e w4 ⟨rfl, hb⟩
        have hB : Below w3.heap.size w3 w4 := (by (repeat (first | exact Below.refl _ _ | assumption | refine Below.drew ?_ | refine up_drewN ?_ _ | refine up_alloc ?_ _ | refine up_set ?_ _ _ (by first | exact Nat.le_refl _ | (simp; done) | (simp; omega) | omega) | refine up_trans ?_ (by assumption)))); replace tc := up_c hB tz tc; replace tf := up_f hB tz tf; replace tz := Nat.lt_of_lt_of_le tz hB.size; replace xc := up_c hB xz xc; replace xf := up_f hB xz xf; replace xz := Nat.lt_of_lt_of_le xz hB.size; have sw4 := hB.size; replace hW := up_trans hW hB; clear hB
        clear hb
        go_wp2_with fail
        go_ret
        exact ⟨rfl, hW⟩
      · obtain ⟨q, hq⟩ : ∃ q : Int, q = (db.length : Int) := ⟨_, rfl⟩
        have e0 : ((xb.length : Int) - (db.length : Int)) = -1 := by omega
        have E0 := Lib.hid e0
        clear e0 hq q
        go_upto_region 10 with (fail)
        have e0 := E0.out
        go_wp2_with fail
        refine (DV.out _).mono ?_
        rintro e w4 ⟨rfl, hb⟩
        have hB : Below w3.heap.size w3 w4 := (by (repeat (first | exact Below.refl _ _ | assumption | refine Below.drew ?_ | refine up_drewN ?_ _ | refine up_alloc ?_ _ | refine up_set ?_ _ _ (by first | exact Nat.le_refl _ | (simp; done) | (simp; omega) | omega) | refine up_trans ?_ (by assumption)))); replace tc := up_c hB tz tc; replace tf := up_f hB tz tf; replace tz := Nat.lt_of_lt_of_le tz hB.size; replace xc := up_c hB xz xc; replace xf := up_f hB xz xf; replace xz := Nat.lt_of_lt_of_le xz hB.size; have sw4 := hB.size; replace hW := up_trans hW hB; clear hB
        clear hb
        go_wp2_with fail
        go_ret
        exact ⟨rfl, hW⟩
      · have e0 : ((xb.length : Int) - (yb.length : Int)) = 1 := by omega
        have E0 := Lib.hid e0
        clear e0 B
        go_upto_region 10 with (fail)
        have e0 := E0.out
        go_wp2_with fail
        refine (K.out _).mono ?_
        rintro e w4 ⟨rfl, hb⟩
        have hB : Below w3.heap.size w3 w4 := (by (repeat (first | exact Below.refl _ _ | assumption | refine Below.drew ?_ | refine up_drewN ?_ _ | refine up_alloc ?_ _ | refine up_set ?_ _ _ (by first | exact Nat.le_refl _ | (simp; done) | (simp; omega) | omega) | refine up_trans ?_ (by assumption)))); replace tc := up_c hB tz tc; replace tf := up_f hB tz tf; replace tz := Nat.lt_of_lt_of_le tz hB.size; replace xc := up_c hB xz xc; replace xf := up_f hB xz xf; replace xz := Nat.lt_of_lt_of_le xz hB.size; have sw4 := hB.size; replace hW := up_trans hW hB; clear hB
        clear hb
        have ne1 : ¬ w4.heap.size = w1.heap.size := by omega
        have ne2 : ¬ w4.heap.size = w2.heap.size := by omega
        have ne3 : ¬ w1.heap.size = w4.heap.size := by omega
        have ne4 : ¬ w2.heap.size = w4.heap.size := by omega
        go_wp2_with fail
        refine (DV.out _).mono ?_
        rintro e w5 ⟨rfl, hb⟩
        have hB : Below w4.heap.size w4 w5 := (by (repeat (first | exact Below.refl _ _ | assumption | refine Below.drew ?_ | refine up_drewN ?_ _ | refine up_alloc ?_ _ | refine up_set ?_ _ _ (by first | exact Nat.le_refl _ | (simp; done) | (simp; omega) | omega) | refine up_trans ?_ (by assumption)))); replace tc := up_c hB tz tc; replace tf := up_f hB tz tf; replace tz := Nat.lt_of_lt_of_le tz hB.size; replace xc := up_c hB xz xc; replace xf := up_f hB xz xf; replace xz := Nat.lt_of_lt_of_le xz hB.size; have sw5 := hB.size; replace hW := up_trans hW hB; clear hB
        clear hb
        go_wp2_with fail
        go_ret
        exact ⟨rfl, hW⟩
  · go_enter Try.func6, Try.ntmps6
    go_wp2_with fail
    go_ret
    exact ⟨rfl, Below.refl _ _⟩

end Go.Proofs.Ytndmidcilbghkaa
