/- What is proved here: the walk of the law FnReadRecord. Condition: what the library's variables hold. -/
import Derived.Test.YtdngdlcibaiekaaGreatDoorDrawRr
import Derived.Test.YtdngdlcibaiekaaGreatDoorRcD
import Derived.Test.YtdngdlcibaiekaaGreatDoorAlive
namespace Go.Proofs.YtdngdlcibaiekaaGreatDoor
open Go.RowKit
set_option linter.unusedVariables false

set_option maxRecDepth 100000 in
set_option maxHeartbeats 2000000 in
theorem readRecord_walk (v : Value) (n : Nat) (zs : List Int) (w : World) (h : Bytes w w.heap.size v n zs) (hL : LW w) :
    Calls Tryz.prog 5 #[v] w fun e w' => e = .returned (.bool true) ∧ Below w.heap.size w w' := by
  have h' := h
  obtain ⟨h1, h2, A0, c0', rfl, h3, h4, h5⟩ := h
  clear h5 h2 h1 h4
  by_cases hn : n ≤ 1048576
  case neg =>
    go_enter Tryz.func5, Tryz.ntmps5
    go_wp2_with fail
    go_ret
    exact ⟨rfl, Below.refl _ _⟩
  have HW := Lib.hid hL
  clear hL
  go_enter Tryz.func5, Tryz.ntmps5
  go_wp2_with fail
  refine (drawReadRecord_any _ n zs _ (h'.to (by (repeat (first | exact Below.refl _ _ | assumption | refine Below.drew ?_ | refine up_drewN ?_ _ | refine up_alloc ?_ _ | refine up_set ?_ _ _ (by first | exact Nat.le_refl _ | (simp; done) | (simp; omega) | omega) | refine up_trans ?_ (by assumption)))))).mono ?_
  rintro e w1 ⟨s, rfl, hs, hb⟩
  have hW : Below w.heap.size w w1 := by (repeat (first | exact Below.refl _ _ | assumption | refine Below.drew ?_ | refine up_drewN ?_ _ | refine up_alloc ?_ _ | refine up_set ?_ _ _ (by first | exact Nat.le_refl _ | (simp; done) | (simp; omega) | omega) | refine up_trans ?_ (by assumption)))
  have A := Lib.hid (fun w hw => implReadRecord_any s w (by omega) hw)
  have B := Lib.hid (fun w => specReadRecord_any s w (by omega))
  clear hb h'
  cases hm : rdM s with
  | none =>
    obtain ⟨hc, hbb⟩ := rd_no hm
    rw [hc, hbb] at A B
    unfold c0 chAgg at A B
    simp only at A B
    clear hc hbb hm
    go_wp2_with fail
    refine (A.out _ (HW.out.up hW)).mono ?_
    rintro e w2 ⟨rfl, hb⟩
    replace hW := up_trans hW hb
    clear hb A
    go_wp2_with fail
    refine (B.out _).mono ?_
    rintro e w3 ⟨rfl, hb⟩
    have xc : ∀ o, w3.cell? ⟨w2.heap.size, o, none⟩ = #[.int .i64 0, .int .i64 0, S []][o]? := (fun o => (hb.cell (p := ⟨w2.heap.size, o, none⟩) (by simp <;> omega)).trans (by simp [go_sem])); have xf : ∀ o, w3.frozen? ⟨w2.heap.size, o, none⟩ = false := (fun o => (hb.frozen (p := ⟨w2.heap.size, o, none⟩) (by simp <;> omega)).trans (by simp [go_sem])); have xz : w2.heap.size < w3.heap.size := (by have := hb.size; (try simp at this); omega); have xy := xz
    replace hW := up_trans (up_alloc hW _) hb
    clear hb B
    go_wp2_with fail
    refine (alive_any _).mono ?_
    rintro e w4 ⟨rfl, rfl⟩
    go_wp2_with fail
    go_ret
    exact ⟨rfl, by (repeat (first | exact Below.refl _ _ | assumption | refine Below.drew ?_ | refine up_drewN ?_ _ | refine up_alloc ?_ _ | refine up_set ?_ _ _ (by first | exact Nat.le_refl _ | (simp; done) | (simp; omega) | omega) | refine up_trans ?_ (by assumption)))⟩
  | some x =>
    obtain ⟨hc, hbb⟩ := rd_yes hm
    rw [hc, hbb] at A B
    obtain ⟨a, b, p, rfl, hrec⟩ := rdM_rec hm
    obtain ⟨htx, hne⟩ := hrec.text
    have hp := tv_len hrec.2.2.1
    have hlt : 0 < s.length := List.length_pos_iff.2 hne
    have hless : rdM (s.take (s.length - 1)) = none := not_rec fun c d q k => hrec.less k
    obtain ⟨hlc, hlb⟩ := rd_no hless
    have C := Lib.hid (fun w hw => implReadRecord_any (s.take (s.length - 1)) w (by rw [List.length_take]; omega) hw)
    rw [hlc, hlb] at C
    have R := Lib.hid (fun w hw => implRecordText_any ⟨a, b, p⟩ w (by show p.length ≤ _; omega) hw)
    simp only [htx] at R
    unfold c0 chAgg at C
    unfold chAgg at A B R
    simp only at A B C R
    clear hc hbb hm hrec htx hne hless hlc hlb
    go_wp2_with fail
    refine (A.out _ (HW.out.up hW)).mono ?_
    rintro e w2 ⟨rfl, hb⟩
    replace hW := up_trans hW hb
    clear hb A
    go_wp2_with fail
    refine (B.out _).mono ?_
    rintro e w3 ⟨rfl, hb⟩
    have xc : ∀ o, w3.cell? ⟨w2.heap.size, o, none⟩ = #[.int .i64 (a : Int), .int .i64 (b : Int), S p][o]? := (fun o => (hb.cell (p := ⟨w2.heap.size, o, none⟩) (by simp <;> omega)).trans (by simp [go_sem])); have xf : ∀ o, w3.frozen? ⟨w2.heap.size, o, none⟩ = false := (fun o => (hb.frozen (p := ⟨w2.heap.size, o, none⟩) (by simp <;> omega)).trans (by simp [go_sem])); have xz : w2.heap.size < w3.heap.size := (by have := hb.size; (try simp at this); omega); have xy := xz
    replace hW := up_trans (up_alloc hW _) hb
    clear hb B
    have i1 : (0 : Int) ≤ (s.length : Int) - 1 := by omega
    have i2 : (s.length : Int) - 1 ≤ (s.length : Int) := by omega
    have i3 : (s.length : Int) - 1 = ((s.length - 1 : Nat) : Int) := by omega
    go_wp2_with fail
    refine (C.out _ (HW.out.up (by (repeat (first | exact Below.refl _ _ | assumption | refine Below.drew ?_ | refine up_drewN ?_ _ | refine up_alloc ?_ _ | refine up_set ?_ _ _ (by first | exact Nat.le_refl _ | (simp; done) | (simp; omega) | omega) | refine up_trans ?_ (by assumption)))))).mono ?_
    rintro e w4 ⟨rfl, hb⟩
    have hB : Below w3.heap.size w3 w4 := (by (repeat (first | exact Below.refl _ _ | assumption | refine Below.drew ?_ | refine up_drewN ?_ _ | refine up_alloc ?_ _ | refine up_set ?_ _ _ (by first | exact Nat.le_refl _ | (simp; done) | (simp; omega) | omega) | refine up_trans ?_ (by assumption)))); replace xc := up_c hB xz xc; replace xf := up_f hB xz xf; replace xz := Nat.lt_of_lt_of_le xz hB.size; have sw4 := hB.size; replace hW := up_trans hW hB; clear hB
    clear hb C i1 i2 i3
    go_wp2_with fail
    refine (R.out _ (HW.out.lt.up (by (repeat (first | exact Below.refl _ _ | assumption | refine Below.drew ?_ | refine up_drewN ?_ _ | refine up_alloc ?_ _ | refine up_set ?_ _ _ (by first | exact Nat.le_refl _ | (simp; done) | (simp; omega) | omega) | refine up_trans ?_ (by assumption)))))).mono ?_
    rintro e w5 ⟨rfl, hb⟩
    replace hW := up_trans (up_alloc hW _) hb
    clear hb R
    go_wp2_with fail
    go_ret
    exact ⟨rfl, hW⟩

end Go.Proofs.YtdngdlcibaiekaaGreatDoor
