/- What is proved here: contracts of PressKeys in the program and in the reference. No condition. -/
import Derived.Test.YtcjgllbhmghkeaaDoorKey6
namespace Go.Proofs.YtcjgllbhmghkeaaDoor
open Go.RowKit

def pressKeysK (d : Dk) (l : List UInt8) : Dk × Int := if dkOk d = true ∧ l.length ≤ 60 then ((pressesK d l).1, ((pressesK d l).2 : Nat)) else (dk0, -1)

set_option maxRecDepth 100000 in
set_option maxHeartbeats 1000000 in
theorem implPressKeys_no (d : Dk) (l : List UInt8) (w : World) (hs : d.body.length ≤ maxLen) (hl : l.length ≤ maxLen) (hno : dkOk d = false ∨ 60 < l.length) :
    Calls Tryd.prog 19 #[dkV d, S l] w (DnPost (dk0, -1) w) := by
  have hW := Below.refl w.heap.size w
  have hs' : l.length ≤ 9223372036854775807 := by unfold maxLen at hl; omega
  have V := Lib.hid (fun w => implDeskValid_any d w hs)
  unfold DnPost
  unfold dkV at V ⊢
  simp only [dk0]
  rcases hno with hd | hlen
  case' inr => rcases hd : dkOk d with _ | _
  all_goals
    rw [hd] at V
    clear hd
    go_enter Tryd.func19, Tryd.ntmps19
    go_wp2_with fail
    refine (V.out _).mono ?_
    rintro e w1 ⟨rfl, hb⟩
    have hB : Below w.heap.size w w1 := (by (repeat (first | exact Below.refl _ _ | assumption | refine Below.drew ?_ | refine up_drewN ?_ _ | refine up_alloc ?_ _ | refine up_set ?_ _ _ (by first | exact Nat.le_refl _ | (simp; done) | (simp; omega) | omega) | refine up_trans ?_ (by assumption)))); have sw1 := hB.size; replace hW := up_trans hW hB; clear hB
    have xc : ∀ o, w1.cell? ⟨w.heap.size, o, none⟩ = #[S d.body, .int .i64 d.place, .int .i64 d.want][o]? := (fun o => (hb.cell (p := ⟨w.heap.size, o, none⟩) (by simp <;> omega)).trans (by simp [go_sem])); have xf : ∀ o, w1.frozen? ⟨w.heap.size, o, none⟩ = false := (fun o => (hb.frozen (p := ⟨w.heap.size, o, none⟩) (by simp <;> omega)).trans (by simp [go_sem])); have xz : w.heap.size < w1.heap.size := (by have := hb.size; (try simp at this); omega); have xy := xz
    have yc : ∀ o, w1.cell? ⟨w.heap.size + 1, o, none⟩ = #[S [], .int .i64 0, .int .i64 0][o]? := (fun o => (hb.cell (p := ⟨w.heap.size + 1, o, none⟩) (by simp <;> omega)).trans (by simp [go_sem])); have yf : ∀ o, w1.frozen? ⟨w.heap.size + 1, o, none⟩ = false := (fun o => (hb.frozen (p := ⟨w.heap.size + 1, o, none⟩) (by simp <;> omega)).trans (by simp [go_sem])); have yz : w.heap.size + 1 < w1.heap.size := (by have := hb.size; (try simp at this); omega); have yy := yz
    clear hb
    go_wp2_with fail
    refine bodyPost_ret (v := .tuple #[.agg #[S [], .int .i64 0, .int .i64 0], .int .i64 (-1)]) (by simp [results, Tryd.results19, go_sem, yc]) rfl ⟨rfl, by (repeat (first | exact Below.refl _ _ | assumption | refine Below.drew ?_ | refine up_drewN ?_ _ | refine up_alloc ?_ _ | refine up_set ?_ _ _ (by first | exact Nat.le_refl _ | (simp; done) | (simp; omega) | omega) | refine up_trans ?_ (by assumption)))⟩

set_option maxRecDepth 100000 in
set_option maxHeartbeats 1000000 in
theorem implPressKeys_yes (d : Dk) (l : List UInt8) (w : World) (hs : d.body.length ≤ maxLen) (hl : l.length ≤ maxLen) (hd : dkOk d = true) (hlen : l.length ≤ 60) :
    Calls Tryd.prog 19 #[dkV d, S l] w (DnPost ((pressesK d l).1, ((pressesK d l).2 : Nat)) w) := by
  have hW := Below.refl w.heap.size w
  have hs' : l.length ≤ 9223372036854775807 := by unfold maxLen at hl; omega
  have V := Lib.hid (fun w => implDeskValid_any d w hs)
  have P := Lib.hid (fun w => implPress_any d l w hs hl)
  generalize hr : pressesK d l = r at *
  have HR := Lib.hid hr
  clear hr
  rw [hd] at V
  clear hd
  obtain ⟨⟨b2, p2, x2⟩, m⟩ := r
  unfold DnPost at P ⊢
  unfold dkV at V P ⊢
  simp only at P ⊢
  go_enter Tryd.func19, Tryd.ntmps19
  go_wp2_with fail
  refine (V.out _).mono ?_
  rintro e w1 ⟨rfl, hb⟩
  have hB : Below w.heap.size w w1 := (by (repeat (first | exact Below.refl _ _ | assumption | refine Below.drew ?_ | refine up_drewN ?_ _ | refine up_alloc ?_ _ | refine up_set ?_ _ _ (by first | exact Nat.le_refl _ | (simp; done) | (simp; omega) | omega) | refine up_trans ?_ (by assumption)))); have sw1 := hB.size; replace hW := up_trans hW hB; clear hB
  have xc : ∀ o, w1.cell? ⟨w.heap.size, o, none⟩ = #[S d.body, .int .i64 d.place, .int .i64 d.want][o]? := (fun o => (hb.cell (p := ⟨w.heap.size, o, none⟩) (by simp <;> omega)).trans (by simp [go_sem])); have xf : ∀ o, w1.frozen? ⟨w.heap.size, o, none⟩ = false := (fun o => (hb.frozen (p := ⟨w.heap.size, o, none⟩) (by simp <;> omega)).trans (by simp [go_sem])); have xz : w.heap.size < w1.heap.size := (by have := hb.size; (try simp at this); omega); have xy := xz
  have yc : ∀ o, w1.cell? ⟨w.heap.size + 1, o, none⟩ = #[S [], .int .i64 0, .int .i64 0][o]? := (fun o => (hb.cell (p := ⟨w.heap.size + 1, o, none⟩) (by simp <;> omega)).trans (by simp [go_sem])); have yf : ∀ o, w1.frozen? ⟨w.heap.size + 1, o, none⟩ = false := (fun o => (hb.frozen (p := ⟨w.heap.size + 1, o, none⟩) (by simp <;> omega)).trans (by simp [go_sem])); have yz : w.heap.size + 1 < w1.heap.size := (by have := hb.size; (try simp at this); omega); have yy := yz
  clear hb
  go_wp2_with fail
  refine (P.out _).mono ?_
  rintro e w2 ⟨rfl, hb⟩
  have hB : Below w1.heap.size w1 w2 := (by (repeat (first | exact Below.refl _ _ | assumption | refine Below.drew ?_ | refine up_drewN ?_ _ | refine up_alloc ?_ _ | refine up_set ?_ _ _ (by first | exact Nat.le_refl _ | (simp; done) | (simp; omega) | omega) | refine up_trans ?_ (by assumption)))); replace yc := up_c hB yz yc; replace yf := up_f hB yz yf; replace yz := Nat.lt_of_lt_of_le yz hB.size; have sw2 := hB.size; replace hW := up_trans hW hB; clear hB
  clear hb xc xf
  go_wp2_with fail
  refine bodyPost_ret (v := .tuple #[.agg #[S b2, .int .i64 p2, .int .i64 x2], .int .i64 m]) (by simp [results, Tryd.results19, go_sem, yc]) rfl ⟨rfl, by (repeat (first | exact Below.refl _ _ | assumption | refine Below.drew ?_ | refine up_drewN ?_ _ | refine up_alloc ?_ _ | refine up_set ?_ _ _ (by first | exact Nat.le_refl _ | (simp; done) | (simp; omega) | omega) | refine up_trans ?_ (by assumption)))⟩

theorem implPressKeys_any (d : Dk) (l : List UInt8) (w : World) (hs : d.body.length ≤ maxLen) (hl : l.length ≤ maxLen) :
    Calls Tryd.prog 19 #[dkV d, S l] w (DnPost (pressKeysK d l) w) := by
  by_cases h : dkOk d = true ∧ l.length ≤ 60
  · unfold pressKeysK
    rw [if_pos h]
    exact implPressKeys_yes d l w hs hl h.1 h.2
  · unfold pressKeysK
    rw [if_neg h]
    refine implPressKeys_no d l w hs hl ?_
    by_cases h1 : dkOk d = true
    · exact .inr (by by_cases h2 : l.length ≤ 60; exact absurd ⟨h1, h2⟩ h; omega)
    · exact .inl (by simpa using h1)




end Go.Proofs.YtcjgllbhmghkeaaDoor
