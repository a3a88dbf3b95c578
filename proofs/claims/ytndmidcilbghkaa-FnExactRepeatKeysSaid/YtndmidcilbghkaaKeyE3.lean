/- What is proved here: the walk of the law FnExactRepeatKeys. No condition. -/
import Derived.Test.YtndmidcilbghkaaKey9
import Derived.Test.YtndmidcilbghkaaKeyE1
namespace Go.Proofs.Ytndmidcilbghkaa
open Go.RowKit

set_option maxRecDepth 100000 in
set_option maxHeartbeats 1000000 in
theorem exactRepeatKeys_walk (s : List UInt8) (hs : s.length ≤ maxLen) (p x : Int) (l : List UInt8) (hl : l.length ≤ maxLen) (t : Int) (w : World) :
    Calls Try.prog 5 #[.agg #[S s, .int .i64 p, .int .i64 x], S l, .int .i64 t] w fun e w' => e = .returned (.bool true) ∧ Below w.heap.size w w' := by
  have hW := Below.refl w.heap.size w
  have Z := Lib.hid (fun w => szDesk_any ⟨s, p, x⟩ 1048576 w hs (by omega) (by omega))
  have T := Lib.hid (fun w => toDesk_any ⟨s, p, x⟩ w)
  have I := Lib.hid (fun w => implRepeatKeys_any ⟨s, p, x⟩ l t w hs hl)
  have J := Lib.hid (fun w => specRepeatKeys_any ⟨s, p, x⟩ l t w hs hl)
  generalize repeatK ⟨s, p, x⟩ l t = r at *
  obtain ⟨⟨b2, p2, x2⟩, m⟩ := r
  have E := Lib.hid (fun w => eqDesk_same ⟨b2, p2, x2⟩ w)
  unfold dkV at Z T E
  unfold DnPost dkV at I J
  simp only at Z T I J E
  have hs' : l.length ≤ 9223372036854775807 := by unfold maxLen at hl; omega
  by_cases hlb : (1048576 : Int) < (l.length : Int)
  · go_enter Try.func5, Try.ntmps5
    go_wp2_with fail
    go_ret
    exact ⟨rfl, by (repeat (first | exact Below.refl _ _ | assumption | refine Below.drew ?_ | refine up_drewN ?_ _ | refine up_alloc ?_ _ | refine up_set ?_ _ _ (by first | exact Nat.le_refl _ | (simp; done) | (simp; omega) | omega) | refine up_trans ?_ (by assumption)))⟩
  by_cases hb : (1048576 : Int) < (s.length : Int)
  · rw [if_pos hb] at Z
    go_enter Try.func5, Try.ntmps5
    go_wp2_with fail
    refine (Z.out _).mono ?_
    rintro e w1 ⟨rfl, hb1⟩
    go_wp2_with fail
    go_ret
    exact ⟨rfl, by (repeat (first | exact Below.refl _ _ | assumption | refine Below.drew ?_ | refine up_drewN ?_ _ | refine up_alloc ?_ _ | refine up_set ?_ _ _ (by first | exact Nat.le_refl _ | (simp; done) | (simp; omega) | omega) | refine up_trans ?_ (by assumption)))⟩
  · rw [if_neg hb] at Z
    have hz : ¬ 1048576 - (s.length : Int) < 0 := by omega
    clear hb
    go_enter Try.func5, Try.ntmps5
    go_wp2_with fail
    refine (Z.out _).mono ?_
    rintro e w1 ⟨rfl, hb⟩
    have hB : Below w.heap.size w w1 := (by (repeat (first | exact Below.refl _ _ | assumption | refine Below.drew ?_ | refine up_drewN ?_ _ | refine up_alloc ?_ _ | refine up_set ?_ _ _ (by first | exact Nat.le_refl _ | (simp; done) | (simp; omega) | omega) | refine up_trans ?_ (by assumption)))); have sw1 := hB.size; replace hW := up_trans hW hB; clear hB
    have ac : ∀ o, w1.cell? ⟨w.heap.size, o, none⟩ = #[S s, .int .i64 p, .int .i64 x][o]? := (fun o => (hb.cell (p := ⟨w.heap.size, o, none⟩) (by simp <;> omega)).trans (by simp [go_sem])); have af : ∀ o, w1.frozen? ⟨w.heap.size, o, none⟩ = false := (fun o => (hb.frozen (p := ⟨w.heap.size, o, none⟩) (by simp <;> omega)).trans (by simp [go_sem])); have az : w.heap.size < w1.heap.size := (by have := hb.size; (try simp at this); omega); have ay := az
    clear hb
    go_wp2_with fail
    refine (T.out _).mono ?_
    rintro e w2 ⟨rfl, hb⟩
    have hB : Below w1.heap.size w1 w2 := (by (repeat (first | exact Below.refl _ _ | assumption | refine Below.drew ?_ | refine up_drewN ?_ _ | refine up_alloc ?_ _ | refine up_set ?_ _ _ (by first | exact Nat.le_refl _ | (simp; done) | (simp; omega) | omega) | refine up_trans ?_ (by assumption)))); replace ac := up_c hB az ac; replace af := up_f hB az af; replace az := Nat.lt_of_lt_of_le az hB.size; have sw2 := hB.size; replace hW := up_trans hW hB; clear hB
    clear hb
    go_wp2_with fail
    refine (J.out _).mono ?_
    rintro e w3 ⟨rfl, hb⟩
    have hB : Below w2.heap.size w2 w3 := (by (repeat (first | exact Below.refl _ _ | assumption | refine Below.drew ?_ | refine up_drewN ?_ _ | refine up_alloc ?_ _ | refine up_set ?_ _ _ (by first | exact Nat.le_refl _ | (simp; done) | (simp; omega) | omega) | refine up_trans ?_ (by assumption)))); replace ac := up_c hB az ac; replace af := up_f hB az af; replace az := Nat.lt_of_lt_of_le az hB.size; have sw3 := hB.size; replace hW := up_trans hW hB; clear hB
    clear hb
    go_wp2_with fail
    refine (T.out _).mono ?_
    rintro e w4 ⟨rfl, hb⟩
    have hB : Below w3.heap.size w3 w4 := (by (repeat (first | exact Below.refl _ _ | assumption | refine Below.drew ?_ | refine up_drewN ?_ _ | refine up_alloc ?_ _ | refine up_set ?_ _ _ (by first | exact Nat.le_refl _ | (simp; done) | (simp; omega) | omega) | refine up_trans ?_ (by assumption)))); replace ac := up_c hB az ac; replace af := up_f hB az af; replace az := Nat.lt_of_lt_of_le az hB.size; have sw4 := hB.size; replace hW := up_trans hW hB; clear hB
    have uc : ∀ o, w4.cell? ⟨w3.heap.size, o, none⟩ = #[S b2, .int .i64 p2, .int .i64 x2][o]? := (fun o => (hb.cell (p := ⟨w3.heap.size, o, none⟩) (by simp <;> omega)).trans (by simp [go_sem])); have uf : ∀ o, w4.frozen? ⟨w3.heap.size, o, none⟩ = false := (fun o => (hb.frozen (p := ⟨w3.heap.size, o, none⟩) (by simp <;> omega)).trans (by simp [go_sem])); have uz : w3.heap.size < w4.heap.size := (by have := hb.size; (try simp at this); omega); have uy := uz
    clear hb
    go_wp2_with fail
    refine (I.out _).mono ?_
    rintro e w5 ⟨rfl, hb⟩
    have hB : Below w4.heap.size w4 w5 := (by (repeat (first | exact Below.refl _ _ | assumption | refine Below.drew ?_ | refine up_drewN ?_ _ | refine up_alloc ?_ _ | refine up_set ?_ _ _ (by first | exact Nat.le_refl _ | (simp; done) | (simp; omega) | omega) | refine up_trans ?_ (by assumption)))); replace uc := up_c hB uz uc; replace uf := up_f hB uz uf; replace uz := Nat.lt_of_lt_of_le uz hB.size; have sw5 := hB.size; replace hW := up_trans hW hB; clear hB
    clear hb ac af
    go_wp2_with fail
    refine (E.out _).mono ?_
    rintro e w6 ⟨rfl, hb⟩
    have hQ : Below w.heap.size w w6 := by (repeat (first | exact Below.refl _ _ | assumption | refine Below.drew ?_ | refine up_drewN ?_ _ | refine up_alloc ?_ _ | refine up_set ?_ _ _ (by first | exact Nat.le_refl _ | (simp; done) | (simp; omega) | omega) | refine up_trans ?_ (by assumption)))
    clear hb
    go_wp2_with fail
    go_ret
    exact ⟨rfl, hQ⟩

end Go.Proofs.Ytndmidcilbghkaa
