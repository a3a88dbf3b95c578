/- What is proved here: contracts of toDesk, szDesk, eqDesk, and the walk of the law FnExactPressKey. No condition. -/
import Derived.Test.YtndmidcilbghkaaKey5
import Derived.OpenShut
namespace Go.Proofs.Ytndmidcilbghkaa
open Go.RowKit

theorem toDesk_any (d : Dk) (w : World) :
    Calls Try.prog 13 #[dkV d] w fun e w' => e = .returned (dkV d) ∧ Below w.heap.size w w' := by
  unfold dkV
  go_enter Try.func13, Try.ntmps13
  go_wp2_with fail
  refine bodyPost_ret (v := .agg #[S d.body, .int .i64 d.place, .int .i64 d.want]) (by simp [results, Try.results13, go_sem]) rfl ⟨rfl, ?_⟩
  (repeat (first | exact Below.refl _ _ | assumption | refine Below.drew ?_ | refine up_drewN ?_ _ | refine up_alloc ?_ _ | refine up_set ?_ _ _ (by first | exact Nat.le_refl _ | (simp; done) | (simp; omega) | omega) | refine up_trans ?_ (by assumption)))
theorem szDesk_any (d : Dk) (q : Int) (w : World) (hs : d.body.length ≤ maxLen) (h0 : 0 ≤ q) (h1 : q ≤ 1048576) :
    Calls Try.prog 11 #[dkV d, .int .i64 q] w fun e w' => e = .returned (.int .i64 (if q < d.body.length then -1 else q - d.body.length)) ∧ Below w.heap.size w w' := by
  unfold maxLen at hs
  unfold dkV
  by_cases h : q < d.body.length
  · rw [if_pos h]
    go_enter Try.func11, Try.ntmps11
    go_wp2_with fail
    go_ret
    exact ⟨rfl, by (repeat (first | exact Below.refl _ _ | assumption | refine Below.drew ?_ | refine up_drewN ?_ _ | refine up_alloc ?_ _ | refine up_set ?_ _ _ (by first | exact Nat.le_refl _ | (simp; done) | (simp; omega) | omega) | refine up_trans ?_ (by assumption)))⟩
  · rw [if_neg h]
    go_enter Try.func11, Try.ntmps11
    go_wp2_with fail
    go_ret
    exact ⟨rfl, by (repeat (first | exact Below.refl _ _ | assumption | refine Below.drew ?_ | refine up_drewN ?_ _ | refine up_alloc ?_ _ | refine up_set ?_ _ _ (by first | exact Nat.le_refl _ | (simp; done) | (simp; omega) | omega) | refine up_trans ?_ (by assumption)))⟩
theorem eqDesk_same (d : Dk) (w : World) :
    Calls Try.prog 15 #[dkV d, dkV d] w fun e w' => e = .returned (.bool true) ∧ Below w.heap.size w w' := by
  unfold dkV
  go_enter Try.func15, Try.ntmps15
  go_wp2_with fail
  go_ret
  exact ⟨rfl, by (repeat (first | exact Below.refl _ _ | assumption | refine Below.drew ?_ | refine up_drewN ?_ _ | refine up_alloc ?_ _ | refine up_set ?_ _ _ (by first | exact Nat.le_refl _ | (simp; done) | (simp; omega) | omega) | refine up_trans ?_ (by assumption)))⟩

set_option maxRecDepth 100000 in
set_option maxHeartbeats 1000000 in
theorem exactPressKey_walk (s : List UInt8) (hs : s.length ≤ maxLen) (p x : Int) (c : Int) (wc : (Lit.int .u8 c).wf = true) (w : World) :
    Calls Try.prog 3 #[.agg #[S s, .int .i64 p, .int .i64 x], .int .u8 c] w fun e w' => e = .returned (.bool true) ∧ Below w.heap.size w w' := by
  have hW := Below.refl w.heap.size w
  have hc := Go.bounds_u8 wc
  clear wc
  have Z := Lib.hid (fun w => szDesk_any ⟨s, p, x⟩ 1048576 w hs (by omega) (by omega))
  have T := Lib.hid (fun w => toDesk_any ⟨s, p, x⟩ w)
  have I := Lib.hid (fun w => implPressKey_any ⟨s, p, x⟩ c w hs hc.1 hc.2)
  have J := Lib.hid (fun w => specPressKey_any ⟨s, p, x⟩ c w hs hc.1 hc.2)
  generalize pressK ⟨s, p, x⟩ c = r at *
  obtain ⟨⟨b2, p2, x2⟩, ok⟩ := r
  have E := Lib.hid (fun w => eqDesk_same ⟨b2, p2, x2⟩ w)
  unfold dkV at Z T E
  unfold DkPost dkV at I J
  simp only at Z T I J E
  by_cases hb : (1048576 : Int) < (s.length : Int)
  · rw [if_pos hb] at Z
    go_enter Try.func3, Try.ntmps3
    go_wp2_with fail
    refine (Z.out _).mono ?_
    rintro e w1 ⟨rfl, hb1⟩
    go_wp2_with fail
    go_ret
    exact ⟨rfl, by (repeat (first | exact Below.refl _ _ | assumption | refine Below.drew ?_ | refine up_drewN ?_ _ | refine up_alloc ?_ _ | refine up_set ?_ _ _ (by first | exact Nat.le_refl _ | (simp; done) | (simp; omega) | omega) | refine up_trans ?_ (by assumption)))⟩
  · rw [if_neg hb] at Z
    have hz : ¬ 1048576 - (s.length : Int) < 0 := by omega
    clear hb
    go_enter Try.func3, Try.ntmps3
    go_wp2_with fail
    refine (Z.out _).mono ?_
    rintro e w1 ⟨rfl, hb⟩
    have hB : Below w.heap.size w w1 := (by (repeat (first | exact Below.refl _ _ | assumption | refine Below.drew ?_ | refine up_drewN ?_ _ | refine up_alloc ?_ _ | refine up_set ?_ _ _ (by first | exact Nat.le_refl _ | (simp; done) | (simp; omega) | omega) | refine up_trans ?_ (by assumption)))); have sw1 := hB.size; replace hW := up_trans hW hB; clear hB
    have ac : ∀ o, w1.cell? ⟨w.heap.size, o, none⟩ = #[S s, .int .i64 p, .int .i64 x][o]? := (fun o => (hb.cell (p := ⟨w.heap.size, o, none⟩) (by simp <;> omega)).trans (by simp [go_sem])); have af : ∀ o, w1.frozen? ⟨w.heap.size, o, none⟩ = false := (fun o => (hb.frozen (p := ⟨w.heap.size, o, none⟩) (by simp <;> omega)).trans (by simp [go_sem])); have az : w.heap.size < w1.heap.size := (by have := hb.size; (try simp at this); omega); have ay := az
    clear hb
    go_wp2_with fail
    refine (T.out _).mono ?_
    rintro e w2 ⟨rfl, hb⟩
    have hB : Below w1.heap.size w1 w2 := (by (repeat (first | exact Below.refl _ _ | assumption | refine Below.drew ?_ | refine up_drewN ?_ _ | refine up_alloc ?_ _ | refine up_set ?_ _ _ (by first | exact Nat.le_refl _ | (simp; done) | (simp; omega) | omega) | refine up_trans ?_ (by assumption)))); replace ac := up_c hB az ac; replace af := up_f hB az af; replace az := Nat.lt_of_lt_of_le az hB.size; have sw2 := hB.size; replace hW := up_trans hW hB; clear hB
    clear hb
    go_wp2_with fail
    refine (J.out _).mono ?_
    rintro e w3 ⟨rfl, hb⟩
    have hB : Below w2.heap.size w2 w3 := (by (repeat (first | exact Below.refl _ _ | assumption | refine Below.drew ?_ | refine up_drewN ?_ _ | refine up_alloc ?_ _ | refine up_set ?_ _ _ (by first | exact Nat.le_refl _ | (simp; done) | (simp; omega) | omega) | refine up_trans ?_ (by assumption)))); replace ac := up_c hB az ac; replace af := up_f hB az af; replace az := Nat.lt_of_lt_of_le az hB.size; have sw3 := hB.size; replace hW := up_trans hW hB; clear hB
    clear hb
    go_wp2_with fail
    refine (T.out _).mono ?_
    rintro e w4 ⟨rfl, hb⟩
    have hB : Below w3.heap.size w3 w4 := (by (repeat (first | exact Below.refl _ _ | assumption | refine Below.drew ?_ | refine up_drewN ?_ _ | refine up_alloc ?_ _ | refine up_set ?_ _ _ (by first | exact Nat.le_refl _ | (simp; done) | (simp; omega) | omega) | refine up_trans ?_ (by assumption)))); replace ac := up_c hB az ac; replace af := up_f hB az af; replace az := Nat.lt_of_lt_of_le az hB.size; have sw4 := hB.size; replace hW := up_trans hW hB; clear hB
    have uc : ∀ o, w4.cell? ⟨w3.heap.size, o, none⟩ = #[S b2, .int .i64 p2, .int .i64 x2][o]? := (fun o => (hb.cell (p := ⟨w3.heap.size, o, none⟩) (by simp <;> omega)).trans (by simp [go_sem])); have uf : ∀ o, w4.frozen? ⟨w3.heap.size, o, none⟩ = false := (fun o => (hb.frozen (p := ⟨w3.heap.size, o, none⟩) (by simp <;> omega)).trans (by simp [go_sem])); have uz : w3.heap.size < w4.heap.size := (by have := hb.size; (try simp at this); omega); have uy := uz
    clear hb
    go_wp2_with fail
    refine (I.out _).mono ?_
    rintro e w5 ⟨rfl, hb⟩
    have hB : Below w4.heap.size w4 w5 := (by (repeat (first | exact Below.refl _ _ | assumption | refine Below.drew ?_ | refine up_drewN ?_ _ | refine up_alloc ?_ _ | refine up_set ?_ _ _ (by first | exact Nat.le_refl _ | (simp; done) | (simp; omega) | omega) | refine up_trans ?_ (by assumption)))); replace uc := up_c hB uz uc; replace uf := up_f hB uz uf; replace uz := Nat.lt_of_lt_of_le uz hB.size; have sw5 := hB.size; replace hW := up_trans hW hB; clear hB
    clear hb ac af
    go_wp2_with fail
    refine (E.out _).mono ?_
    rintro e w6 ⟨rfl, hb⟩
    have hQ : Below w.heap.size w w6 := by (repeat (first | exact Below.refl _ _ | assumption | refine Below.drew ?_ | refine up_drewN ?_ _ | refine up_alloc ?_ _ | refine up_set ?_ _ _ (by first | exact Nat.le_refl _ | (simp; done) | (simp; omega) | omega) | refine up_trans ?_ (by assumption)))
    clear hb
    go_wp2_with fail
    go_ret
    exact ⟨rfl, hQ⟩

end Go.Proofs.Ytndmidcilbghkaa
