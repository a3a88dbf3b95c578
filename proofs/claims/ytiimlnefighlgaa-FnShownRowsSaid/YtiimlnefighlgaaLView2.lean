/- What is proved here: the walk of the law FnShownRows. No condition. -/
import Derived.Test.YtiimlnefighlgaaLView1
import Derived.Test.YtiimlnefighlgaaSame1
namespace Go.Proofs.Ytiimlnefighlgaa
open Go.RowKit

set_option maxHeartbeats 1000000 in
theorem shownRows_walk (v : Value) (n : Nat) (zs : List Int) (w : World) (h : Bytes w w.heap.size v n zs) :
    Calls Try.prog 12 #[v] w fun e w' => e = .returned (.bool true) ∧ Below w.heap.size w w' := by
  have h' := h
  obtain ⟨h1, h2, A, c, rfl, h3, h4, h5⟩ := h
  clear h5 h2 h1 h4
  by_cases hn : n ≤ 1048576
  · have hW := Below.refl w.heap.size w
    go_enter Try.func12, Try.ntmps12
    go_wp2_with fail
    refine (drawShownRows_any _ n zs _ (h'.to (by (repeat (first | exact Below.refl _ _ | assumption | refine Below.drew ?_ | refine up_drewN ?_ _ | refine up_alloc ?_ _ | refine up_set ?_ _ _ (by first | exact Nat.le_refl _ | (simp; done) | (simp; omega) | omega) | refine up_trans ?_ (by assumption)))))).mono ?_
    rintro e w1 ⟨t, k, rows, rfl, hb⟩
    have hB : Below w.heap.size w w1 := (by (repeat (first | exact Below.refl _ _ | assumption | refine Below.drew ?_ | refine up_drewN ?_ _ | refine up_alloc ?_ _ | refine up_set ?_ _ _ (by first | exact Nat.le_refl _ | (simp; done) | (simp; omega) | omega) | refine up_trans ?_ (by assumption)))); have sw1 := hB.size; replace hW := up_trans hW hB; clear hB
    clear hb h'
    go_wp2_with fail
    refine (implShownRows_any _ _ _ _).mono ?_
    rintro e w2 ⟨g0, rfl, ho, hb⟩
    have hB : Below w1.heap.size w1 w2 := (by (repeat (first | exact Below.refl _ _ | assumption | refine Below.drew ?_ | refine up_drewN ?_ _ | refine up_alloc ?_ _ | refine up_set ?_ _ _ (by first | exact Nat.le_refl _ | (simp; done) | (simp; omega) | omega) | refine up_trans ?_ (by assumption)))); have sw2 := hB.size; replace hW := up_trans hW hB; clear hB
    have uc : ∀ o, w2.cell? ⟨w1.heap.size, o, none⟩ = #[.int .i64 t, .int .i64 k][o]? := (fun o => (hb.cell (p := ⟨w1.heap.size, o, none⟩) (by simp <;> omega)).trans (by simp [go_sem])); have uf : ∀ o, w2.frozen? ⟨w1.heap.size, o, none⟩ = false := (fun o => (hb.frozen (p := ⟨w1.heap.size, o, none⟩) (by simp <;> omega)).trans (by simp [go_sem])); have uz : w1.heap.size < w2.heap.size := (by have := hb.size; (try simp at this); omega); have uy := uz
    clear hb
    obtain ⟨hl, hn2, B, d, rfl, hA⟩ := Rd.of_own ho
    clear hA hl hn2
    go_wp2_with fail
    refine (specShownRows_any _ _ _ _).mono ?_
    rintro e w3 ⟨g1, rfl, ho1, hb⟩
    have hB : Below w2.heap.size w2 w3 := (by (repeat (first | exact Below.refl _ _ | assumption | refine Below.drew ?_ | refine up_drewN ?_ _ | refine up_alloc ?_ _ | refine up_set ?_ _ _ (by first | exact Nat.le_refl _ | (simp; done) | (simp; omega) | omega) | refine up_trans ?_ (by assumption)))); replace uc := up_c hB uz uc; replace uf := up_f hB uz uf; replace uz := Nat.lt_of_lt_of_le uz hB.size; replace ho := own_up ho hB; have sw3 := hB.size; replace hW := up_trans hW hB; clear hB
    clear hb
    go_wp2_with fail
    refine (sameInts_up _ _ _ _ _ (Rd.of_own ho) (Rd.of_own ho1)).mono ?_
    rintro e w4 ⟨rfl, hb⟩
    have hB : Below w3.heap.size w3 w4 := (by (repeat (first | exact Below.refl _ _ | assumption | refine Below.drew ?_ | refine up_drewN ?_ _ | refine up_alloc ?_ _ | refine up_set ?_ _ _ (by first | exact Nat.le_refl _ | (simp; done) | (simp; omega) | omega) | refine up_trans ?_ (by assumption)))); replace uc := up_c hB uz uc; replace uf := up_f hB uz uf; replace uz := Nat.lt_of_lt_of_le uz hB.size; replace ho := own_up ho hB; have sw4 := hB.size; replace hW := up_trans hW hB; clear hB
    clear hb ho1
    go_wp2_with fail
    refine (specViewValid_any _ _ _ _).mono ?_
    rintro e w5 ⟨rfl, hb⟩
    have hB : Below w4.heap.size w4 w5 := (by (repeat (first | exact Below.refl _ _ | assumption | refine Below.drew ?_ | refine up_drewN ?_ _ | refine up_alloc ?_ _ | refine up_set ?_ _ _ (by first | exact Nat.le_refl _ | (simp; done) | (simp; omega) | omega) | refine up_trans ?_ (by assumption)))); replace uc := up_c hB uz uc; replace uf := up_f hB uz uf; replace uz := Nat.lt_of_lt_of_le uz hB.size; replace ho := own_up ho hB; have sw5 := hB.size; replace hW := up_trans hW hB; clear hB
    clear hb
    rcases hv : vvB t k rows with _ | _
    · have hN : shownN t k rows = 0 := by simp [shownN, hv]
      rw [hN] at ho ⊢
      clear hN
      go_wp2_with fail
      refine (alive_any _).mono ?_
      rintro e w6 ⟨rfl, rfl⟩
      go_wp2_with fail
      go_ret
      exact ⟨rfl, by (repeat (first | exact Below.refl _ _ | assumption | refine Below.drew ?_ | refine up_drewN ?_ _ | refine up_alloc ?_ _ | refine up_set ?_ _ _ (by first | exact Nat.le_refl _ | (simp; done) | (simp; omega) | omega) | refine up_trans ?_ (by assumption)))⟩
    · have hN : shownN t k rows = (min rows (t + k) - t).toNat := by simp [shownN, hv]
      have hv0 := vvB_out hv
      have hL := shownN_le t k rows
      obtain ⟨m, hm⟩ : ∃ m, m = shownN t k rows := ⟨_, rfl⟩
      rw [← hm] at ho hN hL ⊢
      have hR := Rd.of_own ho
      obtain ⟨_, _, B', d', he, hA⟩ := hR
      injection he with e1 e2 e3
      subst e1 e3
      have HN := Lib.hid hN
      clear hN hm ho e2 hv
      go_wp2_with fail
      go_loopw [6] (fun i wr => ∃ j : Nat, j ≤ m ∧ i = .int .i64 j ∧ Below w5.heap.size w5 wr) (fun i _ => m - (intOf i).toNat)
      case atStart => exact ⟨0, Nat.zero_le _, rfl, Below.refl _ _⟩
      case round =>
        obtain ⟨j, hj, rfl, hb⟩ := hrel
        have vc := up_c hb uz uc
        have c0 := vc 0
        have c1 := vc 1
        simp at c0 c1
        clear vc uc
        by_cases hlt : j < m
        · obtain ⟨b, o, rfl, hbb, hc⟩ := hA (by omega)
          have cz := (hb.cell (p := ⟨b, o + j, none⟩) hbb).trans (hc j _ (upInts_at t j m hlt))
          clear hc hA
          have i1 : (0 : Int) ≤ (j : Int) := by omega
          have i2 : (j : Int) < (m : Int) := by omega
          have i3 : IntKind.i64.wrap (t + (j : Int)) = t + (j : Int) := IntWalk.i64_in _ (by omega)
          go_wp2_with fail
          go_quiet (fail)
          clear i3
          go_wp2_with fail
          go_roundw
          case rel => exact ⟨j + 1, by omega, by go_num, by (repeat (first | exact Below.refl _ _ | assumption | refine Below.drew ?_ | refine up_drewN ?_ _ | refine up_alloc ?_ _ | refine up_set ?_ _ _ (by first | exact Nat.le_refl _ | (simp; done) | (simp; omega) | omega) | refine up_trans ?_ (by assumption)))⟩
          case measure => simp [intOf]; omega
        · obtain rfl : j = m := by omega
          have hNN := HN.out
          rcases Int.lt_or_le (rows - t) k with hk | hk
          all_goals
            go_wp2_with fail
            go_ret
            refine ⟨ret_bool ?_, by (repeat (first | exact Below.refl _ _ | assumption | refine Below.drew ?_ | refine up_drewN ?_ _ | refine up_alloc ?_ _ | refine up_set ?_ _ _ (by first | exact Nat.le_refl _ | (simp; done) | (simp; omega) | omega) | refine up_trans ?_ (by assumption)))⟩
            simp
            omega
  · go_enter Try.func12, Try.ntmps12
    go_wp2_with fail
    go_ret
    exact ⟨rfl, Below.refl _ _⟩

end Go.Proofs.Ytiimlnefighlgaa
