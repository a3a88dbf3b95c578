/- What is proved here: the walk of the law FnScrollView. No condition. -/
import Derived.Test.YtiimlnefighlgaaLView1
import Derived.Test.YtiimlnefighlgaaDraw4
import Derived.Test.YtiimlnefighlgaaReg
namespace Go.Proofs.Ytiimlnefighlgaa
open Go.RowKit

theorem scrollT_facts {t k rows d : Int} (hv : vvB t k rows = true) (h0 : -120 ≤ d) (h1 : d ≤ 120) :
    ∃ T : Int, scrollT t k rows d = T ∧ scrollH t k rows d = k ∧ vvB T k rows = true ∧ (T = t + d ∨ (¬ T = t + d ∧ T = 0 ∧ d < 0) ∨ (¬ T = t + d ∧ ¬ T = 0 ∧ T = rows - 1 ∧ 0 < d) ∨ (¬ T = t + d ∧ T = 0 ∧ ¬ d < 0 ∧ rows - 1 = 0 ∧ 0 < d)) := by
  have hb := vvB_out hv
  have hr : inB d (-120) 120 = true := inB_iff.2 ⟨h0, h1⟩
  have e1 : scrollT t k rows d = max 0 (min (t + d) (rows - 1)) := by unfold scrollT; rw [hv, hr]; rfl
  have e2 : scrollH t k rows d = k := by unfold scrollH; rw [hv, hr]; rfl
  obtain ⟨T, hT⟩ : ∃ T : Int, T = max 0 (min (t + d) (rows - 1)) := ⟨_, rfl⟩
  refine ⟨T, e1.trans hT.symm, e2, ?_, by omega⟩
  unfold vvB
  rw [IntWalk.wrap64_in _ (by omega), inB_iff.2 ⟨hb.1, hb.2.1⟩, inB_iff.2 ⟨hb.2.2.1, hb.2.2.2.1⟩, inB_iff.2 ⟨by omega, by omega⟩]
  rfl
theorem scrollT_not {t k rows d : Int} (h : vvB t k rows = false ∨ d < -120 ∨ 120 < d) : scrollT t k rows d = 0 ∧ scrollH t k rows d = 0 := by
  have : (vvB t k rows && inB d (-120) 120) = false := by
    rcases h with h | h
    · rw [h]; rfl
    · rw [Bool.and_eq_false_iff]; right
      rw [Bool.eq_false_iff]; intro e; rw [inB_iff] at e; omega
  unfold scrollT scrollH
  rw [this]
  exact ⟨rfl, rfl⟩

set_option maxHeartbeats 2000000 in
theorem scrollView_walk (v : Value) (n : Nat) (zs : List Int) (w : World) (h : Bytes w w.heap.size v n zs) :
    Calls Try.prog 10 #[v] w fun e w' => e = .returned (.bool true) ∧ Below w.heap.size w w' := by
  have h' := h
  obtain ⟨h1, h2, A, c, rfl, h3, h4, h5⟩ := h
  clear h5 h2 h1 h4
  by_cases hn : n ≤ 1048576
  · have hW := Below.refl w.heap.size w
    go_enter Try.func10, Try.ntmps10
    go_wp2_with fail
    refine (drawScrollView_any _ n zs _ (h'.to (by (repeat (first | exact Below.refl _ _ | assumption | refine Below.drew ?_ | refine up_drewN ?_ _ | refine up_alloc ?_ _ | refine up_set ?_ _ _ (by first | exact Nat.le_refl _ | (simp; done) | (simp; omega) | omega) | refine up_trans ?_ (by assumption)))))).mono ?_
    rintro e w1 ⟨t, k, rows, d, rfl, hb⟩
    have hB : Below w.heap.size w w1 := (by (repeat (first | exact Below.refl _ _ | assumption | refine Below.drew ?_ | refine up_drewN ?_ _ | refine up_alloc ?_ _ | refine up_set ?_ _ _ (by first | exact Nat.le_refl _ | (simp; done) | (simp; omega) | omega) | refine up_trans ?_ (by assumption)))); have sw1 := hB.size; replace hW := up_trans hW hB; clear hB
    clear hb h'
    by_cases hok : vvB t k rows = true ∧ -120 ≤ d ∧ d ≤ 120
    · obtain ⟨hv, hr0, hr1⟩ := hok
      have hv0 := vvB_out hv
      obtain ⟨T, e1, e2, t6, tc⟩ := scrollT_facts hv hr0 hr1
      have E1 := Lib.hid e1
      have E2 := Lib.hid e2
      have TC := Lib.hid tc
      clear e1 e2 tc
      go_wp2_with fail
      refine (implScrollView_any _ _ _ _ _).mono ?_
      rintro e w2 ⟨rfl, hb⟩
      rw [E1.out, E2.out]
      have hB : Below w1.heap.size w1 w2 := (by (repeat (first | exact Below.refl _ _ | assumption | refine Below.drew ?_ | refine up_drewN ?_ _ | refine up_alloc ?_ _ | refine up_set ?_ _ _ (by first | exact Nat.le_refl _ | (simp; done) | (simp; omega) | omega) | refine up_trans ?_ (by assumption)))); have sw2 := hB.size; replace hW := up_trans hW hB; clear hB
      have vc : ∀ o, w2.cell? ⟨w1.heap.size, o, none⟩ = #[.int .i64 t, .int .i64 k][o]? := (fun o => (hb.cell (p := ⟨w1.heap.size, o, none⟩) (by simp <;> omega)).trans (by simp [go_sem])); have vf : ∀ o, w2.frozen? ⟨w1.heap.size, o, none⟩ = false := (fun o => (hb.frozen (p := ⟨w1.heap.size, o, none⟩) (by simp <;> omega)).trans (by simp [go_sem])); have vz : w1.heap.size < w2.heap.size := (by have := hb.size; (try simp at this); omega); have vy := vz
      clear hb
      go_wp2_with fail
      have hne := UpW.nonempty (w2.alloc (.cells #[.int .i64 T, .int .i64 k] 25))
      refine wp_region_up_lit (by kernel_rfl) (by kernel_rfl) ?_
      repeat (go_big_quiet_step ((go_at_call 18; have hh := specScrollView_any t k rows d; rw [E1.out, E2.out] at hh; exact calls_up (hh _))))
      refine wpQuiet_nil ?_
      intro w3 hb
      replace hb := UpW.out hb
      have hB : Below w2.heap.size w2 w3 := (by (repeat (first | exact Below.refl _ _ | assumption | refine Below.drew ?_ | refine up_drewN ?_ _ | refine up_alloc ?_ _ | refine up_set ?_ _ _ (by first | exact Nat.le_refl _ | (simp; done) | (simp; omega) | omega) | refine up_trans ?_ (by assumption)))); replace vc := up_c hB vz vc; replace vf := up_f hB vz vf; replace vz := Nat.lt_of_lt_of_le vz hB.size; have sw3 := hB.size; replace hW := up_trans hW hB; clear hB
      have xc : ∀ o, w3.cell? ⟨w2.heap.size, o, none⟩ = #[.int .i64 T, .int .i64 k][o]? := (fun o => (hb.cell (p := ⟨w2.heap.size, o, none⟩) (by simp <;> omega)).trans (by simp [go_sem])); have xf : ∀ o, w3.frozen? ⟨w2.heap.size, o, none⟩ = false := (fun o => (hb.frozen (p := ⟨w2.heap.size, o, none⟩) (by simp <;> omega)).trans (by simp [go_sem])); have xz : w2.heap.size < w3.heap.size := (by have := hb.size; (try simp at this); omega); have xy := xz
      clear hb hne
      go_wp2_with fail
      refine (specViewValid_any _ _ _ _).mono ?_
      rintro e w4 ⟨rfl, hb⟩
      have hB : Below w3.heap.size w3 w4 := (by (repeat (first | exact Below.refl _ _ | assumption | refine Below.drew ?_ | refine up_drewN ?_ _ | refine up_alloc ?_ _ | refine up_set ?_ _ _ (by first | exact Nat.le_refl _ | (simp; done) | (simp; omega) | omega) | refine up_trans ?_ (by assumption)))); replace vc := up_c hB vz vc; replace vf := up_f hB vz vf; replace vz := Nat.lt_of_lt_of_le vz hB.size; replace xc := up_c hB xz xc; replace xf := up_f hB xz xf; replace xz := Nat.lt_of_lt_of_le xz hB.size; have sw4 := hB.size; replace hW := up_trans hW hB; clear hB
      clear hb
      have q1 : IntKind.i64.wrap (t + d) = t + d := IntWalk.i64_in _ (by omega)
      have q2 : IntKind.i64.wrap (rows - 1) = rows - 1 := IntWalk.i64_in _ (by omega)
      go_wp2_with fail
      refine (implViewValid_any _ _ _ _).mono ?_
      rintro e w5 ⟨rfl, hb⟩
      rw [t6]
      have hB : Below w4.heap.size w4 w5 := (by (repeat (first | exact Below.refl _ _ | assumption | refine Below.drew ?_ | refine up_drewN ?_ _ | refine up_alloc ?_ _ | refine up_set ?_ _ _ (by first | exact Nat.le_refl _ | (simp; done) | (simp; omega) | omega) | refine up_trans ?_ (by assumption)))); replace vc := up_c hB vz vc; replace vf := up_f hB vz vf; replace vz := Nat.lt_of_lt_of_le vz hB.size; replace xc := up_c hB xz xc; replace xf := up_f hB xz xf; replace xz := Nat.lt_of_lt_of_le xz hB.size; have sw5 := hB.size; replace hW := up_trans hW hB; clear hB
      clear hb
      rcases TC.out with hs | ⟨hs, hs1, hs2⟩ | ⟨hs, hs1, hs2, hs3⟩ | ⟨hs, hs1, hs2, hs3, hs4⟩
      all_goals clear TC
      all_goals go_wp2_with fail
      all_goals
        go_ret
        exact ⟨rfl, by (repeat (first | exact Below.refl _ _ | assumption | refine Below.drew ?_ | refine up_drewN ?_ _ | refine up_alloc ?_ _ | refine up_set ?_ _ _ (by first | exact Nat.le_refl _ | (simp; done) | (simp; omega) | omega) | refine up_trans ?_ (by assumption)))⟩
    · have hno : vvB t k rows = false ∨ d < -120 ∨ 120 < d := by
        rcases hv : vvB t k rows with _ | _
        · exact .inl rfl
        · rw [hv] at hok; simp only [true_and] at hok; omega
      have hz0 := scrollT_not hno
      have E1 := Lib.hid hz0.1
      have E2 := Lib.hid hz0.2
      clear hz0 hok
      go_wp2_with fail
      refine (implScrollView_any _ _ _ _ _).mono ?_
      rintro e w2 ⟨rfl, hb⟩
      rw [E1.out, E2.out]
      have hB : Below w1.heap.size w1 w2 := (by (repeat (first | exact Below.refl _ _ | assumption | refine Below.drew ?_ | refine up_drewN ?_ _ | refine up_alloc ?_ _ | refine up_set ?_ _ _ (by first | exact Nat.le_refl _ | (simp; done) | (simp; omega) | omega) | refine up_trans ?_ (by assumption)))); have sw2 := hB.size; replace hW := up_trans hW hB; clear hB
      have vc : ∀ o, w2.cell? ⟨w1.heap.size, o, none⟩ = #[.int .i64 t, .int .i64 k][o]? := (fun o => (hb.cell (p := ⟨w1.heap.size, o, none⟩) (by simp <;> omega)).trans (by simp [go_sem])); have vf : ∀ o, w2.frozen? ⟨w1.heap.size, o, none⟩ = false := (fun o => (hb.frozen (p := ⟨w1.heap.size, o, none⟩) (by simp <;> omega)).trans (by simp [go_sem])); have vz : w1.heap.size < w2.heap.size := (by have := hb.size; (try simp at this); omega); have vy := vz
      clear hb
      go_wp2_with fail
      have hne := UpW.nonempty (w2.alloc (.cells #[.int .i64 0, .int .i64 0] 25))
      refine wp_region_up_lit (by kernel_rfl) (by kernel_rfl) ?_
      repeat (go_big_quiet_step ((go_at_call 18; have hh := specScrollView_any t k rows d; rw [E1.out, E2.out] at hh; exact calls_up (hh _))))
      refine wpQuiet_nil ?_
      intro w3 hb
      replace hb := UpW.out hb
      have hB : Below w2.heap.size w2 w3 := (by (repeat (first | exact Below.refl _ _ | assumption | refine Below.drew ?_ | refine up_drewN ?_ _ | refine up_alloc ?_ _ | refine up_set ?_ _ _ (by first | exact Nat.le_refl _ | (simp; done) | (simp; omega) | omega) | refine up_trans ?_ (by assumption)))); replace vc := up_c hB vz vc; replace vf := up_f hB vz vf; replace vz := Nat.lt_of_lt_of_le vz hB.size; have sw3 := hB.size; replace hW := up_trans hW hB; clear hB
      have xc : ∀ o, w3.cell? ⟨w2.heap.size, o, none⟩ = #[.int .i64 0, .int .i64 0][o]? := (fun o => (hb.cell (p := ⟨w2.heap.size, o, none⟩) (by simp <;> omega)).trans (by simp [go_sem])); have xf : ∀ o, w3.frozen? ⟨w2.heap.size, o, none⟩ = false := (fun o => (hb.frozen (p := ⟨w2.heap.size, o, none⟩) (by simp <;> omega)).trans (by simp [go_sem])); have xz : w2.heap.size < w3.heap.size := (by have := hb.size; (try simp at this); omega); have xy := xz
      clear hb hne
      go_wp2_with fail
      refine (specViewValid_any _ _ _ _).mono ?_
      rintro e w4 ⟨rfl, hb⟩
      have hB : Below w3.heap.size w3 w4 := (by (repeat (first | exact Below.refl _ _ | assumption | refine Below.drew ?_ | refine up_drewN ?_ _ | refine up_alloc ?_ _ | refine up_set ?_ _ _ (by first | exact Nat.le_refl _ | (simp; done) | (simp; omega) | omega) | refine up_trans ?_ (by assumption)))); replace vc := up_c hB vz vc; replace vf := up_f hB vz vf; replace vz := Nat.lt_of_lt_of_le vz hB.size; replace xc := up_c hB xz xc; replace xf := up_f hB xz xf; replace xz := Nat.lt_of_lt_of_le xz hB.size; have sw4 := hB.size; replace hW := up_trans hW hB; clear hB
      clear hb
      rcases hno with hno | hno | hno
      case' inr.inl =>
        rcases hv : vvB t k rows with _ | _
      case' inr.inr =>
        rcases hv : vvB t k rows with _ | _
      all_goals
        go_wp2_with (go_at_call 39; refine (alive_any _).mono ?_; rintro e w5 ⟨rfl, rfl⟩)
        all_goals
          go_ret
          exact ⟨rfl, by (repeat (first | exact Below.refl _ _ | assumption | refine Below.drew ?_ | refine up_drewN ?_ _ | refine up_alloc ?_ _ | refine up_set ?_ _ _ (by first | exact Nat.le_refl _ | (simp; done) | (simp; omega) | omega) | refine up_trans ?_ (by assumption)))⟩
  · go_enter Try.func10, Try.ntmps10
    go_wp2_with fail
    go_ret
    exact ⟨rfl, Below.refl _ _⟩

end Go.Proofs.Ytiimlnefighlgaa
