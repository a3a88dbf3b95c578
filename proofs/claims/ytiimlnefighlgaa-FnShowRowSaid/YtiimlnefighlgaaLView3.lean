/- What is proved here: the walks of the laws FnShowRow and FnScrollView. No condition. -/
import Derived.Test.YtiimlnefighlgaaLView1
import Derived.Test.YtiimlnefighlgaaDraw3
import Derived.Test.YtiimlnefighlgaaReg
namespace Go.Proofs.Ytiimlnefighlgaa
open Go.RowKit

theorem showT_facts {t k rows r : Int} (hv : vvB t k rows = true) (h0 : 0 ≤ r) (h1 : r < rows) :
    ∃ T : Int, showT t k rows r = T ∧ showH t k rows r = k ∧ T ≤ r ∧ r < T + k ∧ 0 ≤ T ∧ T < rows ∧ (t ≤ r → r < t + k → T = t) ∧ vvB T k rows = true ∧ showT T k rows r = T ∧ showH T k rows r = k := by
  have hb := vvB_out hv
  have hr : inB r 0 (rows - 1) = true := inB_iff.2 ⟨h0, by omega⟩
  have e1 : showT t k rows r = min r (max t (r - k + 1)) := by unfold showT; rw [hv, hr]; rfl
  have e2 : showH t k rows r = k := by unfold showH; rw [hv, hr]; rfl
  refine ⟨min r (max t (r - k + 1)), e1, e2, by omega, by omega, by omega, by omega, by omega, ?_, ?_, ?_⟩
  all_goals
    have hv2 : vvB (min r (max t (r - k + 1))) k rows = true := by
      unfold vvB
      rw [IntWalk.wrap64_in _ (by omega), inB_iff.2 ⟨hb.1, hb.2.1⟩, inB_iff.2 ⟨hb.2.2.1, hb.2.2.2.1⟩, inB_iff.2 ⟨by omega, by omega⟩]
      rfl
  · exact hv2
  · unfold showT; rw [hv2, hr]; simp only [Bool.and_self, if_true]; omega
  · unfold showH; rw [hv2, hr]; rfl

theorem showT_not {t k rows r : Int} (h : vvB t k rows = false ∨ r < 0 ∨ rows ≤ r) : showT t k rows r = 0 ∧ showH t k rows r = 0 := by
  have : (vvB t k rows && inB r 0 (rows - 1)) = false := by
    rcases h with h | h
    · rw [h]; rfl
    · rw [Bool.and_eq_false_iff]; right
      rw [Bool.eq_false_iff]; intro e; rw [inB_iff] at e; omega
  unfold showT showH
  rw [this]
  exact ⟨rfl, rfl⟩

set_option maxHeartbeats 2000000 in
theorem showRow_walk (v : Value) (n : Nat) (zs : List Int) (w : World) (h : Bytes w w.heap.size v n zs) :
    Calls Try.prog 11 #[v] w fun e w' => e = .returned (.bool true) ∧ Below w.heap.size w w' := by
  have h' := h
  obtain ⟨h1, h2, A, c, rfl, h3, h4, h5⟩ := h
  clear h5 h2 h1 h4
  by_cases hn : n ≤ 1048576
  · have hW := Below.refl w.heap.size w
    go_enter Try.func11, Try.ntmps11
    go_wp2_with fail
    refine (drawShowRow_any _ n zs _ (h'.to (by (repeat (first | exact Below.refl _ _ | assumption | refine Below.drew ?_ | refine up_drewN ?_ _ | refine up_alloc ?_ _ | refine up_set ?_ _ _ (by first | exact Nat.le_refl _ | (simp; done) | (simp; omega) | omega) | refine up_trans ?_ (by assumption)))))).mono ?_
    rintro e w1 ⟨t, k, rows, r, rfl, hb⟩
    have hB : Below w.heap.size w w1 := (by (repeat (first | exact Below.refl _ _ | assumption | refine Below.drew ?_ | refine up_drewN ?_ _ | refine up_alloc ?_ _ | refine up_set ?_ _ _ (by first | exact Nat.le_refl _ | (simp; done) | (simp; omega) | omega) | refine up_trans ?_ (by assumption)))); have sw1 := hB.size; replace hW := up_trans hW hB; clear hB
    clear hb h'
    by_cases hok : vvB t k rows = true ∧ 0 ≤ r ∧ r < rows
    · obtain ⟨hv, hr0, hr1⟩ := hok
      have hv0 := vvB_out hv
      obtain ⟨T, e1, e2, t1, t2, t3, t4, t5, t6, t7, t8⟩ := showT_facts hv hr0 hr1
      have E1 := Lib.hid e1
      have E2 := Lib.hid e2
      have T5 := Lib.hid t5
      clear e1 e2 t5
      go_wp2_with fail
      refine (implShowRow_any _ _ _ _ _).mono ?_
      rintro e w2 ⟨rfl, hb⟩
      rw [E1.out, E2.out]
      have hB : Below w1.heap.size w1 w2 := (by (repeat (first | exact Below.refl _ _ | assumption | refine Below.drew ?_ | refine up_drewN ?_ _ | refine up_alloc ?_ _ | refine up_set ?_ _ _ (by first | exact Nat.le_refl _ | (simp; done) | (simp; omega) | omega) | refine up_trans ?_ (by assumption)))); have sw2 := hB.size; replace hW := up_trans hW hB; clear hB
      have vc : ∀ o, w2.cell? ⟨w1.heap.size, o, none⟩ = #[.int .i64 t, .int .i64 k][o]? := (fun o => (hb.cell (p := ⟨w1.heap.size, o, none⟩) (by simp <;> omega)).trans (by simp [go_sem])); have vf : ∀ o, w2.frozen? ⟨w1.heap.size, o, none⟩ = false := (fun o => (hb.frozen (p := ⟨w1.heap.size, o, none⟩) (by simp <;> omega)).trans (by simp [go_sem])); have vz : w1.heap.size < w2.heap.size := (by have := hb.size; (try simp at this); omega); have vy := vz
      clear hb
      go_wp2_with fail
      have hne := UpW.nonempty (w2.alloc (.cells #[.int .i64 T, .int .i64 k] 25))
      refine wp_region_up_lit (by kernel_rfl) (by kernel_rfl) ?_
      repeat (quiet_step ((go_at_call 21; have hh := specShowRow_any t k rows r; rw [E1.out, E2.out] at hh; exact calls_up (hh _))))
      refine wpQuiet_nil ?_
      intro w3 hb
      replace hb := UpW.out hb
      have hB : Below w2.heap.size w2 w3 := (by (repeat (first | exact Below.refl _ _ | assumption | refine Below.drew ?_ | refine up_drewN ?_ _ | refine up_alloc ?_ _ | refine up_set ?_ _ _ (by first | exact Nat.le_refl _ | (simp; done) | (simp; omega) | omega) | refine up_trans ?_ (by assumption)))); replace vc := up_c hB vz vc; replace vf := up_f hB vz vf; replace vz := Nat.lt_of_lt_of_le vz hB.size; have sw3 := hB.size; replace hW := up_trans hW hB; clear hB
      have xc : ∀ o, w3.cell? ⟨w2.heap.size, o, none⟩ = #[.int .i64 T, .int .i64 k][o]? := (fun o => (hb.cell (p := ⟨w2.heap.size, o, none⟩) (by simp <;> omega)).trans (by simp [go_sem])); have xf : ∀ o, w3.frozen? ⟨w2.heap.size, o, none⟩ = false := (fun o => (hb.frozen (p := ⟨w2.heap.size, o, none⟩) (by simp <;> omega)).trans (by simp [go_sem])); have xz : w2.heap.size < w3.heap.size := (by have := hb.size; (try simp at this); omega); have xy := xz
      clear hb hne
      go_wp2_with fail
      refine (specViewValid_any _ _ _ _).mono ?_
      rintro e w4 ⟨rfl, hb⟩
      have hB : Below w3.heap.size w3 w4 := (by (repeat (first | exact Below.refl _ _ | assumption | refine Below.drew ?_ | refine up_drewN ?_ _ | refine up_alloc ?_ _ | refine up_set ?_ _ _ (by first | exact Nat.le_refl _ | (simp; done) | (simp; omega) | omega) | refine up_trans ?_ (by assumption)))); replace vc := up_c hB vz vc; replace vf := up_f hB vz vf; replace vz := Nat.lt_of_lt_of_le vz hB.size; replace xc := up_c hB xz xc; replace xf := up_f hB xz xf; replace xz := Nat.lt_of_lt_of_le xz hB.size; have sw4 := hB.size; replace hW := up_trans hW hB; clear hB
      clear hb
      have hne := UpW.nonempty w4
      have C1 := Lib.hid (fun x : UpW w4 => calls_up (implViewValid_any T k rows (x.at w4)))
      have C2 := Lib.hid (fun x : UpW w4 => calls_up (implShowRow_any T k rows r (x.at w4)))
      rw [t6, t7, t8] at *
      rcases (show r < t ∨ t + k ≤ r ∨ (t ≤ r ∧ r < t + k) by omega) with hs | hs | ⟨hs, hs'⟩
      case' inr.inr =>
        obtain rfl : t = T := (T5.out hs hs').symm
      all_goals
        go_wp2_with fail
        try have q4 : decide (r < t + k) = false := decide_eq_false (by omega)
        first
          | (have q1 : IntKind.i64.wrap (T + k) = T + k := IntWalk.i64_in _ (by omega); have q2 : decide (r < T + k) = true := decide_eq_true (by omega); have q3 : decide (T ≤ r) = true := decide_eq_true (by omega))
          | (have q1 : IntKind.i64.wrap (t + k) = t + k := IntWalk.i64_in _ (by omega); have q2 : decide (r < t + k) = true := decide_eq_true (by omega); have q3 : decide (t ≤ r) = true := decide_eq_true (by omega))
        refine wp_region_up_lit (by kernel_rfl) (by kernel_rfl) ?_
        repeat (quiet_step ((first | (go_at_call 17; exact C1.out _) | (go_at_call 22; exact C2.out _))))
        refine wpQuiet_nil ?_
        intro w5 hb
        replace hb := UpW.out hb
        go_wp2_with fail
        go_ret
        exact ⟨rfl, by (repeat (first | exact Below.refl _ _ | assumption | refine Below.drew ?_ | refine up_drewN ?_ _ | refine up_alloc ?_ _ | refine up_set ?_ _ _ (by first | exact Nat.le_refl _ | (simp; done) | (simp; omega) | omega) | refine up_trans ?_ (by assumption)))⟩
    · have hno : vvB t k rows = false ∨ r < 0 ∨ rows ≤ r := by
        rcases hv : vvB t k rows with _ | _
        · exact .inl rfl
        · rw [hv] at hok; simp only [true_and] at hok; omega
      have hz0 := showT_not hno
      have E1 := Lib.hid hz0.1
      have E2 := Lib.hid hz0.2
      clear hz0 hok
      go_wp2_with fail
      refine (implShowRow_any _ _ _ _ _).mono ?_
      rintro e w2 ⟨rfl, hb⟩
      rw [E1.out, E2.out]
      have hB : Below w1.heap.size w1 w2 := (by (repeat (first | exact Below.refl _ _ | assumption | refine Below.drew ?_ | refine up_drewN ?_ _ | refine up_alloc ?_ _ | refine up_set ?_ _ _ (by first | exact Nat.le_refl _ | (simp; done) | (simp; omega) | omega) | refine up_trans ?_ (by assumption)))); have sw2 := hB.size; replace hW := up_trans hW hB; clear hB
      have vc : ∀ o, w2.cell? ⟨w1.heap.size, o, none⟩ = #[.int .i64 t, .int .i64 k][o]? := (fun o => (hb.cell (p := ⟨w1.heap.size, o, none⟩) (by simp <;> omega)).trans (by simp [go_sem])); have vf : ∀ o, w2.frozen? ⟨w1.heap.size, o, none⟩ = false := (fun o => (hb.frozen (p := ⟨w1.heap.size, o, none⟩) (by simp <;> omega)).trans (by simp [go_sem])); have vz : w1.heap.size < w2.heap.size := (by have := hb.size; (try simp at this); omega); have vy := vz
      clear hb
      go_wp2_with fail
      have hne := UpW.nonempty (w2.alloc (.cells #[.int .i64 0, .int .i64 0] 25))
      refine wp_region_up_lit (by kernel_rfl) (by kernel_rfl) ?_
      repeat (quiet_step ((go_at_call 21; have hh := specShowRow_any t k rows r; rw [E1.out, E2.out] at hh; exact calls_up (hh _))))
      refine wpQuiet_nil ?_
      intro w3 hb
      replace hb := UpW.out hb
      have hB : Below w2.heap.size w2 w3 := (by (repeat (first | exact Below.refl _ _ | assumption | refine Below.drew ?_ | refine up_drewN ?_ _ | refine up_alloc ?_ _ | refine up_set ?_ _ _ (by first | exact Nat.le_refl _ | (simp; done) | (simp; omega) | omega) | refine up_trans ?_ (by assumption)))); replace vc := up_c hB vz vc; replace vf := up_f hB vz vf; replace vz := Nat.lt_of_lt_of_le vz hB.size; have sw3 := hB.size; replace hW := up_trans hW hB; clear hB
      have xc : ∀ o, w3.cell? ⟨w2.heap.size, o, none⟩ = #[.int .i64 0, .int .i64 0][o]? := (fun o => (hb.cell (p := ⟨w2.heap.size, o, none⟩) (by simp <;> omega)).trans (by simp [go_sem])); have xf : ∀ o, w3.frozen? ⟨w2.heap.size, o, none⟩ = false := (fun o => (hb.frozen (p := ⟨w2.heap.size, o, none⟩) (by simp <;> omega)).trans (by simp [go_sem])); have xz : w2.heap.size < w3.heap.size := (by have := hb.size; (try simp at this); omega); have xy := xz
      clear hb hne
      go_wp2_with fail
      refine (specViewValid_any _ _ _ _).mono ?_
      rintro e w4 ⟨rfl, hb⟩
      have hB : Below w3.heap.size w3 w4 := (by (repeat (first | exact Below.refl _ _ | assumption | refine Below.drew ?_ | refine up_drewN ?_ _ | refine up_alloc ?_ _ | refine up_set ?_ _ _ (by first | exact Nat.le_refl _ | (simp; done) | (simp; omega) | omega) | refine up_trans ?_ (by assumption)))); replace vc := up_c hB vz vc; replace vf := up_f hB vz vf; replace vz := Nat.lt_of_lt_of_le vz hB.size; replace xc := up_c hB xz xc; replace xf := up_f hB xz xf; replace xz := Nat.lt_of_lt_of_le xz hB.size; have sw4 := hB.size; replace hW := up_trans hW hB; clear hB
      clear hb
      rcases hno with hno | hno | hno
      case' inr.inl =>
        rcases hv : vvB t k rows with _ | _
      case' inr.inr =>
        rcases hv : vvB t k rows with _ | _
      all_goals
        go_wp2_with (go_at_call 39; refine (alive_any _).mono ?_; rintro e w5 ⟨rfl, rfl⟩)
        all_goals
          go_ret
          exact ⟨rfl, by (repeat (first | exact Below.refl _ _ | assumption | refine Below.drew ?_ | refine up_drewN ?_ _ | refine up_alloc ?_ _ | refine up_set ?_ _ _ (by first | exact Nat.le_refl _ | (simp; done) | (simp; omega) | omega) | refine up_trans ?_ (by assumption)))⟩
  · go_enter Try.func11, Try.ntmps11
    go_wp2_with fail
    go_ret
    exact ⟨rfl, Below.refl _ _⟩

end Go.Proofs.Ytiimlnefighlgaa
