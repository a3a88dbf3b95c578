/- What is proved here: contracts of ShownRows in the program and in the reference. No condition. -/
import Derived.Test.YtcjgllbhmghkeaaDoorView2
import Derived.Test.YtcjgllbhmghkeaaDoorInts
namespace Go.Proofs.YtcjgllbhmghkeaaDoor
open Go.RowKit

theorem int_info : (Tryd.prog.info? 3).map (fun i => (i.zero, i.size, i.bytes)) = some (some (.int .i64 0), 1, 8) := by kernel_rfl

/-- how many rows are shown. -/
def shownN (t k rows : Int) : Nat := if vvB t k rows then (min rows (t + k) - t).toNat else 0
theorem shownN_le (t k rows : Int) : shownN t k rows ≤ 30 := by
  unfold shownN
  split
  · have := vvB_out ‹_›; omega
  · omega

theorem up_grown_c {w w1 : World} {row : Option Nat} {b : Nat} {A : Array Value} (hg : w.grownBy w1 row) (hb : b < w.heap.size) (hne : ∀ g, row = some g → b ≠ g) (hc : ∀ o, w.cell? ⟨b, o, none⟩ = A[o]?) : ∀ o, w1.cell? ⟨b, o, none⟩ = A[o]? :=
  fun o => (World.cell?_of_block (a := ⟨b, o, none⟩) (hg.block b hb (fun e => hne b e.symm rfl))).trans (hc o)

def ShownPost (t k rows : Int) (w : World) (e : Ending) (w' : World) : Prop :=
  ∃ v, e = .returned v ∧ Own w' w.heap.size 3 1 v (shownN t k rows) (upInts t (shownN t k rows)) ∧ Below w.heap.size w w'

set_option maxRecDepth 100000 in
set_option maxHeartbeats 400000 in
theorem implShownRows_any (t k rows : Int) (w : World) :
    Calls Tryd.prog 28 #[.agg #[.int .i64 t, .int .i64 k], .int .i64 rows] w (ShownPost t k rows w) := by
  obtain ⟨i0, hi, hz0, hz1, hz2⟩ := info_parts int_info
  have hW := Below.refl w.heap.size w
  rcases hv : vvB t k rows with _ | _
  · have hN : shownN t k rows = 0 := by simp [shownN, hv]
    have HN := Lib.hid hN
    clear hN
    go_enter Tryd.func28, Tryd.ntmps28
    go_wp2_with fail
    refine (implViewValid_any _ _ _ _).mono ?_
    rintro e w1 ⟨rfl, hb⟩
    have hB : Below w.heap.size w w1 := (by (repeat (first | exact Below.refl _ _ | assumption | refine Below.drew ?_ | refine up_drewN ?_ _ | refine up_alloc ?_ _ | refine up_set ?_ _ _ (by first | exact Nat.le_refl _ | (simp; done) | (simp; omega) | omega) | refine up_trans ?_ (by assumption)))); have sw1 := hB.size; replace hW := up_trans hW hB; clear hB
    go_wp2_with fail
    go_ret
    exact ⟨_, rfl, by rw [HN.out]; exact World.ownsRow_nil _ _ _ _, hW⟩
  · have hN : shownN t k rows = (min rows (t + k) - t).toNat := by simp [shownN, hv]
    have HN := Lib.hid hN
    clear hN
    have hv0 := vvB_out hv
    go_enter Tryd.func28, Tryd.ntmps28
    go_wp2_with fail
    refine (implViewValid_any _ _ _ _).mono ?_
    rintro e w1 ⟨rfl, hb⟩
    have hB : Below w.heap.size w w1 := (by (repeat (first | exact Below.refl _ _ | assumption | refine Below.drew ?_ | refine up_drewN ?_ _ | refine up_alloc ?_ _ | refine up_set ?_ _ _ (by first | exact Nat.le_refl _ | (simp; done) | (simp; omega) | omega) | refine up_trans ?_ (by assumption)))); have sw1 := hB.size; replace hW := up_trans hW hB; clear hB
    have xc : ∀ o, w1.cell? ⟨w.heap.size, o, none⟩ = #[.int .i64 t, .int .i64 k][o]? := (fun o => (hb.cell (p := ⟨w.heap.size, o, none⟩) (by simp <;> omega)).trans (by simp [go_sem])); have xf : ∀ o, w1.frozen? ⟨w.heap.size, o, none⟩ = false := (fun o => (hb.frozen (p := ⟨w.heap.size, o, none⟩) (by simp <;> omega)).trans (by simp [go_sem])); have xz : w.heap.size < w1.heap.size := (by have := hb.size; (try simp at this); omega); have xy := xz
    clear hb
    go_wp2_with fail
    go_loopw [5, 6] (fun v i wr => ∃ j : Nat, j ≤ shownN t k rows ∧ i = .int .i64 (t + j) ∧ Own wr (w.heap.size + 1) 3 1 v j (upInts t j) ∧ Below w.heap.size w wr ∧ (∀ o, wr.cell? ⟨w.heap.size, o, none⟩ = #[.int .i64 t, .int .i64 k][o]?) ∧ w.heap.size < wr.heap.size)
      (fun _ i _ => (121 - intOf i).toNat)
    case atStart => exact ⟨0, Nat.zero_le _, by simp, by simpa [upInts] using World.ownsRow_nil _ _ _ _, hW, xc, xz⟩
    case round =>
      obtain ⟨j, hj, rfl, how, hbw, xc', xz'⟩ := hrel
      clear xc xz
      have c0 := xc' 0
      have c1 := xc' 1
      simp at c0 c1
      have XC := Lib.hid xc'
      clear xc'
      by_cases hlt : j < shownN t k rows
      · have hlt' : t + j < rows ∧ t + j < t + k := by have := HN.out; omega
        rcases Int.lt_or_le rows (t + k) with hm | hm
        all_goals
          have How := Lib.hid how
          go_wp2_with (at_builtin; refine wpList_append_own _ rfl _ _ 44 rfl (w.heap.size + 1) 3 i0 (.int .i64 0) 1 8 Tryd.underlying44 hi hz0 hz1 hz2 rfl (by decide) _ _ _ rfl (how.alloc _) ⟨wr.heap.size, 0, none⟩ 1 1 [.int .i64 (t + j)] rfl rfl (cells_new _ _ _) (by intro u hu; simp at hu; rcases hu with rfl | hu <;> first | rfl | (simp_all [Value.oneCell'])) (by unfold maxLen; omega) (by omega) (by simp; omega) ?_; intro v1 w1 how1 hgr1 _)
          go_roundw
          case rel => exact ⟨j + 1, by omega, by go_num, by rw [upInts_succ]; exact how1, up_grown (up_alloc hbw _) hgr1 (own_lt How.out (by omega)),
            up_grown_c hgr1 (by simp; omega) (fun g hg e => by have := own_lt How.out (Nat.le_refl _) g hg; omega) (up_c (up_alloc (Below.refl _ _) _) xz' XC.out), by have := hgr1.size; simp at this; omega⟩
          case measure => simp [intOf]; omega
      · have hlt' : ¬ (t + j < rows ∧ t + j < t + k) := by have := HN.out; omega
        obtain rfl : j = shownN t k rows := by omega
        have How := Lib.hid how
        have Hb := Lib.hid hbw
        clear how hbw
        rcases Int.lt_or_le rows (t + k) with hm | hm
        all_goals
          go_wp2_with fail
          go_ret
          exact ⟨_, rfl, own_base How.out (by omega), Hb.out⟩

set_option maxRecDepth 100000 in
set_option maxHeartbeats 400000 in
theorem specShownRows_any (t k rows : Int) (w : World) :
    Calls Tryd.prog 23 #[.agg #[.int .i64 t, .int .i64 k], .int .i64 rows] w (ShownPost t k rows w) := by
  obtain ⟨i0, hi, hz0, hz1, hz2⟩ := info_parts int_info
  have hN : shownN t k rows = if vvB t k rows then (min rows (t + k) - t).toNat else 0 := rfl
  have HN := Lib.hid hN
  clear hN
  have hL := shownN_le t k rows
  have hW := up_alloc (up_alloc (Below.refl w.heap.size w) (.cells #[.int .i64 t, .int .i64 k] 42)) (.cells #[] 3)
  go_enter Tryd.func23, Tryd.ntmps23
  go_wp2_with fail
  go_loopw [5, 6] (fun v i wr => ∃ j : Nat, j ≤ shownN t k rows ∧ i = .int .i64 (t + j) ∧ Own wr (w.heap.size + 1) 3 1 v j (upInts t j) ∧ Below w.heap.size w wr ∧ (∀ o, wr.cell? ⟨w.heap.size, o, none⟩ = #[.int .i64 t, .int .i64 k][o]?) ∧ w.heap.size < wr.heap.size)
    (fun _ i _ => (t + shownN t k rows - intOf i).toNat)
  case atStart =>
    refine ⟨0, Nat.zero_le _, by simp, ?_, hW, ?_, ?_⟩
    · have := World.ownsRow_lit (base := w.heap.size + 1) (e := 3) (size := 1) (w.alloc (.cells #[.int .i64 t, .int .i64 k] 42)) #[] 0 (by simp) (Nat.zero_le _) rfl
      simpa [upInts] using this
    · intro o; simp [go_sem]
    · simp; omega
  case round =>
    obtain ⟨j, hj, rfl, how, hbw, xc, xz⟩ := hrel
    have hW := hbw
    go_wp2_with fail
    refine (specViewValid_any _ _ _ _).mono ?_
    rintro e w2 ⟨rfl, hb⟩
    have hB : Below wr.heap.size wr w2 := (by (repeat (first | exact Below.refl _ _ | assumption | refine Below.drew ?_ | refine up_drewN ?_ _ | refine up_alloc ?_ _ | refine up_set ?_ _ _ (by first | exact Nat.le_refl _ | (simp; done) | (simp; omega) | omega) | refine up_trans ?_ (by assumption))))
    replace xc := up_c hB xz xc
    replace xz := Nat.lt_of_lt_of_le xz hB.size
    replace how := own_up how hB
    replace hbw := up_trans hbw hB
    clear hb hB hW
    have c0 := xc 0
    have c1 := xc 1
    simp at c0 c1
    have XC := Lib.hid xc
    have Hb := Lib.hid hbw
    clear xc hbw
    have hNN := HN.out
    rcases hv : vvB t k rows with _ | _
    · rw [hv] at hNN
      simp only [Bool.false_eq_true, if_false] at hNN
      obtain rfl : j = 0 := by omega
      have How := Lib.hid how
      clear how
      have HN0 := Lib.hid hNN
      clear hNN
      go_wp2_with fail
      go_ret
      exact ⟨_, rfl, by rw [HN0.out]; exact own_base How.out (by omega), Hb.out⟩
    · have hv0 := vvB_out hv
      rw [hv] at hNN
      simp only [if_true] at hNN
      rcases Int.lt_or_le (t + k) rows with hm | hm
      all_goals
        by_cases hlt : j < shownN t k rows
        · have hlt' : t + j < rows ∧ t + j < t + k := by omega
          have How := Lib.hid how
          have HN0 := Lib.hid hNN
          clear hNN
          go_wp2_with (at_builtin; refine wpList_append_own _ rfl _ _ 44 rfl (w.heap.size + 1) 3 i0 (.int .i64 0) 1 8 Tryd.underlying44 hi hz0 hz1 hz2 rfl (by decide) _ _ _ rfl (how.alloc _) ⟨w2.heap.size, 0, none⟩ 1 1 [.int .i64 (t + j)] rfl rfl (cells_new _ _ _) (by intro u hu; simp at hu; rcases hu with rfl | hu <;> first | rfl | (simp_all [Value.oneCell'])) (by unfold maxLen; omega) (by omega) (by simp; omega) ?_; intro v1 w1 how1 hgr1 _)
          go_roundw
          case rel => exact ⟨j + 1, by omega, by go_num, by rw [upInts_succ]; exact how1, up_grown (up_alloc Hb.out _) hgr1 (own_lt How.out (by omega)),
            up_grown_c hgr1 (by simp; omega) (fun g hg e => by have := own_lt How.out (Nat.le_refl _) g hg; omega) (up_c (up_alloc (Below.refl _ _) _) xz XC.out), by have := hgr1.size; simp at this; omega⟩
          case measure => simp [intOf]; omega
        · have hlt' : ¬ (t + j < rows ∧ t + j < t + k) := by omega
          obtain rfl : j = shownN t k rows := by omega
          first | (have h5 : rows ≤ t + (shownN t k rows : Int) := by omega) | (have h5 : t + k ≤ t + (shownN t k rows : Int) := by omega)
          clear hlt'
          have How := Lib.hid how
          have HN0 := Lib.hid hNN
          clear how hNN
          go_wp2_with fail
          go_ret
          exact ⟨_, rfl, own_base How.out (by omega), Hb.out⟩


end Go.Proofs.YtcjgllbhmghkeaaDoor
