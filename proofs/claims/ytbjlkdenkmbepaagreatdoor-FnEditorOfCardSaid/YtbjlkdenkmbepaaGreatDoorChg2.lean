/- What is proved here: contracts of ChangeFits and ApplyChange in the reference. No condition. -/
import Derived.Test.YtbjlkdenkmbepaaGreatDoorChg1
namespace Go.Proofs.YtbjlkdenkmbepaaGreatDoor
open Go.RowKit

set_option maxRecDepth 100000 in
set_option maxHeartbeats 1000000 in
theorem changeFits_any (s : List UInt8) (a c : Int) (p : List UInt8) (w : World) (hs : tv s = true) (hp : p.length ≤ 1048576) :
    Calls Tryz.prog 141 #[S s, chV a c p] w fun e w' => e = .returned (.bool (chOk s a c p)) ∧ Below w.heap.size w w' := by
  have hl := tv_len hs
  have hs' : s.length ≤ maxLen := by unfold maxLen; omega
  have hp' : p.length ≤ maxLen := by unfold maxLen; omega
  have HT := Lib.hid hs
  clear hs
  unfold chV
  rcases h1 : inB a 0 s.length with _ | _
  · have H0 := Lib.hid (show chOk s a c p = false by unfold chOk chIn; rw [h1]; simp)
    have H1 := Lib.hid h1
    clear h1
    go_enter Tryz.func141, Tryz.ntmps141
    go_wp2_with fail
    refine (specTextValid_any _ _ hs').mono ?_
    rw [HT.out]
    rintro e w1 ⟨rfl, rfl⟩
    go_wp2_with fail
    refine (l1In_any _ _ _ _).mono ?_
    rw [H1.out]
    rintro e w1 ⟨rfl, rfl⟩
    go_wp2_with fail
    go_ret
    rw [H0.out]
    exact ⟨rfl, by (repeat (first | exact Below.refl _ _ | assumption | refine Below.drew ?_ | refine up_drewN ?_ _ | refine up_alloc ?_ _ | refine up_set ?_ _ _ (by first | exact Nat.le_refl _ | (simp; done) | (simp; omega) | omega) | refine up_trans ?_ (by assumption)))⟩
  · have H1 := Lib.hid h1
    rw [inB_iff] at h1
    have hsub : IntKind.i64.wrap ((s.length : Int) - a) = (s.length : Int) - a := by rw [IntKind.wrap_i64]; omega
    rcases h2 : inB c 0 (s.length - a) with _ | _
    · have H0 := Lib.hid (show chOk s a c p = false by unfold chOk chIn; rw [h2]; simp)
      have H2 := Lib.hid h2
      clear h2
      go_enter Tryz.func141, Tryz.ntmps141
      go_wp2_with fail
      refine (specTextValid_any _ _ hs').mono ?_
      rw [HT.out]
      rintro e w1 ⟨rfl, rfl⟩
      go_wp2_with fail
      refine (l1In_any _ _ _ _).mono ?_
      rw [H1.out]
      rintro e w1 ⟨rfl, rfl⟩
      go_wp2_with fail
      refine (l1In_any _ _ _ _).mono ?_
      rw [H2.out]
      rintro e w1 ⟨rfl, rfl⟩
      go_wp2_with fail
      go_ret
      rw [H0.out]
      exact ⟨rfl, by (repeat (first | exact Below.refl _ _ | assumption | refine Below.drew ?_ | refine up_drewN ?_ _ | refine up_alloc ?_ _ | refine up_set ?_ _ _ (by first | exact Nat.le_refl _ | (simp; done) | (simp; omega) | omega) | refine up_trans ?_ (by assumption)))⟩
    · have H2 := Lib.hid h2
      have hci : chIn s a c = true := by unfold chIn; rw [H1.out, h2]; rfl
      obtain ⟨_, _, b1, b2⟩ := chIn_out hci
      rcases h3 : p.all okC with _ | _
      · have H0 := Lib.hid (show chOk s a c p = false by unfold chOk; rw [h3]; simp)
        have H3 := Lib.hid h3
        clear h3 h2 hci
        go_enter Tryz.func141, Tryz.ntmps141
        go_wp2_with fail
        refine (specTextValid_any _ _ hs').mono ?_
        rw [HT.out]
        rintro e w1 ⟨rfl, rfl⟩
        go_wp2_with fail
        refine (l1In_any _ _ _ _).mono ?_
        rw [H1.out]
        rintro e w1 ⟨rfl, rfl⟩
        go_wp2_with fail
        refine (l1In_any _ _ _ _).mono ?_
        rw [H2.out]
        rintro e w1 ⟨rfl, rfl⟩
        go_wp2_with fail
        refine (l1Plain_any _ _ hp').mono ?_
        rw [H3.out]
        rintro e w1 ⟨rfl, rfl⟩
        go_wp2_with fail
        go_ret
        rw [H0.out]
        exact ⟨rfl, by (repeat (first | exact Below.refl _ _ | assumption | refine Below.drew ?_ | refine up_drewN ?_ _ | refine up_alloc ?_ _ | refine up_set ?_ _ _ (by first | exact Nat.le_refl _ | (simp; done) | (simp; omega) | omega) | refine up_trans ?_ (by assumption)))⟩
      · have H0 := Lib.hid (show chOk s a c p = decide ((s.length : Int) - c + p.length ≤ 120) by unfold chOk; rw [HT.out, hci, h3]; rfl)
        have H3 := Lib.hid h3
        clear h3 h2 hci
        go_enter Tryz.func141, Tryz.ntmps141
        go_wp2_with fail
        refine (specTextValid_any _ _ hs').mono ?_
        rw [HT.out]
        rintro e w1 ⟨rfl, rfl⟩
        go_wp2_with fail
        refine (l1In_any _ _ _ _).mono ?_
        rw [H1.out]
        rintro e w1 ⟨rfl, rfl⟩
        go_wp2_with fail
        refine (l1In_any _ _ _ _).mono ?_
        rw [H2.out]
        rintro e w1 ⟨rfl, rfl⟩
        go_wp2_with fail
        refine (l1Plain_any _ _ hp').mono ?_
        rw [H3.out]
        rintro e w1 ⟨rfl, rfl⟩
        go_wp2_with fail
        go_ret
        rw [H0.out]
        exact ⟨rfl, by (repeat (first | exact Below.refl _ _ | assumption | refine Below.drew ?_ | refine up_drewN ?_ _ | refine up_alloc ?_ _ | refine up_set ?_ _ _ (by first | exact Nat.le_refl _ | (simp; done) | (simp; omega) | omega) | refine up_trans ?_ (by assumption)))⟩

set_option maxRecDepth 100000 in
set_option maxHeartbeats 1000000 in
theorem specApplyChange_any (s : List UInt8) (a c : Int) (p : List UInt8) (w : World) (hs : s.length ≤ maxLen) (hp : p.length ≤ 1048576) :
    Calls Tryz.prog 105 #[S s, chV a c p] w (AcPost s a c p w) := by
  rcases ht : tv s with _ | _
  · have H0 := Lib.hid (show chOk s a c p = false by unfold chOk; rw [ht]; rfl)
    have H1 := Lib.hid (show apTo s a c p = [] by unfold apTo; rw [H0.out, ht]; rfl)
    have HT := Lib.hid ht
    clear ht
    unfold chV
    go_enter Tryz.func105, Tryz.ntmps105
    go_wp2_with fail
    refine (specTextValid_any _ _ hs).mono ?_
    rw [HT.out]
    rintro e w1 ⟨rfl, rfl⟩
    go_wp2_with fail
    go_ret2
    rw [AcPost, H0.out, H1.out]
    exact ⟨rfl, by (repeat (first | exact Below.refl _ _ | assumption | refine Below.drew ?_ | refine up_drewN ?_ _ | refine up_alloc ?_ _ | refine up_set ?_ _ _ (by first | exact Nat.le_refl _ | (simp; done) | (simp; omega) | omega) | refine up_trans ?_ (by assumption)))⟩
  · have hl := tv_len ht
    have HT := Lib.hid ht
    have HA := Lib.hid (fun w => changeFits_any s a c p w ht hp)
    have H1 := Lib.hid (show apTo s a c p = if chOk s a c p then chTo s a c p else s by unfold apTo; rw [ht]; rfl)
    clear ht
    unfold chV at HA ⊢
    rcases hk : chOk s a c p with _ | _
    · rw [hk] at H1
      have HK := Lib.hid hk
      clear hk
      go_enter Tryz.func105, Tryz.ntmps105
      go_wp2_with fail
      refine (specTextValid_any _ _ hs).mono ?_
      rw [HT.out]
      rintro e w1 ⟨rfl, rfl⟩
      go_wp2_with fail
      refine (HA.out _).mono ?_
      rw [HK.out]
      rintro e w2 ⟨rfl, hb⟩
      have hW : Below w.heap.size w w2 := by (repeat (first | exact Below.refl _ _ | assumption | refine Below.drew ?_ | refine up_drewN ?_ _ | refine up_alloc ?_ _ | refine up_set ?_ _ _ (by first | exact Nat.le_refl _ | (simp; done) | (simp; omega) | omega) | refine up_trans ?_ (by assumption)))
      clear hb
      go_wp2_with fail
      go_ret2
      rw [AcPost, HK.out, H1.out]
      exact ⟨rfl, hW⟩
    · rw [hk] at H1
      have hci : chIn s a c = true := by unfold chOk at hk; simp only [Bool.and_eq_true] at hk; exact hk.1.1.2
      obtain ⟨b0, b4, b1, b2⟩ := chIn_out hci
      have hwr : IntKind.i64.wrap (a + c) = a + c := by rw [IntKind.wrap_i64]; omega
      have b3 : 0 ≤ a + c := by omega
      have l1 : (s.take a.toNat).length ≤ 120 := by rw [List.length_take]; omega
      have l2 : (s.take a.toNat ++ p).length ≤ 2000000 := by rw [List.length_append]; omega
      have HK := Lib.hid hk
      clear hk hci
      go_enter Tryz.func105, Tryz.ntmps105
      go_wp2_with fail
      refine (specTextValid_any _ _ hs).mono ?_
      rw [HT.out]
      rintro e w1 ⟨rfl, rfl⟩
      go_wp2_with fail
      refine (HA.out _).mono ?_
      rw [HK.out]
      rintro e w2 ⟨rfl, hb⟩
      have hW : Below w.heap.size w w2 := by (repeat (first | exact Below.refl _ _ | assumption | refine Below.drew ?_ | refine up_drewN ?_ _ | refine up_alloc ?_ _ | refine up_set ?_ _ _ (by first | exact Nat.le_refl _ | (simp; done) | (simp; omega) | omega) | refine up_trans ?_ (by assumption)))
      have xc0 := (hb.cell (p := ⟨w.heap.size, 0, none⟩) (by simp)).trans (show _ = some (Value.int .i64 a) by simp [go_sem])
      have xc1 := (hb.cell (p := ⟨w.heap.size, 1, none⟩) (by simp)).trans (show _ = some (Value.int .i64 c) by simp [go_sem])
      have xc2 := (hb.cell (p := ⟨w.heap.size, 2, none⟩) (by simp)).trans (show _ = some (S p) by simp [go_sem])
      clear hb
      go_wp2_with fail
      go_quiet (fail)
      go_wp2_with fail
      go_ret2
      rw [AcPost, HK.out, H1.out]
      exact ⟨rfl, by (repeat (first | exact Below.refl _ _ | assumption | refine Below.drew ?_ | refine up_drewN ?_ _ | refine up_alloc ?_ _ | refine up_set ?_ _ _ (by first | exact Nat.le_refl _ | (simp; done) | (simp; omega) | omega) | refine up_trans ?_ (by assumption)))⟩

end Go.Proofs.YtbjlkdenkmbepaaGreatDoor
