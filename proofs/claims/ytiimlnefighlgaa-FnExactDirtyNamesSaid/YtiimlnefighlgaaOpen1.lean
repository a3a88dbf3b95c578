/- What is proved here: the contracts of OpenBuffer in the program and in the reference. No condition. -/
import Derived.Test.YtiimlnefighlgaaApp
namespace Go.Proofs.Ytiimlnefighlgaa
open Go.RowKit

def obOk (bs : List Bf) (nm s : List UInt8) : Bool := bvB bs && tv s && decide (bfAt bs nm < 0) && nv nm && decide (bs.length ≠ 8)
def obOut (bs : List Bf) (nm s : List UInt8) : List Bf := if obOk bs nm s then bs ++ [⟨nm, s, s⟩] else if bvB bs && tv s then bs else []
def OpPost (bs : List Bf) (nm s : List UInt8) (w : World) (e : Ending) (w' : World) : Prop :=
  ∃ v, e = .returned (.tuple #[v, .bool (obOk bs nm s)]) ∧ Own w' w.heap.size 70 3 v (obOut bs nm s).length ((obOut bs nm s).flatMap bfC) ∧ Below w.heap.size w w'
theorem bvB_len {bs : List Bf} (h : bvB bs = true) : bs.length ≤ 8 := by simp [bvB] at h; exact h.2

theorem op_fail {bs : List Bf} {nm s : List UInt8} {v : Value} {w w' : World} (h0 : obOk bs nm s = false) (h1 : (bvB bs && tv s) = false) (h2 : Own w' w.heap.size 70 3 v 0 []) (h3 : Below w.heap.size w w') :
    OpPost bs nm s w (.returned (.tuple #[v, .bool false])) w' := by
  have : obOut bs nm s = [] := by unfold obOut; rw [h0, h1]; rfl
  exact ⟨v, by rw [h0], by rw [this]; exact h2, h3⟩
theorem op_same {bs : List Bf} {nm s : List UInt8} {v : Value} {w w' : World} (h0 : obOk bs nm s = false) (h1 : (bvB bs && tv s) = true) (h2 : Own w' w.heap.size 70 3 v bs.length (bs.flatMap bfC)) (h3 : Below w.heap.size w w') :
    OpPost bs nm s w (.returned (.tuple #[v, .bool false])) w' := by
  have : obOut bs nm s = bs := by unfold obOut; rw [h0, h1]; rfl
  exact ⟨v, by rw [h0], by rw [this]; exact h2, h3⟩
theorem op_done {bs : List Bf} {nm s : List UInt8} {v : Value} {w w' : World} (h0 : obOk bs nm s = true) (h2 : Own w' w.heap.size 70 3 v (bs.length + 1) (bs.flatMap bfC ++ [S nm, S s, S s])) (h3 : Below w.heap.size w w') :
    OpPost bs nm s w (.returned (.tuple #[v, .bool true])) w' := by
  have : obOut bs nm s = bs ++ [⟨nm, s, s⟩] := by unfold obOut; rw [h0]; rfl
  exact ⟨v, by rw [h0], by rw [this, List.length_append, List.flatMap_append]; exact h2, h3⟩

set_option maxRecDepth 100000 in
set_option maxHeartbeats 1000000 in
theorem implOpenBuffer_any (v : Value) (bs : List Bf) (nm s : List UInt8) (w : World) (h : RdB w v bs) (hnm : nm.length ≤ maxLen) (hs : s.length ≤ maxLen) :
    Calls Try.prog 45 #[v, .string ⟨nm.toArray⟩, .string ⟨s.toArray⟩] w (OpPost bs nm s w) := by
  have hW := Below.refl w.heap.size w
  obtain ⟨A, c, rfl, _, _⟩ := h.1.form
  obtain ⟨i0, hi, hz0, hz1, hz2⟩ := info_parts buf_info
  have e0 : obOk bs nm s = (bvB bs && tv s && decide (bfAt bs nm < 0) && nv nm && decide (bs.length ≠ 8)) := rfl
  rcases hv : bvB bs with _ | _
  · have H0 := Lib.hid (show obOk bs nm s = false by rw [e0, hv]; rfl)
    have H1 := Lib.hid (show (bvB bs && tv s) = false by rw [hv]; rfl)
    clear e0
    go_enter Try.func45, Try.ntmps45
    go_wp2_with fail
    refine (implBuffersValid_any _ bs _ h).mono ?_
    rintro e w1 ⟨rfl, hb⟩
    go_wp2_with fail
    go_ret2
    exact op_fail H0.out H1.out (World.ownsRow_nil _ _ _ _) hb
  · rcases ht : tv s with _ | _
    · have H0 := Lib.hid (show obOk bs nm s = false by rw [e0, hv, ht]; rfl)
      have H1 := Lib.hid (show (bvB bs && tv s) = false by rw [hv, ht]; rfl)
      clear e0
      go_enter Try.func45, Try.ntmps45
      go_wp2_with fail
      refine (implBuffersValid_any _ bs _ h).mono ?_
      rintro e w1 ⟨rfl, hb⟩
      go_wp2_with fail
      refine (implTextValid_any _ _ hs).mono ?_
      rintro e w2 ⟨rfl, rfl⟩
      go_wp2_with fail
      go_ret2
      exact op_fail H0.out H1.out (World.ownsRow_nil _ _ _ _) hb
    · have hl := bvB_len hv
      have H1 := Lib.hid (show (bvB bs && tv s) = true by rw [hv, ht]; rfl)
      rw [hv, ht] at e0
      simp only [Bool.true_and] at e0
      have E0 := Lib.hid e0
      clear e0
      go_enter Try.func45, Try.ntmps45
      go_wp2_with fail
      refine (implBuffersValid_any _ bs _ h).mono ?_
      rintro e w1 ⟨rfl, hb⟩
      have hB : Below w.heap.size w w1 := (by (repeat (first | exact Below.refl _ _ | assumption | refine Below.drew ?_ | refine up_drewN ?_ _ | refine up_alloc ?_ _ | refine up_set ?_ _ _ (by first | exact Nat.le_refl _ | (simp; done) | (simp; omega) | omega) | refine up_trans ?_ (by assumption)))); have sw1 := hB.size; replace hW := up_trans hW hB; clear hB
      replace h := h.up hb
      clear hb
      go_wp2_with fail
      refine (implTextValid_any _ _ hs).mono ?_
      rintro e w2 ⟨rfl, rfl⟩
      go_wp2_with fail
      refine (cloneBuffers_any _ bs _ h.1 (by omega)).mono ?_
      rintro e w2 ⟨v2, rfl, ho, hb⟩
      have hB : Below w1.heap.size w1 w2 := (by (repeat (first | exact Below.refl _ _ | assumption | refine Below.drew ?_ | refine up_drewN ?_ _ | refine up_alloc ?_ _ | refine up_set ?_ _ _ (by first | exact Nat.le_refl _ | (simp; done) | (simp; omega) | omega) | refine up_trans ?_ (by assumption)))); have sw2 := hB.size; replace hW := up_trans hW hB; clear hB
      replace h := h.up hb
      clear hb
      go_wp2_with fail
      refine (bufferAt_any _ bs _ _ h).mono ?_
      rintro e w3 ⟨rfl, hb⟩
      have hB : Below w2.heap.size w2 w3 := (by (repeat (first | exact Below.refl _ _ | assumption | refine Below.drew ?_ | refine up_drewN ?_ _ | refine up_alloc ?_ _ | refine up_set ?_ _ _ (by first | exact Nat.le_refl _ | (simp; done) | (simp; omega) | omega) | refine up_trans ?_ (by assumption)))); replace ho := own_up ho hB; have sw3 := hB.size; replace hW := up_trans hW hB; clear hB
      replace h := h.up hb
      clear hb
      have hge := bfAt_ge bs nm
      by_cases hf : 0 ≤ bfAt bs nm
      · have H0 := Lib.hid (show obOk bs nm s = false by rw [E0.out, decide_eq_false (by omega)]; rfl)
        have Ho := Lib.hid ho
        clear ho
        go_wp2_with fail
        go_ret2
        exact op_same H0.out H1.out (own_base Ho.out (by omega)) hW
      · have hf' : bfAt bs nm < 0 := by omega
        rcases hnv : nv nm with _ | _
        · have H0 := Lib.hid (show obOk bs nm s = false by rw [E0.out, hnv, Bool.and_false]; rfl)
          have Ho := Lib.hid ho
          clear ho
          go_wp2_with fail
          refine (nameValid_any _ _ hnm).mono ?_
          rintro e w4 ⟨rfl, rfl⟩
          go_wp2_with fail
          go_ret2
          exact op_same H0.out H1.out (own_base Ho.out (by omega)) hW
        · by_cases h8 : bs.length = 8
          · have H0 := Lib.hid (show obOk bs nm s = false by rw [E0.out, decide_eq_false (show ¬ bs.length ≠ 8 by omega), Bool.and_false])
            have h8' : ((bs.length : Int) == 8) = true := by simp; omega
            have Ho := Lib.hid ho
            clear ho h8
            go_wp2_with fail
            refine (nameValid_any _ _ hnm).mono ?_
            rintro e w4 ⟨rfl, rfl⟩
            go_wp2_with fail
            go_ret2
            exact op_same H0.out H1.out (own_base Ho.out (by omega)) hW
          · have H0 := Lib.hid (show obOk bs nm s = true by rw [E0.out, decide_eq_true hf', hnv, decide_eq_true (show bs.length ≠ 8 from h8)]; rfl)
            have h8' : ((bs.length : Int) == 8) = false := by simp; omega
            clear h8
            have Ho := Lib.hid ho
            go_wp2_with fail
            refine (nameValid_any _ _ hnm).mono ?_
            rintro e w4 ⟨rfl, rfl⟩
            go_wp2_with (at_builtin; refine wpList_append_own _ rfl _ _ 38 rfl w1.heap.size 70 i0 _ 3 48 Try.underlying38 hi hz0 hz1 hz2 rfl (by decide) _ _ _ rfl (ho.alloc _) ⟨w3.heap.size, 0, none⟩ 1 1 [S nm, S s, S s] rfl rfl (cells_new _ _ _) (by intro u hu; simp at hu; rcases hu with rfl | rfl | rfl <;> rfl) (by unfold maxLen; omega) (by omega) (by simp; omega) ?_; intro v5 w5 how5 hgr5 _)
            go_ret2
            exact op_done H0.out (own_base how5 (by omega)) (up_grown (up_alloc hW _) hgr5 (own_lt Ho.out (by omega)))

end Go.Proofs.Ytiimlnefighlgaa
