/- What is proved here: the contract of the reference's OpenBuffer. No condition. -/
import Derived.Test.YtlejfmngpbcdhaaOpen1
namespace Go.Proofs.Ytlejfmngpbcdhaa
open Go.RowKit

theorem own_empty (w : World) (B : Nat) (hB : B ≤ w.heap.size) : Own (w.alloc (.cells #[] 37)) B 37 3 (.slice (some ⟨w.heap.size, 0, none⟩) 0 0) 0 [] :=
  World.ownsRow_lit (base := B) (e := 37) (size := 3) w #[] 0 hB (Nat.zero_le _) rfl

set_option maxRecDepth 100000 in
set_option maxHeartbeats 1000000 in
theorem specOpenBuffer_any (v : Value) (bs : List Bf) (nm s : List UInt8) (w : World) (h : RdB w v bs) (hnm : nm.length ≤ maxLen) (hs : s.length ≤ maxLen) :
    Calls Try.prog 79 #[v, .string ⟨nm.toArray⟩, .string ⟨s.toArray⟩] w (OpPost bs nm s w) := by
  have hW := Below.refl w.heap.size w
  obtain ⟨A, c, rfl, _, _⟩ := h.1.form
  obtain ⟨i0, hi, hz0, hz1, hz2⟩ := info_parts buf_info
  have e0 : obOk bs nm s = (bvB bs && tv s && decide (bfAt bs nm < 0) && nv nm && decide (bs.length ≠ 8)) := rfl
  rcases hv : bvB bs with _ | _
  · have H0 := Lib.hid (show obOk bs nm s = false by rw [e0, hv]; rfl)
    have H1 := Lib.hid (show (bvB bs && tv s) = false by rw [hv]; rfl)
    clear e0
    go_enter Try.func79, Try.ntmps79
    go_wp2_with fail
    refine (specBuffersValid_any _ bs _ h).mono ?_
    rintro e w1 ⟨rfl, hb⟩
    go_wp2_with fail
    go_ret2
    exact op_fail H0.out H1.out (own_empty _ _ hb.size) (up_alloc hb _)
  · rcases ht : tv s with _ | _
    · have H0 := Lib.hid (show obOk bs nm s = false by rw [e0, hv, ht]; rfl)
      have H1 := Lib.hid (show (bvB bs && tv s) = false by rw [hv, ht]; rfl)
      clear e0
      go_enter Try.func79, Try.ntmps79
      go_wp2_with fail
      refine (specBuffersValid_any _ bs _ h).mono ?_
      rintro e w1 ⟨rfl, hb⟩
      go_wp2_with fail
      refine (specTextValid_any _ _ hs).mono ?_
      rintro e w2 ⟨rfl, rfl⟩
      go_wp2_with fail
      go_ret2
      exact op_fail H0.out H1.out (own_empty _ _ hb.size) (up_alloc hb _)
    · have hl := bvB_len hv
      have H1 := Lib.hid (show (bvB bs && tv s) = true by rw [hv, ht]; rfl)
      rw [hv, ht] at e0
      simp only [Bool.true_and] at e0
      have E0 := Lib.hid e0
      clear e0
      go_enter Try.func79, Try.ntmps79
      go_wp2_with fail
      refine (specBuffersValid_any _ bs _ h).mono ?_
      rintro e w1 ⟨rfl, hb⟩
      have hB : Below w.heap.size w w1 := (by (repeat (first | exact Below.refl _ _ | assumption | refine Below.drew ?_ | refine up_drewN ?_ _ | refine up_alloc ?_ _ | refine up_set ?_ _ _ (by first | exact Nat.le_refl _ | (simp; done) | (simp; omega) | omega) | refine up_trans ?_ (by assumption)))); have sw1 := hB.size; replace hW := up_trans hW hB; clear hB
      replace h := h.up hb
      clear hb
      go_wp2_with fail
      refine (specTextValid_any _ _ hs).mono ?_
      rintro e w2 ⟨rfl, rfl⟩
      have hsz1 := h.1
      go_wp2_with (at_builtin; refine wpList_append_any _ rfl _ _ 32 rfl w1.heap.size 37 i0 _ 3 48 Try.underlying32 hi hz0 hz1 hz2 rfl (by decide) _ _ _ rfl (own_empty w1 w1.heap.size (Nat.le_refl _)) _ bs.length _ rfl (Rd.alloc hsz1 _) (bf_oneCell bs) (by unfold maxLen; omega) (by omega) (by simp) ?_; intro v2 w2 ho hgr2)
      have hb2 : Below w1.heap.size w1 w2 := up_grown (up_alloc (Below.refl _ _) _) (show World.grownBy _ w2 (some w1.heap.size) from hgr2) (fun k hk => by injection hk; omega)
      replace h := h.up hb2
      replace hW := up_trans hW hb2
      have ssw2 := hb2.size
      simp only [Nat.zero_add, List.nil_append] at ho
      clear hgr2 hb2 hsz1
      have hge := bfAt_ge bs nm
      rcases hnv : nv nm with _ | _
      · have H0 := Lib.hid (show obOk bs nm s = false by rw [E0.out, hnv, Bool.and_false]; rfl)
        have Ho := Lib.hid ho
        clear ho
        go_wp2_with fail
        refine (l24Name_any _ _ hnm).mono ?_
        rintro e w4 ⟨rfl, rfl⟩
        go_wp2_with fail
        go_ret2
        exact op_same H0.out H1.out (own_base Ho.out (by omega)) hW
      · by_cases hf : 0 ≤ bfAt bs nm
        · have H0 := Lib.hid (show obOk bs nm s = false by rw [E0.out, decide_eq_false (by omega)]; rfl)
          have Ho := Lib.hid ho
          clear ho
          go_wp2_with fail
          refine (l24Name_any _ _ hnm).mono ?_
          rintro e w4 ⟨rfl, rfl⟩
          go_wp2_with fail
          refine (l24Find_any _ bs _ _ h).mono ?_
          rintro e w4 ⟨rfl, rfl⟩
          go_wp2_with fail
          go_ret2
          exact op_same H0.out H1.out (own_base Ho.out (by omega)) hW
        · have hf' : bfAt bs nm < 0 := by omega
          by_cases h8 : bs.length = 8
          · have H0 := Lib.hid (show obOk bs nm s = false by rw [E0.out, decide_eq_false (show ¬ bs.length ≠ 8 by omega), Bool.and_false])
            have h8' : ((bs.length : Int) == 8) = true := by simp; omega
            have Ho := Lib.hid ho
            clear ho h8
            go_wp2_with fail
            refine (l24Name_any _ _ hnm).mono ?_
            rintro e w4 ⟨rfl, rfl⟩
            go_wp2_with fail
            refine (l24Find_any _ bs _ _ h).mono ?_
            rintro e w4 ⟨rfl, rfl⟩
            go_wp2_with fail
            go_ret2
            exact op_same H0.out H1.out (own_base Ho.out (by omega)) hW
          · have H0 := Lib.hid (show obOk bs nm s = true by rw [E0.out, decide_eq_true hf', hnv, decide_eq_true (show bs.length ≠ 8 from h8)]; rfl)
            have h8' : ((bs.length : Int) == 8) = false := by simp; omega
            clear h8
            have Ho := Lib.hid ho
            go_wp2_with fail
            refine (l24Name_any _ _ hnm).mono ?_
            rintro e w4 ⟨rfl, rfl⟩
            go_wp2_with fail
            refine (l24Find_any _ bs _ _ h).mono ?_
            rintro e w4 ⟨rfl, rfl⟩
            go_wp2_with (at_builtin; refine wpList_append_own _ rfl _ _ 32 rfl w1.heap.size 37 i0 _ 3 48 Try.underlying32 hi hz0 hz1 hz2 rfl (by decide) _ _ _ rfl (ho.alloc _) ⟨w2.heap.size, 0, none⟩ 1 1 [S nm, S s, S s] rfl rfl (cells_new _ _ _) (by intro u hu; simp at hu; rcases hu with rfl | rfl | rfl <;> rfl) (by unfold maxLen; omega) (by omega) (by simp; omega) ?_; intro v5 w5 how5 hgr5 _)
            go_ret2
            exact op_done H0.out (own_base how5 (by omega)) (up_grown (up_alloc hW _) hgr5 (own_lt Ho.out (by omega)))

end Go.Proofs.Ytlejfmngpbcdhaa
