/- What is proved here: the contract of the reference's SaveBuffer. No condition. -/
import Derived.Test.YtaldlnbgloplbaaSav1
namespace Go.Proofs.Ytaldlnbgloplbaa
open Go.RowKit

set_option maxRecDepth 100000 in
set_option maxHeartbeats 1000000 in
theorem specSaveBuffer_any (v : Value) (bs : List Bf) (nm : List UInt8) (w : World) (h : RdB w v bs) :
    Calls Try.prog 28 #[v, .string ⟨nm.toArray⟩] w (DoPost (svOk bs nm) (svOut bs nm) w) := by
  have hW := Below.refl w.heap.size w
  obtain ⟨A, c, rfl, _, _⟩ := h.1.form
  obtain ⟨i0, hi, hz0, hz1, hz2⟩ := info_parts buf_info
  rcases hv : bvB bs with _ | _
  · have H0 := Lib.hid (show svOk bs nm = false by unfold svOk; rw [hv]; rfl)
    have H1 := Lib.hid (show svOut bs nm = [] by unfold svOut; rw [hv]; rfl)
    rw [H0.out, H1.out]
    go_enter Try.func28, Try.ntmps28
    go_wp2_with fail
    refine (specBuffersValid_any _ bs _ h).mono ?_
    rintro e w1 ⟨rfl, hb⟩
    go_wp2_with fail
    go_ret2
    exact ⟨_, rfl, own_empty _ _ hb.size, up_alloc hb _⟩
  · have hl := bvB_len hv
    go_enter Try.func28, Try.ntmps28
    go_wp2_with fail
    refine (specBuffersValid_any _ bs _ h).mono ?_
    rintro e w1 ⟨rfl, hb⟩
    have hB : Below w.heap.size w w1 := (by (repeat (first | exact Below.refl _ _ | assumption | refine Below.drew ?_ | refine up_drewN ?_ _ | refine up_alloc ?_ _ | refine up_set ?_ _ _ (by first | exact Nat.le_refl _ | (simp; done) | (simp; omega) | omega) | refine up_trans ?_ (by assumption)))); have sw1 := hB.size; replace hW := up_trans hW hB; clear hB
    replace h := h.up hb
    clear hb
    have hsz1 := h.1
    go_wp2_with (at_builtin; refine wpList_append_any _ rfl _ _ 23 rfl w1.heap.size 28 i0 _ 3 48 Try.underlying23 hi hz0 hz1 hz2 rfl (by decide) _ _ _ rfl (own_empty w1 w1.heap.size (Nat.le_refl _)) _ bs.length _ rfl (Rd.alloc hsz1 _) (bf_oneCell bs) (by unfold maxLen; omega) (by omega) (by simp) ?_; intro v2 w2 ho hgr2)
    have hb2 : Below w1.heap.size w1 w2 := up_grown (up_alloc (Below.refl _ _) _) (show World.grownBy _ w2 (some w1.heap.size) from hgr2) (fun k hk => by injection hk; omega)
    replace h := h.up hb2
    replace hW := up_trans hW hb2
    have ssw2 := hb2.size
    simp only [Nat.zero_add, List.nil_append] at ho
    clear hgr2 hb2 hsz1
    by_cases hf : 0 ≤ bfAt bs nm
    · obtain ⟨k, hk, hk1⟩ := bfAt_nat hf
      have H0 := Lib.hid (show svOk bs nm = true by unfold svOk; rw [hv, decide_eq_true hf]; rfl)
      have H1 := Lib.hid (show svOut bs nm = svOne bs k by unfold svOut; rw [hv, if_pos rfl, if_pos hf, hk1, Int.toNat_natCast])
      have HO := Lib.hid (svOne_at bs k hk)
      obtain ⟨g, cap, cur, rfl, hbg, hh, hnc, hcm, hcs, htake⟩ : ∃ g cap cur, v2 = .slice (some ⟨g, 0, none⟩) bs.length cap ∧ _ := by
        rcases ho.2 with ⟨_, h0⟩ | ⟨g, cap, cur, hx, rest⟩
        · omega
        · exact ⟨g, cap, cur, hx, rest⟩
      clear hh hcs htake
      have i1 : (0 : Int) ≤ (k : Int) := by omega
      have i2 : (k : Int) < (bs.length : Int) := by omega
      have gr : w.heap.size ≤ g := by omega
      have Ho := Lib.hid ho
      clear ho hf
      go_wp2_with fail
      refine (l24Find_any _ bs _ _ h).mono ?_
      rintro e w4 ⟨rfl, rfl⟩
      rw [hk1]
      obtain ⟨b, o, rfl, hb, _, c1, _⟩ := h.cells hk
      have ho := Ho.out
      obtain ⟨u2, c2⟩ := own_some ho (show k * 3 + 2 < bs.length * 3 by omega)
      have f2 := ho.frozenAt (k * 3 + 2)
      have st := Lib.hid (ho.stored (k * 3 + 2) (S bs[k].body)).1
      clear ho Ho
      go_wp2_with fail
      go_ret2
      rw [H0.out, H1.out]
      refine ⟨_, rfl, ?_, up_set hW _ _ gr⟩
      have := st.out
      rw [flat_set2 bs k hk, ← HO.out] at this
      rw [show (svOne bs k).length = bs.length by rw [HO.out]; simp]
      exact own_base this (by omega)
    · have H0 := Lib.hid (show svOk bs nm = false by unfold svOk; rw [hv, decide_eq_false hf]; rfl)
      have H1 := Lib.hid (show svOut bs nm = bs by unfold svOut; rw [hv, if_pos rfl, if_neg hf])
      have Ho := Lib.hid ho
      clear ho
      go_wp2_with fail
      refine (l24Find_any _ bs _ _ h).mono ?_
      rintro e w4 ⟨rfl, rfl⟩
      go_wp2_with fail
      go_ret2
      rw [H0.out, H1.out]
      exact ⟨_, rfl, own_base Ho.out (by omega), hW⟩

end Go.Proofs.Ytaldlnbgloplbaa
