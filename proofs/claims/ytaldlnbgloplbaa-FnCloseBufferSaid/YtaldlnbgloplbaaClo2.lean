/- What is proved here: the contract of the reference's CloseBuffer. No condition. -/
import Derived.Test.YtaldlnbgloplbaaClo2a
import Derived.BigQuiet
namespace Go.Proofs.Ytaldlnbgloplbaa
open Go.RowKit

set_option maxRecDepth 100000 in
set_option maxHeartbeats 1000000 in
theorem specCloseBuffer_any (v : Value) (bs : List Bf) (nm : List UInt8) (w : World) (h : RdB w v bs) :
    Calls Try.prog 21 #[v, .string ⟨nm.toArray⟩] w (DoPost (clOk bs nm) (clOut bs nm) w) := by
  have hW := Below.refl w.heap.size w
  obtain ⟨A, c, rfl, _, _⟩ := h.1.form
  obtain ⟨i0, hi, hz0, hz1, hz2⟩ := info_parts buf_info
  rcases hv : bvB bs with _ | _
  · have H0 := Lib.hid (show clOk bs nm = false by unfold clOk; rw [hv]; rfl)
    have H1 := Lib.hid (show clOut bs nm = [] by unfold clOut clOk; rw [hv]; rfl)
    rw [H0.out, H1.out]
    go_enter Try.func21, Try.ntmps21
    go_wp2_with fail
    refine (specBuffersValid_any _ bs _ h).mono ?_
    rintro e w1 ⟨rfl, hb⟩
    go_wp2_with fail
    go_ret2
    exact ⟨_, rfl, own_empty _ _ hb.size, up_alloc hb _⟩
  · have hl := bvB_len hv
    go_enter Try.func21, Try.ntmps21
    go_wp2_with fail
    refine (specBuffersValid_any _ bs _ h).mono ?_
    rintro e w1 ⟨rfl, hb⟩
    have hB : Below w.heap.size w w1 := (by (repeat (first | exact Below.refl _ _ | assumption | refine Below.drew ?_ | refine up_drewN ?_ _ | refine up_alloc ?_ _ | refine up_set ?_ _ _ (by first | exact Nat.le_refl _ | (simp; done) | (simp; omega) | omega) | refine up_trans ?_ (by assumption)))); have sw1 := hB.size; replace hW := up_trans hW hB; clear hB
    replace h := h.up hb
    clear hb
    have hsz1 := h.1
    go_wp2_with (at_builtin; refine wpList_append_any _ rfl _ _ 23 rfl w1.heap.size 28 i0 _ 3 48 Try.underlying23 hi hz0 hz1 hz2 rfl (by decide) _ _ _ rfl (own_empty w1 w1.heap.size (Nat.le_refl _)) _ bs.length _ rfl (Rd.alloc hsz1 _) (bf_oneCell bs) (by unfold maxLen; omega) (by omega) (by simp) ?_; intro v2 w2 ho hgr2)
    have hb2 : Below w1.heap.size w1 w2 := up_grown (up_alloc (Below.refl _ _) _) (show World.grownBy _ w2 (some w1.heap.size) from hgr2) (fun k hk => by injection hk; omega)
    replace h := h.up hb2
    replace hW := up_trans hW hb2
    have ssw2 := hb2.size
    simp only [Nat.zero_add, List.nil_append] at ho
    clear hgr2 hb2 hsz1
    by_cases hf : 0 ≤ bfAt bs nm
    · obtain ⟨k, hk, hk1⟩ := bfAt_nat hf
      have H0 := Lib.hid (show clOk bs nm = (bs[k].body == bs[k].saved) by unfold clOk; rw [hv, decide_eq_true hf, clSame_at hk hk1]; rfl)
      obtain ⟨g, cap, cur, rfl, hbg, hh, hnc, hcm, hcs, htake⟩ : ∃ g cap cur, v2 = .slice (some ⟨g, 0, none⟩) bs.length cap ∧ _ := by
        rcases ho.2 with ⟨_, h0⟩ | ⟨g, cap, cur, hx, rest⟩
        · omega
        · exact ⟨g, cap, cur, hx, rest⟩
      clear hh hcs htake
      have i1 : (0 : Int) ≤ (k : Int) := by omega
      have i2 : (k : Int) < (bs.length : Int) := by omega
      have i3 : decide ((k : Int) < 0) = false := decide_eq_false (by omega)
      have gr : w.heap.size ≤ g := by omega
      have Ho := Lib.hid ho
      clear ho hf
      obtain ⟨b, o, rfl, hb, _, c1, c2⟩ := h.cells hk
      rcases hs : (bs[k].body == bs[k].saved) with _ | _
      · rw [hs] at H0
        have H1 := Lib.hid (show clOut bs nm = bs by unfold clOut; rw [H0.out, hv]; rfl)
        go_wp2_with fail
        refine (l24Find_any _ bs _ _ h).mono ?_
        rintro e w4 ⟨rfl, rfl⟩
        rw [hk1]
        go_wp2_with fail
        go_quiet (fail)
        go_wp2_with fail
        go_ret2
        rw [H0.out, H1.out]
        exact ⟨_, rfl, own_base Ho.out (by omega), by (repeat (first | exact Below.refl _ _ | assumption | refine Below.drew ?_ | refine up_drewN ?_ _ | refine up_alloc ?_ _ | refine up_set ?_ _ _ (by first | exact Nat.le_refl _ | (simp; done) | (simp; omega) | omega) | refine up_trans ?_ (by assumption)))⟩
      · rw [hs] at H0
        have H1 := Lib.hid (show clOut bs nm = outK bs k by unfold clOut; rw [H0.out, hk1]; rfl)
        go_wp2_with fail
        refine (l24Find_any _ bs _ _ h).mono ?_
        rintro e w4 ⟨rfl, rfl⟩
        rw [hk1]
        go_wp2_with fail
        go_quiet (fail)
        go_wp2_with fail
        have hW2 : Below w.heap.size w (w2.drewN nq) := by (repeat (first | exact Below.refl _ _ | assumption | refine Below.drew ?_ | refine up_drewN ?_ _ | refine up_alloc ?_ _ | refine up_set ?_ _ _ (by first | exact Nat.le_refl _ | (simp; done) | (simp; omega) | omega) | refine up_trans ?_ (by assumption)))
        have ho2 := own_up Ho.out (show Below w2.heap.size w2 (w2.drewN nq) by (repeat (first | exact Below.refl _ _ | assumption | refine Below.drew ?_ | refine up_drewN ?_ _ | refine up_alloc ?_ _ | refine up_set ?_ _ _ (by first | exact Nat.le_refl _ | (simp; done) | (simp; omega) | omega) | refine up_trans ?_ (by assumption))))
        obtain ⟨news, A, W1, hA, hsrc, s1, s2, s3, hW1, ho3, hgr⟩ := cut_facts w1.heap.size bs k (k + 1) g cap _ rfl hk hnc ho2
        have HW2 := Lib.hid hW2
        clear ho2 Ho h c1 c2 hb hW hW2
        have hic : k ≤ cap := by omega
        have hi1 : k + 1 ≤ cap := by omega
        have hwr : IntKind.i64.wrap ((k : Int) + 1) = (k : Int) + 1 := by rw [IntKind.wrap_i64]; omega
        have hp0 : (0 : Int) ≤ (k : Int) + 1 := by omega
        have hp1 : (k : Int) + 1 ≤ (bs.length : Int) := by omega
        have hp2 : ((k : Int) + 1).toNat = k + 1 := by omega
        go_region_law (refine step_append_room rfl (.tmp 36) (.tmp 40) 23 rfl 28 i0 3 Try.underlying23 hi hz1 g 0 k cap (by simp [Act.eval, Act.put]) A (bs.length - (k + 1)) (cap - (k + 1)) news (by simp [Act.eval, Act.put]) s1.out hsrc.out s2.out (by omega) s3.out ?_; rw [← hW1.out])
        clear hwr hp2
        go_wp2_with fail
        go_ret2
        rw [H0.out, H1.out]
        exact ⟨_, rfl, own_base ho3.out (by omega), up_grown HW2.out hgr.out (fun x hx => by injection hx; omega)⟩
    · have H0 := Lib.hid (show clOk bs nm = false by unfold clOk; rw [hv, decide_eq_false hf]; rfl)
      have H1 := Lib.hid (show clOut bs nm = bs by unfold clOut; rw [H0.out, hv]; rfl)
      have i3 : decide (bfAt bs nm < 0) = true := decide_eq_true (by omega)
      have Ho := Lib.hid ho
      clear ho
      go_wp2_with fail
      refine (l24Find_any _ bs _ _ h).mono ?_
      rintro e w4 ⟨rfl, rfl⟩
      go_wp2_with fail
      go_quiet (fail)
      go_wp2_with fail
      go_ret2
      rw [H0.out, H1.out]
      exact ⟨_, rfl, own_base Ho.out (by omega), by (repeat (first | exact Below.refl _ _ | assumption | refine Below.drew ?_ | refine up_drewN ?_ _ | refine up_alloc ?_ _ | refine up_set ?_ _ _ (by first | exact Nat.le_refl _ | (simp; done) | (simp; omega) | omega) | refine up_trans ?_ (by assumption)))⟩

end Go.Proofs.Ytaldlnbgloplbaa
