/- What is proved here: the contract of the program's CloseBuffer. No condition. -/
import Derived.Test.YtaldlnbgloplbaaClo1
import Derived.BigQuiet
namespace Go.Proofs.Ytaldlnbgloplbaa
open Go.RowKit

theorem close1_any (g o : Nat) (s t : List UInt8) (w : World) (c1 : w.cell? ⟨g, o + 1, none⟩ = some (S s)) (c2 : w.cell? ⟨g, o + 2, none⟩ = some (S t)) :
    Calls Try.prog 50 #[.pointer (some ⟨g, o, none⟩)] w fun e w' => e = .returned (.bool (s == t)) ∧ Below w.heap.size w w' := by
  go_enter Try.func50, Try.ntmps50
  go_wp2_with fail
  go_quiet (fail)
  go_wp2_with fail
  go_ret
  exact ⟨rfl, by (repeat (first | exact Below.refl _ _ | assumption | refine Below.drew ?_ | refine up_drewN ?_ _ | refine up_alloc ?_ _ | refine up_set ?_ _ _ (by first | exact Nat.le_refl _ | (simp; done) | (simp; omega) | omega) | refine up_trans ?_ (by assumption)))⟩

set_option maxRecDepth 100000 in
set_option maxHeartbeats 1000000 in
theorem withClose_any (v : Value) (bs : List Bf) (nm : List UInt8) (w : World) (h : RdB w v bs) :
    Calls Try.prog 49 #[v, .string ⟨nm.toArray⟩, .func (.func 50) #[] #[]] w (DoPost3 (clOk bs nm) (if bvB bs then bfAt bs nm else -1) (if bvB bs then bs else []) w) := by
  have hW := Below.refl w.heap.size w
  obtain ⟨A, c, rfl, _, _⟩ := h.1.form
  rcases hv : bvB bs with _ | _
  · have H0 := Lib.hid (show clOk bs nm = false by unfold clOk; rw [hv]; rfl)
    rw [H0.out, show (if (false : Bool) = true then bfAt bs nm else -1) = -1 from rfl, show (if (false : Bool) = true then bs else []) = [] from rfl]
    go_enter Try.func49, Try.ntmps49
    go_wp2_with fail
    refine (implBuffersValid_any _ bs _ h).mono ?_
    rintro e w1 ⟨rfl, hb⟩
    go_wp2_with fail
    go_ret3
    exact ⟨_, rfl, World.ownsRow_nil _ _ _ _, hb⟩
  · have hl := bvB_len hv
    rw [show (if (true : Bool) = true then bfAt bs nm else -1) = bfAt bs nm from rfl, show (if (true : Bool) = true then bs else []) = bs from rfl]
    go_enter Try.func49, Try.ntmps49
    go_wp2_with fail
    refine (implBuffersValid_any _ bs _ h).mono ?_
    rintro e w1 ⟨rfl, hb⟩
    have hB : Below w.heap.size w w1 := (by (repeat (first | exact Below.refl _ _ | assumption | refine Below.drew ?_ | refine up_drewN ?_ _ | refine up_alloc ?_ _ | refine up_set ?_ _ _ (by first | exact Nat.le_refl _ | (simp; done) | (simp; omega) | omega) | refine up_trans ?_ (by assumption)))); have sw1 := hB.size; replace hW := up_trans hW hB; clear hB
    clear hb
    go_wp2_with fail
    refine (cloneBuffers_any _ bs _ (h.up hW).1 (by omega)).mono ?_
    rintro e w2 ⟨v2, rfl, ho, hb⟩
    have hB : Below w1.heap.size w1 w2 := (by (repeat (first | exact Below.refl _ _ | assumption | refine Below.drew ?_ | refine up_drewN ?_ _ | refine up_alloc ?_ _ | refine up_set ?_ _ _ (by first | exact Nat.le_refl _ | (simp; done) | (simp; omega) | omega) | refine up_trans ?_ (by assumption)))); have sw2 := hB.size; replace hW := up_trans hW hB; clear hB
    clear hb
    go_wp2_with fail
    refine (bufferAt_any _ bs _ _ ⟨RdL.of_own ho, h.2⟩).mono ?_
    rintro e w3 ⟨rfl, hb⟩
    have hB : Below w2.heap.size w2 w3 := (by (repeat (first | exact Below.refl _ _ | assumption | refine Below.drew ?_ | refine up_drewN ?_ _ | refine up_alloc ?_ _ | refine up_set ?_ _ _ (by first | exact Nat.le_refl _ | (simp; done) | (simp; omega) | omega) | refine up_trans ?_ (by assumption)))); replace ho := own_up ho hB; have sw3 := hB.size; replace hW := up_trans hW hB; clear hB
    clear hb
    by_cases hf : 0 ≤ bfAt bs nm
    · obtain ⟨k, hk, hk1⟩ := bfAt_nat hf
      have H0 := Lib.hid (show clOk bs nm = (bs[k].body == bs[k].saved) by unfold clOk; rw [hv, decide_eq_true hf, clSame_at hk hk1]; rfl)
      rw [hk1]
      obtain ⟨g, cap, cur, rfl, hbg, hh, hnc, hcm, hcs, htake⟩ : ∃ g cap cur, v2 = .slice (some ⟨g, 0, none⟩) bs.length cap ∧ _ := by
        rcases ho.2 with ⟨_, h0⟩ | ⟨g, cap, cur, hx, rest⟩
        · omega
        · exact ⟨g, cap, cur, hx, rest⟩
      clear hh hcs htake
      have i1 : (0 : Int) ≤ (k : Int) := by omega
      have i2 : (k : Int) < (bs.length : Int) := by omega
      have c1 := (RdB.cells ⟨RdL.of_own ho, h.2⟩ hk)
      obtain ⟨b, o, hA, hb, _, c1, c2⟩ := c1
      injection hA with hA; injection hA with hA1 hA2; subst hA1 hA2
      rw [Nat.zero_add] at c1 c2
      have CC := Lib.hid (close1_any g (k * 3) bs[k].body bs[k].saved w3 c1 c2)
      have Ho := Lib.hid ho
      clear c1 c2 ho hf hb
      rcases hs : (bs[k].body == bs[k].saved) with _ | _
      · rw [hs] at H0
        go_wp2_with fail
        refine CC.out.mono ?_
        rw [hs]
        rintro e w4 ⟨rfl, hb⟩
        have hB : Below w3.heap.size w3 w4 := (by (repeat (first | exact Below.refl _ _ | assumption | refine Below.drew ?_ | refine up_drewN ?_ _ | refine up_alloc ?_ _ | refine up_set ?_ _ _ (by first | exact Nat.le_refl _ | (simp; done) | (simp; omega) | omega) | refine up_trans ?_ (by assumption)))); have sw4 := hB.size; replace hW := up_trans hW hB; clear hB
        clear hb Ho CC
        go_wp2_with fail
        refine (cloneBuffers_any _ bs _ (h.up hW).1 (by omega)).mono ?_
        rintro e w5 ⟨v5, rfl, ho, hb⟩
        have hB : Below w4.heap.size w4 w5 := (by (repeat (first | exact Below.refl _ _ | assumption | refine Below.drew ?_ | refine up_drewN ?_ _ | refine up_alloc ?_ _ | refine up_set ?_ _ _ (by first | exact Nat.le_refl _ | (simp; done) | (simp; omega) | omega) | refine up_trans ?_ (by assumption)))); have sw5 := hB.size; replace hW := up_trans hW hB; clear hB
        clear hb
        have Ho := Lib.hid ho
        clear ho
        go_wp2_with fail
        go_ret3
        rw [H0.out, hk1]
        exact ⟨_, rfl, own_base Ho.out (by omega), hW⟩
      · rw [hs] at H0
        go_wp2_with fail
        refine CC.out.mono ?_
        rw [hs]
        rintro e w4 ⟨rfl, hb⟩
        have ho := own_up Ho.out hb
        have hB : Below w3.heap.size w3 w4 := (by (repeat (first | exact Below.refl _ _ | assumption | refine Below.drew ?_ | refine up_drewN ?_ _ | refine up_alloc ?_ _ | refine up_set ?_ _ _ (by first | exact Nat.le_refl _ | (simp; done) | (simp; omega) | omega) | refine up_trans ?_ (by assumption)))); have sw4 := hB.size; replace hW := up_trans hW hB; clear hB
        clear hb Ho CC
        have Ho := Lib.hid ho
        clear ho
        go_wp2_with fail
        go_ret3
        rw [H0.out, hk1]
        exact ⟨_, rfl, own_base Ho.out (by omega), hW⟩
    · have H0 := Lib.hid (show clOk bs nm = false by unfold clOk; rw [hv, decide_eq_false hf]; rfl)
      clear ho
      go_wp2_with fail
      refine (cloneBuffers_any _ bs _ (h.up hW).1 (by omega)).mono ?_
      rintro e w4 ⟨v4, rfl, ho, hb⟩
      have hB : Below w3.heap.size w3 w4 := (by (repeat (first | exact Below.refl _ _ | assumption | refine Below.drew ?_ | refine up_drewN ?_ _ | refine up_alloc ?_ _ | refine up_set ?_ _ _ (by first | exact Nat.le_refl _ | (simp; done) | (simp; omega) | omega) | refine up_trans ?_ (by assumption)))); have sw4 := hB.size; replace hW := up_trans hW hB; clear hB
      clear hb
      have Ho := Lib.hid ho
      clear ho
      go_wp2_with fail
      go_ret3
      rw [H0.out]
      exact ⟨_, rfl, own_base Ho.out (by omega), hW⟩

theorem implCloseBuffer_any (v : Value) (bs : List Bf) (nm : List UInt8) (w : World) (h : RdB w v bs) :
    Calls Try.prog 19 #[v, .string ⟨nm.toArray⟩] w (DoPost (clOk bs nm) (clOut bs nm) w) := by
  rcases hc : clOk bs nm with _ | _
  · have H1 := Lib.hid (show clOut bs nm = if bvB bs then bs else [] by unfold clOut; rw [hc]; rfl)
    have HW := withClose_any v bs nm w h
    rw [hc] at HW
    have HW' := Lib.hid HW
    clear HW
    go_enter Try.func19, Try.ntmps19
    go_wp2_with fail
    refine HW'.out.mono ?_
    generalize (if bvB bs = true then bfAt bs nm else -1) = at_
    rintro e w1 ⟨v1, rfl, ho, hb⟩
    have Ho := Lib.hid ho
    clear ho
    go_wp2_with fail
    go_ret2
    rw [H1.out]
    exact ⟨_, rfl, Ho.out, hb⟩
  · have hc' := hc
    unfold clOk at hc'
    simp only [Bool.and_eq_true, decide_eq_true_eq] at hc'
    obtain ⟨⟨hv, hf⟩, _⟩ := hc'
    obtain ⟨k, hk, hk1⟩ := bfAt_nat hf
    have hl := bvB_len hv
    have H1 := Lib.hid (show clOut bs nm = outK bs k by unfold clOut; rw [hc, if_pos rfl, hk1, Int.toNat_natCast])
    have HW := withClose_any v bs nm w h
    rw [hc, if_pos hv, if_pos hv, hk1] at HW
    have HW' := Lib.hid HW
    clear HW hv hf hk1 hc
    have i1 : (0 : Int) ≤ (k : Int) := by omega
    have i2 : (k : Int) ≤ 8 := by omega
    go_enter Try.func19, Try.ntmps19
    go_wp2_with fail
    refine HW'.out.mono ?_
    rintro e w1 ⟨v1, rfl, ho, hb⟩
    obtain ⟨g, cap, cur, rfl, hbg, hh, hnc, hcm, hcs, htake⟩ : ∃ g cap cur, v1 = .slice (some ⟨g, 0, none⟩) bs.length cap ∧ _ := by
      rcases ho.2 with ⟨_, h0⟩ | ⟨g, cap, cur, hx, rest⟩
      · omega
      · exact ⟨g, cap, cur, hx, rest⟩
    clear hh hcs htake
    have Ho := Lib.hid ho
    clear ho HW'
    go_wp2_with fail
    have CD := delete_any w.heap.size bs k (k + 1) g cap w1 rfl hk hnc hcm Ho.out
    rw [show ((k + 1 : Nat) : Int) = (k : Int) + 1 by omega] at CD
    refine CD.mono ?_
    rintro e w2 ⟨v2, rfl, ho2, hgr⟩
    have Ho2 := Lib.hid ho2
    clear CD Ho ho2
    go_wp2_with fail
    go_ret2
    rw [H1.out]
    exact ⟨_, rfl, Ho2.out, up_grown hb hgr (fun x hx => by injection hx; omega)⟩

end Go.Proofs.Ytaldlnbgloplbaa
