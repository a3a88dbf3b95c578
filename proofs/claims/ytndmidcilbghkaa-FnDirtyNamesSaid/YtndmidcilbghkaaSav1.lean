/- What is proved here: the contract of the program's SaveBuffer. No condition. -/
import Derived.Test.YtndmidcilbghkaaSav0
namespace Go.Proofs.Ytndmidcilbghkaa
open Go.RowKit

theorem save1_any (g o : Nat) (s : List UInt8) (u : Value) (w : World) (c1 : w.cell? ⟨g, o + 1, none⟩ = some (S s)) (c2 : w.cell? ⟨g, o + 2, none⟩ = some u) (f2 : w.frozen? ⟨g, o + 2, none⟩ = false) :
    Calls Try.prog 53 #[.pointer (some ⟨g, o, none⟩)] w fun e w' => e = .returned (.bool true) ∧ w' = w.setCell ⟨g, o + 2, none⟩ (S s) := by
  go_enter Try.func53, Try.ntmps53
  go_wp2_with fail
  go_ret
  exact ⟨rfl, rfl⟩

set_option maxRecDepth 100000 in
set_option maxHeartbeats 1000000 in
theorem withSave_any (v : Value) (bs : List Bf) (nm : List UInt8) (w : World) (h : RdB w v bs) :
    Calls Try.prog 52 #[v, .string ⟨nm.toArray⟩, .func (.func 53) #[] #[]] w (DoPost3 (svOk bs nm) (if bvB bs then bfAt bs nm else -1) (svOut bs nm) w) := by
  have hW := Below.refl w.heap.size w
  obtain ⟨A, c, rfl, _, _⟩ := h.1.form
  rcases hv : bvB bs with _ | _
  · have H0 := Lib.hid (show svOk bs nm = false by unfold svOk; rw [hv]; rfl)
    have H1 := Lib.hid (show svOut bs nm = [] by unfold svOut; rw [hv]; rfl)
    rw [H0.out, H1.out, show (if (false : Bool) = true then bfAt bs nm else -1) = -1 from rfl]
    go_enter Try.func52, Try.ntmps52
    go_wp2_with fail
    refine (implBuffersValid_any _ bs _ h).mono ?_
    rintro e w1 ⟨rfl, hb⟩
    go_wp2_with fail
    go_ret3
    exact ⟨_, rfl, World.ownsRow_nil _ _ _ _, hb⟩
  · have hl := bvB_len hv
    rw [show (if (true : Bool) = true then bfAt bs nm else -1) = bfAt bs nm from rfl]
    go_enter Try.func52, Try.ntmps52
    go_wp2_with fail
    refine (implBuffersValid_any _ bs _ h).mono ?_
    rintro e w1 ⟨rfl, hb⟩
    have hB : Below w.heap.size w w1 := (by (repeat (first | exact Below.refl _ _ | assumption | refine Below.drew ?_ | refine up_drewN ?_ _ | refine up_alloc ?_ _ | refine up_set ?_ _ _ (by first | exact Nat.le_refl _ | (simp; done) | (simp; omega) | omega) | refine up_trans ?_ (by assumption)))); have sw1 := hB.size; replace hW := up_trans hW hB; clear hB
    clear hb
    go_wp2_with fail
    refine (cloneBuffers_any _ bs _ (h.up hW).1 (by omega)).mono ?_
    rintro e w2 ⟨v2, rfl, ho, hb⟩
    have hB : Below w1.heap.size w1 w2 := (by (repeat (first | exact Below.refl _ _ | assumption | refine Below.drew ?_ | refine up_drewN ?_ _ | refine up_alloc ?_ _ | refine up_set ?_ _ _ (by first | exact Nat.le_refl _ | (simp; done) | (simp; omega) | omega) | refine up_trans ?_ (by assumption)))); have sw2 := hB.size; replace hW := up_trans hW hB; clear hB
    clear hb
    go_wp2_with fail
    refine (bufferAt_any _ bs _ _ ⟨RdL.of_own ho, h.2⟩).mono ?_
    rintro e w3 ⟨rfl, hb⟩
    have hB : Below w2.heap.size w2 w3 := (by (repeat (first | exact Below.refl _ _ | assumption | refine Below.drew ?_ | refine up_drewN ?_ _ | refine up_alloc ?_ _ | refine up_set ?_ _ _ (by first | exact Nat.le_refl _ | (simp; done) | (simp; omega) | omega) | refine up_trans ?_ (by assumption)))); replace ho := own_up ho hB; have sw3 := hB.size; replace hW := up_trans hW hB; clear hB
    clear hb
    by_cases hf : 0 ≤ bfAt bs nm
    · obtain ⟨k, hk, hk1⟩ := bfAt_nat hf
      have H0 := Lib.hid (show svOk bs nm = true by unfold svOk; rw [hv, decide_eq_true hf]; rfl)
      have H1 := Lib.hid (show svOut bs nm = svOne bs k by unfold svOut; rw [hv, if_pos rfl, if_pos hf, hk1, Int.toNat_natCast])
      have HO := Lib.hid (svOne_at bs k hk)
      rw [hk1]
      obtain ⟨g, cap, cur, rfl, hbg, hh, hnc, hcm, hcs, htake⟩ : ∃ g cap cur, v2 = .slice (some ⟨g, 0, none⟩) bs.length cap ∧ _ := by
        rcases ho.2 with ⟨_, h0⟩ | ⟨g, cap, cur, hx, rest⟩
        · omega
        · exact ⟨g, cap, cur, hx, rest⟩
      clear hh hcs htake
      have i1 : (0 : Int) ≤ (k : Int) := by omega
      have i2 : (k : Int) < (bs.length : Int) := by omega
      have c1 := (RdB.cells ⟨RdL.of_own ho, h.2⟩ hk)
      obtain ⟨b, o, hA, hb, _, c1, _⟩ := c1
      injection hA with hA; injection hA with hA1 hA2; subst hA1 hA2
      rw [Nat.zero_add] at c1
      obtain ⟨u2, c2⟩ := own_some ho (show k * 3 + 2 < bs.length * 3 by omega)
      have f2 := ho.frozenAt (k * 3 + 2)
      have st := Lib.hid (ho.stored (k * 3 + 2) (S bs[k].body)).1
      have gr : w.heap.size ≤ g := by omega
      have CC := Lib.hid (save1_any g (k * 3) bs[k].body u2 w3 c1 c2 f2)
      clear c1 c2 f2 ho hf
      go_wp2_with fail
      refine CC.out.mono ?_
      rintro e w4 ⟨rfl, rfl⟩
      go_wp2_with fail
      go_ret3
      rw [H0.out, H1.out, hk1]
      refine ⟨_, rfl, ?_, up_set hW _ _ gr⟩
      have := st.out
      rw [flat_set2 bs k hk, ← HO.out] at this
      rw [show (svOne bs k).length = bs.length by rw [HO.out]; simp]
      exact own_base this (by omega)
    · have H0 := Lib.hid (show svOk bs nm = false by unfold svOk; rw [hv, decide_eq_false hf]; rfl)
      have H1 := Lib.hid (show svOut bs nm = bs by unfold svOut; rw [hv, if_pos rfl, if_neg hf])
      clear ho
      go_wp2_with fail
      refine (cloneBuffers_any _ bs _ (h.up hW).1 (by omega)).mono ?_
      rintro e w4 ⟨v4, rfl, ho, hb⟩
      have hB : Below w3.heap.size w3 w4 := (by (repeat (first | exact Below.refl _ _ | assumption | refine Below.drew ?_ | refine up_drewN ?_ _ | refine up_alloc ?_ _ | refine up_set ?_ _ _ (by first | exact Nat.le_refl _ | (simp; done) | (simp; omega) | omega) | refine up_trans ?_ (by assumption)))); have sw4 := hB.size; replace hW := up_trans hW hB; clear hB
      clear hb
      have Ho := Lib.hid ho
      clear ho
      go_wp2_with fail
      go_ret3
      rw [H0.out, H1.out]
      exact ⟨_, rfl, own_base Ho.out (by omega), hW⟩

theorem implSaveBuffer_any (v : Value) (bs : List Bf) (nm : List UInt8) (w : World) (h : RdB w v bs) :
    Calls Try.prog 29 #[v, .string ⟨nm.toArray⟩] w (DoPost (svOk bs nm) (svOut bs nm) w) := by
  go_enter Try.func29, Try.ntmps29
  go_wp2_with fail
  refine (withSave_any v bs nm _ h).mono ?_
  generalize (if bvB bs = true then bfAt bs nm else -1) = at_
  rintro e w1 ⟨v1, rfl, ho, hb⟩
  have Ho := Lib.hid ho
  clear ho
  go_wp2_with fail
  go_ret2
  exact ⟨_, rfl, Ho.out, hb⟩

end Go.Proofs.Ytndmidcilbghkaa
