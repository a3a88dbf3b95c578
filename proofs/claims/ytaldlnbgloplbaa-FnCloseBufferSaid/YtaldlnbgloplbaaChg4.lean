/- What is proved here: the contract of the program's ChangeBuffer. No condition. -/
import Derived.Test.YtaldlnbgloplbaaChg3
namespace Go.Proofs.Ytaldlnbgloplbaa
open Go.RowKit

def cgSame (bs : List Bf) (nm : List UInt8) (a c : Int) (p : List UInt8) : Bool := match bs[(bfAt bs nm).toNat]? with | some b => chOk b.body a c p | none => false
def cgOk (bs : List Bf) (nm : List UInt8) (a c : Int) (p : List UInt8) : Bool := bvB bs && decide (0 ≤ bfAt bs nm) && cgSame bs nm a c p
def cgOne (bs : List Bf) (k : Nat) (a c : Int) (p : List UInt8) : List Bf := match bs[k]? with | some b => bs.set k ⟨b.name, apTo b.body a c p, b.saved⟩ | none => bs
def cgOut (bs : List Bf) (nm : List UInt8) (a c : Int) (p : List UInt8) : List Bf := if cgOk bs nm a c p then cgOne bs (bfAt bs nm).toNat a c p else if bvB bs then bs else []
theorem cgSame_at {bs : List Bf} {nm : List UInt8} {k : Nat} {a c : Int} {p : List UInt8} (hk : k < bs.length) (h : bfAt bs nm = (k : Nat)) : cgSame bs nm a c p = chOk bs[k].body a c p := by
  unfold cgSame; rw [h, Int.toNat_natCast, List.getElem?_eq_getElem hk]
theorem cgOne_at (bs : List Bf) (k : Nat) (a c : Int) (p : List UInt8) (hk : k < bs.length) : cgOne bs k a c p = bs.set k ⟨bs[k].name, apTo bs[k].body a c p, bs[k].saved⟩ := by
  unfold cgOne; rw [List.getElem?_eq_getElem hk]
theorem cgOut_len (bs : List Bf) (nm : List UInt8) (a c : Int) (p : List UInt8) : (cgOut bs nm a c p).length ≤ 9 := by
  unfold cgOut
  split
  · rename_i h
    have : bvB bs = true := by unfold cgOk at h; simp only [Bool.and_eq_true] at h; exact h.1.1
    have := bvB_len this
    unfold cgOne; split <;> simp <;> omega
  · split
    · rename_i h
      have := bvB_len h
      omega
    · simp

set_option maxRecDepth 100000 in
set_option maxHeartbeats 1000000 in
theorem withChange_any (v : Value) (bs : List Bf) (nm : List UInt8) (a c : Int) (p : List UInt8) (q : Nat) (w : World) (h : RdB w v bs) (hp : p.length ≤ 1048576) (hq : q < w.heap.size) (x0 : w.cell? ⟨q, 0, none⟩ = some (.int .i64 a)) (x1 : w.cell? ⟨q, 1, none⟩ = some (.int .i64 c)) (x2 : w.cell? ⟨q, 2, none⟩ = some (S p)) :
    Calls Try.prog 49 #[v, .string ⟨nm.toArray⟩, .func (.func 60) #[] #[.pointer (some ⟨q, 0, none⟩)]] w (DoPost3 (cgOk bs nm a c p) (if bvB bs then bfAt bs nm else -1) (cgOut bs nm a c p) w) := by
  have hW := Below.refl w.heap.size w
  obtain ⟨A, cp, rfl, _, _⟩ := h.1.form
  rcases hv : bvB bs with _ | _
  · have H0 := Lib.hid (show cgOk bs nm a c p = false by unfold cgOk; rw [hv]; rfl)
    rw [H0.out, show (if (false : Bool) = true then bfAt bs nm else -1) = -1 from rfl, show cgOut bs nm a c p = [] by unfold cgOut; rw [H0.out, hv]; rfl]
    clear x0 x1 x2
    go_enter Try.func49, Try.ntmps49
    go_wp2_with fail
    refine (implBuffersValid_any _ bs _ h).mono ?_
    rintro e w1 ⟨rfl, hb⟩
    go_wp2_with fail
    go_ret3
    exact ⟨_, rfl, World.ownsRow_nil _ _ _ _, hb⟩
  · have hl := bvB_len hv
    rw [show (if (true : Bool) = true then bfAt bs nm else -1) = bfAt bs nm from rfl]
    have X0 := Lib.hid x0
    have X1 := Lib.hid x1
    have X2 := Lib.hid x2
    clear x0 x1 x2
    go_enter Try.func49, Try.ntmps49
    go_wp2_with fail
    refine (implBuffersValid_any _ bs _ h).mono ?_
    rintro e w1 ⟨rfl, hb⟩
    have hB : Below w.heap.size w w1 := (by (repeat (first | exact Below.refl _ _ | assumption | refine Below.drew ?_ | refine up_drewN ?_ _ | refine up_alloc ?_ _ | refine up_set ?_ _ _ (by first | exact Nat.le_refl _ | (simp; done) | (simp; omega) | omega) | refine up_trans ?_ (by assumption)))); have sw1 := hB.size; replace hW := up_trans hW hB; clear hB
    clear hb
    go_wp2_with fail
    refine (cloneBuffers_any _ bs _ (h.up hW).1 (by omega)).mono ?_
    rintro e w2 ⟨v2, rfl, ho, hb⟩
    have hB : Below w1.heap.size w1 w2 := (by (repeat (first | exact Below.refl _ _ | assumption | refine Below.drew ?_ | refine up_drewN ?_ _ | refine up_alloc ?_ _ | refine up_set ?_ _ _ (by first | exact Nat.le_refl _ | (simp; done) | (simp; omega) | omega) | refine up_trans ?_ (by assumption)))); have sw2 := hB.size; replace hW := up_trans hW hB; clear hB
    clear hb
    go_wp2_with fail
    refine (bufferAt_any _ bs _ _ ⟨RdL.of_own ho, h.2⟩).mono ?_
    rintro e w3 ⟨rfl, hb⟩
    have hB : Below w2.heap.size w2 w3 := (by (repeat (first | exact Below.refl _ _ | assumption | refine Below.drew ?_ | refine up_drewN ?_ _ | refine up_alloc ?_ _ | refine up_set ?_ _ _ (by first | exact Nat.le_refl _ | (simp; done) | (simp; omega) | omega) | refine up_trans ?_ (by assumption)))); replace ho := own_up ho hB; have sw3 := hB.size; replace hW := up_trans hW hB; clear hB
    clear hb
    by_cases hf : 0 ≤ bfAt bs nm
    · obtain ⟨k, hk, hk1⟩ := bfAt_nat hf
      have H0 := Lib.hid (show cgOk bs nm a c p = chOk bs[k].body a c p by unfold cgOk; rw [hv, decide_eq_true hf, cgSame_at hk hk1]; rfl)
      rw [hk1]
      obtain ⟨g, cap, cur, rfl, hbg, hh, hnc, hcm, hcs, htake⟩ : ∃ g cap cur, v2 = .slice (some ⟨g, 0, none⟩) bs.length cap ∧ _ := by
        rcases ho.2 with ⟨_, h0⟩ | ⟨g, cap, cur, hx, rest⟩
        · omega
        · exact ⟨g, cap, cur, hx, rest⟩
      clear hh hcs htake
      have i1 : (0 : Int) ≤ (k : Int) := by omega
      have i2 : (k : Int) < (bs.length : Int) := by omega
      have c1 := (RdB.cells ⟨RdL.of_own ho, h.2⟩ hk)
      obtain ⟨b, o, hA, hb, _, c1, _⟩ := c1
      injection hA with hA; injection hA with hA1 hA2; subst hA1 hA2
      rw [Nat.zero_add] at c1
      have CC := Lib.hid (change1_any g (k * 3) q bs[k].body a c p w3 hb (Nat.lt_of_lt_of_le hq hW.size) (h.2 _ (List.getElem_mem hk)).2.1 hp c1 (ho.frozenAt _) ((hW.cell (p := ⟨q, 0, none⟩) hq).trans X0.out) ((hW.cell (p := ⟨q, 1, none⟩) hq).trans X1.out) ((hW.cell (p := ⟨q, 2, none⟩) hq).trans X2.out))
      have Ho := Lib.hid ho
      have gr : w.heap.size ≤ g := by omega
      clear c1 ho hf hb X0 X1 X2
      rcases hs : chOk bs[k].body a c p with _ | _
      · rw [hs] at H0
        have H1 := Lib.hid (show cgOut bs nm a c p = bs by unfold cgOut; rw [H0.out, hv]; rfl)
        go_wp2_with fail
        refine CC.out.mono ?_
        rw [hs]
        rintro e w5 ⟨rfl, w4, hb, rfl⟩
        have hW4 := up_set (up_trans hW hb) ⟨g, k * 3 + 1, none⟩ (S (apTo bs[k].body a c p)) gr
        generalize w4.setCell ⟨g, k * 3 + 1, none⟩ (S (apTo bs[k].body a c p)) = w5 at hW4 ⊢
        clear hb Ho CC hW
        go_wp2_with fail
        refine (cloneBuffers_any _ bs _ (h.up hW4).1 (by omega)).mono ?_
        rintro e w6 ⟨v5, rfl, ho, hb⟩
        have hW := up_trans hW4 hb
        have zz := hW4.size
        clear hb hW4
        have Ho := Lib.hid ho
        clear ho
        go_wp2_with fail
        go_ret3
        rw [H0.out, H1.out, hk1]
        exact ⟨_, rfl, own_base Ho.out (by omega), hW⟩
      · rw [hs] at H0
        have H1 := Lib.hid (show cgOut bs nm a c p = cgOne bs k a c p by unfold cgOut; rw [H0.out, hk1]; rfl)
        go_wp2_with fail
        refine CC.out.mono ?_
        rw [hs]
        rintro e w5 ⟨rfl, w4, hb, rfl⟩
        have st := ((own_up Ho.out hb).stored (k * 3 + 1) (S (apTo bs[k].body a c p))).1
        rw [flat_set1 bs k hk, ← cgOne_at bs k a c p hk] at st
        have hW4 := up_set (up_trans hW hb) ⟨g, k * 3 + 1, none⟩ (S (apTo bs[k].body a c p)) gr
        generalize w4.setCell ⟨g, k * 3 + 1, none⟩ (S (apTo bs[k].body a c p)) = w5 at hW4 st ⊢
        have Ho := Lib.hid st
        clear hb CC st hW
        go_wp2_with fail
        go_ret3
        rw [H0.out, H1.out, hk1]
        refine ⟨_, rfl, ?_, hW4⟩
        rw [show (cgOne bs k a c p).length = bs.length by rw [cgOne_at bs k a c p hk]; simp]
        exact own_base Ho.out (by omega)
    · have H0 := Lib.hid (show cgOk bs nm a c p = false by unfold cgOk; rw [hv, decide_eq_false hf]; rfl)
      clear ho
      go_wp2_with fail
      refine (cloneBuffers_any _ bs _ (h.up hW).1 (by omega)).mono ?_
      rintro e w4 ⟨v4, rfl, ho, hb⟩
      have hB : Below w3.heap.size w3 w4 := (by (repeat (first | exact Below.refl _ _ | assumption | refine Below.drew ?_ | refine up_drewN ?_ _ | refine up_alloc ?_ _ | refine up_set ?_ _ _ (by first | exact Nat.le_refl _ | (simp; done) | (simp; omega) | omega) | refine up_trans ?_ (by assumption)))); have sw4 := hB.size; replace hW := up_trans hW hB; clear hB
      clear hb
      have Ho := Lib.hid ho
      clear ho
      go_wp2_with fail
      go_ret3
      rw [H0.out, show cgOut bs nm a c p = bs by unfold cgOut; rw [H0.out, hv]; rfl]
      exact ⟨_, rfl, own_base Ho.out (by omega), hW⟩

theorem implChangeBuffer_any (v : Value) (bs : List Bf) (nm : List UInt8) (a c : Int) (p : List UInt8) (w : World) (h : RdB w v bs) (hp : p.length ≤ 1048576) :
    Calls Try.prog 34 #[v, .string ⟨nm.toArray⟩, chV a c p] w (DoPost (cgOk bs nm a c p) (cgOut bs nm a c p) w) := by
  unfold chV
  go_enter Try.func34, Try.ntmps34
  go_wp2_with fail
  refine (withChange_any v bs nm a c p w.heap.size _ (h.up (by (repeat (first | exact Below.refl _ _ | assumption | refine Below.drew ?_ | refine up_drewN ?_ _ | refine up_alloc ?_ _ | refine up_set ?_ _ _ (by first | exact Nat.le_refl _ | (simp; done) | (simp; omega) | omega) | refine up_trans ?_ (by assumption))))) hp (by simp) (by simp [go_sem]) (by simp [go_sem]) (by simp [go_sem])).mono ?_
  generalize (if bvB bs = true then bfAt bs nm else -1) = at_
  rintro e w1 ⟨v1, rfl, ho, hb⟩
  have Ho := Lib.hid (own_base ho (show w.heap.size ≤ _ by simp))
  have hW : Below w.heap.size w w1 := by (repeat (first | exact Below.refl _ _ | assumption | refine Below.drew ?_ | refine up_drewN ?_ _ | refine up_alloc ?_ _ | refine up_set ?_ _ _ (by first | exact Nat.le_refl _ | (simp; done) | (simp; omega) | omega) | refine up_trans ?_ (by assumption)))
  clear ho hb
  go_wp2_with fail
  go_ret2
  exact ⟨_, rfl, Ho.out, hW⟩

end Go.Proofs.Ytaldlnbgloplbaa
