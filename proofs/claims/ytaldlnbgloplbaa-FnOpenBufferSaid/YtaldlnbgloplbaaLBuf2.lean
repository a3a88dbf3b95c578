/- What is proved here: the walk of the law FnOpenBuffer. No condition. -/
import Derived.Test.YtaldlnbgloplbaaLBuf0
import Derived.Test.YtaldlnbgloplbaaOpen2
import Derived.Test.YtaldlnbgloplbaaClo2a
namespace Go.Proofs.Ytaldlnbgloplbaa
open Go.RowKit
set_option linter.unusedVariables false

set_option maxRecDepth 100000 in
set_option maxHeartbeats 2000000 in
theorem openBuffer_walk (v : Value) (n : Nat) (zs : List Int) (w : World) (h : Bytes w w.heap.size v n zs) :
    Calls Try.prog 4 #[v] w fun e w' => e = .returned (.bool true) ∧ Below w.heap.size w w' := by
  have h' := h
  obtain ⟨h1, h2, A, c, rfl, h3, h4, h5⟩ := h
  clear h5 h2 h1 h4
  by_cases hn : n ≤ 1048576
  · have hW := Below.refl w.heap.size w
    go_enter Try.func4, Try.ntmps4
    go_wp2_with fail
    refine (drawOpenBuffer_any _ n zs _ h').mono ?_
    rintro e w1 ⟨v, bs, nm, s, rfl, h1, hs, hnl, hsl, hb⟩
    have hnm' : nm.length ≤ maxLen := by unfold maxLen; omega
    have hs' : s.length ≤ maxLen := by unfold maxLen; omega
    have H := Lib.hid h1
    have hB : Below w.heap.size w w1 := (by (repeat (first | exact Below.refl _ _ | assumption | refine Below.drew ?_ | refine up_drewN ?_ _ | refine up_alloc ?_ _ | refine up_set ?_ _ _ (by first | exact Nat.le_refl _ | (simp; done) | (simp; omega) | omega) | refine up_trans ?_ (by assumption)))); have sw1 := hB.size; replace hW := up_trans hW hB; clear hB
    clear hb h1 h'
    go_wp2_with fail
    refine (implOpenBuffer_any v bs nm s _ H.out hnm' hs').mono ?_
    rintro e w2 ⟨x, rfl, hx, hb⟩
    have hsx : Sm 9 (obOut bs nm s) := hs.ob hnl hsl
    have X := Lib.hid (rdB_own hx hsx)
    replace H := RdB.hup H hb
    have hB : Below w1.heap.size w1 w2 := (by (repeat (first | exact Below.refl _ _ | assumption | refine Below.drew ?_ | refine up_drewN ?_ _ | refine up_alloc ?_ _ | refine up_set ?_ _ _ (by first | exact Nat.le_refl _ | (simp; done) | (simp; omega) | omega) | refine up_trans ?_ (by assumption)))); have sw2 := hB.size; replace hW := up_trans hW hB; clear hB
    clear hb hx
    go_wp2_with fail
    refine (specOpenBuffer_any v bs nm s _ H.out hnm' hs').mono ?_
    rintro e w3 ⟨y, rfl, hy, hb⟩
    have Y := Lib.hid (rdB_own hy hsx)
    replace H := RdB.hup H hb
    replace X := RdB.hup X hb
    have hB : Below w2.heap.size w2 w3 := (by (repeat (first | exact Below.refl _ _ | assumption | refine Below.drew ?_ | refine up_drewN ?_ _ | refine up_alloc ?_ _ | refine up_set ?_ _ _ (by first | exact Nat.le_refl _ | (simp; done) | (simp; omega) | omega) | refine up_trans ?_ (by assumption)))); have sw3 := hB.size; replace hW := up_trans hW hB; clear hB
    clear hb hy
    go_wp2_with fail
    refine (sameBuffers_same x y (obOut bs nm s) _ X.out Y.out).mono ?_
    rintro e w4 ⟨rfl, hb⟩
    replace H := RdB.hup H hb
    replace X := RdB.hup X hb
    have hB : Below w3.heap.size w3 w4 := (by (repeat (first | exact Below.refl _ _ | assumption | refine Below.drew ?_ | refine up_drewN ?_ _ | refine up_alloc ?_ _ | refine up_set ?_ _ _ (by first | exact Nat.le_refl _ | (simp; done) | (simp; omega) | omega) | refine up_trans ?_ (by assumption)))); have sw4 := hB.size; replace hW := up_trans hW hB; clear hB
    clear hb Y
    obtain ⟨A, c, rfl, _, _⟩ := H.out.1.form
    have hl1 := hs.1
    have hl2 := hsx.1
    rcases hok : obOk bs nm s with _ | _
    · rcases open_not hok with he | he
      all_goals
        rw [he] at X
        obtain ⟨A', c', rfl, _, _⟩ := X.out.1.form
        clear hsx hl2 he
      · go_wp2_with (go_at_call 14; refine (alive_any _).mono ?_; rintro e w5 ⟨rfl, rfl⟩)
        go_ret
        exact ⟨rfl, hW⟩
      · by_cases hl0 : bs.length = 0
        · have hl3 : ((bs.length : Int) == 0) = true := beq_iff_eq.2 (by omega)
          clear hl0
          go_wp2_with (go_at_call 14; refine (alive_any _).mono ?_; rintro e w5 ⟨rfl, rfl⟩)
          go_ret
          exact ⟨rfl, hW⟩
        · have hl3 : ((bs.length : Int) == 0) = false := beq_eq_false_iff_ne.2 (by omega)
          clear hl0
          go_wp2_with fail
          refine (sameBuffers_same _ _ bs _ X.out H.out).mono ?_
          rintro e w5 ⟨rfl, hb⟩
          have hB : Below w4.heap.size w4 w5 := (by (repeat (first | exact Below.refl _ _ | assumption | refine Below.drew ?_ | refine up_drewN ?_ _ | refine up_alloc ?_ _ | refine up_set ?_ _ _ (by first | exact Nat.le_refl _ | (simp; done) | (simp; omega) | omega) | refine up_trans ?_ (by assumption)))); have sw5 := hB.size; replace hW := up_trans hW hB; clear hB
          clear hb
          go_wp2_with fail
          refine (alive_any _).mono ?_
          rintro e w6 ⟨rfl, rfl⟩
          go_wp2_with fail
          go_ret
          exact ⟨rfl, hW⟩
    · obtain ⟨l1, l2, l3, l4, l5⟩ := open_law hok
      obtain ⟨cs, hcs⟩ : ∃ cs, cs = obOut bs nm s := ⟨_, rfl⟩
      rw [← hcs] at X l1 l2 l3 l4 l5 hl2 hsx
      have L2 := Lib.hid l2
      have L3 := Lib.hid l3
      have L4 := Lib.hid l4
      have L5 := Lib.hid l5
      have hlc : cs.length = bs.length + 1 := by rw [l1]; simp
      have hbd : ∀ h : bs.length < cs.length, cs[bs.length].body = s := by subst l1; intro h; simp
      have hlt : bs.length < cs.length := by omega
      obtain ⟨A', c', rfl, _, _⟩ := X.out.1.form
      have hl6 : ((cs.length : Int) == (bs.length : Int) + 1) = true := beq_iff_eq.2 (by omega)
      have HB := Lib.hid (hbd hlt)
      have hl9 : bs.length ≤ 8 := hl1
      clear l1 l2 l3 l4 l5 hcs hlc hbd
      go_wp2_with fail
      refine (implOpenBuffer_any _ cs nm s _ X.out hnm' hs').mono ?_
      unfold OpPost
      rw [L3.out]
      rintro e w5 ⟨z, rfl, -, hb⟩
      replace H := RdB.hup H hb
      replace X := RdB.hup X hb
      have hB : Below w4.heap.size w4 w5 := (by (repeat (first | exact Below.refl _ _ | assumption | refine Below.drew ?_ | refine up_drewN ?_ _ | refine up_alloc ?_ _ | refine up_set ?_ _ _ (by first | exact Nat.le_refl _ | (simp; done) | (simp; omega) | omega) | refine up_trans ?_ (by assumption)))); have sw5 := hB.size; replace hW := up_trans hW hB; clear hB
      clear hb
      go_wp2_with fail
      refine (implCloseBuffer_any _ cs nm _ X.out).mono ?_
      rw [L4.out, L5.out]
      rintro e w6 ⟨z2, rfl, hz2, hb⟩
      have Z := Lib.hid (rdB_own hz2 hs)
      replace H := RdB.hup H hb
      replace X := RdB.hup X hb
      have hB : Below w5.heap.size w5 w6 := (by (repeat (first | exact Below.refl _ _ | assumption | refine Below.drew ?_ | refine up_drewN ?_ _ | refine up_alloc ?_ _ | refine up_set ?_ _ _ (by first | exact Nat.le_refl _ | (simp; done) | (simp; omega) | omega) | refine up_trans ?_ (by assumption)))); have sw6 := hB.size; replace hW := up_trans hW hB; clear hB
      clear hb hz2
      go_wp2_with fail
      refine (implBuffersValid_any _ cs _ X.out).mono ?_
      rw [L2.out]
      rintro e w7 ⟨rfl, hb⟩
      replace H := RdB.hup H hb
      replace X := RdB.hup X hb
      replace Z := RdB.hup Z hb
      have hB : Below w6.heap.size w6 w7 := (by (repeat (first | exact Below.refl _ _ | assumption | refine Below.drew ?_ | refine up_drewN ?_ _ | refine up_alloc ?_ _ | refine up_set ?_ _ _ (by first | exact Nat.le_refl _ | (simp; done) | (simp; omega) | omega) | refine up_trans ?_ (by assumption)))); have sw7 := hB.size; replace hW := up_trans hW hB; clear hB
      clear hb
      go_wp2_with fail
      refine (sameBuffers_same _ _ bs _ Z.out H.out).mono ?_
      rintro e w8 ⟨rfl, hb⟩
      replace X := RdB.hup X hb
      have hB : Below w7.heap.size w7 w8 := (by (repeat (first | exact Below.refl _ _ | assumption | refine Below.drew ?_ | refine up_drewN ?_ _ | refine up_alloc ?_ _ | refine up_set ?_ _ _ (by first | exact Nat.le_refl _ | (simp; done) | (simp; omega) | omega) | refine up_trans ?_ (by assumption)))); have sw8 := hB.size; replace hW := up_trans hW hB; clear hB
      clear hb Z H
      obtain ⟨b', o', rfl, hb', -, d1, -⟩ := X.out.cells hlt
      rw [HB.out] at d1
      have i1 : (0 : Int) ≤ (bs.length : Int) := by omega
      have i2 : (bs.length : Int) < (cs.length : Int) := by omega
      clear hl2 hl1
      go_wp2_with fail
      go_ret
      exact ⟨rfl, hW⟩
  · go_enter Try.func4, Try.ntmps4
    go_wp2_with fail
    go_ret
    exact ⟨rfl, Below.refl _ _⟩

end Go.Proofs.Ytaldlnbgloplbaa
