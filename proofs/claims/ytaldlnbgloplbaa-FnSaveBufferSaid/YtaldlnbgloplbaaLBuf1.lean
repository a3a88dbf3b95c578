/- What is proved here: the walk of the law FnSaveBuffer. No condition. -/
import Derived.Test.YtaldlnbgloplbaaLBuf0
import Derived.Test.YtaldlnbgloplbaaSav2
import Derived.Test.YtaldlnbgloplbaaClo2a
namespace Go.Proofs.Ytaldlnbgloplbaa
open Go.RowKit
set_option linter.unusedVariables false

set_option maxRecDepth 100000 in
set_option maxHeartbeats 2000000 in
theorem saveBuffer_walk (v : Value) (n : Nat) (zs : List Int) (w : World) (h : Bytes w w.heap.size v n zs) :
    Calls Try.prog 8 #[v] w fun e w' => e = .returned (.bool true) ∧ Below w.heap.size w w' := by
  have h' := h
  obtain ⟨h1, h2, A, c, rfl, h3, h4, h5⟩ := h
  clear h5 h2 h1 h4
  by_cases hn : n ≤ 1048576
  · have hW := Below.refl w.heap.size w
    go_enter Try.func8, Try.ntmps8
    go_wp2_with fail
    refine (drawSaveBuffer_any _ n zs _ h').mono ?_
    rintro e w1 ⟨v, bs, nm, rfl, h1, hs, hnl, hb⟩
    have H := Lib.hid h1
    have hB : Below w.heap.size w w1 := (by (repeat (first | exact Below.refl _ _ | assumption | refine Below.drew ?_ | refine up_drewN ?_ _ | refine up_alloc ?_ _ | refine up_set ?_ _ _ (by first | exact Nat.le_refl _ | (simp; done) | (simp; omega) | omega) | refine up_trans ?_ (by assumption)))); have sw1 := hB.size; replace hW := up_trans hW hB; clear hB
    clear hb h1 h'
    go_wp2_with fail
    refine (implSaveBuffer_any v bs nm _ H.out).mono ?_
    rintro e w2 ⟨x, rfl, hx, hb⟩
    have hsx : Sm 9 (svOut bs nm) := hs.sv nm
    have X := Lib.hid (rdB_own hx hsx)
    replace H := RdB.hup H hb
    have hB : Below w1.heap.size w1 w2 := (by (repeat (first | exact Below.refl _ _ | assumption | refine Below.drew ?_ | refine up_drewN ?_ _ | refine up_alloc ?_ _ | refine up_set ?_ _ _ (by first | exact Nat.le_refl _ | (simp; done) | (simp; omega) | omega) | refine up_trans ?_ (by assumption)))); have sw2 := hB.size; replace hW := up_trans hW hB; clear hB
    clear hb hx
    go_wp2_with fail
    refine (specSaveBuffer_any v bs nm _ H.out).mono ?_
    rintro e w3 ⟨y, rfl, hy, hb⟩
    have Y := Lib.hid (rdB_own hy hsx)
    replace H := RdB.hup H hb
    replace X := RdB.hup X hb
    have hB : Below w2.heap.size w2 w3 := (by (repeat (first | exact Below.refl _ _ | assumption | refine Below.drew ?_ | refine up_drewN ?_ _ | refine up_alloc ?_ _ | refine up_set ?_ _ _ (by first | exact Nat.le_refl _ | (simp; done) | (simp; omega) | omega) | refine up_trans ?_ (by assumption)))); have sw3 := hB.size; replace hW := up_trans hW hB; clear hB
    clear hb hy
    go_wp2_with fail
    refine (sameBuffers_same x y (svOut bs nm) _ X.out Y.out).mono ?_
    rintro e w4 ⟨rfl, hb⟩
    replace H := RdB.hup H hb
    replace X := RdB.hup X hb
    have hB : Below w3.heap.size w3 w4 := (by (repeat (first | exact Below.refl _ _ | assumption | refine Below.drew ?_ | refine up_drewN ?_ _ | refine up_alloc ?_ _ | refine up_set ?_ _ _ (by first | exact Nat.le_refl _ | (simp; done) | (simp; omega) | omega) | refine up_trans ?_ (by assumption)))); have sw4 := hB.size; replace hW := up_trans hW hB; clear hB
    clear hb Y
    obtain ⟨A, c, rfl, _, _⟩ := H.out.1.form
    have hl1 := hs.1
    have hl2 := hsx.1
    rcases hok : svOk bs nm with _ | _
    · rcases save_not hok with he | he
      all_goals
        rw [he] at X
        obtain ⟨A', c', rfl, _, _⟩ := X.out.1.form
        clear hsx hl2 he
      · go_wp2_with (go_at_call 14; refine (alive_any _).mono ?_; rintro e w5 ⟨rfl, rfl⟩)
        go_ret
        exact ⟨rfl, hW⟩
      · by_cases hl0 : bs.length = 0
        · have hl3 : ((bs.length : Int) == 0) = true := beq_iff_eq.2 (by omega)
          clear hl0
          go_wp2_with (go_at_call 14; refine (alive_any _).mono ?_; rintro e w5 ⟨rfl, rfl⟩)
          go_ret
          exact ⟨rfl, hW⟩
        · have hl3 : ((bs.length : Int) == 0) = false := beq_eq_false_iff_ne.2 (by omega)
          clear hl0
          go_wp2_with fail
          refine (sameBuffers_same _ _ bs _ X.out H.out).mono ?_
          rintro e w5 ⟨rfl, hb⟩
          have hB : Below w4.heap.size w4 w5 := (by (repeat (first | exact Below.refl _ _ | assumption | refine Below.drew ?_ | refine up_drewN ?_ _ | refine up_alloc ?_ _ | refine up_set ?_ _ _ (by first | exact Nat.le_refl _ | (simp; done) | (simp; omega) | omega) | refine up_trans ?_ (by assumption)))); have sw5 := hB.size; replace hW := up_trans hW hB; clear hB
          clear hb
          go_wp2_with fail
          refine (alive_any _).mono ?_
          rintro e w6 ⟨rfl, rfl⟩
          go_wp2_with fail
          go_ret
          exact ⟨rfl, hW⟩
    · obtain ⟨l1, l2, l3, l4, l5⟩ := save_law hok
      obtain ⟨cs, hcs⟩ : ∃ cs, cs = svOut bs nm := ⟨_, rfl⟩
      rw [← hcs] at X l1 l2 l4 hl2 hsx
      have L1 := Lib.hid l1
      have L2 := Lib.hid l2
      have L3 := Lib.hid l3
      have L5 := Lib.hid l5
      have HCS := Lib.hid hcs
      have hl6 : ((cs.length : Int) == (bs.length : Int)) = true := beq_iff_eq.2 (by omega)
      have l4a : cs.length ≤ bs.length := by omega
      have l4b : bs.length ≤ cs.length := by omega
      clear l1 l2 l3 l4 l5 hcs
      obtain ⟨A', c', rfl, _, _⟩ := X.out.1.form
      go_wp2_with fail
      refine (implCloseBuffer_any _ cs nm _ X.out).mono ?_
      rw [L2.out]
      rintro e w5 ⟨z, rfl, -, hb⟩
      replace H := RdB.hup H hb
      replace X := RdB.hup X hb
      have hB : Below w4.heap.size w4 w5 := (by (repeat (first | exact Below.refl _ _ | assumption | refine Below.drew ?_ | refine up_drewN ?_ _ | refine up_alloc ?_ _ | refine up_set ?_ _ _ (by first | exact Nat.le_refl _ | (simp; done) | (simp; omega) | omega) | refine up_trans ?_ (by assumption)))); have sw5 := hB.size; replace hW := up_trans hW hB; clear hB
      clear hb
      go_wp2_with fail
      refine (implSaveBuffer_any _ cs nm _ X.out).mono ?_
      generalize svOk cs nm = ok2
      rw [show svOut cs nm = cs by rw [HCS.out]; exact L3.out]
      rintro e w6 ⟨z2, rfl, hz2, hb⟩
      have Z := Lib.hid (rdB_own hz2 hsx)
      replace H := RdB.hup H hb
      replace X := RdB.hup X hb
      have hB : Below w5.heap.size w5 w6 := (by (repeat (first | exact Below.refl _ _ | assumption | refine Below.drew ?_ | refine up_drewN ?_ _ | refine up_alloc ?_ _ | refine up_set ?_ _ _ (by first | exact Nat.le_refl _ | (simp; done) | (simp; omega) | omega) | refine up_trans ?_ (by assumption)))); have sw6 := hB.size; replace hW := up_trans hW hB; clear hB
      clear hb hz2
      have HW := Lib.hid hW
      clear hW
      go_wp2_with fail
      go_loopw [13] (fun i wr => ∃ k : Nat, k ≤ bs.length ∧ i = .int .i64 k ∧ Hid (Below w6.heap.size w6 wr)) (fun i _ => bs.length - (intOf i).toNat)
      case atStart => exact ⟨0, Nat.zero_le _, rfl, Lib.hid (Below.refl _ _)⟩
      case round =>
        obtain ⟨k, hk, rfl, HWr⟩ := hrel
        by_cases hlt : k < bs.length
        · have i1 : (0 : Int) ≤ (k : Int) := by omega
          have i2 : (k : Int) < (bs.length : Int) := by omega
          have i3 : decide ((k : Int) < (bs.length : Int)) = true := decide_eq_true i2
          have i4 : (k : Int) < (cs.length : Int) := by omega
          have i5 : decide ((k : Int) < (cs.length : Int)) = true := decide_eq_true i4
          have i6 : decide (k < bs.length) = true := decide_eq_true hlt
          have i7 : decide (k < cs.length) = true := decide_eq_true (by omega)
          have hltc : k < cs.length := by omega
          obtain ⟨b, o, rfl, hb, -, c1, -⟩ := (H.out.up HWr.out).cells hlt
          obtain ⟨b', o', rfl, hb', -, d1, -⟩ := (X.out.up HWr.out).cells hltc
          have hbd : cs[k].body = bs[k].body := by
            have := L5.out k (by rw [← HCS.out]; exact hltc) hlt
            simp only [← HCS.out] at this
            exact this
          rw [hbd] at d1
          clear hbd i2 i4
          have i2 : (k : Int) < (bs.length : Int) := by omega
          have i4 : (k : Int) < (cs.length : Int) := by omega
          go_wp2_with fail
          go_quiet (fail)
          go_wp2_with fail
          go_roundw
          case rel => exact ⟨k + 1, by omega, by go_num, Lib.hid (have hQ := HWr.out; by (repeat (first | exact Below.refl _ _ | assumption | refine Below.drew ?_ | refine up_drewN ?_ _ | refine up_alloc ?_ _ | refine up_set ?_ _ _ (by first | exact Nat.le_refl _ | (simp; done) | (simp; omega) | omega) | refine up_trans ?_ (by assumption))))⟩
          case measure => simp [intOf]; omega
        · obtain rfl : k = bs.length := by omega
          have i3 : decide ((bs.length : Int) < (bs.length : Int)) = false := decide_eq_false (by omega)
          replace X := RdB.hup X HWr.out
          replace Z := RdB.hup Z HWr.out
          have hW := up_trans HW.out HWr.out
          go_wp2_with fail
          refine (implBuffersValid_any _ cs _ X.out).mono ?_
          rw [L1.out]
          rintro e w7 ⟨rfl, hb⟩
          replace X := RdB.hup X hb
          replace Z := RdB.hup Z hb
          have hW7 := up_trans hW hb
          clear hb HWr HW hW
          go_wp2_with fail
          refine (sameBuffers_same _ _ cs _ Z.out X.out).mono ?_
          rintro e w8 ⟨rfl, hb⟩
          have hW8 := up_trans hW7 hb
          clear hb hW7
          go_wp2_with fail
          go_ret
          exact ⟨rfl, hW8⟩
  · go_enter Try.func8, Try.ntmps8
    go_wp2_with fail
    go_ret
    exact ⟨rfl, Below.refl _ _⟩

end Go.Proofs.Ytaldlnbgloplbaa
