/- What is proved here: the walk of the law FnChangeBuffer. No condition. -/
import Derived.Test.YtaldlnbgloplbaaLBuf0
import Derived.Test.YtaldlnbgloplbaaChg5
namespace Go.Proofs.Ytaldlnbgloplbaa
open Go.RowKit
set_option linter.unusedVariables false

set_option maxRecDepth 100000 in
set_option maxHeartbeats 2000000 in
theorem changeBuffer_walk (v : Value) (n : Nat) (zs : List Int) (w : World) (h : Bytes w w.heap.size v n zs) :
    Calls Try.prog 10 #[v] w fun e w' => e = .returned (.bool true) ∧ Below w.heap.size w w' := by
  have h' := h
  obtain ⟨h1, h2, A, c0, rfl, h3, h4, h5⟩ := h
  clear h5 h2 h1 h4
  by_cases hn : n ≤ 1048576
  · have hW := Below.refl w.heap.size w
    go_enter Try.func10, Try.ntmps10
    go_wp2_with fail
    refine (drawChangeBuffer_any _ n zs _ h').mono ?_
    rintro e w1 ⟨v, bs, nm, a, c, p, rfl, h1, hs, hnl, hp, hb⟩
    have H := Lib.hid h1
    have hB : Below w.heap.size w w1 := (by (repeat (first | exact Below.refl _ _ | assumption | refine Below.drew ?_ | refine up_drewN ?_ _ | refine up_alloc ?_ _ | refine up_set ?_ _ _ (by first | exact Nat.le_refl _ | (simp; done) | (simp; omega) | omega) | refine up_trans ?_ (by assumption)))); have sw1 := hB.size; replace hW := up_trans hW hB; clear hB
    clear hb h1 h'
    go_wp2_with fail
    refine (implChangeBuffer_any v bs nm a c p _ (H.out.up (by (repeat (first | exact Below.refl _ _ | assumption | refine Below.drew ?_ | refine up_drewN ?_ _ | refine up_alloc ?_ _ | refine up_set ?_ _ _ (by first | exact Nat.le_refl _ | (simp; done) | (simp; omega) | omega) | refine up_trans ?_ (by assumption))))) (by omega)).mono ?_
    rintro e w2 ⟨x, rfl, hx, hb⟩
    have hsx : Sm 8 (cgOut bs nm a c p) := hs.cg a c p hp
    have X := Lib.hid (rdB_own hx hsx)
    replace H := Lib.hid (H.out.up (show Below w1.heap.size w1 w2 by (repeat (first | exact Below.refl _ _ | assumption | refine Below.drew ?_ | refine up_drewN ?_ _ | refine up_alloc ?_ _ | refine up_set ?_ _ _ (by first | exact Nat.le_refl _ | (simp; done) | (simp; omega) | omega) | refine up_trans ?_ (by assumption)))))
    have hB : Below w1.heap.size w1 w2 := (by (repeat (first | exact Below.refl _ _ | assumption | refine Below.drew ?_ | refine up_drewN ?_ _ | refine up_alloc ?_ _ | refine up_set ?_ _ _ (by first | exact Nat.le_refl _ | (simp; done) | (simp; omega) | omega) | refine up_trans ?_ (by assumption)))); have sw2 := hB.size; replace hW := up_trans hW hB; clear hB
    have xc : ∀ o, w2.cell? ⟨w1.heap.size, o, none⟩ = #[.int .i64 a, .int .i64 c, S p][o]? := (fun o => (hb.cell (p := ⟨w1.heap.size, o, none⟩) (by simp <;> omega)).trans (by simp [go_sem])); have xf : ∀ o, w2.frozen? ⟨w1.heap.size, o, none⟩ = false := (fun o => (hb.frozen (p := ⟨w1.heap.size, o, none⟩) (by simp <;> omega)).trans (by simp [go_sem])); have xz : w1.heap.size < w2.heap.size := (by have := hb.size; (try simp at this); omega); have xy := xz
    clear hb hx
    go_wp2_with fail
    refine (specChangeBuffer_any v bs nm a c p _ H.out (by omega)).mono ?_
    rintro e w3 ⟨y, rfl, hy, hb⟩
    have Y := Lib.hid (rdB_own hy hsx)
    replace H := RdB.hup H hb
    replace X := RdB.hup X hb
    have hB : Below w2.heap.size w2 w3 := (by (repeat (first | exact Below.refl _ _ | assumption | refine Below.drew ?_ | refine up_drewN ?_ _ | refine up_alloc ?_ _ | refine up_set ?_ _ _ (by first | exact Nat.le_refl _ | (simp; done) | (simp; omega) | omega) | refine up_trans ?_ (by assumption)))); replace xc := up_c hB xz xc; replace xf := up_f hB xz xf; replace xz := Nat.lt_of_lt_of_le xz hB.size; have sw3 := hB.size; replace hW := up_trans hW hB; clear hB
    clear hb hy
    go_wp2_with fail
    refine (sameBuffers_same x y (cgOut bs nm a c p) _ X.out Y.out).mono ?_
    rintro e w4 ⟨rfl, hb⟩
    replace H := RdB.hup H hb
    replace X := RdB.hup X hb
    have hB : Below w3.heap.size w3 w4 := (by (repeat (first | exact Below.refl _ _ | assumption | refine Below.drew ?_ | refine up_drewN ?_ _ | refine up_alloc ?_ _ | refine up_set ?_ _ _ (by first | exact Nat.le_refl _ | (simp; done) | (simp; omega) | omega) | refine up_trans ?_ (by assumption)))); replace xc := up_c hB xz xc; replace xf := up_f hB xz xf; replace xz := Nat.lt_of_lt_of_le xz hB.size; have sw4 := hB.size; replace hW := up_trans hW hB; clear hB
    clear hb Y
    obtain ⟨A, c0, rfl, _, _⟩ := H.out.1.form
    have hl1 := hs.1
    have hl2 := hsx.1
    rcases hok : cgOk bs nm a c p with _ | _
    · rcases change_not hok with he | he
      all_goals
        rw [he] at X
        obtain ⟨A', c', rfl, _, _⟩ := X.out.1.form
        clear hsx hl2 he
      · go_wp2_with (go_at_call 14; refine (alive_any _).mono ?_; rintro e w5 ⟨rfl, rfl⟩)
        go_ret
        exact ⟨rfl, hW⟩
      · by_cases hl0 : bs.length = 0
        · have hl3 : ((bs.length : Int) == 0) = true := beq_iff_eq.2 (by omega)
          clear hl0
          go_wp2_with (go_at_call 14; refine (alive_any _).mono ?_; rintro e w5 ⟨rfl, rfl⟩)
          go_ret
          exact ⟨rfl, hW⟩
        · have hl3 : ((bs.length : Int) == 0) = false := beq_eq_false_iff_ne.2 (by omega)
          clear hl0
          go_wp2_with fail
          refine (sameBuffers_same _ _ bs _ X.out H.out).mono ?_
          rintro e w5 ⟨rfl, hb⟩
          have hB : Below w4.heap.size w4 w5 := (by (repeat (first | exact Below.refl _ _ | assumption | refine Below.drew ?_ | refine up_drewN ?_ _ | refine up_alloc ?_ _ | refine up_set ?_ _ _ (by first | exact Nat.le_refl _ | (simp; done) | (simp; omega) | omega) | refine up_trans ?_ (by assumption)))); have sw5 := hB.size; replace hW := up_trans hW hB; clear hB
          clear hb
          go_wp2_with fail
          refine (alive_any _).mono ?_
          rintro e w6 ⟨rfl, rfl⟩
          go_wp2_with fail
          go_ret
          exact ⟨rfl, hW⟩
    · obtain ⟨l1, l2, l3⟩ := change_law hok
      obtain ⟨cs, hcs⟩ : ∃ cs, cs = cgOut bs nm a c p := ⟨_, rfl⟩
      rw [← hcs] at X l1 l2 hl2 hsx
      have L1 := Lib.hid l1
      have L3 := Lib.hid l3
      have HCS := Lib.hid hcs
      have l4a : cs.length ≤ bs.length := by omega
      have l4b : bs.length ≤ cs.length := by omega
      have hl6 : ((cs.length : Int) == (bs.length : Int)) = true := beq_iff_eq.2 (by omega)
      clear l1 l2 l3 hcs
      obtain ⟨A', c', rfl, _, _⟩ := X.out.1.form
      have HW := Lib.hid hW
      have HX := Lib.hid xc
      clear hW xc xf
      go_wp2_with fail
      go_loopw [10] (fun i wr => ∃ k : Nat, k ≤ bs.length ∧ i = .int .i64 k ∧ Hid (Below w4.heap.size w4 wr)) (fun i _ => bs.length - (intOf i).toNat)
      case atStart => exact ⟨0, Nat.zero_le _, rfl, Lib.hid (Below.refl _ _)⟩
      case round =>
        obtain ⟨k, hk, rfl, HWr⟩ := hrel
        by_cases hlt : k < bs.length
        · have i1 : (0 : Int) ≤ (k : Int) := by omega
          have i2 : (k : Int) < (bs.length : Int) := by omega
          have i3 : decide ((k : Int) < (bs.length : Int)) = true := decide_eq_true i2
          have i4 : (k : Int) < (cs.length : Int) := by omega
          have i5 : decide ((k : Int) < (cs.length : Int)) = true := decide_eq_true i4
          have i6 : decide (k < bs.length) = true := decide_eq_true hlt
          have i7 : decide (k < cs.length) = true := decide_eq_true (by omega)
          have hltc : k < cs.length := by omega
          obtain ⟨b, o, rfl, hb, c0', c1, c2⟩ := (H.out.up HWr.out).cells hlt
          obtain ⟨b', o', rfl, hb', d0, d1, d2⟩ := (X.out.up HWr.out).cells hltc
          have hbl := (hs.2 _ (List.getElem_mem hlt)).2.1
          have hbd := L3.out k (by rw [← HCS.out]; exact hltc) hlt
          simp only [← HCS.out] at hbd
          obtain ⟨hb1, hb2, hb3⟩ := hbd
          rw [hb1] at d1
          rw [hb2] at d2
          rw [hb3] at d0
          clear hb1 hb2 hb3 i2 i4
          obtain ⟨x, hx⟩ : ∃ x, x = bs[k] := ⟨_, rfl⟩
          rw [← hx] at c0' c1 c2 d0 d1 d2 hbl
          clear hx
          have i2 : (k : Int) < (bs.length : Int) := by omega
          have i4 : (k : Int) < (cs.length : Int) := by omega
          rcases hnm : (x.name == nm) with _ | _
          · rw [hnm] at d1
            simp only [Bool.false_eq_true, if_false] at d1
            go_wp2_with fail
            go_quiet (fail)
            go_wp2_with fail
            go_roundw
            case rel => exact ⟨k + 1, by omega, by go_num, Lib.hid (have hQ := HWr.out; by (repeat (first | exact Below.refl _ _ | assumption | refine Below.drew ?_ | refine up_drewN ?_ _ | refine up_alloc ?_ _ | refine up_set ?_ _ _ (by first | exact Nat.le_refl _ | (simp; done) | (simp; omega) | omega) | refine up_trans ?_ (by assumption))))⟩
            case measure => simp [intOf]; omega
          · rw [hnm] at d1
            simp only [if_true] at d1
            have xc := up_c HWr.out xz HX.out
            go_wp2_with fail
            refine (implApplyChange_any x.body a c p _ (by unfold maxLen; omega) (by omega)).mono ?_
            generalize chOk x.body a c p = okc
            rintro e w5 ⟨rfl, hb5⟩
            have hWr5 := Lib.hid (up_trans HWr.out hb5)
            replace c0' := (hb5.cell (p := ⟨b, o + k * 3, none⟩) hb).trans c0'
            replace c1 := (hb5.cell (p := ⟨b, o + k * 3 + 1, none⟩) hb).trans c1
            replace c2 := (hb5.cell (p := ⟨b, o + k * 3 + 2, none⟩) hb).trans c2
            replace d0 := (hb5.cell (p := ⟨b', o' + k * 3, none⟩) hb').trans d0
            replace d1 := (hb5.cell (p := ⟨b', o' + k * 3 + 1, none⟩) hb').trans d1
            replace d2 := (hb5.cell (p := ⟨b', o' + k * 3 + 2, none⟩) hb').trans d2
            clear hb5 xc HWr
            go_wp2_with fail
            go_quiet (fail)
            go_wp2_with fail
            go_roundw
            case rel => exact ⟨k + 1, by omega, by go_num, Lib.hid (have hQ := hWr5.out; by (repeat (first | exact Below.refl _ _ | assumption | refine Below.drew ?_ | refine up_drewN ?_ _ | refine up_alloc ?_ _ | refine up_set ?_ _ _ (by first | exact Nat.le_refl _ | (simp; done) | (simp; omega) | omega) | refine up_trans ?_ (by assumption))))⟩
            case measure => simp [intOf]; omega
        · obtain rfl : k = bs.length := by omega
          have i3 : decide ((bs.length : Int) < (bs.length : Int)) = false := decide_eq_false (by omega)
          replace X := RdB.hup X HWr.out
          have hW := up_trans HW.out HWr.out
          go_wp2_with fail
          refine (implBuffersValid_any _ cs _ X.out).mono ?_
          rw [L1.out]
          rintro e w7 ⟨rfl, hb⟩
          have hW7 := up_trans hW hb
          clear hb HWr HW hW
          go_wp2_with fail
          go_ret
          exact ⟨rfl, hW7⟩
  · go_enter Try.func10, Try.ntmps10
    go_wp2_with fail
    go_ret
    exact ⟨rfl, Below.refl _ _⟩

end Go.Proofs.Ytaldlnbgloplbaa
