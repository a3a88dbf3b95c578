/- What is proved here: the walk of the law FnCloseBuffer. No condition. -/
import Derived.Test.YtaldlnbgloplbaaLBuf0
import Derived.Test.YtaldlnbgloplbaaClo2
import Derived.Test.YtaldlnbgloplbaaDirty
namespace Go.Proofs.Ytaldlnbgloplbaa
open Go.RowKit
set_option linter.unusedVariables false

theorem any_take_succ {α : Type} (l : List α) (p : α → Bool) (k : Nat) (h : k < l.length) : (l.take (k + 1)).any p = ((l.take k).any p || p l[k]) := by
  rw [List.take_succ_eq_append_getElem h, List.any_append]; simp
theorem cont_any (bs : List Bf) (nm : List UInt8) : (bs.map Bf.name).contains nm = bs.any (fun b => b.name == nm) := by
  rw [Bool.eq_iff_iff, List.contains_iff_mem, List.any_eq_true]
  simp [List.mem_map]
theorem cont_any2 (bs : List (List UInt8)) (nm : List UInt8) : bs.contains nm = bs.any (fun b => b == nm) := by
  rw [Bool.eq_iff_iff, List.contains_iff_mem, List.any_eq_true]
  simp

set_option maxRecDepth 100000 in
set_option maxHeartbeats 2000000 in
theorem closeBuffer_walk (v : Value) (n : Nat) (zs : List Int) (w : World) (h : Bytes w w.heap.size v n zs) :
    Calls Try.prog 6 #[v] w fun e w' => e = .returned (.bool true) ∧ Below w.heap.size w w' := by
  have h' := h
  obtain ⟨h1, h2, A, c, rfl, h3, h4, h5⟩ := h
  clear h5 h2 h1 h4
  by_cases hn : n ≤ 1048576
  · have hW := Below.refl w.heap.size w
    go_enter Try.func6, Try.ntmps6
    go_wp2_with fail
    refine (drawCloseBuffer_any _ n zs _ h').mono ?_
    rintro e w1 ⟨v, bs, nm, rfl, h1, hs, hnl, hb⟩
    have H := Lib.hid h1
    have hB : Below w.heap.size w w1 := (by (repeat (first | exact Below.refl _ _ | assumption | refine Below.drew ?_ | refine up_drewN ?_ _ | refine up_alloc ?_ _ | refine up_set ?_ _ _ (by first | exact Nat.le_refl _ | (simp; done) | (simp; omega) | omega) | refine up_trans ?_ (by assumption)))); have sw1 := hB.size; replace hW := up_trans hW hB; clear hB
    clear hb h1 h'
    go_wp2_with fail
    refine (implCloseBuffer_any v bs nm _ H.out).mono ?_
    rintro e w2 ⟨x, rfl, hx, hb⟩
    have hsx : Sm 8 (clOut bs nm) := hs.cl nm
    have X := Lib.hid (rdB_own hx hsx)
    replace H := RdB.hup H hb
    have hB : Below w1.heap.size w1 w2 := (by (repeat (first | exact Below.refl _ _ | assumption | refine Below.drew ?_ | refine up_drewN ?_ _ | refine up_alloc ?_ _ | refine up_set ?_ _ _ (by first | exact Nat.le_refl _ | (simp; done) | (simp; omega) | omega) | refine up_trans ?_ (by assumption)))); have sw2 := hB.size; replace hW := up_trans hW hB; clear hB
    clear hb hx
    go_wp2_with fail
    refine (specCloseBuffer_any v bs nm _ H.out).mono ?_
    rintro e w3 ⟨y, rfl, hy, hb⟩
    have Y := Lib.hid (rdB_own hy hsx)
    replace H := RdB.hup H hb
    replace X := RdB.hup X hb
    have hB : Below w2.heap.size w2 w3 := (by (repeat (first | exact Below.refl _ _ | assumption | refine Below.drew ?_ | refine up_drewN ?_ _ | refine up_alloc ?_ _ | refine up_set ?_ _ _ (by first | exact Nat.le_refl _ | (simp; done) | (simp; omega) | omega) | refine up_trans ?_ (by assumption)))); have sw3 := hB.size; replace hW := up_trans hW hB; clear hB
    clear hb hy
    go_wp2_with fail
    refine (sameBuffers_same x y (clOut bs nm) _ X.out Y.out).mono ?_
    rintro e w4 ⟨rfl, hb⟩
    replace H := RdB.hup H hb
    replace X := RdB.hup X hb
    have hB : Below w3.heap.size w3 w4 := (by (repeat (first | exact Below.refl _ _ | assumption | refine Below.drew ?_ | refine up_drewN ?_ _ | refine up_alloc ?_ _ | refine up_set ?_ _ _ (by first | exact Nat.le_refl _ | (simp; done) | (simp; omega) | omega) | refine up_trans ?_ (by assumption)))); have sw4 := hB.size; replace hW := up_trans hW hB; clear hB
    clear hb Y
    obtain ⟨A, c, rfl, _, _⟩ := H.out.1.form
    have hl1 := hs.1
    have hl2 := hsx.1
    rcases hv : bvB bs with _ | _
    · have h1 : clOk bs nm = false := by unfold clOk; rw [hv]; rfl
      have h2 : clOut bs nm = [] := by unfold clOut; rw [h1, hv]; rfl
      rw [h2] at X
      rw [h1]
      obtain ⟨A', c', rfl, _, _⟩ := X.out.1.form
      clear h1 h2 hl2 hsx
      go_wp2_with fail
      refine (specBuffersValid_any _ bs _ H.out).mono ?_
      rw [hv]
      rintro e w5 ⟨rfl, hb⟩
      have hB : Below w4.heap.size w4 w5 := (by (repeat (first | exact Below.refl _ _ | assumption | refine Below.drew ?_ | refine up_drewN ?_ _ | refine up_alloc ?_ _ | refine up_set ?_ _ _ (by first | exact Nat.le_refl _ | (simp; done) | (simp; omega) | omega) | refine up_trans ?_ (by assumption)))); have sw5 := hB.size; replace hW := up_trans hW hB; clear hB
      clear hb
      go_wp2_with (go_at_call 14; refine (alive_any _).mono ?_; rintro e w6 ⟨rfl, rfl⟩)
      go_ret
      exact ⟨rfl, hW⟩
    · obtain ⟨q1, q2, q3, q4, q5⟩ := close_law (nm := nm) hv
      rw [cont_any, cont_any2] at q1
      have e9 : dnOut bs = dn bs := by unfold dnOut; rw [hv]; rfl
      have E9 := Lib.hid e9
      obtain ⟨cs, hcs⟩ : ∃ cs, cs = clOut bs nm := ⟨_, rfl⟩
      rw [← hcs] at X q2 q3 q4 q5 hl2 hsx
      have Q1 := Lib.hid q1
      have Q2 := Lib.hid q2
      have Q3 := Lib.hid q3
      have Q4 := Lib.hid q4
      have Q5 := Lib.hid q5
      clear q1 q2 q3 q4 q5 hcs e9
      obtain ⟨A', c', rfl, _, _⟩ := X.out.1.form
      have HW := Lib.hid hW
      clear hW
      go_wp2_with fail
      refine (specBuffersValid_any _ bs _ H.out).mono ?_
      rw [hv]
      rintro e w5 ⟨rfl, hb⟩
      replace H := RdB.hup H hb
      replace X := RdB.hup X hb
      replace HW := Lib.hid (up_trans HW.out hb)
      clear hb hv
      go_wp2_with fail
      go_loop [9, 10] (fun o i => ∃ k : Nat, k ≤ bs.length ∧ i = .int .i64 k ∧ o = .bool ((bs.take k).any fun b => b.name == nm)) (fun _ i => bs.length - (intOf i).toNat)
      case atStart => exact ⟨0, Nat.zero_le _, rfl, by simp⟩
      case round =>
        obtain ⟨k, hk, rfl, rfl⟩ := hrel
        by_cases hlt : k < bs.length
        · have i1 : (0 : Int) ≤ (k : Int) := by omega
          have i2 : (k : Int) < (bs.length : Int) := by omega
          have HT := Lib.hid (any_take_succ bs (fun b => b.name == nm) k hlt)
          obtain ⟨b, o, rfl, hb, c0, -, -⟩ := H.out.cells hlt
          obtain ⟨x, hx⟩ : ∃ x, x = bs[k] := ⟨_, rfl⟩
          rw [← hx] at c0
          have HX := Lib.hid hx
          clear hx
          rcases hp : ((bs.take k).any fun b => b.name == nm) with _ | _
          · rcases hc : (x.name == nm) with _ | _
            all_goals
              have HP := Lib.hid hp
              have HC := Lib.hid hc
              clear hp
              go_wp2_with fail
              go_round
              case rel => exact ⟨k + 1, by omega, by go_num, by rw [HT.out, HP.out, ← HX.out, HC.out]; rfl⟩
              case measure => simp [intOf]; omega
          · have HP := Lib.hid hp
            clear hp
            go_wp2_with fail
            go_round
            case rel => exact ⟨k + 1, by omega, by go_num, by rw [HT.out, HP.out]; rfl⟩
            case measure => simp [intOf]; omega
        · obtain rfl : k = bs.length := by omega
          rw [List.take_length] at *
          obtain ⟨op, hop⟩ : ∃ z, z = (bs.any fun b => b.name == nm) := ⟨_, rfl⟩
          rw [← hop]
          have HOP := Lib.hid hop
          clear hop
          go_wp2_with fail
          refine (implDirtyNames_any _ bs _ H.out).mono ?_
          rw [E9.out]
          rintro e w6 ⟨z, rfl, hz, hb⟩
          have hzr : RdL w6 1 strC z (dn bs) := RdL.of_own hz
          have Z := Lib.hid hzr
          have hdl := dn_len bs
          replace H := RdB.hup H hb
          replace X := RdB.hup X hb
          replace HW := Lib.hid (up_trans HW.out hb)
          obtain ⟨A2, c2, rfl, _, _⟩ := hzr.form
          clear hb hz hzr
          go_wp2_with fail
          go_loop [11, 13] (fun o i => ∃ k : Nat, k ≤ (dn bs).length ∧ i = .int .i64 k ∧ o = .bool (((dn bs).take k).any fun b => b == nm)) (fun _ i => (dn bs).length - (intOf i).toNat)
          case atStart => exact ⟨0, Nat.zero_le _, rfl, by simp⟩
          case round =>
            obtain ⟨k, hk, rfl, rfl⟩ := hrel
            by_cases hlt : k < (dn bs).length
            · have i1 : (0 : Int) ≤ (k : Int) := by omega
              have i2 : (k : Int) < ((dn bs).length : Int) := by omega
              have HT := Lib.hid (any_take_succ (dn bs) (fun b => b == nm) k hlt)
              obtain ⟨b, o, rfl, hb, hc⟩ := Z.out.cells strC_len hlt
              have c0 := hc 0 _ rfl
              simp only [Nat.mul_one, Nat.add_zero] at c0
              clear hc
              obtain ⟨x, hx⟩ : ∃ x, x = (dn bs)[k] := ⟨_, rfl⟩
              rw [← hx] at c0
              have HX := Lib.hid hx
              clear hx
              rcases hp : (((dn bs).take k).any fun b => b == nm) with _ | _
              · rcases hc : (x == nm) with _ | _
                all_goals
                  have HP := Lib.hid hp
                  have HC := Lib.hid hc
                  clear hp
                  go_wp2_with fail
                  go_round
                  case rel => exact ⟨k + 1, by omega, by go_num, by rw [HT.out, HP.out, ← HX.out, HC.out]; rfl⟩
                  case measure => simp [intOf]; omega
              · have HP := Lib.hid hp
                clear hp
                go_wp2_with fail
                go_round
                case rel => exact ⟨k + 1, by omega, by go_num, by rw [HT.out, HP.out]; rfl⟩
                case measure => simp [intOf]; omega
            · obtain rfl : k = (dn bs).length := by omega
              rw [List.take_length] at *
              obtain ⟨dt, hdt⟩ : ∃ z, z = ((dn bs).any fun b => b == nm) := ⟨_, rfl⟩
              rw [← hdt]
              have HQ := Lib.hid (show clOk bs nm = (op && !dt) by rw [Q1.out, ← HOP.out, ← hdt])
              clear hdt Z
              go_wp2_with fail
              refine (implCloseBuffer_any _ cs nm _ X.out).mono ?_
              rw [Q2.out]
              rintro e w7 ⟨z, rfl, -, hb⟩
              replace H := RdB.hup H hb
              replace X := RdB.hup X hb
              replace HW := Lib.hid (up_trans HW.out hb)
              clear hb
              rw [HQ.out]
              rcases op with _ | _
              case' true =>
                rcases dt with _ | _
              case' true.false =>
                have hlc : (cs.length : Int) = (bs.length : Int) - 1 := by have := Q4.out HQ.out; omega
                have hl6 : ((cs.length : Int) == (bs.length : Int) - 1) = true := beq_iff_eq.2 hlc
                clear hlc
                go_wp2_with fail
                refine (implBuffersValid_any _ cs _ X.out).mono ?_
                rw [Q3.out]
                rintro e w8 ⟨rfl, hb⟩
                replace HW := Lib.hid (up_trans HW.out hb)
                clear hb
                go_wp2_with fail
                go_ret
                exact ⟨rfl, HW.out⟩
              case' true.true =>
                have he := Q5.out HQ.out
              case' false =>
                have he := Q5.out HQ.out
              all_goals
                subst he
                go_wp2_with fail
                refine (implBuffersValid_any _ cs _ X.out).mono ?_
                rw [Q3.out]
                rintro e w8 ⟨rfl, hb⟩
                replace H := RdB.hup H hb
                replace X := RdB.hup X hb
                replace HW := Lib.hid (up_trans HW.out hb)
                clear hb
                go_wp2_with fail
                refine (sameBuffers_same _ _ cs _ X.out H.out).mono ?_
                rintro e w9 ⟨rfl, hb⟩
                replace HW := Lib.hid (up_trans HW.out hb)
                clear hb
                go_wp2_with fail
                go_ret
                exact ⟨rfl, HW.out⟩
  · go_enter Try.func6, Try.ntmps6
    go_wp2_with fail
    go_ret
    exact ⟨rfl, Below.refl _ _⟩

end Go.Proofs.Ytaldlnbgloplbaa
