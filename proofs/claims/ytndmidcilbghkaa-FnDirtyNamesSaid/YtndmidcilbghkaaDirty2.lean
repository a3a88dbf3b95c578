/- What is proved here: the contract of the reference's DirtyNames, and one law on own blocks. No condition. -/
import Derived.Test.YtndmidcilbghkaaDirty
namespace Go.Proofs.Ytndmidcilbghkaa
open Go.RowKit

theorem ne_swap {a b : Option Nat} (h : a = none ∨ a ≠ b) : b = none ∨ b ≠ a := by
  rcases b with _ | b
  · exact .inl rfl
  · rcases h with rfl | h
    · exact .inr (by simp)
    · exact .inr fun e => h e.symm
theorem own_emptyS (w : World) (B : Nat) (hB : B ≤ w.heap.size) : Own (w.alloc (.cells #[] 9)) B 9 1 (.slice (some ⟨w.heap.size, 0, none⟩) 0 0) 0 [] :=
  World.ownsRow_lit (base := B) (e := 9) (size := 1) w #[] 0 hB (Nat.zero_le _) rfl

set_option maxRecDepth 100000 in
set_option maxHeartbeats 2000000 in
theorem specDirtyNames_any (v : Value) (bs : List Bf) (w : World) (h : RdB w v bs) :
    Calls Try.prog 28 #[v] w (StrsPost (dnOut bs) w) := by
  obtain ⟨A, c, rfl, hm, _⟩ := h.1.form
  unfold maxLen at hm
  obtain ⟨i0, hi, hz0, hz1, hz2⟩ := info_parts str_info
  have H := Lib.hid h
  have HO := Lib.hid (own_emptyS w w.heap.size (Nat.le_refl _))
  have HW : Hid (Below w.heap.size w (w.alloc (.cells #[] 9))) := Lib.hid (by (repeat (first | exact Below.refl _ _ | assumption | refine Below.drew ?_ | refine up_drewN ?_ _ | refine up_alloc ?_ _ | refine up_set ?_ _ _ (by first | exact Nat.le_refl _ | (simp; done) | (simp; omega) | omega) | refine up_trans ?_ (by assumption))))
  have D0 := Lib.hid (show dnOut bs = if bvB bs then dn bs else [] from rfl)
  clear h
  rcases hv : bvB bs with _ | _
  · rw [hv] at D0
    simp only [Bool.false_eq_true, if_false] at D0
    rw [D0.out]
    by_cases h0 : 0 < bs.length
    · have i2 : (0 : Int) < (bs.length : Int) := by omega
      go_enter Try.func28, Try.ntmps28
      go_wp2_with fail
      refine wp_loop_rounds 1 ?_
      rw [rounds_succ]
      go_wp2_with fail
      refine (specBuffersValid_any _ bs _ (H.out.up (by (repeat (first | exact Below.refl _ _ | assumption | refine Below.drew ?_ | refine up_drewN ?_ _ | refine up_alloc ?_ _ | refine up_set ?_ _ _ (by first | exact Nat.le_refl _ | (simp; done) | (simp; omega) | omega) | refine up_trans ?_ (by assumption)))))).mono ?_
      rw [hv]
      rintro e w1 ⟨rfl, hb⟩
      have HO1 := Lib.hid (own_up HO.out hb)
      have HW1 := Lib.hid (up_trans HW.out hb)
      clear hb hv
      go_wp2_with fail
      go_ret
      exact ⟨_, rfl, HO1.out, HW1.out⟩
    · have i2 : ¬ (0 : Int) < (bs.length : Int) := by omega
      have i3 : bs.length = 0 := by omega
      have HL := Lib.hid i3
      clear i3
      go_enter Try.func28, Try.ntmps28
      go_wp2_with fail
      refine wp_loop_rounds 1 ?_
      rw [rounds_succ]
      go_wp2_with fail
      go_ret
      exact ⟨_, rfl, HO.out, HW.out⟩
  · have hl := bvB_len hv
    have HV := Lib.hid (fun v w h => specBuffersValid_any v bs w h)
    rw [hv] at HV D0
    simp only [if_true] at D0
    rw [D0.out]
    clear hv
    go_enter Try.func28, Try.ntmps28
    go_wp2_with fail
    go_loopw [3, 4] (fun v i wr => ∃ (k : Nat) (v0 : Value), k ≤ bs.length ∧ i = .int .i64 k ∧ v0 = v ∧ Hid (Own wr w.heap.size 9 1 v (dn (bs.take k)).length ((dn (bs.take k)).flatMap strC)) ∧ Hid (Below w.heap.size w wr)) (fun _ i _ => bs.length - (intOf i).toNat)
    case atStart => exact ⟨0, _, Nat.zero_le _, rfl, rfl, Lib.hid (by simpa [dn] using HO.out), HW⟩
    case round =>
      obtain ⟨k, v0, hk, rfl, rfl, HOr, HWr⟩ := hrel
      clear HO HW
      by_cases hlt : k < bs.length
      · have i1 : (0 : Int) ≤ (k : Int) := by omega
        have i2 : (k : Int) < (bs.length : Int) := by omega
        have i3 : decide (k < bs.length) = true := decide_eq_true hlt
        go_wp2_with fail
        refine (HV.out _ _ (H.out.up HWr.out)).mono ?_
        rintro e w1 ⟨rfl, hb1⟩
        replace HOr := Lib.hid (own_up HOr.out hb1)
        replace HWr := Lib.hid (up_trans HWr.out hb1)
        clear hb1
        obtain ⟨b, o, rfl, hb, c0, c1, c2⟩ := (H.out.up HWr.out).cells hlt
        have hts := Lib.hid (dn_take bs k hlt)
        have hdl := dn_len (bs.take k)
        rw [List.length_take] at hdl
        obtain ⟨x, hx⟩ : ∃ x, x = bs[k] := ⟨_, rfl⟩
        rw [← hx] at c0 c1 c2
        have HX := Lib.hid hx
        clear hx
        have hsz := HWr.out.size
        rcases hd : (x.body == x.saved) with _ | _
        case' true =>
          have hd2 : ¬ (x.body != x.saved) = true := by simp only [bne, hd]; decide
          have HD := Lib.hid hd2
          clear hd2
          go_wp2_with fail
          go_quiet (fail)
          go_wp2_with fail
          go_roundw
          case rel =>
            refine ⟨k + 1, _, by omega, by go_num, rfl, Lib.hid ?_, Lib.hid (have hQ := HWr.out; by (repeat (first | exact Below.refl _ _ | assumption | refine Below.drew ?_ | refine up_drewN ?_ _ | refine up_alloc ?_ _ | refine up_set ?_ _ _ (by first | exact Nat.le_refl _ | (simp; done) | (simp; omega) | omega) | refine up_trans ?_ (by assumption))))⟩
            rw [hts.out, ← HX.out, if_neg HD.out]
            simpa using own_up HOr.out (show Below w1.heap.size w1 _ by (repeat (first | exact Below.refl _ _ | assumption | refine Below.drew ?_ | refine up_drewN ?_ _ | refine up_alloc ?_ _ | refine up_set ?_ _ _ (by first | exact Nat.le_refl _ | (simp; done) | (simp; omega) | omega) | refine up_trans ?_ (by assumption))))
          case measure => simp [intOf]; omega
        case' false =>
          have hd2 : (x.body != x.saved) = true := by simp only [bne, hd]; decide
          have HD := Lib.hid hd2
          clear hd2
          go_wp2_with fail
          go_quiet (fail)
          have hB : Below w1.heap.size w1 (w1.drewN nq) := by (repeat (first | exact Below.refl _ _ | assumption | refine Below.drew ?_ | refine up_drewN ?_ _ | refine up_alloc ?_ _ | refine up_set ?_ _ _ (by first | exact Nat.le_refl _ | (simp; done) | (simp; omega) | omega) | refine up_trans ?_ (by assumption)))
          have HOq := Lib.hid (own_up HOr.out hB)
          have HWq := Lib.hid (up_trans HWr.out hB)
          clear hB
          go_wp2_with (at_builtin; refine wpList_append_own _ rfl _ _ 48 rfl w.heap.size 9 i0 _ 1 16 Try.underlying48 hi hz0 hz1 hz2 rfl (by decide) _ _ _ rfl (HOq.out.alloc _) ⟨w1.heap.size, 0, none⟩ 1 1 [S x.name] rfl rfl (by intro j u hu; simpa using cells_new (w1.drewN nq) [S x.name] 9 j u hu) (by intro u hu; simp at hu; subst hu; rfl) (by unfold maxLen; omega) (by omega) (by simp; omega) ?_; intro v5 w5 how5 hgr5 _)
          have hW5 := up_grown (up_alloc HWq.out _) hgr5 (own_lt HOr.out (Nat.le_refl _))
          have HO5 := Lib.hid how5
          have HW5 := Lib.hid hW5
          clear how5 hgr5 hW5
          go_wp2_with fail
          go_roundw
          case rel =>
            refine ⟨k + 1, _, by omega, by go_num, rfl, Lib.hid ?_, HW5⟩
            rw [hts.out, ← HX.out, if_pos HD.out, List.length_append, List.flatMap_append]
            exact HO5.out
          case measure => simp [intOf]; omega
      · obtain rfl : k = bs.length := by omega
        have i3 : decide (bs.length < bs.length) = false := decide_eq_false (by omega)
        go_wp2_with fail
        go_ret
        refine ⟨_, rfl, ?_, HWr.out⟩
        have := HOr.out
        rwa [List.take_length] at this

end Go.Proofs.Ytndmidcilbghkaa
