/- What is proved here: the contract of the program's DirtyNames. No condition. -/
import Derived.Test.YtndmidcilbghkaaDn
import Derived.Test.YtndmidcilbghkaaApp
namespace Go.Proofs.Ytndmidcilbghkaa
open Go.RowKit

/-- what a call gives that returns texts. -/
def StrsPost (xs : List (List UInt8)) (w : World) (e : Ending) (w' : World) : Prop :=
  ∃ v, e = .returned v ∧ Own w' w.heap.size 9 1 v xs.length (xs.flatMap strC) ∧ Below w.heap.size w w'

set_option maxRecDepth 100000 in
set_option maxHeartbeats 1000000 in
theorem implDirtyNames_any (v : Value) (bs : List Bf) (w : World) (h : RdB w v bs) :
    Calls Try.prog 26 #[v] w (StrsPost (dnOut bs) w) := by
  have hW := Below.refl w.heap.size w
  obtain ⟨A, c, rfl, _, _⟩ := h.1.form
  obtain ⟨i0, hi, hz0, hz1, hz2⟩ := info_parts str_info
  rcases hv : bvB bs with _ | _
  · have H1 := Lib.hid (show dnOut bs = [] by unfold dnOut; rw [hv]; rfl)
    go_enter Try.func26, Try.ntmps26
    go_wp2_with fail
    refine (implBuffersValid_any _ bs _ h).mono ?_
    rintro e w1 ⟨rfl, hb⟩
    go_wp2_with fail
    go_ret
    rw [H1.out]
    exact ⟨_, rfl, World.ownsRow_nil _ _ _ _, hb⟩
  · have hl := bvB_len hv
    have H1 := Lib.hid (show dnOut bs = dn bs by unfold dnOut; rw [hv]; rfl)
    rw [H1.out]
    have H := Lib.hid h
    clear h
    go_enter Try.func26, Try.ntmps26
    go_wp2_with fail
    refine (implBuffersValid_any _ bs _ H.out).mono ?_
    rintro e w1 ⟨rfl, hb⟩
    have hB : Below w.heap.size w w1 := (by (repeat (first | exact Below.refl _ _ | assumption | refine Below.drew ?_ | refine up_drewN ?_ _ | refine up_alloc ?_ _ | refine up_set ?_ _ _ (by first | exact Nat.le_refl _ | (simp; done) | (simp; omega) | omega) | refine up_trans ?_ (by assumption)))); have sw1 := hB.size; replace hW := up_trans hW hB; clear hB
    clear hb
    have HW := Lib.hid hW
    clear hW
    go_wp2_with fail
    go_loopw [3, 11] (fun v i wr => ∃ (k : Nat) (v0 : Value), k ≤ bs.length ∧ i = .int .i64 k ∧ v0 = v ∧ Hid (Own wr w.heap.size 9 1 v (dn (bs.take k)).length ((dn (bs.take k)).flatMap strC)) ∧ Hid (Below w.heap.size w wr)) (fun _ i _ => bs.length - (intOf i).toNat)
    case atStart => exact ⟨0, _, Nat.zero_le _, rfl, rfl, Lib.hid (by simpa [dn] using World.ownsRow_nil _ _ _ _), HW⟩
    case round =>
      obtain ⟨k, v0, hk, rfl, rfl, HO, HWr⟩ := hrel
      by_cases hlt : k < bs.length
      · have i1 : (0 : Int) ≤ (k : Int) := by omega
        have i2 : (k : Int) < (bs.length : Int) := by omega
        obtain ⟨b, o, rfl, hb, c0, c1, c2⟩ := (H.out.up HWr.out).cells hlt
        have hts := Lib.hid (dn_take bs k hlt)
        have hdl := dn_len (bs.take k)
        rw [List.length_take] at hdl
        obtain ⟨x, hx⟩ : ∃ x, x = bs[k] := ⟨_, rfl⟩
        rw [← hx] at c0 c1 c2
        have HX := Lib.hid hx
        clear hx
        have hsz := HWr.out.size
        rcases hd : (x.body == x.saved) with _ | _
        case' true =>
          have hd2 : ¬ (x.body != x.saved) = true := by simp only [bne, hd]; decide
          have HD := Lib.hid hd2
          clear hd2
          go_wp2_with fail
          go_roundw
          case rel =>
            refine ⟨k + 1, _, by omega, by go_num, rfl, Lib.hid ?_, Lib.hid (have hQ := HWr.out; by (repeat (first | exact Below.refl _ _ | assumption | refine Below.drew ?_ | refine up_drewN ?_ _ | refine up_alloc ?_ _ | refine up_set ?_ _ _ (by first | exact Nat.le_refl _ | (simp; done) | (simp; omega) | omega) | refine up_trans ?_ (by assumption))))⟩
            rw [hts.out, ← HX.out, if_neg HD.out]
            simpa using HO.out.alloc _
          case measure => simp [intOf]; omega
        case' false =>
          have hd2 : (x.body != x.saved) = true := by simp only [bne, hd]; decide
          have HD := Lib.hid hd2
          clear hd2
          go_wp2_with (at_builtin; refine wpList_append_own _ rfl _ _ 48 rfl w.heap.size 9 i0 _ 1 16 Try.underlying48 hi hz0 hz1 hz2 rfl (by decide) _ _ _ rfl ((HO.out.alloc _).alloc _) ⟨wr.heap.size + 1, 0, none⟩ 1 1 [S x.name] rfl rfl (by intro j u hu; simpa using cells_new (wr.alloc _) [S x.name] 9 j u hu) (by intro u hu; simp at hu; subst hu; rfl) (by unfold maxLen; omega) (by omega) (by simp; omega) ?_; intro v5 w5 how5 hgr5 _)
          have hW5 := up_grown (up_alloc (up_alloc HWr.out _) _) hgr5 (own_lt HO.out (Nat.le_refl _))
          have HO5 := Lib.hid how5
          have HW5 := Lib.hid hW5
          clear how5 hgr5 hW5
          go_wp2_with fail
          go_roundw
          case rel =>
            refine ⟨k + 1, _, by omega, by go_num, rfl, Lib.hid ?_, HW5⟩
            rw [hts.out, ← HX.out, if_pos HD.out, List.length_append, List.flatMap_append]
            exact HO5.out
          case measure => simp [intOf]; omega
      · obtain rfl : k = bs.length := by omega
        go_wp2_with fail
        go_ret
        refine ⟨_, rfl, ?_, HWr.out⟩
        have := HO.out
        rwa [List.take_length] at this

end Go.Proofs.Ytndmidcilbghkaa
