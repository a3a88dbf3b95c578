/- What is proved here: contracts of szBufferS, toBufferS and eqBufferS. No condition. -/
import Derived.Test.YtiimlnefighlgaaBuf2
namespace Go.Proofs.Ytiimlnefighlgaa
open Go.RowKit

theorem szBuffer_any (x : Bf) (q : Int) (w : World) (hx : x.name.length ≤ maxLen ∧ x.body.length ≤ maxLen ∧ x.saved.length ≤ maxLen) (h0 : 0 ≤ q) (h1 : q ≤ 1048576) :
    Calls Try.prog 55 #[.agg #[S x.name, S x.body, S x.saved], .int .i64 q] w fun e w' => e = .returned (.int .i64 (if q < x.name.length + x.body.length + x.saved.length then -1 else q - (x.name.length + x.body.length + x.saved.length))) ∧ Below w.heap.size w w' := by
  obtain ⟨hx1, hx2, hx3⟩ := hx
  unfold maxLen at hx1 hx2 hx3
  by_cases t1 : q < x.name.length
  · rw [if_pos (by omega)]
    go_enter Try.func55, Try.ntmps55
    go_wp2_with fail
    go_ret
    exact ⟨rfl, by (repeat (first | exact Below.refl _ _ | assumption | refine Below.drew ?_ | refine up_drewN ?_ _ | refine up_alloc ?_ _ | refine up_set ?_ _ _ (by first | exact Nat.le_refl _ | (simp; done) | (simp; omega) | omega) | refine up_trans ?_ (by assumption)))⟩
  · by_cases t2 : q - x.name.length < x.body.length
    · rw [if_pos (by omega)]
      go_enter Try.func55, Try.ntmps55
      go_wp2_with fail
      go_ret
      exact ⟨rfl, by (repeat (first | exact Below.refl _ _ | assumption | refine Below.drew ?_ | refine up_drewN ?_ _ | refine up_alloc ?_ _ | refine up_set ?_ _ _ (by first | exact Nat.le_refl _ | (simp; done) | (simp; omega) | omega) | refine up_trans ?_ (by assumption)))⟩
    · by_cases t3 : q - x.name.length - x.body.length < x.saved.length
      · rw [if_pos (by omega)]
        go_enter Try.func55, Try.ntmps55
        go_wp2_with fail
        go_ret
        exact ⟨rfl, by (repeat (first | exact Below.refl _ _ | assumption | refine Below.drew ?_ | refine up_drewN ?_ _ | refine up_alloc ?_ _ | refine up_set ?_ _ _ (by first | exact Nat.le_refl _ | (simp; done) | (simp; omega) | omega) | refine up_trans ?_ (by assumption)))⟩
      · rw [if_neg (by omega)]
        go_enter Try.func55, Try.ntmps55
        go_wp2_with fail
        go_ret
        exact ⟨ret_int (by omega), by (repeat (first | exact Below.refl _ _ | assumption | refine Below.drew ?_ | refine up_drewN ?_ _ | refine up_alloc ?_ _ | refine up_set ?_ _ _ (by first | exact Nat.le_refl _ | (simp; done) | (simp; omega) | omega) | refine up_trans ?_ (by assumption)))⟩

/-- the files are small. -/
def Small (bs : List Bf) : Prop := bs.length ≤ 1048576 ∧ ∀ b ∈ bs, b.name.length ≤ 1048576 ∧ b.body.length ≤ 1048576 ∧ b.saved.length ≤ 1048576
def SzPost (bs : List Bf) (w : World) (e : Ending) (w' : World) : Prop := ∃ r : Int, e = .returned (.int .i64 r) ∧ r ≤ 1048576 ∧ (0 ≤ r → Small bs) ∧ Below w.heap.size w w'

theorem szBufferS_any (v : Value) (bs : List Bf) (q : Int) (w : World) (h : RdB w v bs) (h0 : 0 ≤ q) (h1 : q ≤ 1048576) :
    Calls Try.prog 28 #[v, .int .i64 q] w (SzPost bs w) := by
  obtain ⟨A, c, rfl, hm, _⟩ := h.1.form
  unfold maxLen at hm
  by_cases hn : q < bs.length
  · go_enter Try.func28, Try.ntmps28
    go_wp2_with fail
    go_ret
    exact ⟨-1, rfl, by omega, fun h => absurd h (by omega), Below.refl _ _⟩
  · go_enter Try.func28, Try.ntmps28
    go_wp2_with fail
    go_loopw [1, 5] (fun r i wr => ∃ (k : Nat) (d : Int), k ≤ bs.length ∧ i = .int .i64 k ∧ r = .int .i64 d ∧ 0 ≤ d ∧ d ≤ 1048576 ∧ Hid (∀ b ∈ bs.take k, b.name.length ≤ 1048576 ∧ b.body.length ≤ 1048576 ∧ b.saved.length ≤ 1048576) ∧ Below w.heap.size w wr) (fun _ i _ => bs.length - (intOf i).toNat)
    case atStart => exact ⟨0, q - bs.length, Nat.zero_le _, rfl, rfl, by omega, by omega, Lib.hid (by simp), Below.refl _ _⟩
    case round =>
      obtain ⟨k, d, hk, rfl, rfl, hd0, hd1, hall, hW⟩ := hrel
      by_cases hlt : k < bs.length
      · have i1 : (0 : Int) ≤ (k : Int) := by omega
        have i2 : (k : Int) < (bs.length : Int) := by omega
        have hmem := h.2 _ (List.getElem_mem hlt)
        obtain ⟨b, o, rfl, hb, c0, c1, c2⟩ := (h.up hW).cells hlt
        have hts := Lib.hid (List.take_succ_eq_append_getElem hlt)
        obtain ⟨x, hx⟩ : ∃ x, x = bs[k] := ⟨_, rfl⟩
        rw [← hx] at c0 c1 c2 hmem
        have HX := Lib.hid hx
        clear hx
        by_cases hle : d < x.name.length + x.body.length + x.saved.length
        · go_wp2_with fail
          refine (szBuffer_any x _ _ hmem hd0 hd1).mono ?_
          rintro e w1 ⟨rfl, hb1⟩
          rw [if_pos (by omega)]
          go_wp2_with fail
          go_ret
          exact ⟨-1, rfl, by omega, fun h => absurd h (by omega), by (repeat (first | exact Below.refl _ _ | assumption | refine Below.drew ?_ | refine up_drewN ?_ _ | refine up_alloc ?_ _ | refine up_set ?_ _ _ (by first | exact Nat.le_refl _ | (simp; done) | (simp; omega) | omega) | refine up_trans ?_ (by assumption)))⟩
        · go_wp2_with fail
          refine (szBuffer_any x _ _ hmem hd0 hd1).mono ?_
          rintro e w1 ⟨rfl, hb1⟩
          rw [if_neg (by omega)]
          obtain ⟨d', hd'⟩ : ∃ d' : Int, d' = d - (x.name.length + x.body.length + x.saved.length) := ⟨_, rfl⟩
          rw [← hd']
          have g1 : 0 ≤ d' := by omega
          have g2 : d' ≤ 1048576 := by omega
          have g3 : x.name.length ≤ 1048576 ∧ x.body.length ≤ 1048576 ∧ x.saved.length ≤ 1048576 := by omega
          clear hd' hle
          go_wp2_with fail
          go_roundw
          case rel =>
            refine ⟨k + 1, d', by omega, by go_num, rfl, g1, g2, Lib.hid ?_, by (repeat (first | exact Below.refl _ _ | assumption | refine Below.drew ?_ | refine up_drewN ?_ _ | refine up_alloc ?_ _ | refine up_set ?_ _ _ (by first | exact Nat.le_refl _ | (simp; done) | (simp; omega) | omega) | refine up_trans ?_ (by assumption)))⟩
            rw [hts.out]
            intro b' hb'
            rw [List.mem_append, List.mem_singleton] at hb'
            rcases hb' with hb' | rfl
            · exact hall.out b' hb'
            · rw [← HX.out]; exact g3
          case measure => simp [intOf]; omega
      · obtain rfl : k = bs.length := by omega
        have hst := Lib.hid (show Small bs from ⟨by omega, by have := hall.out; rwa [List.take_length] at this⟩)
        go_wp2_with fail
        go_ret
        exact ⟨d, rfl, hd1, fun _ => hst.out, hW⟩

theorem toBuffer_any (x : Bf) (w : World) :
    Calls Try.prog 59 #[.agg #[S x.name, S x.body, S x.saved]] w fun e w' => e = .returned (.agg #[S x.name, S x.body, S x.saved]) ∧ Below w.heap.size w w' := by
  go_enter Try.func59, Try.ntmps59
  go_wp2
  refine bodyPost_ret (v := .agg #[S x.name, S x.body, S x.saved]) (by simp [results, Try.results59, go_sem]) rfl ⟨rfl, ?_⟩
  (repeat (first | exact Below.refl _ _ | assumption | refine Below.drew ?_ | refine up_drewN ?_ _ | refine up_alloc ?_ _ | refine up_set ?_ _ _ (by first | exact Nat.le_refl _ | (simp; done) | (simp; omega) | omega) | refine up_trans ?_ (by assumption)))

end Go.Proofs.Ytiimlnefighlgaa
