/- What is proved here: contracts of HistoryOf in both, of sameHistory at equal histories, and of DrawTextValid. No condition. -/
import Derived.Test.YtjcdklkdpcncgaaHistF
import Derived.Test.YtjcdklkdpcncgaaDrawT
import Derived.Test.YtjcdklkdpcncgaaAlive
import Derived.Deep.QuietTactic
import Derived.BigQuiet
namespace Go.Proofs.Ytjcdklkdpcncgaa
open Go.RowKit
set_option linter.unusedVariables false

set_option maxRecDepth 100000 in
set_option maxHeartbeats 1000000 in
theorem implHistoryOf_any (w : World) : Calls Try.prog 30 #[] w (CopyPost [m0] 0 w) := by
  have HO := Lib.hid (fun ob => World.ownsRow_lit (base := w.heap.size) (e := 56) (size := 7) (w.alloc ob) (moC m0).toArray 1 (by simp) (by decide) rfl)
  go_enter Try.func30, Try.ntmps30
  go_wp2_with fail
  refine bodyPost_ret (v := .agg #[.slice (some ⟨w.heap.size + 1, 0, none⟩) 1 1, .int .i64 0]) (by simp [results, Try.results30, go_sem]) rfl ⟨_, rfl, ?_, by (repeat (first | exact Below.refl _ _ | assumption | refine Below.drew ?_ | refine up_drewN ?_ _ | refine up_alloc ?_ _ | refine up_set ?_ _ _ (by first | exact Nat.le_refl _ | (simp; done) | (simp; omega) | omega) | refine up_trans ?_ (by assumption)))⟩
  have h := HO.out (.cells #[.slice (some ⟨w.heap.size + 1, 0, none⟩) 1 1, .int .i64 0] 28)
  simp at h
  exact h

set_option maxRecDepth 100000 in
set_option maxHeartbeats 1000000 in
theorem specHistoryOf_any (w : World) : Calls Try.prog 33 #[] w (CopyPost [m0] 0 w) := by
  have HO := Lib.hid (fun ob => World.ownsRow_lit (base := w.heap.size) (e := 56) (size := 7) (w.alloc ob) (moC m0).toArray 1 (by simp) (by decide) rfl)
  go_enter Try.func33, Try.ntmps33
  go_wp2_with fail
  refine bodyPost_ret (v := .agg #[.slice (some ⟨w.heap.size + 1, 0, none⟩) 1 1, .int .i64 0]) (by simp [results, Try.results33, go_sem]) rfl ⟨_, rfl, ?_, by (repeat (first | exact Below.refl _ _ | assumption | refine Below.drew ?_ | refine up_drewN ?_ _ | refine up_alloc ?_ _ | refine up_set ?_ _ _ (by first | exact Nat.le_refl _ | (simp; done) | (simp; omega) | omega) | refine up_trans ?_ (by assumption)))⟩
  have h := HO.out (.cells #[.slice (some ⟨w.heap.size + 1, 0, none⟩) 1 1, .int .i64 0] 28)
  simp at h
  exact h

set_option maxRecDepth 100000 in
set_option maxHeartbeats 1000000 in
theorem sameHistory_same (u v : Value) (ms : List Mo) (a : Int) (w : World) (hu : RdM w u ms) (hv : RdM w v ms) :
    Calls Try.prog 32 #[.agg #[u, .int .i64 a], .agg #[v, .int .i64 a]] w fun e w' => e = .returned (.bool true) ∧ Below w.heap.size w w' := by
  obtain ⟨A, c, rfl, hm, _⟩ := hu.1.form
  obtain ⟨B, d, rfl, _, _⟩ := hv.1.form
  unfold maxLen at hm
  have hW : Below w.heap.size w ((w.alloc (.cells #[.slice A ms.length c, .int .i64 a] 28)).alloc (.cells #[.slice B ms.length d, .int .i64 a] 28)) := by (repeat (first | exact Below.refl _ _ | assumption | refine Below.drew ?_ | refine up_drewN ?_ _ | refine up_alloc ?_ _ | refine up_set ?_ _ _ (by first | exact Nat.le_refl _ | (simp; done) | (simp; omega) | omega) | refine up_trans ?_ (by assumption)))
  have U := Lib.hid (hu.up hW)
  have V := Lib.hid (hv.up hW)
  clear hu hv
  have XY : Hid (∀ wr : World, Below ((w.alloc (.cells #[.slice A ms.length c, .int .i64 a] 28)).alloc (.cells #[.slice B ms.length d, .int .i64 a] 28)).heap.size ((w.alloc (.cells #[.slice A ms.length c, .int .i64 a] 28)).alloc (.cells #[.slice B ms.length d, .int .i64 a] 28)) wr → wr.cell? ⟨w.heap.size, 0, none⟩ = some (.slice A ms.length c) ∧ wr.cell? ⟨w.heap.size + 1, 0, none⟩ = some (.slice B ms.length d)) :=
    Lib.hid (fun wr hb => ⟨(hb.cell (p := ⟨w.heap.size, 0, none⟩) (by simp; omega)).trans (by simp [go_sem]), (hb.cell (p := ⟨w.heap.size + 1, 0, none⟩) (by simp)).trans (by simp [go_sem])⟩)
  have HW2 := Lib.hid hW
  have R0 := Lib.hid (Below.refl ((w.alloc (.cells #[.slice A ms.length c, .int .i64 a] 28)).alloc (.cells #[.slice B ms.length d, .int .i64 a] 28)).heap.size ((w.alloc (.cells #[.slice A ms.length c, .int .i64 a] 28)).alloc (.cells #[.slice B ms.length d, .int .i64 a] 28)))
  clear hW
  go_enter Try.func32, Try.ntmps32
  go_wp2_with fail
  generalize (w.alloc (.cells #[.slice A ms.length c, .int .i64 a] 28)).alloc (.cells #[.slice B ms.length d, .int .i64 a] 28) = W2 at *
  go_loopw [5] (fun i wr => ∃ k : Nat, k ≤ ms.length ∧ i = .int .i64 k ∧ Hid (Below W2.heap.size W2 wr)) (fun i _ => ms.length - (intOf i).toNat)
  case atStart => exact ⟨0, Nat.zero_le _, by first | rfl | go_num, R0⟩
  case round =>
    obtain ⟨k, hk, rfl, HB⟩ := hrel
    obtain ⟨x0, y0⟩ := XY.out wr HB.out
    have hW := HW2.out
    have hB := HB.out
    clear R0
    by_cases hlt : k < ms.length
    · have i1 : (0 : Int) ≤ (k : Int) := by omega
      have i2 : (k : Int) < (ms.length : Int) := by omega
      obtain ⟨b, o, rfl, hb, q0, q1, q2, q3, q4, q5, q6⟩ := (U.out.up hB).cells (k := k) hlt rfl
      obtain ⟨b', o', rfl, hb', r0, r1, r2, r3, r4, r5, r6⟩ := (V.out.up hB).cells (k := k) hlt rfl
      generalize ms.getD k m0 = m at *
      obtain ⟨p, ⟨fa, fc, fp⟩, ⟨ba, bc, bp⟩⟩ := m
      simp only at q0 q1 q2 q3 q4 q5 q6 r0 r1 r2 r3 r4 r5 r6
      go_wp2_with fail
      go_quiet (fail)
      go_wp2_with fail
      go_roundw
      case rel => exact ⟨k + 1, by omega, by go_num, Lib.hid (by (repeat (first | exact Below.refl _ _ | assumption | refine Below.drew ?_ | refine up_drewN ?_ _ | refine up_alloc ?_ _ | refine up_set ?_ _ _ (by first | exact Nat.le_refl _ | (simp; done) | (simp; omega) | omega) | refine up_trans ?_ (by assumption))))⟩
      case measure => simp [intOf]; omega
    · go_wp2_with fail
      go_ret
      exact ⟨rfl, up_trans hW hB⟩

def DrawTxtPost (w : World) (e : Ending) (w' : World) : Prop := ∃ s : List UInt8, e = .returned (S s) ∧ s.length ≤ 130 ∧ Below w.heap.size w w'
theorem drawTextValid_any (v : Value) (n : Nat) (zs : List Int) (w : World) (h : Bytes w w.heap.size v n zs) :
    Calls Try.prog 31 #[v] w (DrawTxtPost w) := by
  go_enter Try.func31, Try.ntmps31
  go_wp2_with fail
  refine (open_any v n zs _ h).mono ?_
  rintro e w1 ⟨g, m, ys, rfl, hr, hb, hg⟩
  go_wp2_with fail
  refine (l20Text_any _ _ _ _ _ _ hr (by omega)).mono ?_
  rintro e w2 ⟨s, rfl, hs, -, hb2⟩
  have hW := Lib.hid (below_of_gb (gb_trans (gb_below (World.grownBy.refl _ _) hb) hb2) hg)
  clear hb hb2
  go_wp2_with fail
  go_ret
  exact ⟨_, rfl, hs, hW.out⟩

end Go.Proofs.Ytjcdklkdpcncgaa
