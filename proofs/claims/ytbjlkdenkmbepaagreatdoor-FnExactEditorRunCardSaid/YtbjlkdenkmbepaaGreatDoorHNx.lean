/- What is proved here: What is proved here: contracts of HistoryOf in both, of sameHistory at equal histories, and of DrawTextValid. What is proved here: the reference's functions of histories lead from valid histories to valid histories. No condition. -/
import Derived.Test.YtbjlkdenkmbepaaGreatDoorHistF
import Derived.Test.YtbjlkdenkmbepaaGreatDoorDrawT
import Derived.Test.YtbjlkdenkmbepaaGreatDoorLin2
import Derived.Deep.QuietTactic
import Derived.BigQuiet
import Derived.Test.YtbjlkdenkmbepaaGreatDoorHistJ
namespace Go.Proofs.YtbjlkdenkmbepaaGreatDoor
open Go.RowKit
set_option linter.unusedVariables false


set_option maxRecDepth 100000 in
set_option maxHeartbeats 1000000 in
theorem specHistoryOf_any (w : World) : Calls Tryz.prog 72 #[] w (CopyPost [m0] 0 w) := by
  have HO := Lib.hid (fun ob => World.ownsRow_lit (base := w.heap.size) (e := 96) (size := 7) (w.alloc ob) (moC m0).toArray 1 (by simp) (by decide) rfl)
  go_enter Tryz.func72, Tryz.ntmps72
  go_wp2_with fail
  refine bodyPost_ret (v := .agg #[.slice (some ⟨w.heap.size + 1, 0, none⟩) 1 1, .int .i64 0]) (by simp [results, Tryz.results72, go_sem]) rfl ⟨_, rfl, ?_, by exact bBel⟩
  have h := HO.out (.cells #[.slice (some ⟨w.heap.size + 1, 0, none⟩) 1 1, .int .i64 0] 25)
  simp at h
  exact h

set_option maxRecDepth 100000 in
set_option maxHeartbeats 1000000 in
theorem sameHistory_same (u v : Value) (ms : List Mo) (a : Int) (w : World) (hu : RdM w u ms) (hv : RdM w v ms) :
    Calls Tryz.prog 49 #[.agg #[u, .int .i64 a], .agg #[v, .int .i64 a]] w fun e w' => e = .returned (.bool true) ∧ Below w.heap.size w w' := by
  obtain ⟨A, c, rfl, hm, _⟩ := hu.1.form
  obtain ⟨B, d, rfl, _, _⟩ := hv.1.form
  unfold maxLen at hm
  have hW : Below w.heap.size w ((w.alloc (.cells #[.slice A ms.length c, .int .i64 a] 25)).alloc (.cells #[.slice B ms.length d, .int .i64 a] 25)) := by exact bBel
  have U := Lib.hid (hu.up hW)
  have V := Lib.hid (hv.up hW)
  clear hu hv
  have XY : Hid (∀ wr : World, Below ((w.alloc (.cells #[.slice A ms.length c, .int .i64 a] 25)).alloc (.cells #[.slice B ms.length d, .int .i64 a] 25)).heap.size ((w.alloc (.cells #[.slice A ms.length c, .int .i64 a] 25)).alloc (.cells #[.slice B ms.length d, .int .i64 a] 25)) wr → wr.cell? ⟨w.heap.size, 0, none⟩ = some (.slice A ms.length c) ∧ wr.cell? ⟨w.heap.size + 1, 0, none⟩ = some (.slice B ms.length d)) :=
    Lib.hid (fun wr hb => ⟨(hb.cell (p := ⟨w.heap.size, 0, none⟩) (by simp; omega)).trans (by simp [go_sem]), (hb.cell (p := ⟨w.heap.size + 1, 0, none⟩) (by simp)).trans (by simp [go_sem])⟩)
  have HW2 := Lib.hid hW
  have R0 := Lib.hid (Below.refl ((w.alloc (.cells #[.slice A ms.length c, .int .i64 a] 25)).alloc (.cells #[.slice B ms.length d, .int .i64 a] 25)).heap.size ((w.alloc (.cells #[.slice A ms.length c, .int .i64 a] 25)).alloc (.cells #[.slice B ms.length d, .int .i64 a] 25)))
  clear hW
  go_enter Tryz.func49, Tryz.ntmps49
  go_wp2_with fail
  generalize (w.alloc (.cells #[.slice A ms.length c, .int .i64 a] 25)).alloc (.cells #[.slice B ms.length d, .int .i64 a] 25) = W2 at *
  go_loopw [5] (fun i wr => ∃ k : Nat, k ≤ ms.length ∧ i = .int .i64 k ∧ Hid (Below W2.heap.size W2 wr)) (fun i _ => ms.length - (intOf i).toNat)
  case atStart => exact ⟨0, Nat.zero_le _, by first | rfl | go_num, R0⟩
  case round =>
    obtain ⟨k, hk, rfl, HB⟩ := hrel
    obtain ⟨x0, y0⟩ := XY.out wr HB.out
    have hW := HW2.out
    have hB := HB.out
    clear R0
    by_cases hlt : k < ms.length
    · have i1 : (0 : Int) ≤ (k : Int) := by omega
      have i2 : (k : Int) < (ms.length : Int) := by omega
      obtain ⟨b, o, rfl, hb, q0, q1, q2, q3, q4, q5, q6⟩ := (U.out.up hB).cells (k := k) hlt rfl
      obtain ⟨b', o', rfl, hb', r0, r1, r2, r3, r4, r5, r6⟩ := (V.out.up hB).cells (k := k) hlt rfl
      generalize ms.getD k m0 = m at *
      obtain ⟨p, ⟨fa, fc, fp⟩, ⟨ba, bc, bp⟩⟩ := m
      simp only at q0 q1 q2 q3 q4 q5 q6 r0 r1 r2 r3 r4 r5 r6
      go_wp2_with fail
      go_quiet (fail)
      go_wp2_with fail
      go_roundw
      case rel => exact ⟨k + 1, by omega, by go_num, Lib.hid (by exact bBel)⟩
      case measure => simp [intOf]; omega
    · go_wp2_with fail
      go_ret
      exact ⟨rfl, up_trans hW hB⟩


end Go.Proofs.YtbjlkdenkmbepaaGreatDoor

namespace Go.Proofs.YtbjlkdenkmbepaaGreatDoor
open Go.RowKit
set_option linter.unusedVariables false

theorem rdM_good {w : World} {base : Nat} {v : Value} {ms : List Mo} {a : Int} {s : List UInt8} {o : List (List UInt8)} (h : OwnM w base v ms) (hg : HGood ms a s o) : RdM w v ms := ⟨RdL.of_own h, fun m hm => by
  obtain ⟨k, hk, rfl⟩ := List.getElem_of_mem hm
  have := hg.put hk
  rw [getD_at ms m0 k hk] at this
  omega⟩
theorem good_one {s : List UInt8} (h : tv s = true) : HGood [m0] 0 s [s] :=
  ⟨h, by decide, by decide, by decide, by decide, rfl, rfl, h, fun k h0 h1 => by simp at h1; omega, rfl⟩
theorem HGood.go {ms : List Mo} {a : Int} {s : List UInt8} {o : List (List UInt8)} (h : HGood ms a s o) (to_ : Int) : HGood ms (toAt ms.length a to_) (toText ms.length o s to_) o := by
  unfold toAt toText
  rcases hi : inB to_ 0 ((ms.length : Int) - 1) with _ | _
  · exact h
  · have hi2 := inB_iff.1 hi
    have n1 := h.n1
    show HGood ms to_ (o.getD to_.toNat []) o
    exact ⟨h.tvs _ (by omega), h.n1, h.n30, hi2.1, by omega, h.m, h.len, h.first, h.step, rfl⟩
theorem HGood.more {ms : List Mo} {a : Int} {s : List UInt8} {o : List (List UInt8)} (h : HGood ms a s o) (x : Ch) (hx : okF s x = true) (h30 : ms.length ≠ 30) : HGood (ms ++ [⟨a, x, rvF s x⟩]) ms.length (apF s x) (o ++ [apF s x]) := by
  have n1 := h.n1
  have n30 := h.n30
  have a0 := h.a0
  have a1 := h.a1
  have hl := h.len
  have key : ∀ k, k < ms.length → (ms ++ [(⟨a, x, rvF s x⟩ : Mo)]).getD k m0 = ms.getD k m0 := fun k hk => getD_app ms _ _ k hk
  have keo : ∀ k, k < ms.length → (o ++ [apF s x]).getD k [] = o.getD k [] := fun k hk => getD_app o _ _ k (by omega)
  refine ⟨(okF_tv hx).2, by simp, by simp; omega, by omega, by simp; omega, by rw [key 0 (by omega)]; exact h.m, by simp [hl], by rw [keo 0 (by omega)]; exact h.first, fun k h0 hk => ?_, ?_⟩
  · by_cases hkl : k < ms.length
    · obtain ⟨s1, s2, s3, s4, s5⟩ := h.step k h0 hkl
      unfold Step
      rw [key k hkl, keo k hkl, keo (ms.getD k m0).par.toNat (by omega)]
      exact ⟨s1, s2, s3, s4, s5⟩
    · obtain rfl : k = ms.length := by simp at hk; omega
      unfold Step
      rw [getD_last ms _ _]
      simp only
      rw [keo a.toNat (by omega), h.at_]
      refine ⟨a0, a1, hx, rfl, ?_⟩
      rw [← hl]
      exact getD_last o _ _
  · rw [Int.toNat_natCast, ← hl]
    exact getD_last o _ _


end Go.Proofs.YtbjlkdenkmbepaaGreatDoor
