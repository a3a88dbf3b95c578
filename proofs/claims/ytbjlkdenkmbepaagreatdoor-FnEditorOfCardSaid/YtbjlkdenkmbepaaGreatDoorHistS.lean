/- What is proved here: contracts of szMoment, szMomentS and szHistory. No condition. -/
import Derived.Test.YtbjlkdenkmbepaaGreatDoorHistM
namespace Go.Proofs.YtbjlkdenkmbepaaGreatDoor
open Go.RowKit
set_option linter.unusedVariables false

/-- a slice of states as an argument gives it. -/
def RdM0 (w : World) (v : Value) (ms : List Mo) : Prop := RdL w 7 moC v ms ∧ ∀ m ∈ ms, m.f.p.length ≤ maxLen ∧ m.b.p.length ≤ maxLen
theorem RdM0.up {w w' : World} {v : Value} {ms : List Mo} (h : RdM0 w v ms) (hb : Below w.heap.size w w') : RdM0 w' v ms := ⟨h.1.up hb, h.2⟩
theorem RdM0.cells {w : World} {A : Option Addr} {n c : Nat} {ms : List Mo} (h : RdM0 w (.slice A n c) ms) {k : Nat} (hk : k < ms.length) {m : Mo} (e : ms[k] = m) :
    ∃ b o, A = some ⟨b, o, none⟩ ∧ b < w.heap.size ∧ w.cell? ⟨b, o + k * 7, none⟩ = some (.int .i64 m.par) ∧ w.cell? ⟨b, o + k * 7 + 1, none⟩ = some (.int .i64 m.f.a) ∧ w.cell? ⟨b, o + k * 7 + 2, none⟩ = some (.int .i64 m.f.c) ∧
      w.cell? ⟨b, o + k * 7 + 3, none⟩ = some (S m.f.p) ∧ w.cell? ⟨b, o + k * 7 + 4, none⟩ = some (.int .i64 m.b.a) ∧ w.cell? ⟨b, o + k * 7 + 5, none⟩ = some (.int .i64 m.b.c) ∧ w.cell? ⟨b, o + k * 7 + 6, none⟩ = some (S m.b.p) := by
  obtain ⟨b, o, hA, hb, hc⟩ := h.1.cells moC_len hk
  rw [e] at hc
  exact ⟨b, o, hA, hb, hc 0 _ rfl, hc 1 _ rfl, hc 2 _ rfl, hc 3 _ rfl, hc 4 _ rfl, hc 5 _ rfl, hc 6 _ rfl⟩
def moAgg (m : Mo) : Value := .agg #[.int .i64 m.par, .int .i64 m.f.a, .int .i64 m.f.c, S m.f.p, .int .i64 m.b.a, .int .i64 m.b.c, S m.b.p]

set_option maxRecDepth 100000 in
set_option maxHeartbeats 1000000 in
theorem szMoment_any (m : Mo) (q : Int) (w : World) (h1 : m.f.p.length ≤ maxLen) (h2 : m.b.p.length ≤ maxLen) (h0 : 0 ≤ q) (hq : q ≤ 1048576) :
    Calls Tryz.prog 137 #[moAgg m, .int .i64 q] w fun e w' => e = .returned (.int .i64 (if q < m.f.p.length + m.b.p.length then -1 else q - (m.f.p.length + m.b.p.length))) ∧ Below w.heap.size w w' := by
  obtain ⟨p, ⟨fa, fc, fp⟩, ⟨ba, bc, bp⟩⟩ := m
  simp only at h1 h2 ⊢
  have C := Lib.hid (fun (a c : Int) (p : List UInt8) (q : Int) (w : World) (hp : p.length ≤ maxLen) (h0 : 0 ≤ q) (h1 : q ≤ 1048576) => szChange_any a c p q w hp h0 h1)
  unfold chV at C
  unfold moAgg
  by_cases t1 : q < fp.length
  · rw [if_pos (by omega)]
    go_enter Tryz.func137, Tryz.ntmps137
    go_wp2_with fail
    refine (C.out _ _ _ _ _ h1 h0 hq).mono ?_
    rintro e w1 ⟨rfl, hb⟩
    rw [if_pos t1]
    have hW : Below w.heap.size w w1 := by (repeat (first | exact Below.refl _ _ | assumption | refine Below.drew ?_ | refine up_drewN ?_ _ | refine up_alloc ?_ _ | refine up_set ?_ _ _ (by first | exact Nat.le_refl _ | (simp; done) | (simp; omega) | omega) | refine up_trans ?_ (by assumption)))
    clear hb
    go_wp2_with fail
    go_ret
    exact ⟨rfl, by (repeat (first | exact Below.refl _ _ | assumption | refine Below.drew ?_ | refine up_drewN ?_ _ | refine up_alloc ?_ _ | refine up_set ?_ _ _ (by first | exact Nat.le_refl _ | (simp; done) | (simp; omega) | omega) | refine up_trans ?_ (by assumption)))⟩
  · obtain ⟨d, hd⟩ : ∃ d : Int, d = q - fp.length := ⟨_, rfl⟩
    have g0 : 0 ≤ d := by omega
    have g1 : d ≤ 1048576 := by omega
    by_cases t2 : d < bp.length
    · rw [if_pos (by omega)]
      have HD := Lib.hid hd
      clear hd
      go_enter Tryz.func137, Tryz.ntmps137
      go_wp2_with fail
      refine (C.out _ _ _ _ _ h1 h0 hq).mono ?_
      rintro e w1 ⟨rfl, hb⟩
      rw [if_neg (show ¬ q < (fp.length : Int) by omega), ← HD.out]
      have xc : ∀ o, w1.cell? ⟨w.heap.size, o, none⟩ = #[.int .i64 p, .int .i64 fa, .int .i64 fc, S fp, .int .i64 ba, .int .i64 bc, S bp][o]? := (fun o => (hb.cell (p := ⟨w.heap.size, o, none⟩) (by simp <;> omega)).trans (by simp [go_sem])); have xf : ∀ o, w1.frozen? ⟨w.heap.size, o, none⟩ = false := (fun o => (hb.frozen (p := ⟨w.heap.size, o, none⟩) (by simp <;> omega)).trans (by simp [go_sem])); have xz : w.heap.size < w1.heap.size := (by have := hb.size; (try simp at this); omega); have xy := xz
      have hW : Below w.heap.size w w1 := by (repeat (first | exact Below.refl _ _ | assumption | refine Below.drew ?_ | refine up_drewN ?_ _ | refine up_alloc ?_ _ | refine up_set ?_ _ _ (by first | exact Nat.le_refl _ | (simp; done) | (simp; omega) | omega) | refine up_trans ?_ (by assumption)))
      clear hb xy
      go_wp2_with fail
      refine (C.out _ _ _ _ _ h2 g0 g1).mono ?_
      rintro e w2 ⟨rfl, hb⟩
      rw [if_pos t2]
      replace hW := up_trans hW (by (repeat (first | exact Below.refl _ _ | assumption | refine Below.drew ?_ | refine up_drewN ?_ _ | refine up_alloc ?_ _ | refine up_set ?_ _ _ (by first | exact Nat.le_refl _ | (simp; done) | (simp; omega) | omega) | refine up_trans ?_ (by assumption))) : Below w1.heap.size w1 w2)
      clear hb
      go_wp2_with fail
      go_ret
      exact ⟨rfl, by (repeat (first | exact Below.refl _ _ | assumption | refine Below.drew ?_ | refine up_drewN ?_ _ | refine up_alloc ?_ _ | refine up_set ?_ _ _ (by first | exact Nat.le_refl _ | (simp; done) | (simp; omega) | omega) | refine up_trans ?_ (by assumption)))⟩
    · rw [if_neg (by omega)]
      have he : q - ((fp.length : Int) + bp.length) = d - bp.length := by omega
      rw [he]
      have HD := Lib.hid hd
      clear hd he
      obtain ⟨r, hr⟩ : ∃ r : Int, r = d - bp.length := ⟨_, rfl⟩
      rw [← hr]
      have g2 : 0 ≤ r := by omega
      have HR := Lib.hid hr
      clear hr
      go_enter Tryz.func137, Tryz.ntmps137
      go_wp2_with fail
      refine (C.out _ _ _ _ _ h1 h0 hq).mono ?_
      rintro e w1 ⟨rfl, hb⟩
      rw [if_neg (show ¬ q < (fp.length : Int) by omega), ← HD.out]
      have xc : ∀ o, w1.cell? ⟨w.heap.size, o, none⟩ = #[.int .i64 p, .int .i64 fa, .int .i64 fc, S fp, .int .i64 ba, .int .i64 bc, S bp][o]? := (fun o => (hb.cell (p := ⟨w.heap.size, o, none⟩) (by simp <;> omega)).trans (by simp [go_sem])); have xf : ∀ o, w1.frozen? ⟨w.heap.size, o, none⟩ = false := (fun o => (hb.frozen (p := ⟨w.heap.size, o, none⟩) (by simp <;> omega)).trans (by simp [go_sem])); have xz : w.heap.size < w1.heap.size := (by have := hb.size; (try simp at this); omega); have xy := xz
      have hW : Below w.heap.size w w1 := by (repeat (first | exact Below.refl _ _ | assumption | refine Below.drew ?_ | refine up_drewN ?_ _ | refine up_alloc ?_ _ | refine up_set ?_ _ _ (by first | exact Nat.le_refl _ | (simp; done) | (simp; omega) | omega) | refine up_trans ?_ (by assumption)))
      clear hb xy
      go_wp2_with fail
      refine (C.out _ _ _ _ _ h2 g0 g1).mono ?_
      rintro e w2 ⟨rfl, hb⟩
      rw [if_neg (show ¬ d < (bp.length : Int) by omega), ← HR.out]
      replace hW := up_trans hW (by (repeat (first | exact Below.refl _ _ | assumption | refine Below.drew ?_ | refine up_drewN ?_ _ | refine up_alloc ?_ _ | refine up_set ?_ _ _ (by first | exact Nat.le_refl _ | (simp; done) | (simp; omega) | omega) | refine up_trans ?_ (by assumption))) : Below w1.heap.size w1 w2)
      clear hb
      go_wp2_with fail
      go_ret
      exact ⟨rfl, by (repeat (first | exact Below.refl _ _ | assumption | refine Below.drew ?_ | refine up_drewN ?_ _ | refine up_alloc ?_ _ | refine up_set ?_ _ _ (by first | exact Nat.le_refl _ | (simp; done) | (simp; omega) | omega) | refine up_trans ?_ (by assumption)))⟩

/-- the states are few and small. -/
def SmallM (ms : List Mo) : Prop := ms.length ≤ 1048576 ∧ ∀ m ∈ ms, m.f.p.length ≤ 1048576 ∧ m.b.p.length ≤ 1048576
def SzMPost (ms : List Mo) (w : World) (e : Ending) (w' : World) : Prop := ∃ r : Int, e = .returned (.int .i64 r) ∧ r ≤ 1048576 ∧ (0 ≤ r → SmallM ms) ∧ Below w.heap.size w w'

set_option maxRecDepth 100000 in
set_option maxHeartbeats 1000000 in
theorem szMomentS_any (v : Value) (ms : List Mo) (q : Int) (w : World) (h : RdM0 w v ms) (h0 : 0 ≤ q) (h1 : q ≤ 1048576) :
    Calls Tryz.prog 89 #[v, .int .i64 q] w (SzMPost ms w) := by
  obtain ⟨A, c, rfl, hm, _⟩ := h.1.form
  unfold maxLen at hm
  by_cases hn : q < ms.length
  · go_enter Tryz.func89, Tryz.ntmps89
    go_wp2_with fail
    go_ret
    exact ⟨-1, rfl, by omega, fun h => absurd h (by omega), Below.refl _ _⟩
  · have H := Lib.hid h
    clear h
    go_enter Tryz.func89, Tryz.ntmps89
    go_wp2_with fail
    go_loopw [1, 5] (fun r i wr => ∃ (k : Nat) (d : Int), k ≤ ms.length ∧ i = .int .i64 k ∧ r = .int .i64 d ∧ 0 ≤ d ∧ d ≤ 1048576 ∧ Hid (∀ b ∈ ms.take k, b.f.p.length ≤ 1048576 ∧ b.b.p.length ≤ 1048576) ∧ Below w.heap.size w wr) (fun _ i _ => ms.length - (intOf i).toNat)
    case atStart => exact ⟨0, q - ms.length, Nat.zero_le _, rfl, rfl, by omega, by omega, Lib.hid (by simp), Below.refl _ _⟩
    case round =>
      obtain ⟨k, d, hk, rfl, rfl, hd0, hd1, hall, hW⟩ := hrel
      by_cases hlt : k < ms.length
      · have i1 : (0 : Int) ≤ (k : Int) := by omega
        have i2 : (k : Int) < (ms.length : Int) := by omega
        have hmem := H.out.2 _ (List.getElem_mem hlt)
        obtain ⟨x, hx⟩ : ∃ x, x = ms[k] := ⟨_, rfl⟩
        obtain ⟨b, o, rfl, hb, c0, c1, c2, c3, c4, c5, c6⟩ := (H.out.up hW).cells hlt hx.symm
        have hts := Lib.hid (List.take_succ_eq_append_getElem hlt)
        rw [← hx] at hmem
        have HX := Lib.hid hx
        clear hx
        have Z := Lib.hid (fun w' => szMoment_any x d w' hmem.1 hmem.2 hd0 hd1)
        unfold moAgg at Z
        by_cases hle : d < x.f.p.length + x.b.p.length
        · go_wp2_with fail
          refine (Z.out _).mono ?_
          rintro e w1 ⟨rfl, hb1⟩
          rw [if_pos (by omega)]
          have hW1 : Below w.heap.size w w1 := up_trans hW hb1
          clear hb1
          go_wp2_with fail
          go_ret
          exact ⟨-1, rfl, by omega, fun h => absurd h (by omega), by (repeat (first | exact Below.refl _ _ | assumption | refine Below.drew ?_ | refine up_drewN ?_ _ | refine up_alloc ?_ _ | refine up_set ?_ _ _ (by first | exact Nat.le_refl _ | (simp; done) | (simp; omega) | omega) | refine up_trans ?_ (by assumption)))⟩
        · go_wp2_with fail
          refine (Z.out _).mono ?_
          rintro e w1 ⟨rfl, hb1⟩
          rw [if_neg (by omega)]
          obtain ⟨d', hd'⟩ : ∃ d' : Int, d' = d - (x.f.p.length + x.b.p.length) := ⟨_, rfl⟩
          rw [← hd']
          have g1 : 0 ≤ d' := by omega
          have g2 : d' ≤ 1048576 := by omega
          have g3 : x.f.p.length ≤ 1048576 ∧ x.b.p.length ≤ 1048576 := by omega
          have hW1 : Below w.heap.size w w1 := up_trans hW hb1
          clear hd' hle hb1
          go_wp2_with fail
          go_roundw
          case rel =>
            refine ⟨k + 1, d', by omega, by go_num, rfl, g1, g2, Lib.hid ?_, by (repeat (first | exact Below.refl _ _ | assumption | refine Below.drew ?_ | refine up_drewN ?_ _ | refine up_alloc ?_ _ | refine up_set ?_ _ _ (by first | exact Nat.le_refl _ | (simp; done) | (simp; omega) | omega) | refine up_trans ?_ (by assumption)))⟩
            rw [hts.out]
            intro b' hb'
            rw [List.mem_append, List.mem_singleton] at hb'
            rcases hb' with hb' | rfl
            · exact hall.out b' hb'
            · rw [← HX.out]; exact g3
          case measure => simp [intOf]; omega
      · obtain rfl : k = ms.length := by omega
        have hst := Lib.hid (show SmallM ms from ⟨by omega, by have := hall.out; rwa [List.take_length] at this⟩)
        go_wp2_with fail
        go_ret
        exact ⟨d, rfl, hd1, fun _ => hst.out, hW⟩

set_option maxRecDepth 100000 in
theorem szHistory_any (v : Value) (ms : List Mo) (a : Int) (q : Int) (w : World) (h : RdM0 w v ms) (h0 : 0 ≤ q) (h1 : q ≤ 1048576) :
    Calls Tryz.prog 54 #[.agg #[v, .int .i64 a], .int .i64 q] w (SzMPost ms w) := by
  obtain ⟨A, c, rfl, hm, _⟩ := h.1.form
  have Z := Lib.hid (fun (w' : World) (hb : Below w.heap.size w w') => szMomentS_any (.slice A ms.length c) ms q w' (h.up hb) h0 h1)
  unfold SzMPost at Z ⊢
  generalize SmallM ms = G at *
  clear h
  go_enter Tryz.func54, Tryz.ntmps54
  go_wp2_with fail
  refine (Z.out _ (by (repeat (first | exact Below.refl _ _ | assumption | refine Below.drew ?_ | refine up_drewN ?_ _ | refine up_alloc ?_ _ | refine up_set ?_ _ _ (by first | exact Nat.le_refl _ | (simp; done) | (simp; omega) | omega) | refine up_trans ?_ (by assumption))))).mono ?_
  rintro e w1 ⟨r, rfl, hr, hg, hb⟩
  have hW : Below w.heap.size w w1 := by (repeat (first | exact Below.refl _ _ | assumption | refine Below.drew ?_ | refine up_drewN ?_ _ | refine up_alloc ?_ _ | refine up_set ?_ _ _ (by first | exact Nat.le_refl _ | (simp; done) | (simp; omega) | omega) | refine up_trans ?_ (by assumption)))
  have HG := Lib.hid hg
  clear hb hg Z
  by_cases hr0 : r < 0
  · go_wp2_with fail
    go_ret
    exact ⟨-1, rfl, by omega, fun h => absurd h (by omega), by (repeat (first | exact Below.refl _ _ | assumption | refine Below.drew ?_ | refine up_drewN ?_ _ | refine up_alloc ?_ _ | refine up_set ?_ _ _ (by first | exact Nat.le_refl _ | (simp; done) | (simp; omega) | omega) | refine up_trans ?_ (by assumption)))⟩
  · go_wp2_with fail
    go_ret
    exact ⟨r, rfl, hr, HG.out, by (repeat (first | exact Below.refl _ _ | assumption | refine Below.drew ?_ | refine up_drewN ?_ _ | refine up_alloc ?_ _ | refine up_set ?_ _ _ (by first | exact Nat.le_refl _ | (simp; done) | (simp; omega) | omega) | refine up_trans ?_ (by assumption)))⟩

end Go.Proofs.YtbjlkdenkmbepaaGreatDoor
