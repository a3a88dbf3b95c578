/- What is proved here: facts and contracts that the walks above this text need. No condition. -/
import Derived.Test.YtbjlkdenkmbepaaGreatDoorHistM
import Derived.Test.YtbjlkdenkmbepaaGreatDoorAc0
import Derived.Test.YtbjlkdenkmbepaaGreatDoorRc8
import Derived.Test.YtbjlkdenkmbepaaGreatDoorBase
import Derived.ProofKit
import Derived.Deep.Slices
import Derived.Deep.Fields
import Derived.ChangeSame
import Derived.Deep.Strs
import Derived.Test.YtbjlkdenkmbepaaGreatDoorAc2
namespace Go.Proofs.YtbjlkdenkmbepaaGreatDoor
open Go.RowKit
set_option linter.unusedVariables false

/-- a slice of states as an argument gives it. -/
def RdM0 (w : World) (v : Value) (ms : List Mo) : Prop := RdL w 7 moC v ms ∧ ∀ m ∈ ms, m.f.p.length ≤ maxLen ∧ m.b.p.length ≤ maxLen
theorem RdM0.up {w w' : World} {v : Value} {ms : List Mo} (h : RdM0 w v ms) (hb : Below w.heap.size w w') : RdM0 w' v ms := ⟨h.1.up hb, h.2⟩
theorem RdM0.cells {w : World} {A : Option Addr} {n c : Nat} {ms : List Mo} (h : RdM0 w (.slice A n c) ms) {k : Nat} (hk : k < ms.length) {m : Mo} (e : ms[k] = m) :
    ∃ b o, A = some ⟨b, o, none⟩ ∧ b < w.heap.size ∧ w.cell? ⟨b, o + k * 7, none⟩ = some (.int .i64 m.par) ∧ w.cell? ⟨b, o + k * 7 + 1, none⟩ = some (.int .i64 m.f.a) ∧ w.cell? ⟨b, o + k * 7 + 2, none⟩ = some (.int .i64 m.f.c) ∧
      w.cell? ⟨b, o + k * 7 + 3, none⟩ = some (S m.f.p) ∧ w.cell? ⟨b, o + k * 7 + 4, none⟩ = some (.int .i64 m.b.a) ∧ w.cell? ⟨b, o + k * 7 + 5, none⟩ = some (.int .i64 m.b.c) ∧ w.cell? ⟨b, o + k * 7 + 6, none⟩ = some (S m.b.p) := by
  obtain ⟨b, o, hA, hb, hc⟩ := h.1.cells moC_len hk
  rw [e] at hc
  exact ⟨b, o, hA, hb, hc 0 _ rfl, hc 1 _ rfl, hc 2 _ rfl, hc 3 _ rfl, hc 4 _ rfl, hc 5 _ rfl, hc 6 _ rfl⟩
def moAgg (m : Mo) : Value := .agg #[.int .i64 m.par, .int .i64 m.f.a, .int .i64 m.f.c, S m.f.p, .int .i64 m.b.a, .int .i64 m.b.c, S m.b.p]

set_option maxRecDepth 100000 in
set_option maxHeartbeats 1000000 in
theorem szMoment_any (m : Mo) (q : Int) (w : World) (h1 : m.f.p.length ≤ maxLen) (h2 : m.b.p.length ≤ maxLen) (h0 : 0 ≤ q) (hq : q ≤ 1048576) :
    Calls Tryz.prog 137 #[moAgg m, .int .i64 q] w fun e w' => e = .returned (.int .i64 (if q < m.f.p.length + m.b.p.length then -1 else q - (m.f.p.length + m.b.p.length))) ∧ Below w.heap.size w w' := by
  obtain ⟨p, ⟨fa, fc, fp⟩, ⟨ba, bc, bp⟩⟩ := m
  simp only at h1 h2 ⊢
  have C := Lib.hid (fun (a c : Int) (p : List UInt8) (q : Int) (w : World) (hp : p.length ≤ maxLen) (h0 : 0 ≤ q) (h1 : q ≤ 1048576) => szChange_any a c p q w hp h0 h1)
  unfold chV at C
  unfold moAgg
  by_cases t1 : q < fp.length
  · rw [if_pos (by omega)]
    go_enter Tryz.func137, Tryz.ntmps137
    go_wp2_with fail
    refine (C.out _ _ _ _ _ h1 h0 hq).mono ?_
    rintro e w1 ⟨rfl, hb⟩
    rw [if_pos t1]
    have hW : Below w.heap.size w w1 := by exact bBel
    clear hb
    go_wp2_with fail
    go_ret
    exact ⟨rfl, by exact bBel⟩
  · obtain ⟨d, hd⟩ : ∃ d : Int, d = q - fp.length := ⟨_, rfl⟩
    have g0 : 0 ≤ d := by omega
    have g1 : d ≤ 1048576 := by omega
    by_cases t2 : d < bp.length
    · rw [if_pos (by omega)]
      have HD := Lib.hid hd
      clear hd
      go_enter Tryz.func137, Tryz.ntmps137
      go_wp2_with fail
      refine (C.out _ _ _ _ _ h1 h0 hq).mono ?_
      rintro e w1 ⟨rfl, hb⟩
      rw [if_neg (show ¬ q < (fp.length : Int) by omega), ← HD.out]
      have xc : ∀ o, w1.cell? ⟨w.heap.size, o, none⟩ = #[.int .i64 p, .int .i64 fa, .int .i64 fc, S fp, .int .i64 ba, .int .i64 bc, S bp][o]? := (fun o => (hb.cell (p := ⟨w.heap.size, o, none⟩) (by simp <;> omega)).trans (by simp [go_sem])); have xf : ∀ o, w1.frozen? ⟨w.heap.size, o, none⟩ = false := (fun o => (hb.frozen (p := ⟨w.heap.size, o, none⟩) (by simp <;> omega)).trans (by simp [go_sem])); have xz : w.heap.size < w1.heap.size := (by have := hb.size; (try simp at this); omega); have xy := xz
      have hW : Below w.heap.size w w1 := by exact bBel
      clear hb xy
      go_wp2_with fail
      refine (C.out _ _ _ _ _ h2 g0 g1).mono ?_
      rintro e w2 ⟨rfl, hb⟩
      rw [if_pos t2]
      replace hW := up_trans hW (by exact bBel : Below w1.heap.size w1 w2)
      clear hb
      go_wp2_with fail
      go_ret
      exact ⟨rfl, by exact bBel⟩
    · rw [if_neg (by omega)]
      have he : q - ((fp.length : Int) + bp.length) = d - bp.length := by omega
      rw [he]
      have HD := Lib.hid hd
      clear hd he
      obtain ⟨r, hr⟩ : ∃ r : Int, r = d - bp.length := ⟨_, rfl⟩
      rw [← hr]
      have g2 : 0 ≤ r := by omega
      have HR := Lib.hid hr
      clear hr
      go_enter Tryz.func137, Tryz.ntmps137
      go_wp2_with fail
      refine (C.out _ _ _ _ _ h1 h0 hq).mono ?_
      rintro e w1 ⟨rfl, hb⟩
      rw [if_neg (show ¬ q < (fp.length : Int) by omega), ← HD.out]
      have xc : ∀ o, w1.cell? ⟨w.heap.size, o, none⟩ = #[.int .i64 p, .int .i64 fa, .int .i64 fc, S fp, .int .i64 ba, .int .i64 bc, S bp][o]? := (fun o => (hb.cell (p := ⟨w.heap.size, o, none⟩) (by simp <;> omega)).trans (by simp [go_sem])); have xf : ∀ o, w1.frozen? ⟨w.heap.size, o, none⟩ = false := (fun o => (hb.frozen (p := ⟨w.heap.size, o, none⟩) (by simp <;> omega)).trans (by simp [go_sem])); have xz : w.heap.size < w1.heap.size := (by have := hb.size; (try simp at this); omega); have xy := xz
      have hW : Below w.heap.size w w1 := by exact bBel
      clear hb xy
      go_wp2_with fail
      refine (C.out _ _ _ _ _ h2 g0 g1).mono ?_
      rintro e w2 ⟨rfl, hb⟩
      rw [if_neg (show ¬ d < (bp.length : Int) by omega), ← HR.out]
      replace hW := up_trans hW (by exact bBel : Below w1.heap.size w1 w2)
      clear hb
      go_wp2_with fail
      go_ret
      exact ⟨rfl, by exact bBel⟩

/-- the states are few and small. -/
def SmallM (ms : List Mo) : Prop := ms.length ≤ 1048576 ∧ ∀ m ∈ ms, m.f.p.length ≤ 1048576 ∧ m.b.p.length ≤ 1048576
def SzMPost (ms : List Mo) (w : World) (e : Ending) (w' : World) : Prop := ∃ r : Int, e = .returned (.int .i64 r) ∧ r ≤ 1048576 ∧ (0 ≤ r → SmallM ms) ∧ Below w.heap.size w w'

set_option maxRecDepth 100000 in
set_option maxHeartbeats 1000000 in
theorem szMomentS_any (v : Value) (ms : List Mo) (q : Int) (w : World) (h : RdM0 w v ms) (h0 : 0 ≤ q) (h1 : q ≤ 1048576) :
    Calls Tryz.prog 89 #[v, .int .i64 q] w (SzMPost ms w) := by
  obtain ⟨A, c, rfl, hm, _⟩ := h.1.form
  unfold maxLen at hm
  by_cases hn : q < ms.length
  · go_enter Tryz.func89, Tryz.ntmps89
    go_wp2_with fail
    go_ret
    exact ⟨-1, rfl, by omega, fun h => absurd h (by omega), Below.refl _ _⟩
  · have H := Lib.hid h
    clear h
    go_enter Tryz.func89, Tryz.ntmps89
    go_wp2_with fail
    go_loopw [1, 5] (fun r i wr => ∃ (k : Nat) (d : Int), k ≤ ms.length ∧ i = .int .i64 k ∧ r = .int .i64 d ∧ 0 ≤ d ∧ d ≤ 1048576 ∧ Hid (∀ b ∈ ms.take k, b.f.p.length ≤ 1048576 ∧ b.b.p.length ≤ 1048576) ∧ Below w.heap.size w wr) (fun _ i _ => ms.length - (intOf i).toNat)
    case atStart => exact ⟨0, q - ms.length, Nat.zero_le _, rfl, rfl, by omega, by omega, Lib.hid (by simp), Below.refl _ _⟩
    case round =>
      obtain ⟨k, d, hk, rfl, rfl, hd0, hd1, hall, hW⟩ := hrel
      by_cases hlt : k < ms.length
      · have i1 : (0 : Int) ≤ (k : Int) := by omega
        have i2 : (k : Int) < (ms.length : Int) := by omega
        have hmem := H.out.2 _ (List.getElem_mem hlt)
        obtain ⟨x, hx⟩ : ∃ x, x = ms[k] := ⟨_, rfl⟩
        obtain ⟨b, o, rfl, hb, c0, c1, c2, c3, c4, c5, c6⟩ := (H.out.up hW).cells hlt hx.symm
        have hts := Lib.hid (List.take_succ_eq_append_getElem hlt)
        rw [← hx] at hmem
        have HX := Lib.hid hx
        clear hx
        have Z := Lib.hid (fun w' => szMoment_any x d w' hmem.1 hmem.2 hd0 hd1)
        unfold moAgg at Z
        by_cases hle : d < x.f.p.length + x.b.p.length
        · go_wp2_with fail
          refine (Z.out _).mono ?_
          rintro e w1 ⟨rfl, hb1⟩
          rw [if_pos (by omega)]
          have hW1 : Below w.heap.size w w1 := up_trans hW hb1
          clear hb1
          go_wp2_with fail
          go_ret
          exact ⟨-1, rfl, by omega, fun h => absurd h (by omega), by exact bBel⟩
        · go_wp2_with fail
          refine (Z.out _).mono ?_
          rintro e w1 ⟨rfl, hb1⟩
          rw [if_neg (by omega)]
          obtain ⟨d', hd'⟩ : ∃ d' : Int, d' = d - (x.f.p.length + x.b.p.length) := ⟨_, rfl⟩
          rw [← hd']
          have g1 : 0 ≤ d' := by omega
          have g2 : d' ≤ 1048576 := by omega
          have g3 : x.f.p.length ≤ 1048576 ∧ x.b.p.length ≤ 1048576 := by omega
          have hW1 : Below w.heap.size w w1 := up_trans hW hb1
          clear hd' hle hb1
          go_wp2_with fail
          go_roundw
          case rel =>
            refine ⟨k + 1, d', by omega, by go_num, rfl, g1, g2, Lib.hid ?_, by exact bBel⟩
            rw [hts.out]
            intro b' hb'
            rw [List.mem_append, List.mem_singleton] at hb'
            rcases hb' with hb' | rfl
            · exact hall.out b' hb'
            · rw [← HX.out]; exact g3
          case measure => simp [intOf]; omega
      · obtain rfl : k = ms.length := by omega
        have hst := Lib.hid (show SmallM ms from ⟨by omega, by have := hall.out; rwa [List.take_length] at this⟩)
        go_wp2_with fail
        go_ret
        exact ⟨d, rfl, hd1, fun _ => hst.out, hW⟩

set_option maxRecDepth 100000 in
theorem szHistory_any (v : Value) (ms : List Mo) (a : Int) (q : Int) (w : World) (h : RdM0 w v ms) (h0 : 0 ≤ q) (h1 : q ≤ 1048576) :
    Calls Tryz.prog 54 #[.agg #[v, .int .i64 a], .int .i64 q] w (SzMPost ms w) := by
  obtain ⟨A, c, rfl, hm, _⟩ := h.1.form
  have Z := Lib.hid (fun (w' : World) (hb : Below w.heap.size w w') => szMomentS_any (.slice A ms.length c) ms q w' (h.up hb) h0 h1)
  unfold SzMPost at Z ⊢
  generalize SmallM ms = G at *
  clear h
  go_enter Tryz.func54, Tryz.ntmps54
  go_wp2_with fail
  refine (Z.out _ (by exact bBel)).mono ?_
  rintro e w1 ⟨r, rfl, hr, hg, hb⟩
  have hW : Below w.heap.size w w1 := by exact bBel
  have HG := Lib.hid hg
  clear hb hg Z
  by_cases hr0 : r < 0
  · go_wp2_with fail
    go_ret
    exact ⟨-1, rfl, by omega, fun h => absurd h (by omega), by exact bBel⟩
  · go_wp2_with fail
    go_ret
    exact ⟨r, rfl, hr, HG.out, by exact bBel⟩

end Go.Proofs.YtbjlkdenkmbepaaGreatDoor

namespace Go.Proofs.YtbjlkdenkmbepaaGreatDoor
open Go.RowKit
set_option linter.unusedVariables false

set_option maxRecDepth 100000 in
set_option maxHeartbeats 1000000 in
theorem toMoment_any (m : Mo) (w : World) :
    Calls Tryz.prog 142 #[moAgg m] w fun e w' => e = .returned (moAgg m) ∧ Below w.heap.size w w' := by
  obtain ⟨p, ⟨fa, fc, fp⟩, ⟨ba, bc, bp⟩⟩ := m
  have C := Lib.hid (fun (a c : Int) (p : List UInt8) (w : World) => toChange_any a c p w)
  unfold chV at C
  unfold moAgg
  go_enter Tryz.func142, Tryz.ntmps142
  go_wp2_with fail
  refine (C.out _ _ _ _).mono ?_
  rintro e w1 ⟨rfl, hb⟩
  have xc : ∀ o, w1.cell? ⟨w.heap.size, o, none⟩ = #[.int .i64 p, .int .i64 fa, .int .i64 fc, S fp, .int .i64 ba, .int .i64 bc, S bp][o]? := (fun o => (hb.cell (p := ⟨w.heap.size, o, none⟩) (by simp <;> omega)).trans (by simp [go_sem])); have xf : ∀ o, w1.frozen? ⟨w.heap.size, o, none⟩ = false := (fun o => (hb.frozen (p := ⟨w.heap.size, o, none⟩) (by simp <;> omega)).trans (by simp [go_sem])); have xz : w.heap.size < w1.heap.size := (by have := hb.size; (try simp at this); omega); have xy := xz
  have yc : ∀ o, w1.cell? ⟨w.heap.size + 1, o, none⟩ = #[.int .i64 0, .int .i64 0, .int .i64 0, S [], .int .i64 0, .int .i64 0, S []][o]? := (fun o => (hb.cell (p := ⟨w.heap.size + 1, o, none⟩) (by simp <;> omega)).trans (by simp [go_sem])); have yf : ∀ o, w1.frozen? ⟨w.heap.size + 1, o, none⟩ = false := (fun o => (hb.frozen (p := ⟨w.heap.size + 1, o, none⟩) (by simp <;> omega)).trans (by simp [go_sem])); have yz : w.heap.size + 1 < w1.heap.size := (by have := hb.size; (try simp at this); omega); have yy := yz
  have zc : ∀ o, w1.cell? ⟨w.heap.size + 2, o, none⟩ = #[.int .i64 p, .int .i64 0, .int .i64 0, S [], .int .i64 0, .int .i64 0, S []][o]? := (fun o => (hb.cell (p := ⟨w.heap.size + 2, o, none⟩) (by simp <;> omega)).trans (by simp [go_sem])); have zf : ∀ o, w1.frozen? ⟨w.heap.size + 2, o, none⟩ = false := (fun o => (hb.frozen (p := ⟨w.heap.size + 2, o, none⟩) (by simp <;> omega)).trans (by simp [go_sem])); have zz : w.heap.size + 2 < w1.heap.size := (by have := hb.size; (try simp at this); omega); have zy := zz
  have hW : Below w.heap.size w w1 := by exact bBel
  clear hb xy yy zy
  go_wp2_with fail
  refine (C.out _ _ _ _).mono ?_
  rintro e w2 ⟨rfl, hb⟩
  have sz1 := hb.size
  simp at sz1
  have zc2 := up_c (b := w.heap.size + 2) (A := #[.int .i64 p, .int .i64 fa, .int .i64 fc, S fp, .int .i64 0, .int .i64 0, S []]) hb (by simp; omega) (fun o => by rcases o with _ | _ | _ | _ | _ | _ | _ | o <;> simp [go_sem, zc])
  have zf2 := up_f (b := w.heap.size + 2) hb (by simp; omega) (fun o => by simp [go_sem, zf])
  have yc2 := up_c (b := w.heap.size + 1) (A := #[.int .i64 0, .int .i64 0, .int .i64 0, S [], .int .i64 0, .int .i64 0, S []]) hb (by simp; omega) (fun o => by simp [go_sem, yc])
  have yf2 := up_f (b := w.heap.size + 1) hb (by simp; omega) (fun o => by simp [go_sem, yf])
  have hW2 : Below w.heap.size w w2 := by exact bBel
  clear hb xc xf yc yf zc zf hW
  go_wp2_with fail
  refine bodyPost_ret (v := .agg #[.int .i64 p, .int .i64 fa, .int .i64 fc, S fp, .int .i64 ba, .int .i64 bc, S bp]) (by simp [results, Tryz.results142, go_sem, yc2]) rfl ⟨rfl, by (repeat refine up_set ?_ _ _ (by first | exact Nat.le_refl _ | (simp; done) | (simp; omega) | omega)); exact hW2⟩

theorem set7 (a b : List Value) (u0 u1 u2 u3 u4 u5 u6 : Value) (k : Nat) (h : a.length = k) (hb : 7 ≤ b.length) : (((((((a ++ b).set k u0).set (k + 1) u1).set (k + 2) u2).set (k + 3) u3).set (k + 4) u4).set (k + 5) u5).set (k + 6) u6 = a ++ [u0, u1, u2, u3, u4, u5, u6] ++ b.drop 7 := by
  subst h
  obtain ⟨b0, b, rfl⟩ : ∃ x y, b = x :: y := by cases b with | nil => simp at hb | cons x y => exact ⟨x, y, rfl⟩
  obtain ⟨b1, b, rfl⟩ : ∃ x y, b = x :: y := by cases b with | nil => simp at hb | cons x y => exact ⟨x, y, rfl⟩
  obtain ⟨b2, b, rfl⟩ : ∃ x y, b = x :: y := by cases b with | nil => simp at hb | cons x y => exact ⟨x, y, rfl⟩
  obtain ⟨b3, b, rfl⟩ : ∃ x y, b = x :: y := by cases b with | nil => simp at hb | cons x y => exact ⟨x, y, rfl⟩
  obtain ⟨b4, b, rfl⟩ : ∃ x y, b = x :: y := by cases b with | nil => simp at hb | cons x y => exact ⟨x, y, rfl⟩
  obtain ⟨b5, b, rfl⟩ : ∃ x y, b = x :: y := by cases b with | nil => simp at hb | cons x y => exact ⟨x, y, rfl⟩
  obtain ⟨b6, b, rfl⟩ : ∃ x y, b = x :: y := by cases b with | nil => simp at hb | cons x y => exact ⟨x, y, rfl⟩
  simp
theorem own_set7 {w : World} {base : Nat} {e : TypeId} {g n cap k : Nat} {a b : List Value} (h : Own w base e 7 (.slice (some ⟨g, 0, none⟩) n cap) n (a ++ b)) (ha : a.length = k * 7) (hk : k < n) (u0 u1 u2 u3 u4 u5 u6 : Value) :
    Own (((((((w.setCell ⟨g, k * 7, none⟩ u0).setCell ⟨g, k * 7 + 1, none⟩ u1).setCell ⟨g, k * 7 + 2, none⟩ u2).setCell ⟨g, k * 7 + 3, none⟩ u3).setCell ⟨g, k * 7 + 4, none⟩ u4).setCell ⟨g, k * 7 + 5, none⟩ u5).setCell ⟨g, k * 7 + 6, none⟩ u6) base e 7 (.slice (some ⟨g, 0, none⟩) n cap) n (a ++ [u0, u1, u2, u3, u4, u5, u6] ++ b.drop 7) := by
  have h1 := (h.stored (k * 7) u0).1
  have h2 := (h1.stored (k * 7 + 1) u1).1
  have h3 := (h2.stored (k * 7 + 2) u2).1
  have h4 := (h3.stored (k * 7 + 3) u3).1
  have h5 := (h4.stored (k * 7 + 4) u4).1
  have h6 := (h5.stored (k * 7 + 5) u5).1
  have h7 := (h6.stored (k * 7 + 6) u6).1
  rw [set7 a b u0 u1 u2 u3 u4 u5 u6 (k * 7) ha (by have := h.1; rw [List.length_append] at this; omega)] at h7
  exact h7
theorem own_someM {w : World} {base : Nat} {e : TypeId} {size g n cap j : Nat} {xs : List Value} (h : Own w base e size (.slice (some ⟨g, 0, none⟩) n cap) n xs) (hj : j < n * size) : ∃ u, w.cell? ⟨g, j, none⟩ = some u := by
  rw [h.cellAt j hj]
  exact ⟨_, List.getElem?_eq_getElem (by rw [h.1]; exact hj)⟩
def ToMPost (ms : List Mo) (w : World) (e : Ending) (w' : World) : Prop := ∃ v, e = .returned v ∧ OwnM w' w.heap.size v ms ∧ Below w.heap.size w w'

set_option maxRecDepth 100000 in
set_option maxHeartbeats 1000000 in
theorem toMomentS_any (v : Value) (ms : List Mo) (w : World) (h : RdM0 w v ms) (hn : ms.length ≤ 1048576) :
    Calls Tryz.prog 106 #[v] w (ToMPost ms w) := by
  obtain ⟨A, c, rfl, _, _⟩ := h.1.form
  obtain ⟨i0, hi, hz0, hz1, hz2⟩ := info_parts mo_info
  go_enter Tryz.func106, Tryz.ntmps106
  go_wp2_with (at_make; refine wpList_make_full _ rfl _ _ 23 rfl w.heap.size 96 i0 _ 7 Tryz.underlying23 hi hz0 hz1 _ _ _ _ ms.length rfl rfl rfl rfl (by rw [hz2]; omega) (by unfold maxLen; omega) (Nat.le_refl _) ?_; intro w1 how hgr)
  have hW : Below w.heap.size w w1 := up_grown (Below.refl _ _) hgr (fun k hk => by cases hk)
  obtain ⟨ys, hys⟩ : ∃ ys, ys = (madeCells (Value.agg #[.int .i64 0, .int .i64 0, .int .i64 0, S [], .int .i64 0, .int .i64 0, S []]).cells (ms.length * 7)).toList := ⟨_, rfl⟩
  rw [← hys] at how
  clear hys hgr hi hz0 hz1 hz2
  have HL := Lib.hid how.1
  have How := Lib.hid how
  clear how
  go_loopw [4] (fun i wr => ∃ k : Nat, k ≤ ms.length ∧ i = .int .i64 k ∧ Own wr w.heap.size 96 7 (.slice (some ⟨w.heap.size, 0, none⟩) ms.length ms.length) ms.length ((ms.take k).flatMap moC ++ ys.drop (k * 7)) ∧ Below w.heap.size w wr) (fun i _ => ms.length - (intOf i).toNat)
  case atStart => exact ⟨0, Nat.zero_le _, rfl, by simpa using How.out, hW⟩
  case round =>
    obtain ⟨k, hk, rfl, how, hWr⟩ := hrel
    clear hW How
    by_cases hlt : k < ms.length
    · have i1 : (0 : Int) ≤ (k : Int) := by omega
      have i2 : (k : Int) < (ms.length : Int) := by omega
      have hts := Lib.hid (show (ms.take (k + 1)).flatMap moC = (ms.take k).flatMap moC ++ moC ms[k] by rw [List.take_succ_eq_append_getElem hlt, List.flatMap_append]; simp)
      obtain ⟨x, hx⟩ : ∃ x, x = ms[k] := ⟨_, rfl⟩
      obtain ⟨b, o, rfl, hb, c0, c1, c2, c3, c4, c5, c6⟩ := (h.up hWr).cells hlt hx.symm
      rw [← hx] at hts
      clear hx
      have TM := Lib.hid (fun w' => toMoment_any x w')
      obtain ⟨p, ⟨fa, fc, fp⟩, ⟨ba, bc, bp⟩⟩ := x
      unfold moAgg at TM
      simp only at c0 c1 c2 c3 c4 c5 c6 TM
      have How := Lib.hid how
      clear how
      go_wp2_with fail
      refine (TM.out _).mono ?_
      rintro e w2 ⟨rfl, hb2⟩
      have how := own_up How.out hb2
      obtain ⟨u0, d0⟩ := own_someM how (show k * 7 < ms.length * 7 by omega)
      obtain ⟨u1, d1⟩ := own_someM how (show k * 7 + 1 < ms.length * 7 by omega)
      obtain ⟨u2, d2⟩ := own_someM how (show k * 7 + 2 < ms.length * 7 by omega)
      obtain ⟨u3, d3⟩ := own_someM how (show k * 7 + 3 < ms.length * 7 by omega)
      obtain ⟨u4, d4⟩ := own_someM how (show k * 7 + 4 < ms.length * 7 by omega)
      obtain ⟨u5, d5⟩ := own_someM how (show k * 7 + 5 < ms.length * 7 by omega)
      obtain ⟨u6, d6⟩ := own_someM how (show k * 7 + 6 < ms.length * 7 by omega)
      have f0 := how.frozenAt (k * 7)
      have f1 := how.frozenAt (k * 7 + 1)
      have f2 := how.frozenAt (k * 7 + 2)
      have f3 := how.frozenAt (k * 7 + 3)
      have f4 := how.frozenAt (k * 7 + 4)
      have f5 := how.frozenAt (k * 7 + 5)
      have f6 := how.frozenAt (k * 7 + 6)
      have HS := Lib.hid (own_set7 how (by rw [flat_len moC 7 moC_len, List.length_take]; omega) hlt (.int .i64 p) (.int .i64 fa) (.int .i64 fc) (S fp) (.int .i64 ba) (.int .i64 bc) (S bp))
      clear how
      have hW2 : Below w.heap.size w w2 := by exact bBel
      clear hb2 hWr
      go_wp2_with fail
      go_roundw
      case rel =>
        refine ⟨k + 1, by omega, by go_num, ?_, by (repeat refine up_set ?_ _ _ (by first | exact Nat.le_refl _ | (simp; done) | (simp; omega) | omega)); exact hW2⟩
        have := HS.out
        rw [List.drop_drop] at this
        rw [hts.out, show (k + 1) * 7 = k * 7 + 7 by omega]
        exact this
      case measure => simp [intOf]; omega
    · obtain rfl : k = ms.length := by omega
      have How := Lib.hid how
      clear how
      go_wp2_with fail
      go_ret
      refine ⟨_, rfl, ?_, hWr⟩
      have := How.out
      rwa [List.take_length, List.drop_of_length_le (by rw [HL.out]; exact Nat.le_refl _), List.append_nil] at this

end Go.Proofs.YtbjlkdenkmbepaaGreatDoor

namespace Go.Proofs.YtbjlkdenkmbepaaGreatDoor
open Go.RowKit

set_option maxHeartbeats 1000000 in
theorem eqChange_same (x : Ch) (w : World) :
    Calls Tryz.prog 177 #[chAgg x, chAgg x] w fun e w' => e = .returned (.bool true) ∧ Below w.heap.size w w' := by
  unfold chAgg
  go_enter Tryz.func177, Tryz.ntmps177
  go_wp2_with fail
  go_ret
  exact ⟨rfl, by exact bBel⟩

end Go.Proofs.YtbjlkdenkmbepaaGreatDoor

namespace Go.Proofs.YtbjlkdenkmbepaaGreatDoor
open Go.RowKit
set_option linter.unusedVariables false

set_option maxRecDepth 100000 in
set_option maxHeartbeats 1000000 in
theorem toHistory_any (v : Value) (ms : List Mo) (a : Int) (w : World) (h : RdM0 w v ms) (hn : ms.length ≤ 1048576) :
    Calls Tryz.prog 64 #[.agg #[v, .int .i64 a]] w (CopyPost ms a w) := by
  obtain ⟨A, c, rfl, _, _⟩ := h.1.form
  have T := Lib.hid (fun (w' : World) (hb : Below w.heap.size w w') => toMomentS_any (.slice A ms.length c) ms w' (h.up hb) hn)
  clear h
  unfold ToMPost at T
  go_enter Tryz.func64, Tryz.ntmps64
  go_wp2_with fail
  refine (T.out _ (by exact bBel)).mono ?_
  rintro e w1 ⟨v1, rfl, ho1, hb⟩
  have xc : ∀ o, w1.cell? ⟨w.heap.size, o, none⟩ = #[.slice A ms.length c, .int .i64 a][o]? := (fun o => (hb.cell (p := ⟨w.heap.size, o, none⟩) (by simp <;> omega)).trans (by simp [go_sem])); have xf : ∀ o, w1.frozen? ⟨w.heap.size, o, none⟩ = false := (fun o => (hb.frozen (p := ⟨w.heap.size, o, none⟩) (by simp <;> omega)).trans (by simp [go_sem])); have xz : w.heap.size < w1.heap.size := (by have := hb.size; (try simp at this); omega); have xy := xz
  have yc : ∀ o, w1.cell? ⟨w.heap.size + 1, o, none⟩ = #[.slice none 0 0, .int .i64 0][o]? := (fun o => (hb.cell (p := ⟨w.heap.size + 1, o, none⟩) (by simp <;> omega)).trans (by simp [go_sem])); have yf : ∀ o, w1.frozen? ⟨w.heap.size + 1, o, none⟩ = false := (fun o => (hb.frozen (p := ⟨w.heap.size + 1, o, none⟩) (by simp <;> omega)).trans (by simp [go_sem])); have yz : w.heap.size + 1 < w1.heap.size := (by have := hb.size; (try simp at this); omega); have yy := yz
  have zc : ∀ o, w1.cell? ⟨w.heap.size + 2, o, none⟩ = #[.slice none 0 0, .int .i64 0][o]? := (fun o => (hb.cell (p := ⟨w.heap.size + 2, o, none⟩) (by simp <;> omega)).trans (by simp [go_sem])); have zf : ∀ o, w1.frozen? ⟨w.heap.size + 2, o, none⟩ = false := (fun o => (hb.frozen (p := ⟨w.heap.size + 2, o, none⟩) (by simp <;> omega)).trans (by simp [go_sem])); have zz : w.heap.size + 2 < w1.heap.size := (by have := hb.size; (try simp at this); omega); have zy := zz
  have hW : Below w.heap.size w w1 := by exact bBel
  have HO := Lib.hid ho1
  obtain ⟨A1, c1, rfl, -, -⟩ := (RdL.of_own (f := moC) (bs := ms) ho1).form
  clear hb ho1 T
  go_wp2_with fail
  refine bodyPost_ret (v := .agg #[.slice A1 ms.length c1, .int .i64 a]) (by simp [results, Tryz.results64, go_sem, yc]) rfl ⟨_, rfl, ?_, by exact bBel⟩
  exact own_base (own_set (own_set (own_set (own_set HO.out _ _ (by simp)) _ _ (by simp)) _ _ (by simp)) _ _ (by simp)) (by simp <;> omega)

set_option maxRecDepth 100000 in
set_option maxHeartbeats 1000000 in
theorem eqMoment_same (m : Mo) (w : World) :
    Calls Tryz.prog 150 #[moAgg m, moAgg m] w fun e w' => e = .returned (.bool true) ∧ Below w.heap.size w w' := by
  obtain ⟨p, ⟨fa, fc, fp⟩, ⟨ba, bc, bp⟩⟩ := m
  have C := Lib.hid (fun (a c : Int) (p : List UInt8) (w : World) => eqChange_same ⟨a, c, p⟩ w)
  unfold chAgg at C
  unfold moAgg
  go_enter Tryz.func150, Tryz.ntmps150
  go_wp2_with fail
  refine (C.out _ _ _ _).mono ?_
  rintro e w1 ⟨rfl, hb⟩
  have xc : ∀ o, w1.cell? ⟨w.heap.size, o, none⟩ = #[.int .i64 p, .int .i64 fa, .int .i64 fc, S fp, .int .i64 ba, .int .i64 bc, S bp][o]? := (fun o => (hb.cell (p := ⟨w.heap.size, o, none⟩) (by simp <;> omega)).trans (by simp [go_sem])); have xf : ∀ o, w1.frozen? ⟨w.heap.size, o, none⟩ = false := (fun o => (hb.frozen (p := ⟨w.heap.size, o, none⟩) (by simp <;> omega)).trans (by simp [go_sem])); have xz : w.heap.size < w1.heap.size := (by have := hb.size; (try simp at this); omega); have xy := xz
  have yc : ∀ o, w1.cell? ⟨w.heap.size + 1, o, none⟩ = #[.int .i64 p, .int .i64 fa, .int .i64 fc, S fp, .int .i64 ba, .int .i64 bc, S bp][o]? := (fun o => (hb.cell (p := ⟨w.heap.size + 1, o, none⟩) (by simp <;> omega)).trans (by simp [go_sem])); have yf : ∀ o, w1.frozen? ⟨w.heap.size + 1, o, none⟩ = false := (fun o => (hb.frozen (p := ⟨w.heap.size + 1, o, none⟩) (by simp <;> omega)).trans (by simp [go_sem])); have yz : w.heap.size + 1 < w1.heap.size := (by have := hb.size; (try simp at this); omega); have yy := yz
  have hW : Below w.heap.size w w1 := by exact bBel
  clear hb xy yy
  go_wp2_with fail
  refine (C.out _ _ _ _).mono ?_
  rintro e w2 ⟨rfl, hb⟩
  replace hW := up_trans hW (by exact bBel : Below w1.heap.size w1 w2)
  clear hb xc xf xz yc yf yz
  go_wp2_with fail
  go_ret
  exact ⟨rfl, by exact bBel⟩

set_option maxRecDepth 100000 in
set_option maxHeartbeats 1000000 in
theorem eqMomentS_same (u v : Value) (ms : List Mo) (w : World) (hu : RdL w 7 moC u ms) (hv : RdL w 7 moC v ms) :
    Calls Tryz.prog 120 #[u, v] w fun e w' => e = .returned (.bool true) ∧ Below w.heap.size w w' := by
  obtain ⟨A, c, rfl, hm, _⟩ := hu.form
  obtain ⟨B, d, rfl, _, _⟩ := hv.form
  unfold maxLen at hm
  go_enter Tryz.func120, Tryz.ntmps120
  go_wp2_with fail
  go_loopw [5] (fun i wr => ∃ k : Nat, k ≤ ms.length ∧ i = .int .i64 k ∧ Below w.heap.size w wr) (fun i _ => ms.length - (intOf i).toNat)
  case atStart => exact ⟨0, Nat.zero_le _, rfl, Below.refl _ _⟩
  case round =>
    obtain ⟨k, hk, rfl, hW⟩ := hrel
    by_cases hlt : k < ms.length
    · have i1 : (0 : Int) ≤ (k : Int) := by omega
      have i2 : (k : Int) < (ms.length : Int) := by omega
      obtain ⟨b, o, rfl, hb, hc⟩ := (hu.up hW).cells moC_len hlt
      obtain ⟨b', o', rfl, hb', hc'⟩ := (hv.up hW).cells moC_len hlt
      have c0 := hc 0 _ rfl
      have c1 := hc 1 _ rfl
      have c2 := hc 2 _ rfl
      have c3 := hc 3 _ rfl
      have c4 := hc 4 _ rfl
      have c5 := hc 5 _ rfl
      have c6 := hc 6 _ rfl
      have d0 := hc' 0 _ rfl
      have d1 := hc' 1 _ rfl
      have d2 := hc' 2 _ rfl
      have d3 := hc' 3 _ rfl
      have d4 := hc' 4 _ rfl
      have d5 := hc' 5 _ rfl
      have d6 := hc' 6 _ rfl
      simp only [Nat.add_zero] at c0 d0
      clear hc hc'
      obtain ⟨x, hx⟩ : ∃ x, x = ms[k] := ⟨_, rfl⟩
      rw [← hx] at c0 c1 c2 c3 c4 c5 c6 d0 d1 d2 d3 d4 d5 d6
      clear hx
      have hne := UpW.nonempty wr
      have C1 := Lib.hid (fun y : UpW wr => calls_up (eqMoment_same x (y.at wr)))
      unfold moAgg at C1
      go_wp2_with fail
      refine wp_region_up_lit (by kernel_rfl) (by kernel_rfl) ?_
      repeat (go_big_quiet_step ((go_at_call 150; exact C1.out _)))
      refine wpQuiet_nil ?_
      intro w2 hb2
      replace hb2 := UpW.out hb2
      go_wp2_with fail
      go_roundw
      case rel => exact ⟨k + 1, by omega, by go_num, by exact bBel⟩
      case measure => simp [intOf]; omega
    · go_wp2_with fail
      go_ret
      exact ⟨rfl, hW⟩

set_option maxRecDepth 100000 in
set_option maxHeartbeats 1000000 in
theorem eqHistory_same (u v : Value) (ms : List Mo) (a : Int) (w : World) (hu : RdL w 7 moC u ms) (hv : RdL w 7 moC v ms) :
    Calls Tryz.prog 66 #[.agg #[u, .int .i64 a], .agg #[v, .int .i64 a]] w fun e w' => e = .returned (.bool true) ∧ Below w.heap.size w w' := by
  obtain ⟨A, c, rfl, hm, _⟩ := hu.form
  obtain ⟨B, d, rfl, _, _⟩ := hv.form
  have T := Lib.hid (fun (w' : World) (hb : Below w.heap.size w w') => eqMomentS_same (.slice A ms.length c) (.slice B ms.length d) ms w' (hu.up hb) (hv.up hb))
  clear hu hv
  go_enter Tryz.func66, Tryz.ntmps66
  go_wp2_with fail
  refine (T.out _ (by exact bBel)).mono ?_
  rintro e w1 ⟨rfl, hb⟩
  have xc : ∀ o, w1.cell? ⟨w.heap.size, o, none⟩ = #[.slice A ms.length c, .int .i64 a][o]? := (fun o => (hb.cell (p := ⟨w.heap.size, o, none⟩) (by simp <;> omega)).trans (by simp [go_sem])); have xf : ∀ o, w1.frozen? ⟨w.heap.size, o, none⟩ = false := (fun o => (hb.frozen (p := ⟨w.heap.size, o, none⟩) (by simp <;> omega)).trans (by simp [go_sem])); have xz : w.heap.size < w1.heap.size := (by have := hb.size; (try simp at this); omega); have xy := xz
  have yc : ∀ o, w1.cell? ⟨w.heap.size + 1, o, none⟩ = #[.slice B ms.length d, .int .i64 a][o]? := (fun o => (hb.cell (p := ⟨w.heap.size + 1, o, none⟩) (by simp <;> omega)).trans (by simp [go_sem])); have yf : ∀ o, w1.frozen? ⟨w.heap.size + 1, o, none⟩ = false := (fun o => (hb.frozen (p := ⟨w.heap.size + 1, o, none⟩) (by simp <;> omega)).trans (by simp [go_sem])); have yz : w.heap.size + 1 < w1.heap.size := (by have := hb.size; (try simp at this); omega); have yy := yz
  have hW : Below w.heap.size w w1 := by exact bBel
  clear hb xy yy T
  go_wp2_with fail
  go_ret
  exact ⟨rfl, by exact bBel⟩

end Go.Proofs.YtbjlkdenkmbepaaGreatDoor

namespace Go.Proofs.YtbjlkdenkmbepaaGreatDoor
open Go.RowKit
set_option linter.unusedVariables false

/-- the state that is marked from mark p on. -/
def mkMo (p : Nat) : Mo := ⟨p, ⟨(p + 1 : Nat), (p + 1 + 1 : Nat), mtx (p + 1 + 1 + 1)⟩, ⟨(p + 1 + 1 + 1 + 1 : Nat), (p + 1 + 1 + 1 + 1 + 1 : Nat), mtx (p + 1 + 1 + 1 + 1 + 1 + 1)⟩⟩
/-- the n marked states from mark q on. -/
def mkM (q n : Nat) : List Mo := (List.range n).map fun i => mkMo (q + 7 * i)
theorem mkM_len (q n : Nat) : (mkM q n).length = n := by simp [mkM]
theorem mkM_succ (q n : Nat) : mkM q (n + 1) = mkM q n ++ [mkMo (q + 7 * n)] := by simp [mkM, List.range_succ]
theorem mkM_at (q n k : Nat) (hk : k < (mkM q n).length) : (mkM q n)[k] = mkMo (q + 7 * k) := by simp [mkM]

set_option maxRecDepth 100000 in
set_option maxHeartbeats 2000000 in
theorem markMomentS_any (base : Nat) (v : Value) (n : Nat) (xs : List Value) (q : Nat) (w : World) (hq : 1 ≤ q) (hq2 : q ≤ 100) (hn : n ≤ 1048576) (ho : Own w base 96 7 v n xs) :
    Calls Tryz.prog 121 #[v, .int .i64 q] w fun e w' => e = .returned (.int .i64 ((q + 7 * n : Nat) : Int)) ∧ Own w' base 96 7 v n ((mkM q n).flatMap moC) ∧ w.grownBy w' v.ownBlock := by
  rcases ho.2 with ⟨rfl, rfl⟩ | ⟨g, cap, cur, rfl, hbg, hh, hnc, hcm, hcs, htake⟩
  · go_enter Tryz.func121, Tryz.ntmps121
    go_wp2_with fail
    refine wp_loop_rounds 1 ?_
    rw [rounds_succ]
    go_wp2_with fail
    go_ret
    exact ⟨ret_int (by omega), by simpa [mkM] using World.ownsRow_nil _ _ _ _, World.grownBy.refl _ _⟩
  · have hlen := ho.1
    clear hh hcs htake hbg
    go_enter Tryz.func121, Tryz.ntmps121
    go_wp2_with fail
    go_loopw [1, 5] (fun q' i wr => ∃ k : Nat, k ≤ n ∧ i = .int .i64 k ∧ q' = .int .i64 ((q + 7 * k : Nat) : Int) ∧ Own wr base 96 7 (.slice (some ⟨g, 0, none⟩) n cap) n ((mkM q k).flatMap moC ++ xs.drop (k * 7)) ∧ w.grownBy wr (some g)) (fun _ i _ => n - (intOf i).toNat)
    case atStart => exact ⟨0, Nat.zero_le _, rfl, rfl, by simpa [mkM] using ho, World.grownBy.refl _ _⟩
    case round =>
      obtain ⟨k, hk, rfl, rfl, how, hgr⟩ := hrel
      by_cases hlt : k < n
      · obtain ⟨p, hp⟩ : ∃ p, p = q + 7 * k := ⟨_, rfl⟩
        rw [← hp]
        have hp1 : 1 ≤ p := by omega
        have hp2 : p ≤ 7340132 := by omega
        have HP := Lib.hid hp
        clear hp ho
        have i1 : (0 : Int) ≤ (k : Int) := by omega
        have i2 : (k : Int) < (n : Int) := by omega
        have hgw : g < wr.heap.size := (how.lt g rfl).2
        obtain ⟨u0, d0⟩ := own_someM how (show k * 7 < n * 7 by omega)
        obtain ⟨u1, d1⟩ := own_someM how (show k * 7 + 1 < n * 7 by omega)
        obtain ⟨u2, d2⟩ := own_someM how (show k * 7 + 2 < n * 7 by omega)
        have f0 := how.frozenAt (k * 7)
        have f1 := how.frozenAt (k * 7 + 1)
        have f2 := how.frozenAt (k * 7 + 2)
        have HO1 := Lib.hid ((((how.stored (k * 7) (.int .i64 (p : Int))).1.stored (k * 7 + 1) (.int .i64 ((p + 1 : Nat) : Int))).1.stored (k * 7 + 2) (.int .i64 ((p + 1 + 1 : Nat) : Int))).1)
        have G1 : w.grownBy (((wr.setCell ⟨g, k * 7, none⟩ (.int .i64 (p : Int))).setCell ⟨g, k * 7 + 1, none⟩ (.int .i64 ((p + 1 : Nat) : Int))).setCell ⟨g, k * 7 + 2, none⟩ (.int .i64 ((p + 1 + 1 : Nat) : Int))) (some g) := gb_here (gb_here (gb_here hgr rfl _) rfl _) rfl _
        have HG1 := Lib.hid G1
        clear how hgr G1
        go_wp2_with fail
        refine (markText_any (p + 1 + 1 + 1) _ (by omega) (by omega)).mono ?_
        rintro e w1 ⟨rfl, hb1⟩
        have how1 := own_up HO1.out hb1
        obtain ⟨u3, d3⟩ := own_someM how1 (show k * 7 + 3 < n * 7 by omega)
        obtain ⟨u4, d4⟩ := own_someM how1 (show k * 7 + 4 < n * 7 by omega)
        obtain ⟨u5, d5⟩ := own_someM how1 (show k * 7 + 5 < n * 7 by omega)
        have f3 := how1.frozenAt (k * 7 + 3)
        have f4 := how1.frozenAt (k * 7 + 4)
        have f5 := how1.frozenAt (k * 7 + 5)
        have HO2 := Lib.hid ((((how1.stored (k * 7 + 3) (S (mtx (p + 1 + 1 + 1)))).1.stored (k * 7 + 4) (.int .i64 ((p + 1 + 1 + 1 + 1 : Nat) : Int))).1.stored (k * 7 + 5) (.int .i64 ((p + 1 + 1 + 1 + 1 + 1 : Nat) : Int))).1)
        have HG2 := Lib.hid (gb_here (gb_here (gb_here (gb_below HG1.out hb1) rfl _) rfl _) rfl _ : w.grownBy (((w1.setCell ⟨g, k * 7 + 3, none⟩ (S (mtx (p + 1 + 1 + 1)))).setCell ⟨g, k * 7 + 4, none⟩ (.int .i64 ((p + 1 + 1 + 1 + 1 : Nat) : Int))).setCell ⟨g, k * 7 + 5, none⟩ (.int .i64 ((p + 1 + 1 + 1 + 1 + 1 : Nat) : Int))) (some g))
        clear how1 hb1 HO1 HG1 d0 d1 d2 f0 f1 f2
        go_wp2_with fail
        refine (markText_any (p + 1 + 1 + 1 + 1 + 1 + 1) _ (by omega) (by omega)).mono ?_
        rintro e w2 ⟨rfl, hb2⟩
        have how2 := own_up HO2.out hb2
        obtain ⟨u6, d6⟩ := own_someM how2 (show k * 7 + 6 < n * 7 by omega)
        have f6 := how2.frozenAt (k * 7 + 6)
        have HO3 := Lib.hid ((how2.stored (k * 7 + 6) (S (mtx (p + 1 + 1 + 1 + 1 + 1 + 1)))).1)
        have HG3 := Lib.hid (gb_here (gb_below HG2.out hb2) rfl _ : w.grownBy (w2.setCell ⟨g, k * 7 + 6, none⟩ (S (mtx (p + 1 + 1 + 1 + 1 + 1 + 1)))) (some g))
        clear how2 hb2 HO2 HG2 d3 d4 d5 f3 f4 f5
        go_wp2_with fail
        go_roundw
        case rel =>
          refine ⟨k + 1, by omega, by go_num, by rw [show q + 7 * (k + 1) = p + 1 + 1 + 1 + 1 + 1 + 1 + 1 by rw [HP.out]; omega]; go_num, ?_, HG3.out⟩
          have := HO3.out
          rw [set7 _ _ _ _ _ _ _ _ _ (k * 7) (by rw [flat_len moC 7 moC_len, mkM_len]) (by rw [List.length_drop, hlen]; omega), List.drop_drop] at this
          rw [mkM_succ, List.flatMap_append, show (k + 1) * 7 = k * 7 + 7 by omega, ← HP.out]
          exact this
        case measure => simp [intOf]; omega
      · obtain rfl : k = n := by omega
        have Ho := Lib.hid how
        have Hg := Lib.hid hgr
        clear ho how hgr
        go_wp2_with fail
        go_ret
        refine ⟨rfl, ?_, Hg.out⟩
        have := Ho.out
        rwa [List.drop_of_length_le (by omega), List.append_nil] at this

set_option maxRecDepth 100000 in
set_option maxHeartbeats 2000000 in
theorem heldMomentS_any (v : Value) (n : Nat) (q : Nat) (w : World) (hq : 1 ≤ q) (hq2 : q ≤ 100) (hn : n ≤ 1048576) (hu : RdL w 7 moC v (mkM q n)) :
    Calls Tryz.prog 122 #[v, .int .i64 q] w fun e w' => e = .returned (.int .i64 ((q + 7 * n : Nat) : Int)) ∧ Below w.heap.size w w' := by
  obtain ⟨A, c, rfl, _, _⟩ := hu.form
  have hml := mkM_len q n
  rw [hml]
  rw [hml] at hu
  go_enter Tryz.func122, Tryz.ntmps122
  go_wp2_with fail
  go_loopw [1, 5] (fun q' i wr => ∃ k : Nat, k ≤ n ∧ i = .int .i64 k ∧ q' = .int .i64 ((q + 7 * k : Nat) : Int) ∧ Below w.heap.size w wr) (fun _ i _ => n - (intOf i).toNat)
  case atStart => exact ⟨0, Nat.zero_le _, rfl, rfl, Below.refl _ _⟩
  case round =>
    obtain ⟨k, hk, rfl, rfl, hW⟩ := hrel
    by_cases hlt : k < n
    · have hlt' : k < (mkM q n).length := by rw [hml]; exact hlt
      obtain ⟨b, o, rfl, hb, hc⟩ := (hu.up hW).cells moC_len hlt'
      rw [mkM_at q n k hlt'] at hc
      have c0 := hc 0 _ rfl
      have c1 := hc 1 _ rfl
      have c2 := hc 2 _ rfl
      have c3 := hc 3 _ rfl
      have c4 := hc 4 _ rfl
      have c5 := hc 5 _ rfl
      have c6 := hc 6 _ rfl
      simp only [Nat.add_zero, mkMo] at c0 c1 c2 c3 c4 c5 c6
      clear hc hu hlt'
      obtain ⟨p, hp⟩ : ∃ p, p = q + 7 * k := ⟨_, rfl⟩
      rw [← hp] at c0 c1 c2 c3 c4 c5 c6
      rw [← hp]
      have hp1 : 1 ≤ p := by omega
      have hp2 : p ≤ 7340132 := by omega
      have HP := Lib.hid hp
      clear hp
      have i1 : (0 : Int) ≤ (k : Int) := by omega
      have i2 : (k : Int) < (n : Int) := by omega
      have hne := UpW.nonempty wr
      have C1 := Lib.hid (fun y : UpW wr => calls_up (markText_any (p + 1 + 1 + 1) (y.at wr) (by omega) (by omega)))
      go_wp2_with fail
      refine wp_region_up_lit (by kernel_rfl) (by kernel_rfl) ?_
      repeat (go_big_quiet_step ((go_at_call 69; exact C1.out _)))
      refine wpQuiet_nil ?_
      intro w1 hb1
      replace hb1 := UpW.out hb1
      replace c4 := (hb1.cell (p := ⟨b, o + k * 7 + 4, none⟩) hb).trans c4
      replace c5 := (hb1.cell (p := ⟨b, o + k * 7 + 5, none⟩) hb).trans c5
      replace c6 := (hb1.cell (p := ⟨b, o + k * 7 + 6, none⟩) hb).trans c6
      have hz1 : b < w1.heap.size := Nat.lt_of_lt_of_le hb hb1.size
      have hW1 : Below w.heap.size w w1 := up_trans hW hb1
      clear c0 c1 c2 c3 C1 hb1 hne
      have hne := UpW.nonempty w1
      have C1 := Lib.hid (fun y : UpW w1 => calls_up (markText_any (p + 1 + 1 + 1 + 1 + 1 + 1) (y.at w1) (by omega) (by omega)))
      go_wp2_with fail
      refine wp_region_up_lit (by kernel_rfl) (by kernel_rfl) ?_
      repeat (go_big_quiet_step ((go_at_call 69; exact C1.out _)))
      refine wpQuiet_nil ?_
      intro w2 hb2
      replace hb2 := UpW.out hb2
      have hW2 : Below w.heap.size w w2 := up_trans hW1 hb2
      clear c4 c5 c6 C1 hb2 hne hW1
      go_wp2_with fail
      go_roundw
      case rel => exact ⟨k + 1, by omega, by go_num, by rw [show q + 7 * (k + 1) = p + 1 + 1 + 1 + 1 + 1 + 1 + 1 by rw [HP.out]; omega]; go_num, hW2⟩
      case measure => simp [intOf]; omega
    · obtain rfl : k = n := by omega
      go_wp2_with fail
      go_ret
      exact ⟨rfl, hW⟩

set_option maxRecDepth 100000 in
theorem markHistory_any (base : Nat) (v : Value) (n : Nat) (a : Int) (xs : List Value) (q : Nat) (w : World) (hq : 1 ≤ q) (hq2 : q ≤ 100) (hn : n ≤ 1048576) (hbw : base ≤ w.heap.size) (ho : Own w base 96 7 v n xs) :
    Calls Tryz.prog 67 #[.agg #[v, .int .i64 a], .int .i64 q] w fun e w' => e = .returned (.int .i64 ((q + 7 * n : Nat) : Int)) ∧ Own w' base 96 7 v n ((mkM q n).flatMap moC) ∧ w.grownBy w' v.ownBlock := by
  have form : ∃ A c, v = .slice A n c := by
    rcases ho.2 with ⟨rfl, rfl⟩ | ⟨g, cap, cur, rfl, _⟩
    · exact ⟨_, _, rfl⟩
    · exact ⟨_, _, rfl⟩
  obtain ⟨A, c, rfl⟩ := form
  have hlt := Lib.hid (fun g (e : (Value.slice A n c).ownBlock = some g) => (ho.lt g e).2)
  have T := Lib.hid (fun (w' : World) (hb : Below w.heap.size w w') => markMomentS_any base (.slice A n c) n xs q w' hq hq2 hn (own_up ho hb))
  clear ho
  go_enter Tryz.func67, Tryz.ntmps67
  go_wp2_with fail
  refine (T.out _ (by exact bBel)).mono ?_
  rintro e w1 ⟨rfl, ho1, hgr⟩
  have HO := Lib.hid ho1
  have HG : Hid (w.grownBy w1 (Value.slice A n c).ownBlock) := Lib.hid (gb_trans (gb_below (World.grownBy.refl _ _) (by exact bBel)) hgr)
  clear hgr ho1 T
  go_wp2_with fail
  go_ret
  exact ⟨rfl, HO.out, HG.out⟩

set_option maxRecDepth 100000 in
theorem heldHistory_any (v : Value) (n : Nat) (a : Int) (q : Nat) (w : World) (hq : 1 ≤ q) (hq2 : q ≤ 100) (hn : n ≤ 1048576) (hu : RdL w 7 moC v (mkM q n)) :
    Calls Tryz.prog 68 #[.agg #[v, .int .i64 a], .int .i64 q] w fun e w' => e = .returned (.int .i64 ((q + 7 * n : Nat) : Int)) ∧ Below w.heap.size w w' := by
  obtain ⟨A, c, rfl, _, _⟩ := hu.form
  rw [mkM_len] at *
  have T := Lib.hid (fun (w' : World) (hb : Below w.heap.size w w') => heldMomentS_any (.slice A n c) n q w' hq hq2 hn (hu.up hb))
  clear hu
  go_enter Tryz.func68, Tryz.ntmps68
  go_wp2_with fail
  refine (T.out _ (by exact bBel)).mono ?_
  rintro e w1 ⟨rfl, hb⟩
  have hW : Below w.heap.size w w1 := by exact bBel
  have p1 : ¬ ((q + 7 * n : Nat) : Int) < 0 := by omega
  clear hb T
  go_wp2_with fail
  go_ret
  exact ⟨rfl, hW⟩

end Go.Proofs.YtbjlkdenkmbepaaGreatDoor

namespace Go.Proofs.YtbjlkdenkmbepaaGreatDoor
open Go.ChangeShapes Go.WideShapes Go.ChangeAt Go.RowKit Go.Deep

section
variable {H : Type} {enc : TypeId × Value → H} {P : Program} {w : World} {base : Nat} {spare : Nat → Bool} {held : Bool}
end

/-- what the cells of a slice's elements read as, element by element, is what the whole reads as. -/
theorem rdL_of {α : Type} {W : World} {m : Nat} {f : α → List Value} (hf : ∀ a, (f a).length = m) {x : Addr} {len cap : Nat} {bs : List α} (hm0 : 0 < m) (hlen : bs.length = len) (hl : len ≤ cap) (hm : cap ≤ maxLen)
    (hcell : ∀ k (hk : k < bs.length) j u, (f bs[k])[j]? = some u → W.cell? (x.add (k * m + j)) = some u) : RdL W m f (.slice (some x) len cap) bs := by
  refine ⟨flat_len f m hf bs, by omega, some x, cap, by rw [hlen], by omega, fun hn => ?_⟩
  obtain ⟨b, o, spot⟩ := x
  have h0 : ∃ u, (f bs[0])[0]? = some u := ⟨_, List.getElem?_eq_getElem (by rw [hf]; exact hm0)⟩
  obtain ⟨u0, hu0⟩ := h0
  have hc := hcell 0 hn 0 u0 hu0
  have hspot : spot = none := by simpa [Addr.add] using World.cell?_spot hc
  subst hspot
  have hadd : ∀ j, (⟨b, o, none⟩ : Addr).add j = ⟨b, o + j, none⟩ := fun j => by unfold Addr.add; split <;> simp_all
  have hlt := World.block_lt_of_cell? W _ hc
  rw [hadd] at hlt
  refine ⟨b, o, rfl, hlt, fun j u hu => ?_⟩
  have hj : j < bs.length * m := by
    have := (List.getElem?_eq_some_iff.1 hu).1
    rwa [flat_len f m hf] at this
  have hk : j / m < bs.length := Nat.div_lt_of_lt_mul (by rw [Nat.mul_comm]; exact hj)
  have hjm : j / m * m + j % m = j := by rw [Nat.mul_comm]; exact Nat.div_add_mod j m
  have hmod : j % m < m := Nat.mod_lt _ hm0
  have h1 := flat_at f m hf bs (j / m) (j % m) _ (List.getElem?_eq_getElem hk) hmod
  rw [hjm, hu] at h1
  have h2 := hcell (j / m) hk (j % m) u h1.symm
  rwa [hjm, hadd] at h2

end Go.Proofs.YtbjlkdenkmbepaaGreatDoor

namespace Go.Proofs.YtbjlkdenkmbepaaGreatDoor
open Go.ChangeShapes Go.WideShapes Go.ChangeAt Go.RowKit Go.Deep
set_option linter.unusedVariables false

theorem exists_listM {α : Type} (R : Nat → α → Prop) : ∀ n, (∀ i, i < n → ∃ a, R i a) → ∃ l : List α, l.length = n ∧ ∀ i (hi : i < l.length), R i l[i]
  | 0, _ => ⟨[], rfl, fun i hi => by simp at hi⟩
  | n + 1, h => by
    obtain ⟨l, hl, hr⟩ := exists_listM R n (fun i hi => h i (by omega))
    obtain ⟨a, ha⟩ := h n (by omega)
    refine ⟨l ++ [a], by simp [hl], fun i hi => ?_⟩
    by_cases hin : i < l.length
    · rw [List.getElem_append_left hin]; exact hr i hin
    · have hi' : i = n := by simp at hi; omega
      subst hi'
      rw [List.getElem_append_right (by omega)]
      simpa [hl] using ha

section
variable {H : Type} {enc : TypeId × Value → H} {W : World} {base : Nat} {spare : Nat → Bool} {held : Bool}
theorem cellsCh : Tryz.prog.cellsOf 137 = 3 := by kernel_rfl
theorem cellsMo : Tryz.prog.cellsOf 139 = 7 := by kernel_rfl
set_option maxRecDepth 100000 in
theorem chArg {fuel : Nat} {u0 u1 u2 : Value} {x : DataW H × List MemPlace} (h : DataW.trod enc Tryz.prog W base spare held fuel 137 [u0, u1, u2] = some x) : ∃ c : Ch, [u0, u1, u2] = chC c ∧ c.p.length ≤ maxLen := by
  obtain ⟨y0, y1, y2, n, _, _, t0, t1, t2⟩ := trod_struct3 Tryz.underlying137 h
  obtain ⟨a0, e0, _, _⟩ := DataW.trod_int Tryz.underlying3 t0
  obtain ⟨a1, e1, _, _⟩ := DataW.trod_int Tryz.underlying3 t1
  obtain ⟨⟨⟨s2⟩⟩, e2, _, w2⟩ := DataW.trod_string Tryz.underlying9 t2
  have c1 : Tryz.prog.cellsOf 3 = 1 := by kernel_rfl
  have c2 : Tryz.prog.cellsOf 9 = 1 := by kernel_rfl
  simp [c1] at e0
  simp [c1] at e1
  simp [c2] at e2
  subst e0 e1 e2
  exact ⟨⟨a0, a1, s2⟩, rfl, w2⟩
set_option maxRecDepth 100000 in
theorem moArg {fuel : Nat} {cs : List Value} {x : DataW H × List MemPlace} (h : DataW.trod enc Tryz.prog W base spare held fuel 139 cs = some x) : ∃ m : Mo, cs = moC m ∧ m.f.p.length ≤ maxLen ∧ m.b.p.length ≤ maxLen := by
  obtain ⟨y0, y1, y2, n, _, hl, t0, t1, t2⟩ := trod_struct3 Tryz.underlying139 h
  rw [cellsMo] at hl
  obtain ⟨u0, u1, u2, u3, u4, u5, u6, rfl⟩ : ∃ u0 u1 u2 u3 u4 u5 u6, cs = [u0, u1, u2, u3, u4, u5, u6] := by
    match cs, hl with
    | [u0, u1, u2, u3, u4, u5, u6], _ => exact ⟨u0, u1, u2, u3, u4, u5, u6, rfl⟩
  rw [cellsCh] at t1 t2
  obtain ⟨a0, e0, _, _⟩ := DataW.trod_int Tryz.underlying3 t0
  have c1 : Tryz.prog.cellsOf 3 = 1 := by kernel_rfl
  simp [c1] at e0
  obtain ⟨f, ef, wf⟩ := chArg t1
  obtain ⟨b, eb, wb⟩ := chArg t2
  simp [chC] at ef eb
  obtain ⟨rfl, rfl, rfl⟩ := ef
  obtain ⟨rfl, rfl, rfl⟩ := eb
  subst e0
  exact ⟨⟨a0, f, b⟩, rfl, wf, wb⟩

set_option maxRecDepth 100000 in
theorem rdM_arg {fuel : Nat} {c0 : Value} {y : DataW H × List MemPlace} (h : DataW.trod enc Tryz.prog W base spare held fuel 37 [c0] = some y) : ∃ ms, RdM0 W c0 ms := by
  rcases open_slice Tryz.underlying37 h with ⟨hcs, _⟩ | ⟨a, len, cap, m, n, D, Pl, hcs, _, hl, hm, hmm, _, hi⟩
  · simp at hcs
    subst hcs
    exact ⟨[], ⟨rfl, Nat.zero_le _, none, 0, rfl, Nat.le_refl _, fun h => absurd h (by simp)⟩, fun b hb => by cases hb⟩
  · simp at hcs
    subst hcs
    have hlm : len ≤ m := by rw [hmm]; split <;> omega
    rw [cellsMo] at hi
    obtain ⟨ms, hml, hms⟩ := exists_listM (fun i (m : Mo) => (∀ j u, (moC m)[j]? = some u → W.cell? (a.add (i * 7 + j)) = some u) ∧ m.f.p.length ≤ maxLen ∧ m.b.p.length ≤ maxLen) len (fun i hil => by
      obtain ⟨cs', hc, ht⟩ := hi i (by omega)
      obtain ⟨m, rfl, w1, w2⟩ := moArg ht
      obtain ⟨_, hcl, hat⟩ := World.cells?_some hc
      refine ⟨m, fun j u hu => ?_, w1, w2⟩
      have hj := (List.getElem?_eq_some_iff.1 hu).1
      rw [moC_len] at hj
      have := hat j hj
      rw [← Go.Deep.add_add, this, hu])
    exact ⟨ms, rdL_of moC_len (by omega) hml hl hm (fun k hk j u hu => (hms k hk).1 j u hu), fun b hb => by obtain ⟨i, hi', rfl⟩ := List.getElem_of_mem hb; exact (hms i hi').2⟩
end

end Go.Proofs.YtbjlkdenkmbepaaGreatDoor

namespace Go.Proofs.YtbjlkdenkmbepaaGreatDoor
open Go.RowKit
set_option linter.unusedVariables false

theorem ne_swap {a b : Option Nat} (h : a = none ∨ a ≠ b) : b = none ∨ b ≠ a := by
  rcases b with _ | b
  · exact .inl rfl
  · rcases h with rfl | h
    · exact .inr (by simp)
    · exact .inr fun e => h e.symm
theorem ho_ne {w : World} {base size n x : Nat} {e : TypeId} {v : Value} {xs : List Value} (h : Own w base e size v n xs) (hx : x < base) : v.ownBlock ≠ some x := fun he => by
  have := (h.lt x he).1; omega
theorem ho_gt {w : World} {base size n x : Nat} {e : TypeId} {v : Value} {xs : List Value} (h : Own w base e size v n xs) (hx : w.heap.size ≤ x) : v.ownBlock ≠ some x := fun he => by
  have := (h.lt x he).2; omega
theorem gk_c {a b : World} {A : Array Value} {x : Nat} {row : Option Nat} (h : a.grownBy b row) (hz : x < a.heap.size) (hn : row ≠ some x) (hc : ∀ o, a.cell? ⟨x, o, none⟩ = A[o]?) : ∀ o, b.cell? ⟨x, o, none⟩ = A[o]? :=
  fun o => (World.cell?_of_block (a := ⟨x, o, none⟩) (h.block x hz (fun e => hn e.symm))).trans (hc o)
theorem gk_f {a b : World} {x : Nat} {row : Option Nat} (h : a.grownBy b row) (hz : x < a.heap.size) (hn : row ≠ some x) (hc : ∀ o, a.frozen? ⟨x, o, none⟩ = false) : ∀ o, b.frozen? ⟨x, o, none⟩ = false :=
  fun o => (World.frozen?_of_block (a := ⟨x, o, none⟩) (h.block x hz (fun e => hn e.symm))).trans (hc o)
end Go.Proofs.YtbjlkdenkmbepaaGreatDoor

namespace Go.Proofs.YtbjlkdenkmbepaaGreatDoor
open Go.RowKit

theorem eqStringS_same (u v : Value) (xs : List (List UInt8)) (w : World) (hu : RdL w 1 strC u xs) (hv : RdL w 1 strC v xs) :
    Calls Tryz.prog 27 #[u, v] w fun e w' => e = .returned (.bool true) ∧ Below w.heap.size w w' := by
  obtain ⟨A, c, rfl, hm, _⟩ := hu.form
  obtain ⟨B, d, rfl, _, _⟩ := hv.form
  unfold maxLen at hm
  go_enter Tryz.func27, Tryz.ntmps27
  go_wp2_with fail
  go_loopw [5] (fun i wr => ∃ k : Nat, k ≤ xs.length ∧ i = .int .i64 k ∧ Below w.heap.size w wr) (fun i _ => xs.length - (intOf i).toNat)
  case atStart => exact ⟨0, Nat.zero_le _, rfl, Below.refl _ _⟩
  case round =>
    obtain ⟨k, hk, rfl, hW⟩ := hrel
    by_cases hlt : k < xs.length
    · have i1 : (0 : Int) ≤ (k : Int) := by omega
      have i2 : (k : Int) < (xs.length : Int) := by omega
      obtain ⟨b, o, rfl, hb, hc⟩ := (hu.up hW).cells strC_len hlt
      obtain ⟨b', o', rfl, hb', hc'⟩ := (hv.up hW).cells strC_len hlt
      have c0 := hc 0 _ rfl
      have d0 := hc' 0 _ rfl
      simp only [Nat.mul_one, Nat.add_zero] at c0 d0
      clear hc hc'
      obtain ⟨x, hx⟩ : ∃ x, x = xs[k] := ⟨_, rfl⟩
      rw [← hx] at c0 d0
      clear hx
      go_wp2_with fail
      go_quiet (fail)
      go_wp2_with fail
      go_roundw
      case rel => exact ⟨k + 1, by omega, by go_num, by exact bBel⟩
      case measure => simp [intOf]; omega
    · go_wp2_with fail
      go_ret
      exact ⟨rfl, hW⟩

theorem own_someS {w : World} {base : Nat} {e : TypeId} {size g n cap j : Nat} {xs : List Value} (h : Own w base e size (.slice (some ⟨g, 0, none⟩) n cap) n xs) (hj : j < n * size) : ∃ u, w.cell? ⟨g, j, none⟩ = some u := by
  rw [h.cellAt j hj]
  exact ⟨_, List.getElem?_eq_getElem (by rw [h.1]; exact hj)⟩
/-- the n marked texts from mark q on. -/
def mkS (q n : Nat) : List (List UInt8) := (List.range n).map fun i => mtx (q + i)
theorem mkS_len (q n : Nat) : (mkS q n).length = n := by simp [mkS]
theorem mkS_succ (q n : Nat) : mkS q (n + 1) = mkS q n ++ [mtx (q + n)] := by simp [mkS, List.range_succ]
theorem set1 (a b : List Value) (u : Value) (k : Nat) (h : a.length = k) (hb : 1 ≤ b.length) : (a ++ b).set k u = a ++ [u] ++ b.drop 1 := by
  subst h
  obtain ⟨b0, b, rfl⟩ : ∃ x y, b = x :: y := by cases b with | nil => simp at hb | cons x y => exact ⟨x, y, rfl⟩
  simp

set_option maxHeartbeats 1000000 in
theorem markStringS_any (base : Nat) (v : Value) (n : Nat) (xs : List Value) (q : Nat) (w : World) (hq : 1 ≤ q) (hq2 : q ≤ 8000000) (hn : n ≤ 1048576) (ho : Own w base 9 1 v n xs) :
    Calls Tryz.prog 28 #[v, .int .i64 q] w fun e w' => e = .returned (.int .i64 ((q + n : Nat) : Int)) ∧ Own w' base 9 1 v n ((mkS q n).flatMap strC) ∧ w.grownBy w' v.ownBlock := by
  rcases ho.2 with ⟨rfl, rfl⟩ | ⟨g, cap, cur, rfl, hbg, hh, hnc, hcm, hcs, htake⟩
  · go_enter Tryz.func28, Tryz.ntmps28
    go_wp2_with fail
    refine wp_loop_rounds 1 ?_
    rw [rounds_succ]
    go_wp2_with fail
    go_ret
    exact ⟨ret_int (by omega), by simpa [mkS] using World.ownsRow_nil _ _ _ _, World.grownBy.refl _ _⟩
  · have hlen := ho.1
    clear hh hcs htake hbg
    go_enter Tryz.func28, Tryz.ntmps28
    go_wp2_with fail
    go_loopw [1, 5] (fun q' i wr => ∃ k : Nat, k ≤ n ∧ i = .int .i64 k ∧ q' = .int .i64 ((q + k : Nat) : Int) ∧ Own wr base 9 1 (.slice (some ⟨g, 0, none⟩) n cap) n ((mkS q k).flatMap strC ++ xs.drop k) ∧ w.grownBy wr (some g)) (fun _ i _ => n - (intOf i).toNat)
    case atStart => exact ⟨0, Nat.zero_le _, rfl, rfl, by simpa [mkS] using ho, World.grownBy.refl _ _⟩
    case round =>
      obtain ⟨k, hk, rfl, rfl, how, hgr⟩ := hrel
      by_cases hlt : k < n
      · obtain ⟨p, hp⟩ : ∃ p, p = q + k := ⟨_, rfl⟩
        rw [← hp]
        have hp1 : 1 ≤ p := by omega
        have hp2 : p ≤ 10000000 := by omega
        have HP := Lib.hid hp
        clear hp ho
        have i1 : (0 : Int) ≤ (k : Int) := by omega
        have i2 : (k : Int) < (n : Int) := by omega
        have hgw : g < wr.heap.size := (how.lt g rfl).2
        go_wp2_with fail
        refine (markText_any p _ hp1 (by omega)).mono ?_
        rintro e w1 ⟨rfl, hb1⟩
        have how1 := own_up how hb1
        obtain ⟨u0, c0⟩ := own_someS how1 (show k < n * 1 by omega)
        have f0 := how1.frozenAt k
        have st1 := how1.stored k (S (mtx p))
        have G1 : w.grownBy (w1.setCell ⟨g, k, none⟩ (S (mtx p))) (some g) := gb_here (gb_below hgr hb1) rfl _
        have HO1 := Lib.hid st1.1
        have HG1 := Lib.hid G1
        clear st1 how how1 hb1 hgr G1
        go_wp2_with fail
        go_roundw
        case rel =>
          refine ⟨k + 1, by omega, by go_num, by rw [show q + (k + 1) = p + 1 by rw [HP.out]; omega]; go_num, ?_, HG1.out⟩
          have := HO1.out
          rw [set1 _ _ _ k (by rw [flat_len strC 1 strC_len, mkS_len]; omega) (by rw [List.length_drop, hlen]; omega), List.drop_drop] at this
          rw [mkS_succ, List.flatMap_append, ← HP.out]
          exact this
        case measure => simp [intOf]; omega
      · obtain rfl : k = n := by omega
        have Ho := Lib.hid how
        have Hg := Lib.hid hgr
        clear ho how hgr
        go_wp2_with fail
        go_ret
        refine ⟨rfl, ?_, Hg.out⟩
        have := Ho.out
        rwa [List.drop_of_length_le (by omega), List.append_nil] at this


end Go.Proofs.YtbjlkdenkmbepaaGreatDoor

namespace Go.Proofs.YtbjlkdenkmbepaaGreatDoor
open Go.RowKit
set_option linter.unusedVariables false

/-- a slice of texts, none longer than a slice can be. -/
def RdS (w : World) (v : Value) (rs : List (List UInt8)) : Prop := RdL w 1 strC v rs ∧ ∀ r ∈ rs, r.length ≤ maxLen
theorem RdS.up {w w' : World} {v : Value} {rs : List (List UInt8)} (h : RdS w v rs) (hb : Below w.heap.size w w') : RdS w' v rs := ⟨RdL.up h.1 hb, h.2⟩
def SzSPost (rs : List (List UInt8)) (q : Int) (w : World) (e : Ending) (w' : World) : Prop := ∃ z : Int, e = .returned (.int .i64 z) ∧ w = w' ∧ z ≤ q ∧ (0 ≤ z → rs.length ≤ 1048576 ∧ ∀ r ∈ rs, r.length ≤ 1048576)
theorem take_all_succ {rs : List (List UInt8)} {k : Nat} (hk : k < rs.length) (h : ∀ r ∈ rs.take k, r.length ≤ 1048576) (h2 : rs[k].length ≤ 1048576) : ∀ r ∈ rs.take (k + 1), r.length ≤ 1048576 := by
  intro r hr
  rw [List.take_succ_eq_append_getElem hk, List.mem_append, List.mem_singleton] at hr
  rcases hr with hr | rfl
  · exact h r hr
  · exact h2

set_option maxHeartbeats 1000000 in
theorem szStringS_any (v : Value) (rs : List (List UInt8)) (q : Int) (w : World) (h : RdS w v rs) (h0 : 0 ≤ q) (h1 : q ≤ 1048576) :
    Calls Tryz.prog 25 #[v, .int .i64 q] w (SzSPost rs q w) := by
  obtain ⟨A, c, rfl, hml, _⟩ := h.1.form
  unfold maxLen at hml
  have H := Lib.hid h
  clear h
  by_cases hn : (rs.length : Int) ≤ q
  · have i1 : ¬ q - (rs.length : Int) < 0 := by omega
    go_enter Tryz.func25, Tryz.ntmps25
    go_wp2_with fail
    go_loop [1, 5] (fun l i => ∃ (k : Nat) (z : Int), k ≤ rs.length ∧ i = .int .i64 k ∧ l = .int .i64 z ∧ 0 ≤ z ∧ z ≤ q ∧ Hid (∀ r ∈ rs.take k, r.length ≤ 1048576)) (fun _ i => rs.length - (intOf i).toNat)
    case atStart => exact ⟨0, q - rs.length, Nat.zero_le _, rfl, rfl, by omega, by omega, Lib.hid (by simp)⟩
    case round =>
      obtain ⟨k, z, hk, rfl, rfl, hz0, hz1, HA⟩ := hrel
      by_cases hlt : k < rs.length
      · have j1 : (0 : Int) ≤ (k : Int) := by omega
        have j2 : (k : Int) < (rs.length : Int) := by omega
        obtain ⟨b, o, rfl, hb, hc⟩ := H.out.1.cells strC_len hlt
        have c0 := hc 0 _ rfl
        simp only [Nat.mul_one, Nat.add_zero] at c0
        have hrl := H.out.2 _ (List.getElem_mem hlt)
        unfold maxLen at hrl
        have HT := Lib.hid (take_all_succ hlt HA.out)
        generalize rs[k] = r at *
        clear hc
        by_cases hz : (r.length : Int) ≤ z
        · have j3 : ¬ z - (r.length : Int) < 0 := by omega
          go_wp2_with fail
          go_round
          case rel => exact ⟨k + 1, z - r.length, by omega, by go_num, rfl, by omega, by omega, Lib.hid (HT.out (by omega))⟩
          case measure => simp [intOf]; omega
        · have j3 : z - (r.length : Int) < 0 := by omega
          go_wp2_with fail
          go_ret
          exact ⟨-1, rfl, rfl, by omega, fun e => by omega⟩
      · obtain rfl : k = rs.length := by omega
        have HA2 := Lib.hid (show ∀ r ∈ rs, r.length ≤ 1048576 by have := HA.out; rwa [List.take_length] at this)
        go_wp2_with fail
        go_ret
        exact ⟨z, rfl, rfl, hz1, fun _ => ⟨by omega, HA2.out⟩⟩
  · have i1 : q - (rs.length : Int) < 0 := by omega
    go_enter Tryz.func25, Tryz.ntmps25
    go_wp2_with fail
    go_ret
    exact ⟨-1, rfl, rfl, by omega, fun e => by omega⟩

theorem set1S (a b : List Value) (u : Value) (k : Nat) (h : a.length = k) (hb : 1 ≤ b.length) : (a ++ b).set k u = a ++ [u] ++ b.drop 1 := by
  subst h
  obtain ⟨b0, b, rfl⟩ : ∃ x y, b = x :: y := by cases b with | nil => simp at hb | cons x y => exact ⟨x, y, rfl⟩
  simp
theorem own_set1S {w : World} {base : Nat} {e : TypeId} {g n cap k : Nat} {a b : List Value} (h : Own w base e 1 (.slice (some ⟨g, 0, none⟩) n cap) n (a ++ b)) (ha : a.length = k) (hk : k < n) (u : Value) :
    Own (w.setCell ⟨g, k, none⟩ u) base e 1 (.slice (some ⟨g, 0, none⟩) n cap) n (a ++ [u] ++ b.drop 1) := by
  have h1 := (h.stored k u).1
  rw [set1S a b u k ha (by have := h.1; rw [List.length_append] at this; omega)] at h1
  exact h1
theorem own_someT {w : World} {base : Nat} {e : TypeId} {size g n cap j : Nat} {xs : List Value} (h : Own w base e size (.slice (some ⟨g, 0, none⟩) n cap) n xs) (hj : j < n * size) : ∃ u, w.cell? ⟨g, j, none⟩ = some u := by
  rw [h.cellAt j hj]
  exact ⟨_, List.getElem?_eq_getElem (by rw [h.1]; exact hj)⟩
def ToSPost (rs : List (List UInt8)) (w : World) (e : Ending) (w' : World) : Prop := ∃ v, e = .returned v ∧ Own w' w.heap.size 9 1 v rs.length (rs.flatMap strC) ∧ Below w.heap.size w w'

set_option maxHeartbeats 800000 in
theorem toStringS_any (v : Value) (rs : List (List UInt8)) (w : World) (h : RdS w v rs) (hn : rs.length ≤ 1048576) :
    Calls Tryz.prog 26 #[v] w (ToSPost rs w) := by
  obtain ⟨A, c, rfl, _, _⟩ := h.1.form
  obtain ⟨i0, hi, hz0, hz1, hz2⟩ := info_parts str_info
  have H := Lib.hid h
  clear h
  go_enter Tryz.func26, Tryz.ntmps26
  go_wp2_with (at_make; refine wpList_make_full _ rfl _ _ 28 rfl w.heap.size 9 i0 _ 1 Tryz.underlying28 hi hz0 hz1 _ _ _ _ rs.length rfl rfl rfl rfl (by rw [hz2]; omega) (by unfold maxLen; omega) (Nat.le_refl _) ?_; intro w1 how hgr)
  have hW : Below w.heap.size w w1 := up_grown (Below.refl _ _) hgr (fun k hk => by cases hk)
  obtain ⟨ys, hys⟩ : ∃ ys, ys = (madeCells (S []).cells (rs.length * 1)).toList := ⟨_, rfl⟩
  have how2 := how
  change Own w1 w.heap.size 9 1 _ _ (madeCells (S []).cells (rs.length * 1)).toList at how2
  rw [← hys] at how2
  clear how hys hgr hi hz0 hz1 hz2
  have HL := Lib.hid how2.1
  have How := Lib.hid how2
  clear how2
  go_loopw [4] (fun i wr => ∃ k : Nat, k ≤ rs.length ∧ i = .int .i64 k ∧ Hid (Own wr w.heap.size 9 1 (.slice (some ⟨w.heap.size, 0, none⟩) rs.length rs.length) rs.length ((rs.take k).flatMap strC ++ ys.drop k)) ∧ Below w.heap.size w wr) (fun i _ => rs.length - (intOf i).toNat)
  case atStart => exact ⟨0, Nat.zero_le _, rfl, Lib.hid (by simpa using How.out), hW⟩
  case round =>
    obtain ⟨k, hk, rfl, HO, hWr⟩ := hrel
    clear hW How
    by_cases hlt : k < rs.length
    · have i1 : (0 : Int) ≤ (k : Int) := by omega
      have i2 : (k : Int) < (rs.length : Int) := by omega
      obtain ⟨b, o, rfl, hb, hc⟩ := (H.out.up hWr).1.cells strC_len hlt
      have c0 := hc 0 _ rfl
      simp only [Nat.mul_one, Nat.add_zero] at c0
      have hts := Lib.hid (show (rs.take (k + 1)).flatMap strC = (rs.take k).flatMap strC ++ [S rs[k]] by rw [List.take_succ_eq_append_getElem hlt, List.flatMap_append]; simp [strC])
      generalize rs[k] = r at *
      obtain ⟨u0, d0⟩ := own_someT HO.out (j := k) (by omega)
      have f0 := HO.out.frozenAt k
      have HO2 := Lib.hid (own_set1S (k := k) HO.out (by rw [flat_len strC 1 strC_len, List.length_take]; omega) hlt (S r))
      have hWr2 := Lib.hid (up_set hWr ⟨w.heap.size, k, none⟩ (S r) (Nat.le_refl _))
      clear hc HO
      go_wp2_with fail
      go_roundw
      case rel => exact ⟨k + 1, by omega, by go_num, Lib.hid (by rw [hts.out]; simpa [List.drop_drop] using HO2.out), hWr2.out⟩
      case measure => simp [intOf]; omega
    · obtain rfl : k = rs.length := by omega
      have HF := Lib.hid (show Own wr w.heap.size 9 1 (.slice (some ⟨w.heap.size, 0, none⟩) rs.length rs.length) rs.length (rs.flatMap strC) by
        have := HO.out
        rwa [List.take_length, List.drop_of_length_le (by have := HL.out; omega), List.append_nil] at this)
      go_wp2_with fail
      go_ret
      exact ⟨_, rfl, HF.out, hWr⟩

end Go.Proofs.YtbjlkdenkmbepaaGreatDoor

namespace Go.Proofs.YtbjlkdenkmbepaaGreatDoor
open Go.ChangeShapes Go.WideShapes Go.ChangeAt Go.RowKit Go.Deep

theorem exists_listS {α : Type} (R : Nat → α → Prop) : ∀ n, (∀ i, i < n → ∃ a, R i a) → ∃ l : List α, l.length = n ∧ ∀ i (hi : i < l.length), R i l[i]
  | 0, _ => ⟨[], rfl, fun i hi => by simp at hi⟩
  | n + 1, h => by
    obtain ⟨l, hl, hr⟩ := exists_listS R n (fun i hi => h i (by omega))
    obtain ⟨a, ha⟩ := h n (by omega)
    refine ⟨l ++ [a], by simp [hl], fun i hi => ?_⟩
    by_cases hin : i < l.length
    · rw [List.getElem_append_left hin]; exact hr i hin
    · have hi' : i = n := by simp at hi; omega
      subst hi'
      rw [List.getElem_append_right (by omega)]
      simpa [hl] using ha

set_option maxRecDepth 100000 in
theorem rdS_arg {H : Type} {enc : TypeId × Value → H} {W : World} {base : Nat} {spare : Nat → Bool} {held : Bool} {v : Value} {d : DataW H} {ps : List MemPlace} {r : Reach} {b0 : Nat}
    (hv : Value.okWide Tryz.prog W r b0 28 v) (h : DataW.Trod enc Tryz.prog W base spare held 28 v d ps) : ∃ rs, RdS W v rs := by
  obtain ⟨A, len, cap, rfl⟩ := okWide_slice Tryz.underlying28 hv
  obtain ⟨fuel, hf⟩ := h
  rcases open_slice Tryz.underlying28 hf with ⟨hcs, _⟩ | ⟨a, l, c, m, n, D, Pl, hcs, _, hl, hm, hmm, _, hi⟩
  · simp [Value.cells] at hcs
    obtain ⟨rfl, rfl, rfl⟩ := hcs
    exact ⟨[], ⟨rfl, Nat.zero_le _, none, 0, rfl, Nat.le_refl _, fun h => absurd h (by simp)⟩, fun b hb => by cases hb⟩
  · simp [Value.cells] at hcs
    obtain ⟨rfl, rfl, rfl⟩ := hcs
    have hlm : len ≤ m := by rw [hmm]; split <;> omega
    have hce : Tryz.prog.cellsOf 9 = 1 := by kernel_rfl
    obtain ⟨bs, hbl, hbs⟩ := exists_listS (fun i (b : List UInt8) => W.cell? (a.add (i * 1 + 0)) = some (S b) ∧ b.length ≤ maxLen) len (fun i hil => by
      obtain ⟨cs', hc, ht'⟩ := hi i (by omega)
      rw [hce] at hc
      obtain ⟨⟨⟨s0⟩⟩, r0, _, w0⟩ := DataW.trod_string Tryz.underlying9 ht'
      obtain ⟨_, hcl, hat⟩ := World.cells?_some hc
      have h0 := hat 0 (by omega)
      subst r0
      rw [Go.Deep.add_add] at h0
      exact ⟨s0, by simpa using h0, w0⟩)
    refine ⟨bs, rdL_of strC_len (by omega) hbl hl hm ?_, fun b hb => ?_⟩
    · intro k hk j u hu
      match j, hu with
      | 0, hu => simp [strC] at hu; subst hu; exact (hbs k hk).1
      | j + 1, hu => simp [strC] at hu
    · obtain ⟨i, hi', rfl⟩ := List.getElem_of_mem hb
      exact (hbs i hi').2

end Go.Proofs.YtbjlkdenkmbepaaGreatDoor
