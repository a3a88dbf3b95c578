/- What is proved here: the functions of histories at valid histories, in the words of the laws. No condition. -/
import Derived.Test.YtjcdklkdpcncgaaHBoth
import Derived.Test.YtjcdklkdpcncgaaDrawH
import Derived.Test.YtjcdklkdpcncgaaHistO
import Derived.Test.YtjcdklkdpcncgaaAlive
import Derived.Test.YtjcdklkdpcncgaaReg
namespace Go.Proofs.Ytjcdklkdpcncgaa
open Go.RowKit
set_option linter.unusedVariables false

theorem implValid_yes (v : Value) (ms : List Mo) (a : Int) (s : List UInt8) (o : List (List UInt8)) (w : World) (h : RdM w v ms) (hg : HGood ms a s o) :
    Calls Try.prog 34 #[.agg #[v, .int .i64 a], S s] w fun e w' => e = .returned (.bool true) ∧ Below w.heap.size w w' :=
  (implHistoryValid_any v ms a s w h (by have := hg.n30; omega) (by have := tv_len hg.t; unfold maxLen; omega)).mono fun e w' ⟨ok, he, hh, hb⟩ => ⟨by rw [he, hh.2 ⟨o, hg⟩], hb⟩
theorem specValid_yes (v : Value) (ms : List Mo) (a : Int) (s : List UInt8) (o : List (List UInt8)) (w : World) (h : RdM w v ms) (hg : HGood ms a s o) :
    Calls Try.prog 39 #[.agg #[v, .int .i64 a], S s] w fun e w' => e = .returned (.bool true) ∧ Below w.heap.size w w' :=
  (specHistoryValid_any v ms a s w h (by have := hg.n30; omega) (by have := tv_len hg.t; unfold maxLen; omega)).mono fun e w' ⟨ok, he, hh, hb⟩ => ⟨by rw [he, hh.2 ⟨o, hg⟩], hb⟩
theorem specValid_no (v : Value) (ms : List Mo) (a : Int) (s : List UInt8) (w : World) (h : RdM w v ms) (hn : ms.length ≤ 30) (hs : s.length ≤ 130) (hg : ¬ ∃ o, HGood ms a s o) :
    Calls Try.prog 39 #[.agg #[v, .int .i64 a], S s] w fun e w' => e = .returned (.bool false) ∧ Below w.heap.size w w' :=
  (specHistoryValid_any v ms a s w h (by omega) (by unfold maxLen; omega)).mono fun e w' ⟨ok, he, hh, hb⟩ => ⟨by
    rw [he]
    rcases ok with _ | _
    · rfl
    · exact absurd (hh.1 rfl) hg, hb⟩
/-- back, at a valid history. -/
theorem back_out (ms : List Mo) (a : Nat) (s : List UInt8) (o : List (List UInt8)) (hg : HGood ms a s o) :
    ∃ (a2 : Int) (t2 : List UInt8) (ok : Bool), (∀ v w, RdM w v ms → Calls Try.prog 27 #[.agg #[v, .int .i64 a], S s] w (HRes ms a2 t2 ok w)) ∧ (∀ v w, RdM w v ms → Calls Try.prog 26 #[.agg #[v, .int .i64 a], S s] w (HRes ms a2 t2 ok w)) ∧ HGood ms a2 t2 o ∧
      ((ok = false ∧ a = 0 ∧ a2 = 0 ∧ t2 = s) ∨ (ok = true ∧ 0 < a ∧ a2 = (ms.getD a m0).par ∧ 0 ≤ a2 ∧ a2 < a)) := by
  refine ⟨_, _, _, fun v w h => implHistoryBack_yes v ms a s w o h hg, fun v w h => specHistoryBack_yes v ms a s w o h hg, hg.go _, ?_⟩
  by_cases h0 : a = 0
  · subst h0
    have hm := hg.m
    have hp : (ms.getD 0 m0).par = -1 := by rw [hm]; rfl
    have hi : inB (-1) 0 ((ms.length : Int) - 1) = false := by
      rcases h : inB (-1) 0 ((ms.length : Int) - 1) with _ | _
      · rfl
      · have := inB_iff.1 h; omega
    rw [hp]
    unfold toAt toText
    rw [hi]
    exact .inl ⟨rfl, rfl, rfl, rfl⟩
  · have ha1 := hg.a1
    obtain ⟨b1, b2, _, _⟩ := hg.back (k := a) (by omega) (by omega)
    have hi : inB (ms.getD a m0).par 0 ((ms.length : Int) - 1) = true := inB_iff.2 ⟨b1, by omega⟩
    unfold toAt
    rw [hi, if_pos rfl]
    exact .inr ⟨rfl, by omega, rfl, b1, b2⟩
/-- going to a state, at a valid history of another state. -/
theorem to_out (ms : List Mo) (a : Nat) (s : List UInt8) (o : List (List UInt8)) (a2 : Int) (t2 : List UInt8) (hg : HGood ms a s o) (hg2 : HGood ms a2 t2 o) (v : Value) (w : World) (h : RdM w v ms) :
    Calls Try.prog 18 #[.agg #[v, .int .i64 a2], S t2, .int .i64 a] w (HRes ms a s true w) := by
  have := implHistoryTo_yes v ms a2 t2 a w o h hg2
  have ha := hg.a1
  have hn := hg.n1
  have hi : inB (a : Int) 0 ((ms.length : Int) - 1) = true := inB_iff.2 ⟨by omega, by omega⟩
  have e1 : toAt ms.length a2 (a : Int) = a := by unfold toAt; rw [hi]; rfl
  have e2 : toText ms.length o t2 (a : Int) = s := by unfold toText; rw [hi, if_pos rfl]; exact hg.at_
  rw [hi, e1, e2] at this
  exact this

end Go.Proofs.Ytjcdklkdpcncgaa
