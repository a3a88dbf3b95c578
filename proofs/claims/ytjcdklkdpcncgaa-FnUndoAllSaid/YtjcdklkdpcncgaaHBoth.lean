/- What is proved here: the program's functions of histories and the reference's give the same answers. No condition. -/
import Derived.Test.YtjcdklkdpcncgaaHistK
import Derived.Test.YtjcdklkdpcncgaaHistJ
import Derived.Test.YtjcdklkdpcncgaaHistG
import Derived.Test.YtjcdklkdpcncgaaHistE
import Derived.Test.YtjcdklkdpcncgaaHistD
import Derived.Test.YtjcdklkdpcncgaaHistF
import Derived.Test.YtjcdklkdpcncgaaHistB
import Derived.Test.YtjcdklkdpcncgaaHistR
namespace Go.Proofs.Ytjcdklkdpcncgaa
open Go.RowKit
set_option linter.unusedVariables false

/-- both functions give the same answer, from every slice that holds the states. -/
def Both (ms : List Mo) (f g : FuncId) (args : Value → Array Value) : Prop :=
  ∃ (m2 : List Mo) (a2 : Int) (t2 : List UInt8) (ok : Bool), m2.length ≤ 1048576 ∧ (∀ v w, RdM w v ms → Calls Try.prog f (args v) w (HRes m2 a2 t2 ok w)) ∧ (∀ v w, RdM w v ms → Calls Try.prog g (args v) w (HRes m2 a2 t2 ok w))

theorem to_both (ms : List Mo) (a : Int) (s : List UInt8) (to_ : Int) (hn : ms.length ≤ 1048576) (hs : s.length ≤ maxLen) : Both ms 18 16 fun v => #[.agg #[v, .int .i64 a], S s, .int .i64 to_] := by
  by_cases hg : ∃ o, HGood ms a s o
  · obtain ⟨o, hg⟩ := hg
    exact ⟨_, _, _, _, hn, fun v w h => implHistoryTo_yes v ms a s to_ w o h hg, fun v w h => specHistoryTo_yes v ms a s to_ w o h hg⟩
  · exact ⟨[], 0, [], false, by decide, fun v w h => implHistoryTo_no v ms a s to_ w h hn hs hg, fun v w h => specHistoryTo_no v ms a s to_ w h hn hs hg⟩
theorem back_both (ms : List Mo) (a : Int) (s : List UInt8) (hn : ms.length ≤ 1048576) (hs : s.length ≤ maxLen) : Both ms 27 26 fun v => #[.agg #[v, .int .i64 a], S s] := by
  by_cases hg : ∃ o, HGood ms a s o
  · obtain ⟨o, hg⟩ := hg
    obtain ⟨n, rfl⟩ : ∃ n : Nat, a = n := ⟨a.toNat, by have := hg.a0; omega⟩
    exact ⟨_, _, _, _, hn, fun v w h => implHistoryBack_yes v ms n s w o h hg, fun v w h => specHistoryBack_yes v ms n s w o h hg⟩
  · exact ⟨[], 0, [], false, by decide, fun v w h => implHistoryBack_no v ms a s w h hn hs hg, fun v w h => specHistoryBack_no v ms a s w h hn hs hg⟩
theorem forth_both (ms : List Mo) (a : Int) (s : List UInt8) (hn : ms.length ≤ 1048576) (hs : s.length ≤ maxLen) : Both ms 29 28 fun v => #[.agg #[v, .int .i64 a], S s] := by
  by_cases hg : ∃ o, HGood ms a s o
  · obtain ⟨o, hg⟩ := hg
    obtain ⟨n, rfl⟩ : ∃ n : Nat, a = n := ⟨a.toNat, by have := hg.a0; omega⟩
    exact ⟨_, _, _, _, hn, fun v w h => implHistoryForth_yes v ms n s w o h hg, fun v w h => specHistoryForth_yes v ms n s w o h hg⟩
  · exact ⟨[], 0, [], false, by decide, fun v w h => implHistoryForth_no v ms a s w h hn hs hg, fun v w h => specHistoryForth_no v ms a s w h hn hs hg⟩

theorem do_both (ms : List Mo) (a : Int) (s : List UInt8) (x : Ch) (hn : ms.length ≤ 1048576) (hs : s.length ≤ maxLen) (hp : x.p.length ≤ 1048576) : Both ms 25 23 fun v => #[.agg #[v, .int .i64 a], S s, chAgg x] := by
  by_cases hg : ∃ o, HGood ms a s o
  · obtain ⟨o, hg⟩ := hg
    rcases hok : okF s x with _ | _
    · exact ⟨_, _, _, _, hn, fun v w h => implHistoryDo_bad v ms a s x w o h hg hp hok, fun v w h => specHistoryDo_bad v ms a s x w o h hg hp hok⟩
    · by_cases h30 : ms.length = 30
      · exact ⟨_, _, _, _, hn, fun v w h => implHistoryDo_full v ms a s x w o h hg hp hok h30, fun v w h => specHistoryDo_full v ms a s x w o h hg hp hok h30⟩
      · exact ⟨_, _, _, _, by have := hg.n30; rw [List.length_append]; simp; omega, fun v w h => implHistoryDo_done v ms a s x w o h hg hp hok h30, fun v w h => specHistoryDo_done v ms a s x w o h hg hp hok h30⟩
  · exact ⟨[], 0, [], false, by decide, fun v w h => implHistoryDo_no v ms a s x w h hn hs hg, fun v w h => specHistoryDo_no v ms a s x w h hn hs hg⟩

end Go.Proofs.Ytjcdklkdpcncgaa
