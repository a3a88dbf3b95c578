/- What is proved here: the functions forth, do and to at valid histories, in the words of the laws. No condition. -/
import Derived.Test.YtjcdklkdpcncgaaLH0
import Derived.Test.YtjcdklkdpcncgaaHNx
namespace Go.Proofs.Ytjcdklkdpcncgaa
open Go.RowKit
set_option linter.unusedVariables false

/-- the answer of the program is that of the reference: nothing for an invalid history; else the history and text as they were; or it was done, and undoing leads back. -/
def Outs (ms : List Mo) (a : Int) (s : List UInt8) (ms2 : List Mo) (a2 : Int) (t2 : List UInt8) (ok : Bool) (D : Prop) : Prop :=
  ((¬ ∃ o, HGood ms a s o) ∧ ms2 = [] ∧ a2 = 0 ∧ t2 = [] ∧ ok = false) ∨ (1 ≤ ms.length ∧ ms2 = ms ∧ a2 = a ∧ t2 = s ∧ ok = false) ∨ (ok = true ∧ D)
theorem puts_nil : PutsLe 1048576 [] := fun m hm => by cases hm
theorem puts_of {ms : List Mo} {a : Int} {s : List UInt8} {o : List (List UInt8)} (hg : HGood ms a s o) : PutsLe 1048576 ms := fun m hm => by have := puts_good hg m hm; omega
/-- undoing leads back. -/
def BackTo (ms2 : List Mo) (a2 : Int) (t2 : List UInt8) (a : Int) (s : List UInt8) : Prop := ∀ v w, RdM w v ms2 → Calls Try.prog 27 #[.agg #[v, .int .i64 a2], S t2] w (HRes ms2 a s true w)
theorem back_to {ms : List Mo} {k : Nat} {t : List UInt8} {o : List (List UInt8)} (hg : HGood ms k t o) (hk : 0 < k) : BackTo ms k t (ms.getD k m0).par (o.getD (ms.getD k m0).par.toNat []) := by
  obtain ⟨a2, t2, ok, fI, _, hg2, hc⟩ := back_out ms k t o hg
  rcases hc with ⟨_, h0, _⟩ | ⟨rfl, _, rfl, _⟩
  · omega
  · rw [hg2.at_]
    exact fI

theorem forth_out (ms : List Mo) (a : Int) (s : List UInt8) (hn : ms.length ≤ 30) (hs : s.length ≤ 130) (hp : PutsLe 1048576 ms) :
    ∃ (ms2 : List Mo) (a2 : Int) (t2 : List UInt8) (ok : Bool), PutsLe 1048576 ms2 ∧ (∀ v w, RdM w v ms → Calls Try.prog 29 #[.agg #[v, .int .i64 a], S s] w (HRes ms2 a2 t2 ok w)) ∧ (∀ v w, RdM w v ms → Calls Try.prog 28 #[.agg #[v, .int .i64 a], S s] w (HRes ms2 a2 t2 ok w)) ∧
      Outs ms a s ms2 a2 t2 ok (ms2 = ms ∧ a < a2 ∧ (∃ o, HGood ms2 a2 t2 o) ∧ BackTo ms2 a2 t2 a s) := by
  by_cases hg : ∃ o, HGood ms a s o
  · obtain ⟨o, hg⟩ := hg
    obtain ⟨a, rfl⟩ : ∃ k : Nat, a = k := ⟨a.toNat, by have := hg.a0; omega⟩
    have hlow := foTo_low hg
    have hlt := foTo_lt ms a ms.length
    have key : ∀ k, k ≤ ms.length → foTo ms a k = -1 ∨ (∃ j : Nat, foTo ms a k = j ∧ j < k ∧ (ms.getD j m0).par = a) := by
      intro k
      induction k with
      | zero => intro _; exact .inl rfl
      | succ k ih =>
        intro hk
        unfold foTo
        by_cases he : (ms.getD k m0).par = a
        · rw [if_pos he]; exact .inr ⟨k, rfl, by omega, he⟩
        · rw [if_neg he]
          rcases ih (by omega) with h | ⟨j, h1, h2, h3⟩
          · exact .inl h
          · exact .inr ⟨j, h1, by omega, h3⟩
    refine ⟨ms, _, _, _, hp, fun v w h => implHistoryForth_yes v ms a s w o h hg, fun v w h => specHistoryForth_yes v ms a s w o h hg, ?_⟩
    rcases key ms.length (Nat.le_refl _) with h | ⟨j, h1, h2, h3⟩
    · rw [h]
      have hi : inB (-1) 0 ((ms.length : Int) - 1) = false := by
        rcases h : inB (-1) 0 ((ms.length : Int) - 1) with _ | _
        · rfl
        · have := inB_iff.1 h; omega
      unfold toAt toText
      rw [hi]
      exact .inr (.inl ⟨hg.n1, rfl, rfl, rfl, rfl⟩)
    · have hj0 : 0 < j := by
        rcases Nat.eq_zero_or_pos j with rfl | h
        · rw [hg.m] at h3
          have : (-1 : Int) = a := h3
          omega
        · exact h
      have hst := hg.step j hj0 h2
      have haj : a < j := by have := hst.2.1; omega
      have hgo := hg.go (j : Int)
      rw [h1]
      have hi : inB (j : Int) 0 ((ms.length : Int) - 1) = true := inB_iff.2 ⟨by omega, by omega⟩
      have e1 : toAt ms.length (a : Int) (j : Int) = j := by unfold toAt; rw [hi]; rfl
      rw [e1] at hgo ⊢
      have hb := back_to hgo hj0
      rw [h3, Int.toNat_natCast] at hb
      have := hg.at_
      rw [Int.toNat_natCast] at this
      rw [this] at hb
      rw [hi]
      exact .inr (.inr ⟨rfl, rfl, by omega, ⟨o, hgo⟩, hb⟩)
  · exact ⟨[], 0, [], false, puts_nil, fun v w h => implHistoryForth_no v ms a s w h (by omega) (by unfold maxLen; omega) hg, fun v w h => specHistoryForth_no v ms a s w h (by omega) (by unfold maxLen; omega) hg, .inl ⟨hg, rfl, rfl, rfl, rfl⟩⟩

end Go.Proofs.Ytjcdklkdpcncgaa
