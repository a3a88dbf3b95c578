/- What is proved here: the functions forth, do and to at valid histories, in the words of the laws. No condition. -/
import Derived.Test.YtjcdklkdpcncgaaLH0
import Derived.Test.YtjcdklkdpcncgaaHNx
namespace Go.Proofs.Ytjcdklkdpcncgaa
open Go.RowKit
set_option linter.unusedVariables false

/-- the answer of the program is that of the reference: nothing for an invalid history; else the history and text as they were; or it was done, and undoing leads back. -/
def Outs (ms : List Mo) (a : Int) (s : List UInt8) (ms2 : List Mo) (a2 : Int) (t2 : List UInt8) (ok : Bool) (D : Prop) : Prop :=
  ((¬ ∃ o, HGood ms a s o) ∧ ms2 = [] ∧ a2 = 0 ∧ t2 = [] ∧ ok = false) ∨ (1 ≤ ms.length ∧ ms2 = ms ∧ a2 = a ∧ t2 = s ∧ ok = false) ∨ (ok = true ∧ D)
theorem puts_nil : PutsLe 1048576 [] := fun m hm => by cases hm
theorem puts_of {ms : List Mo} {a : Int} {s : List UInt8} {o : List (List UInt8)} (hg : HGood ms a s o) : PutsLe 1048576 ms := fun m hm => by have := puts_good hg m hm; omega
/-- undoing leads back. -/
def BackTo (ms2 : List Mo) (a2 : Int) (t2 : List UInt8) (a : Int) (s : List UInt8) : Prop := ∀ v w, RdM w v ms2 → Calls Try.prog 27 #[.agg #[v, .int .i64 a2], S t2] w (HRes ms2 a s true w)
theorem back_to {ms : List Mo} {k : Nat} {t : List UInt8} {o : List (List UInt8)} (hg : HGood ms k t o) (hk : 0 < k) : BackTo ms k t (ms.getD k m0).par (o.getD (ms.getD k m0).par.toNat []) := by
  obtain ⟨a2, t2, ok, fI, _, hg2, hc⟩ := back_out ms k t o hg
  rcases hc with ⟨_, h0, _⟩ | ⟨rfl, _, rfl, _⟩
  · omega
  · rw [hg2.at_]
    exact fI

theorem forth_out (ms : List Mo) (a : Int) (s : List UInt8) (hn : ms.length ≤ 30) (hs : s.length ≤ 130) (hp : PutsLe 1048576 ms) :
    ∃ (ms2 : List Mo) (a2 : Int) (t2 : List UInt8) (ok : Bool), PutsLe 1048576 ms2 ∧ (∀ v w, RdM w v ms → Calls Try.prog 29 #[.agg #[v, .int .i64 a], S s] w (HRes ms2 a2 t2 ok w)) ∧ (∀ v w, RdM w v ms → Calls Try.prog 28 #[.agg #[v, .int .i64 a], S s] w (HRes ms2 a2 t2 ok w)) ∧
      Outs ms a s ms2 a2 t2 ok (ms2 = ms ∧ a < a2 ∧ (∃ o, HGood ms2 a2 t2 o) ∧ BackTo ms2 a2 t2 a s) := by
  by_cases hg : ∃ o, HGood ms a s o
  · obtain ⟨o, hg⟩ := hg
    obtain ⟨a, rfl⟩ : ∃ k : Nat, a = k := ⟨a.toNat, by have := hg.a0; omega⟩
    have hlow := foTo_low hg
    have hlt := foTo_lt ms a ms.length
    have key : ∀ k, k ≤ ms.length → foTo ms a k = -1 ∨ (∃ j : Nat, foTo ms a k = j ∧ j < k ∧ (ms.getD j m0).par = a) := by
      intro k
      induction k with
      | zero => intro _; exact .inl rfl
      | succ k ih =>
        intro hk
        unfold foTo
        by_cases he : (ms.getD k m0).par = a
        · rw [if_pos he]; exact .inr ⟨k, rfl, by omega, he⟩
        · rw [if_neg he]
          rcases ih (by omega) with h | ⟨j, h1, h2, h3⟩
          · exact .inl h
          · exact .inr ⟨j, h1, by omega, h3⟩
    refine ⟨ms, _, _, _, hp, fun v w h => implHistoryForth_yes v ms a s w o h hg, fun v w h => specHistoryForth_yes v ms a s w o h hg, ?_⟩
    rcases key ms.length (Nat.le_refl _) with h | ⟨j, h1, h2, h3⟩
    · rw [h]
      have hi : inB (-1) 0 ((ms.length : Int) - 1) = false := by
        rcases h : inB (-1) 0 ((ms.length : Int) - 1) with _ | _
        · rfl
        · have := inB_iff.1 h; omega
      unfold toAt toText
      rw [hi]
      exact .inr (.inl ⟨hg.n1, rfl, rfl, rfl, rfl⟩)
    · have hj0 : 0 < j := by
        rcases Nat.eq_zero_or_pos j with rfl | h
        · rw [hg.m] at h3
          have : (-1 : Int) = a := h3
          omega
        · exact h
      have hst := hg.step j hj0 h2
      have haj : a < j := by have := hst.2.1; omega
      have hgo := hg.go (j : Int)
      rw [h1]
      have hi : inB (j : Int) 0 ((ms.length : Int) - 1) = true := inB_iff.2 ⟨by omega, by omega⟩
      have e1 : toAt ms.length (a : Int) (j : Int) = j := by unfold toAt; rw [hi]; rfl
      rw [e1] at hgo ⊢
      have hb := back_to hgo hj0
      rw [h3, Int.toNat_natCast] at hb
      have := hg.at_
      rw [Int.toNat_natCast] at this
      rw [this] at hb
      rw [hi]
      exact .inr (.inr ⟨rfl, rfl, by omega, ⟨o, hgo⟩, hb⟩)
  · exact ⟨[], 0, [], false, puts_nil, fun v w h => implHistoryForth_no v ms a s w h (by omega) (by unfold maxLen; omega) hg, fun v w h => specHistoryForth_no v ms a s w h (by omega) (by unfold maxLen; omega) hg, .inl ⟨hg, rfl, rfl, rfl, rfl⟩⟩

theorem do_out (ms : List Mo) (a : Int) (s : List UInt8) (x : Ch) (hn : ms.length ≤ 30) (hs : s.length ≤ 130) (hx : x.p.length ≤ 1048576) (hp : PutsLe 1048576 ms) :
    ∃ (ms2 : List Mo) (a2 : Int) (t2 : List UInt8) (ok : Bool), PutsLe 1048576 ms2 ∧ (∀ v w, RdM w v ms → Calls Try.prog 25 #[.agg #[v, .int .i64 a], S s, .agg #[.int .i64 x.a, .int .i64 x.c, S x.p]] w (HRes ms2 a2 t2 ok w)) ∧ (∀ v w, RdM w v ms → Calls Try.prog 23 #[.agg #[v, .int .i64 a], S s, .agg #[.int .i64 x.a, .int .i64 x.c, S x.p]] w (HRes ms2 a2 t2 ok w)) ∧
      Outs ms a s ms2 a2 t2 ok (ms2.length = ms.length + 1 ∧ ms.length ≤ 29 ∧ apTo s x.a x.c x.p = t2 ∧ (∃ o, HGood ms2 a2 t2 o) ∧ BackTo ms2 a2 t2 a s ∧ ∀ v w, RdM w v ms2 → Calls Try.prog 29 #[.agg #[v, .int .i64 a], S s] w (HRes ms2 a2 t2 true w)) := by
  by_cases hg : ∃ o, HGood ms a s o
  · obtain ⟨o, hg⟩ := hg
    rcases hok : okF s x with _ | _
    · exact ⟨ms, a, s, false, hp, fun v w h => implHistoryDo_bad v ms a s x w o h hg hx hok, fun v w h => specHistoryDo_bad v ms a s x w o h hg hx hok, .inr (.inl ⟨hg.n1, rfl, rfl, rfl, rfl⟩)⟩
    · by_cases h30 : ms.length = 30
      · exact ⟨ms, a, s, false, hp, fun v w h => implHistoryDo_full v ms a s x w o h hg hx hok h30, fun v w h => specHistoryDo_full v ms a s x w o h hg hx hok h30, .inr (.inl ⟨hg.n1, rfl, rfl, rfl, rfl⟩)⟩
      · have hgo := hg.more x hok h30
        have ha0 := hg.a0
        have ha1 := hg.a1
        have hn1 := hg.n1
        refine ⟨_, _, _, _, puts_of hgo, fun v w h => implHistoryDo_done v ms a s x w o h hg hx hok h30, fun v w h => specHistoryDo_done v ms a s x w o h hg hx hok h30, .inr (.inr ⟨rfl, by simp, by omega, apTo_ok hok, ⟨_, hgo⟩, ?_, ?_⟩)⟩
        · have hb := back_to (k := ms.length) hgo (by omega)
          rw [getD_last ms _ _] at hb
          simp only at hb
          rw [getD_app o _ _ a.toNat (by have := hg.len; omega), hg.at_] at hb
          exact hb
        · have hga := hgo.go a
          have hi : inB a 0 (((ms ++ [(⟨a, x, rvF s x⟩ : Mo)]).length : Int) - 1) = true := inB_iff.2 ⟨ha0, by simp; omega⟩
          have e1 : toAt (ms ++ [(⟨a, x, rvF s x⟩ : Mo)]).length (ms.length : Int) a = a := by unfold toAt; rw [hi]; rfl
          have e2 : toText (ms ++ [(⟨a, x, rvF s x⟩ : Mo)]).length (o ++ [apF s x]) (apF s x) a = s := by
            unfold toText
            rw [hi, if_pos rfl, getD_app o _ _ a.toNat (by have := hg.len; omega), hg.at_]
          rw [e1, e2] at hga
          obtain ⟨k, rfl⟩ : ∃ k : Nat, a = k := ⟨a.toNat, by omega⟩
          have hf : foTo (ms ++ [(⟨(k : Int), x, rvF s x⟩ : Mo)]) k (ms ++ [(⟨(k : Int), x, rvF s x⟩ : Mo)]).length = (ms.length : Int) := by
            rw [List.length_append]
            show foTo _ _ (ms.length + 1) = _
            unfold foTo
            rw [getD_last ms _ _, if_pos rfl]
          intro v w h
          have hr := implHistoryForth_yes v _ k s w _ h hga
          rw [hf] at hr
          have hi2 : inB (ms.length : Int) 0 (((ms ++ [(⟨(k : Int), x, rvF s x⟩ : Mo)]).length : Int) - 1) = true := inB_iff.2 ⟨by omega, by simp⟩
          have e3 : toAt (ms ++ [(⟨(k : Int), x, rvF s x⟩ : Mo)]).length (k : Int) (ms.length : Int) = ms.length := by unfold toAt; rw [hi2]; rfl
          have e4 : toText (ms ++ [(⟨(k : Int), x, rvF s x⟩ : Mo)]).length (o ++ [apF s x]) s (ms.length : Int) = apF s x := by
            unfold toText
            rw [hi2, if_pos rfl, Int.toNat_natCast]
            have := getD_last o (apF s x) []
            rwa [hg.len] at this
          rw [hi2, e3, e4] at hr
          exact hr
  · exact ⟨[], 0, [], false, puts_nil, fun v w h => implHistoryDo_no v ms a s x w h (by omega) (by unfold maxLen; omega) hg, fun v w h => specHistoryDo_no v ms a s x w h (by omega) (by unfold maxLen; omega) hg, .inl ⟨hg, rfl, rfl, rfl, rfl⟩⟩

theorem to_out2 (ms : List Mo) (a : Int) (s : List UInt8) (to_ : Int) (hn : ms.length ≤ 30) (hs : s.length ≤ 130) (hp : PutsLe 1048576 ms) :
    ∃ (ms2 : List Mo) (a2 : Int) (t2 : List UInt8) (ok : Bool), PutsLe 1048576 ms2 ∧ (∀ v w, RdM w v ms → Calls Try.prog 18 #[.agg #[v, .int .i64 a], S s, .int .i64 to_] w (HRes ms2 a2 t2 ok w)) ∧ (∀ v w, RdM w v ms → Calls Try.prog 16 #[.agg #[v, .int .i64 a], S s, .int .i64 to_] w (HRes ms2 a2 t2 ok w)) ∧
      Outs ms a s ms2 a2 t2 ok (ms2 = ms ∧ to_ = a2 ∧ ∃ o, HGood ms a s o ∧ HGood ms a2 t2 o) := by
  by_cases hg : ∃ o, HGood ms a s o
  · obtain ⟨o, hg⟩ := hg
    refine ⟨ms, _, _, _, hp, fun v w h => implHistoryTo_yes v ms a s to_ w o h hg, fun v w h => specHistoryTo_yes v ms a s to_ w o h hg, ?_⟩
    have hgo := hg.go to_
    rcases hi : inB to_ 0 ((ms.length : Int) - 1) with _ | _
    · have e1 : toAt ms.length a to_ = a := by unfold toAt; rw [hi]; rfl
      have e2 : toText ms.length o s to_ = s := by unfold toText; rw [hi]; rfl
      rw [e1, e2]
      exact .inr (.inl ⟨hg.n1, rfl, rfl, rfl, rfl⟩)
    · have e1 : toAt ms.length a to_ = to_ := by unfold toAt; rw [hi]; rfl
      exact .inr (.inr ⟨rfl, rfl, e1.symm, o, hg, hgo⟩)
  · exact ⟨[], 0, [], false, puts_nil, fun v w h => implHistoryTo_no v ms a s to_ w h (by omega) (by unfold maxLen; omega) hg, fun v w h => specHistoryTo_no v ms a s to_ w h (by omega) (by unfold maxLen; omega) hg, .inl ⟨hg, rfl, rfl, rfl, rfl⟩⟩

end Go.Proofs.Ytjcdklkdpcncgaa
