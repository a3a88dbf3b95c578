/- What is proved here: plain facts on the records of a history. No condition. -/
import Derived.Test.YtdngdlcibaiekaaGreatDoorRc4
namespace Go.Proofs.YtdngdlcibaiekaaGreatDoor
open Go.RowKit

/-- a change that fits a text has a record. -/
theorem okF_rec {s : List UInt8} {x : Ch} (h : okF s x = true) : rdM (recT x.a x.c x.p) = some x := by
  have hi := okF_in h
  have hp := okF_put h
  have ht := tv_len (okF_tv h).1
  have htp : tv x.p = true := by
    have h2 := h
    unfold okF chOk at h2
    simp only [Bool.and_eq_true] at h2
    unfold tv
    simp only [Bool.and_eq_true, decide_eq_true_eq]
    exact ⟨h2.1.2, hp⟩
  obtain ⟨xa, xc, xp⟩ := x
  simp only at hi hp htp ⊢
  have hk : recOk xa xc xp = true := by
    unfold recOk
    simp only [Bool.and_eq_true, inB_iff]
    exact ⟨⟨by omega, by omega⟩, htp⟩
  have hr : IsRec (recT xa xc xp) xa.toNat xc.toNat xp := ⟨by omega, by omega, htp, by unfold recT; rw [if_pos hk]⟩
  rw [rdM_some hr, Int.toNat_of_nonneg hi.1, Int.toNat_of_nonneg hi.2.2.1]
/-- the records that lead to a state. -/
def hrF (ms : List Mo) : Nat → Int → List (List UInt8)
  | 0, _ => []
  | n + 1, k => if 0 < k then hrF ms n (ms.getD k.toNat m0).par ++ [recT (ms.getD k.toNat m0).f.a (ms.getD k.toNat m0).f.c (ms.getD k.toNat m0).f.p] else []
theorem hrF_zero (ms : List Mo) (n : Nat) {k : Int} (h : ¬ 0 < k) : hrF ms n k = [] := by
  cases n with
  | zero => rfl
  | succ n => rw [hrF, if_neg h]
theorem hrF_step (ms : List Mo) (n : Nat) {k : Int} (h : 0 < k) : hrF ms (n + 1) k = hrF ms n (ms.getD k.toNat m0).par ++ [recT (ms.getD k.toNat m0).f.a (ms.getD k.toNat m0).f.c (ms.getD k.toNat m0).f.p] := by rw [hrF, if_pos h]
theorem hrF_len (ms : List Mo) : ∀ (n : Nat) (k : Int), (hrF ms n k).length ≤ n
  | 0, _ => Nat.le_refl _
  | n + 1, k => by
    rw [hrF]
    split
    · have := hrF_len ms n (ms.getD k.toNat m0).par
      rw [List.length_append]
      exact Nat.succ_le_succ this
    · exact Nat.zero_le _
/-- the records lead from the first text to the text of the state, and no more of them than the state's number. -/
theorem hrF_play {ms : List Mo} {a : Int} {s : List UInt8} {o : List (List UInt8)} (h : HGood ms a s o) : ∀ (n k : Nat), k ≤ n → k < ms.length → pl (o.getD 0 []) (hrF ms n k) = (o.getD k [], (hrF ms n k).length) ∧ (hrF ms n k).length ≤ k
  | 0, k, hk, hn => by
    obtain rfl : k = 0 := by omega
    exact ⟨rfl, Nat.le_refl _⟩
  | n + 1, k, hk, hn => by
    by_cases h0 : 0 < k
    · obtain ⟨h1, h2, h3, h4, h5⟩ := h.step k h0 hn
      rw [hrF_step ms n (show (0 : Int) < (k : Int) by omega), Int.toNat_natCast]
      obtain ⟨q, hq⟩ : ∃ q : Nat, (ms.getD k m0).par = q := ⟨(ms.getD k m0).par.toNat, by omega⟩
      rw [hq] at h1 h2 h3 h4 h5 ⊢
      rw [Int.toNat_natCast] at h3 h4 h5
      obtain ⟨i1, i2⟩ := hrF_play h n q (by omega) (by omega)
      have hr := okF_rec h3
      have i3 : (pl (o.getD 0 []) (hrF ms n q)).2 = (hrF ms n q).length := by rw [i1]
      rw [pl_all _ _ _ i3, i1]
      simp only
      rw [pl_ok [] hr h3]
      refine ⟨?_, by simp; omega⟩
      simp only [pl, List.length_append, List.length_cons, List.length_nil, Prod.mk.injEq, and_true]
      first | exact h4.symm | exact h5.symm | exact h4 | exact h5
    · obtain rfl : k = 0 := by omega
      rw [hrF_zero ms _ (by omega)]
      exact ⟨rfl, Nat.le_refl _⟩

end Go.Proofs.YtdngdlcibaiekaaGreatDoor
