/- What is proved here: plain facts on how a record's bytes are read, and on records that lack their last byte. No condition. -/
import Derived.Test.YtdngdlcibaiekaaGreatDoorRc1
namespace Go.Proofs.YtdngdlcibaiekaaGreatDoor
open Go.RowKit

/-- what the bytes from k on, up to e, stand for. -/
def uneA (s : List UInt8) (e k : Nat) : List UInt8 := une ((s.take e).drop k)
theorem uneA_end (s : List UInt8) {e k : Nat} (h : e ≤ k) : uneA s e k = [] := by
  unfold uneA
  rw [List.drop_of_length_le (by rw [List.length_take]; omega)]
  rfl
theorem uneA_drop (s : List UInt8) {e k : Nat} (h : k < e) (he : e ≤ s.length) : (s.take e).drop k = s[k] :: (s.take e).drop (k + 1) := by
  rw [List.drop_eq_getElem_cons (by rw [List.length_take]; omega), List.getElem_take]
theorem uneA_two (s : List UInt8) {e k : Nat} (h : k + 1 < e) (he : e ≤ s.length) (hc : s[k] = 92) : uneA s e k = (if s[k + 1] = 110 then 10 else s[k + 1]) :: uneA s e (k + 2) := by
  unfold uneA
  rw [uneA_drop s (show k < e by omega) he, uneA_drop s h he, une, if_pos hc]
theorem uneA_one (s : List UInt8) {e k : Nat} (h : k < e) (he : e ≤ s.length) (hc : ¬ (s[k] = 92 ∧ k + 1 < e)) : uneA s e k = s[k] :: uneA s e (k + 1) := by
  unfold uneA
  rw [uneA_drop s h he]
  by_cases h2 : k + 1 < e
  · rw [uneA_drop s h2 he, une, if_neg (fun h3 => hc ⟨h3, h2⟩)]
  · rw [List.drop_of_length_le (by rw [List.length_take]; omega)]
    rfl
/-- a record without its last byte is no record. -/
theorem IsRec.less {s : List UInt8} {a b c d : Nat} {p q : List UInt8} (h : IsRec s a b p) : ¬ IsRec (s.take (s.length - 1)) c d q := by
  rintro ⟨_, _, _, k⟩
  obtain ⟨_, _, _, h⟩ := h
  have key : ∀ (x y : List UInt8) (u v : List UInt8), (∀ c ∈ u, c ≠ 32) → (∀ c ∈ v, c ≠ 32) → x ++ 32 :: u = y ++ 32 :: v → x = y ∧ u = v := by
    intro x y u v hu hv e
    have h1 := lsp_tail x u hu
    have h2 := lsp_tail y v hv
    rw [e, h2] at h1
    have h3 : y.length = x.length := by omega
    have := List.append_inj e h3.symm
    exact ⟨this.1, by injection this.2⟩
  obtain ⟨N, hN⟩ : ∃ N, N = nm (smS 0 (recB a b p)) := ⟨_, rfl⟩
  have hp : 1 ≤ N.length := by rw [hN]; exact nm_pos _
  have hd := no32 (smS 0 (recB a b p))
  rw [← hN] at hd
  have e1 : s = recB a b p ++ 32 :: N := by rw [← h, hN]; rfl
  have e2 : s.take (s.length - 1) = recB a b p ++ 32 :: N.dropLast := by
    have e3 : s = (recB a b p ++ 32 :: N.dropLast) ++ [N.getLast (by intro e; rw [e] at hp; simp at hp)] := by
      rw [e1, List.append_assoc, List.cons_append, List.dropLast_concat_getLast]
    have e4 : s.length - 1 = (recB a b p ++ 32 :: N.dropLast).length := by rw [e3]; simp
    rw [e4]
    conv => lhs; rw [e3]
    rw [List.take_left]
  rw [e2] at k
  unfold recX at k
  obtain ⟨k1, k2⟩ := key _ _ _ _ (no32 _) (fun c hc => hd c (List.dropLast_subset _ hc)) k
  rw [k1, ← hN] at k2
  have := congrArg List.length k2
  rw [List.length_dropLast] at this
  omega

end Go.Proofs.YtdngdlcibaiekaaGreatDoor
