/- What is proved here: plain facts on the place of the last space. No condition. -/
import Derived.Test.YtbjlkdenkmbepaaGreatDoorBase
import Derived.Lib.LastIndexByte
namespace Go.Proofs.YtbjlkdenkmbepaaGreatDoor
open Go.RowKit

/-- the number of bytes up to the last space. -/
def lsp (l : List UInt8) : Nat := (l.reverse.dropWhile fun c => c != 32).length
theorem lsp_nil : lsp [] = 0 := rfl
theorem lsp_space (l : List UInt8) : lsp (l ++ [32]) = l.length + 1 := by simp [lsp]
theorem lsp_other (l : List UInt8) {c : UInt8} (h : c ≠ 32) : lsp (l ++ [c]) = lsp l := by simp [lsp, h]
theorem lsp_le (l : List UInt8) : lsp l ≤ l.length := by
  have := (List.dropWhile_sublist (l := l.reverse) (fun c => c != 32)).length_le
  unfold lsp
  simpa using this
theorem snoc_ind {P : List UInt8 → Prop} (h0 : P []) (h1 : ∀ l c, P l → P (l ++ [c])) : ∀ l, P l := by
  have key : ∀ n, ∀ l : List UInt8, l.length = n → P l := by
    intro n
    induction n with
    | zero => intro l h; rw [List.length_eq_zero_iff] at h; subst h; exact h0
    | succ n ih =>
      intro l h
      rcases List.eq_nil_or_concat l with rfl | ⟨init, c, rfl⟩
      · simp at h
      · rw [List.concat_eq_append] at h ⊢
        exact h1 _ _ (ih _ (by simpa using h))
  exact fun l => key l.length l rfl
theorem lsp_at : ∀ (l : List UInt8) (i : Nat), l[i]? = some 32 → (∀ j, i < j → l[j]? ≠ some 32) → lsp l = i + 1 := by
  refine snoc_ind (fun i h => by simp at h) fun l c ih i h hn => ?_
  by_cases hc : c = 32
  · subst hc
    rw [lsp_space]
    have hi : i < (l ++ [(32 : UInt8)]).length := (List.getElem?_eq_some_iff.1 h).1
    simp at hi
    by_cases hl : i = l.length
    · omega
    · exact absurd (by simp) (hn l.length (by omega))
  · rw [lsp_other l hc]
    have hi : i < (l ++ [c]).length := (List.getElem?_eq_some_iff.1 h).1
    simp at hi
    have hne : i ≠ l.length := by
      rintro rfl
      simp at h
      exact hc h
    refine ih i (by rwa [List.getElem?_append_left (by omega)] at h) fun j hj hs => ?_
    have hjl : j < l.length := (List.getElem?_eq_some_iff.1 hs).1
    exact hn j hj (by rwa [List.getElem?_append_left hjl])
theorem lsp_none : ∀ l : List UInt8, (∀ j : Nat, l[j]? ≠ some 32) → lsp l = 0 := by
  refine snoc_ind (fun _ => rfl) fun l c ih h => ?_
  have hc : c ≠ 32 := fun e => h l.length (by simp [e])
  rw [lsp_other l hc]
  exact ih fun j hj => h j (by rwa [List.getElem?_append_left (List.getElem?_eq_some_iff.1 hj).1])
theorem lsp_last (l : List UInt8) : (Lib.lastIndexByte ⟨l.toArray⟩ 32 = -1 ∧ lsp l = 0) ∨ ∃ i : Nat, Lib.lastIndexByte ⟨l.toArray⟩ 32 = i ∧ lsp l = i + 1 := by
  have hb : ∀ j, j < l.length → ((⟨l.toArray⟩ : ByteArray).data[j]!) = l[j]?.getD 0 := fun j hj => by simp [hj]
  have h32 : ∀ (x : UInt8), (((x.toNat : Nat) : Int) = 32) ↔ x = 32 := fun x => ⟨fun h => UInt8.toNat_inj.1 (by show x.toNat = 32; omega), fun h => by rw [h]; rfl⟩
  rcases Lib.lastIdx_spec ⟨l.toArray⟩ 32 l.length with ⟨h1, h2⟩ | ⟨i, hi, h1, h2, h3⟩
  · refine .inl ⟨h1, lsp_none l fun j hj => ?_⟩
    obtain ⟨hjl, hjv⟩ := List.getElem?_eq_some_iff.1 hj
    refine h2 j hjl ?_
    rw [hb j hjl, List.getElem?_eq_getElem hjl, hjv]; rfl
  · refine .inr ⟨i, h1, lsp_at l i ?_ fun j hj hs => ?_⟩
    · rw [hb i hi, List.getElem?_eq_getElem hi] at h2
      rw [List.getElem?_eq_getElem hi]
      exact congrArg some ((h32 _).1 h2)
    · obtain ⟨hjl, hjv⟩ := List.getElem?_eq_some_iff.1 hs
      refine h3 j hj hjl ?_
      rw [hb j hjl, List.getElem?_eq_getElem hjl, hjv]; rfl


end Go.Proofs.YtbjlkdenkmbepaaGreatDoor
