/- What is proved here: plain facts on the rows in which a text is shown. No condition. -/
import Derived.Test.YtcjgllbhmghkeaaDoorWr0
import Derived.Lib.LastIndexByte
namespace Go.Proofs.YtcjgllbhmghkeaaDoor
open Go.RowKit
set_option linter.unusedVariables false

/-- the number of bytes up to the last space. -/
def lsp (l : List UInt8) : Nat := (l.reverse.dropWhile fun c => c != 32).length
theorem lsp_nil : lsp [] = 0 := rfl
theorem lsp_space (l : List UInt8) : lsp (l ++ [32]) = l.length + 1 := by simp [lsp]
theorem lsp_other (l : List UInt8) {c : UInt8} (h : c ≠ 32) : lsp (l ++ [c]) = lsp l := by simp [lsp, h]
theorem lsp_le (l : List UInt8) : lsp l ≤ l.length := by
  have := (List.dropWhile_sublist (l := l.reverse) (fun c => c != 32)).length_le
  unfold lsp
  simpa using this
theorem snoc_ind {P : List UInt8 → Prop} (h0 : P []) (h1 : ∀ l c, P l → P (l ++ [c])) : ∀ l, P l := by
  have key : ∀ n, ∀ l : List UInt8, l.length = n → P l := by
    intro n
    induction n with
    | zero => intro l h; rw [List.length_eq_zero_iff] at h; subst h; exact h0
    | succ n ih =>
      intro l h
      rcases List.eq_nil_or_concat l with rfl | ⟨init, c, rfl⟩
      · simp at h
      · rw [List.concat_eq_append] at h ⊢
        exact h1 _ _ (ih _ (by simpa using h))
  exact fun l => key l.length l rfl
theorem lsp_at : ∀ (l : List UInt8) (i : Nat), l[i]? = some 32 → (∀ j, i < j → l[j]? ≠ some 32) → lsp l = i + 1 := by
  refine snoc_ind (fun i h => by simp at h) fun l c ih i h hn => ?_
  by_cases hc : c = 32
  · subst hc
    rw [lsp_space]
    have hi : i < (l ++ [(32 : UInt8)]).length := (List.getElem?_eq_some_iff.1 h).1
    simp at hi
    by_cases hl : i = l.length
    · omega
    · exact absurd (by simp) (hn l.length (by omega))
  · rw [lsp_other l hc]
    have hi : i < (l ++ [c]).length := (List.getElem?_eq_some_iff.1 h).1
    simp at hi
    have hne : i ≠ l.length := by
      rintro rfl
      simp at h
      exact hc h
    refine ih i (by rwa [List.getElem?_append_left (by omega)] at h) fun j hj hs => ?_
    have hjl : j < l.length := (List.getElem?_eq_some_iff.1 hs).1
    exact hn j hj (by rwa [List.getElem?_append_left hjl])
theorem lsp_none : ∀ l : List UInt8, (∀ j : Nat, l[j]? ≠ some 32) → lsp l = 0 := by
  refine snoc_ind (fun _ => rfl) fun l c ih h => ?_
  have hc : c ≠ 32 := fun e => h l.length (by simp [e])
  rw [lsp_other l hc]
  exact ih fun j hj => h j (by rwa [List.getElem?_append_left (List.getElem?_eq_some_iff.1 hj).1])
theorem lsp_last (l : List UInt8) : (Lib.lastIndexByte ⟨l.toArray⟩ 32 = -1 ∧ lsp l = 0) ∨ ∃ i : Nat, Lib.lastIndexByte ⟨l.toArray⟩ 32 = i ∧ lsp l = i + 1 := by
  have hb : ∀ j, j < l.length → ((⟨l.toArray⟩ : ByteArray).data[j]!) = l[j]?.getD 0 := fun j hj => by simp [hj]
  have h32 : ∀ (x : UInt8), (((x.toNat : Nat) : Int) = 32) ↔ x = 32 := fun x => ⟨fun h => UInt8.toNat_inj.1 (by show x.toNat = 32; omega), fun h => by rw [h]; rfl⟩
  rcases Lib.lastIdx_spec ⟨l.toArray⟩ 32 l.length with ⟨h1, h2⟩ | ⟨i, hi, h1, h2, h3⟩
  · refine .inl ⟨h1, lsp_none l fun j hj => ?_⟩
    obtain ⟨hjl, hjv⟩ := List.getElem?_eq_some_iff.1 hj
    refine h2 j hjl ?_
    rw [hb j hjl, List.getElem?_eq_getElem hjl, hjv]; rfl
  · refine .inr ⟨i, h1, lsp_at l i ?_ fun j hj hs => ?_⟩
    · rw [hb i hi, List.getElem?_eq_getElem hi] at h2
      rw [List.getElem?_eq_getElem hi]
      exact congrArg some ((h32 _).1 h2)
    · obtain ⟨hjl, hjv⟩ := List.getElem?_eq_some_iff.1 hs
      refine h3 j hj hjl ?_
      rw [hb j hjl, List.getElem?_eq_getElem hjl, hjv]; rfl

/-- where a row ends that begins at a place of a line that has more than wd bytes left. -/
def cutP (s : List UInt8) (wd at_ : Nat) : Nat := at_ + if lsp ((s.drop at_).take wd) = 0 then wd else lsp ((s.drop at_).take wd)
theorem cutP_in (s : List UInt8) {wd : Nat} (at_ : Nat) (hw : 1 ≤ wd) : at_ < cutP s wd at_ ∧ cutP s wd at_ ≤ at_ + wd := by
  have := lsp_le ((s.drop at_).take wd)
  rw [List.length_take] at this
  unfold cutP
  split <;> omega
/-- the rows of what is left of a line. -/
def rwL (s : List UInt8) (wd at_ end_ : Nat) : List (Nat × Nat) :=
  if h : end_ - at_ ≤ wd ∨ cutP s wd at_ ≤ at_ then [(at_, end_)] else (at_, cutP s wd at_) :: rwL s wd (cutP s wd at_) end_
termination_by end_ - at_
decreasing_by simp only [not_or] at h; omega
theorem rwL_stop (s : List UInt8) {wd at_ end_ : Nat} (h : end_ - at_ ≤ wd) : rwL s wd at_ end_ = [(at_, end_)] := by
  rw [rwL, dif_pos (.inl h)]
theorem rwL_step (s : List UInt8) {wd at_ end_ : Nat} (hw : 1 ≤ wd) (h : wd < end_ - at_) : rwL s wd at_ end_ = (at_, cutP s wd at_) :: rwL s wd (cutP s wd at_) end_ := by
  have := cutP_in s at_ hw
  rw [rwL, dif_neg (by simp only [not_or]; omega)]
/-- all rows of a text. -/
def rowsOf (s : List UInt8) (wd : Nat) : List (Nat × Nat) := (List.range (nl s + 1)).flatMap fun q => rwL s wd (lst s q) (lend s q)
def rowsTo (s : List UInt8) (wd q : Nat) : List (Nat × Nat) := (List.range q).flatMap fun q => rwL s wd (lst s q) (lend s q)
theorem rowsTo_succ (s : List UInt8) (wd q : Nat) : rowsTo s wd (q + 1) = rowsTo s wd q ++ rwL s wd (lst s q) (lend s q) := by
  unfold rowsTo
  rw [List.range_succ, List.flatMap_append]; simp
theorem rwL_in (s : List UInt8) {wd : Nat} (hw : 1 ≤ wd) : ∀ (n at_ end_ : Nat), end_ - at_ ≤ n → at_ ≤ end_ → ∀ r ∈ rwL s wd at_ end_, at_ ≤ r.1 ∧ r.1 ≤ r.2 ∧ r.2 ≤ end_ ∧ r.2 - r.1 ≤ wd
  | 0, at_, end_, hn, hle, r, hr => by
    rw [rwL_stop s (by omega), List.mem_singleton] at hr
    subst hr
    simp only
    omega
  | n + 1, at_, end_, hn, hle, r, hr => by
    by_cases h : end_ - at_ ≤ wd
    · rw [rwL_stop s h, List.mem_singleton] at hr
      subst hr
      simp only
      omega
    · have hc := cutP_in s at_ hw
      rw [rwL_step s hw (by omega), List.mem_cons] at hr
      rcases hr with rfl | hr
      · simp only
        omega
      · have := rwL_in s hw n _ end_ (by omega) (by omega) r hr
        omega
theorem rwL_len (s : List UInt8) {wd : Nat} (hw : 1 ≤ wd) : ∀ (n at_ end_ : Nat), end_ - at_ ≤ n → at_ ≤ end_ → (rwL s wd at_ end_).length ≤ end_ - at_ + 1 ∧ 1 ≤ (rwL s wd at_ end_).length ∧ ((rwL s wd at_ end_).head?.map Prod.fst) = some at_
  | 0, at_, end_, hn, hle => by rw [rwL_stop s (by omega)]; simp
  | n + 1, at_, end_, hn, hle => by
    by_cases h : end_ - at_ ≤ wd
    · rw [rwL_stop s h]; simp
    · have hc := cutP_in s at_ hw
      have := rwL_len s hw n (cutP s wd at_) end_ (by omega) (by omega)
      rw [rwL_step s hw (by omega)]
      simp only [List.length_cons, List.head?_cons, Option.map_some]
      exact ⟨by omega, by omega, trivial⟩

end Go.Proofs.YtcjgllbhmghkeaaDoor
