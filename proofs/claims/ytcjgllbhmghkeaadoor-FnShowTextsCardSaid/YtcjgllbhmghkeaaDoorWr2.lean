/- What is proved here: the contract of the program's linesOf. Condition: the cell of the library's MaxLen holds an int. -/
import Derived.Test.YtcjgllbhmghkeaaDoorWr0
import Derived.Test.YtcjgllbhmghkeaaDoorShelf
import Derived.Test.YtcjgllbhmghkeaaDoorMX
import Derived.Test.YtcjgllbhmghkeaaDoorStr
namespace Go.Proofs.YtcjgllbhmghkeaaDoor
open Go.RowKit
set_option linter.unusedVariables false

theorem count_c (c : UInt8) : ∀ (n : Nat) (s : List UInt8) (fuel : Nat), s.length ≤ n → s.length < fuel → Lib.countFrom [c] fuel s = s.count c
  | n, s, 0, _, hf => absurd hf (by omega)
  | n, s, fuel + 1, hn, hf => by
    rw [Lib.countFrom]
    have ixn : ∀ s : List UInt8, Lib.index s [c] = -1 → s.count c = 0 := by
      intro s
      induction s with
      | nil => intro _; rfl
      | cons b l ih =>
        intro h
        rw [Lib.index] at h
        have hp : [c].isPrefixOf (b :: l) = (c == b) := by simp [List.isPrefixOf]
        rw [hp] at h
        by_cases e : c = b
        · subst e; simp at h
        · rw [if_neg (by simpa using e)] at h
          split at h
          · rename_i h1
            rw [List.count_cons_of_ne (fun e2 => e (by simpa using e2.symm))]
            exact ih (by simpa using h1)
          · have := Lib.index_ge l [c]
            omega
    have ixs : ∀ (s : List UInt8) (i : Nat), Lib.index s [c] = i → i < s.length ∧ s.count c = 1 + (s.drop (i + 1)).count c := by
      intro s
      induction s with
      | nil =>
        intro i h
        have h0 : Lib.index ([] : List UInt8) [c] = -1 := rfl
        rw [h0] at h
        omega
      | cons b l ih =>
        intro i h
        rw [Lib.index] at h
        have hp : [c].isPrefixOf (b :: l) = (c == b) := by simp [List.isPrefixOf]
        rw [hp] at h
        by_cases e : c = b
        · subst e
          simp at h
          have : i = 0 := by omega
          subst this
          refine ⟨by simp, ?_⟩
          simp [Nat.add_comm]
        · rw [if_neg (by simpa using e)] at h
          split at h
          · omega
          · rename_i hne
            have hne2 : Lib.index l [c] ≠ -1 := by simpa using hne
            have hg := Lib.index_ge l [c]
            obtain ⟨j, rfl⟩ : ∃ j, i = j + 1 := ⟨i - 1, by omega⟩
            obtain ⟨h1, h2⟩ := ih j (by omega)
            refine ⟨by simp; omega, ?_⟩
            rw [List.count_cons_of_ne (fun e2 => e (by simpa using e2.symm)), h2, List.drop_succ_cons]
    by_cases hm : Lib.index s [c] = -1
    · rw [if_pos (by simp [hm])]
      exact (ixn s hm).symm
    · rw [if_neg (by simp [hm])]
      have hge := Lib.index_ge s [c]
      obtain ⟨i, hi⟩ : ∃ i : Nat, Lib.index s [c] = i := ⟨(Lib.index s [c]).toNat, by omega⟩
      obtain ⟨h1, h2⟩ := ixs s i hi
      cases n with
      | zero => omega
      | succ n =>
        have ih := count_c c n (s.drop (i + 1)) fuel (by rw [List.length_drop]; omega) (by rw [List.length_drop]; omega)
        rw [hi, show ((i : Int).toNat + [c].length) = i + 1 by simp, ih, h2]
theorem countB_nl (s : List UInt8) : Lib.countB ⟨s.toArray⟩ ⟨[10].toArray⟩ = nl s := count_c 10 s.length s _ (Nat.le_refl _) (Nat.lt_succ_self _)
/-- the lines, as values. -/
def lnsV (s : List UInt8) : List Value := (List.range (nl s + 1)).map fun q => S (lnT s q)
theorem lnsV_len (s : List UInt8) : (lnsV s).length = nl s + 1 := by simp [lnsV]
theorem lnsV_at (s : List UInt8) (q : Nat) (h : q ≤ nl s) : (lnsV s)[q]? = some (S (lnT s q)) := by
  unfold lnsV
  rw [List.getElem?_map, List.getElem?_range (by omega)]; rfl
theorem splitB_lns (s : List UInt8) : (Lib.splitB ⟨[10].toArray⟩ 0 (nl s) ⟨s.toArray⟩).map Value.string = lnsV s := by
  have h1 := Lib.splitB_data ⟨[10].toArray⟩ 0 (nl s) ⟨s.toArray⟩
  have h0 : lst s 0 = 0 := lst_eq (Nat.zero_le _) ⟨rfl, .inl rfl⟩
  have h2 := split_from s (nl s) 0 (by omega)
  rw [h0, List.drop_zero] at h2
  have h3 : (Lib.splitB ⟨[10].toArray⟩ 0 (nl s) ⟨s.toArray⟩).map (·.data.toList) = (List.range' 0 (nl s + 1)).map (lnT s) := h1.trans h2
  have h4 : (Lib.splitB ⟨[10].toArray⟩ 0 (nl s) ⟨s.toArray⟩).map Value.string = ((Lib.splitB ⟨[10].toArray⟩ 0 (nl s) ⟨s.toArray⟩).map (·.data.toList)).map S := by
    rw [List.map_map]
    rfl
  rw [h4, h3, List.map_map, ← List.range_eq_range']
  rfl
def LnPost (s : List UInt8) (w : World) (e : Ending) (w' : World) : Prop := ∃ g, e = .returned (.slice (some ⟨g, 0, none⟩) (nl s + 1) (nl s + 1)) ∧ Own w' w.heap.size 9 1 (.slice (some ⟨g, 0, none⟩) (nl s + 1) (nl s + 1)) (nl s + 1) (lnsV s) ∧ Below w.heap.size w w'
theorem lns_cell {w : World} {B g : Nat} {s : List UInt8} (h : Own w B 9 1 (.slice (some ⟨g, 0, none⟩) (nl s + 1) (nl s + 1)) (nl s + 1) (lnsV s)) {q : Nat} (hq : q ≤ nl s) : w.cell? ⟨g, q, none⟩ = some (S (lnT s q)) := by
  rw [h.cellAt q (by omega), lnsV_at s q hq]
set_option maxRecDepth 100000 in
theorem linesOf_any (s : List UInt8) (w : World) (hs : s.length ≤ 120) (hm : MX w) :
    Calls Tryd.prog 49 #[S s] w (LnPost s w) := by
  obtain ⟨m, hm⟩ := hm
  have H := Lib.hid (Tryd.strings_Split ⟨s.toArray⟩ ⟨[10].toArray⟩ m w (by show s.length < _; omega) hm (by decide))
  rw [countB_nl, splitB_lns] at H
  have hn := nl_le s
  unfold LnPost
  go_enter Tryd.func49, Tryd.ntmps49
  go_wp2_with fail
  refine H.out.mono ?_
  rintro e w1 ⟨rfl, rfl⟩
  go_wp2_with fail
  go_ret
  refine ⟨_, rfl, ⟨?_, .inr ⟨w.heap.size, nl s + 1, (lnsV s).toArray, rfl, Nat.le_refl _, heap_alloc_new _ _, Nat.le_refl _, by unfold maxLen; omega, ?_, ?_⟩⟩, up_alloc (Below.refl _ _) _⟩
  · rw [lnsV_len]; omega
  · simp [lnsV_len]
  · rw [List.take_of_length_le (by simp [lnsV_len])]

end Go.Proofs.YtcjgllbhmghkeaaDoor
