/- What is proved here: words for the two rows of the reference's texts of a history: texts, and which of them are known. No condition. -/
import Derived.Test.YtdngdlcibaiekaaGreatDoorHistT
namespace Go.Proofs.YtdngdlcibaiekaaGreatDoor
open Go.RowKit
set_option linter.unusedVariables false

theorem bool_info : (Tryz.prog.info? 4).map (fun i => (i.zero, i.size, i.bytes)) = some (some (.bool false), 1, 1) := by kernel_rfl
theorem stC_map (T : List (List UInt8)) : T.flatMap stC = T.map (fun l => S l) := by
  induction T with
  | nil => rfl
  | cons a T ih => rw [List.flatMap_cons, ih]; rfl
/-- the two rows. -/
structure RowsU (X g1 g2 n : Nat) (T : List (List UInt8)) (K : List Bool) (w : World) : Prop where
  t : Own w (X + 1) 9 1 (.slice (some ⟨g1, 0, none⟩) n n) n (T.map fun l => S l)
  k : Own w (X + 1) 4 1 (.slice (some ⟨g2, 0, none⟩) n n) n (K.map Value.bool)
  ne : g1 ≠ g2
section
variable {X g1 g2 n : Nat} {T : List (List UInt8)} {K : List Bool} {w w' : World}
theorem RowsU.up (h : RowsU X g1 g2 n T K w) (hb : Below w.heap.size w w') : RowsU X g1 g2 n T K w' := ⟨own_up h.t hb, own_up h.k hb, h.ne⟩
theorem RowsU.lt (h : RowsU X g1 g2 n T K w) : X + 1 ≤ g1 ∧ g1 < w.heap.size ∧ X + 1 ≤ g2 ∧ g2 < w.heap.size := ⟨(h.t.lt g1 rfl).1, (h.t.lt g1 rfl).2, (h.k.lt g2 rfl).1, (h.k.lt g2 rfl).2⟩
theorem RowsU.setT (h : RowsU X g1 g2 n T K w) (j : Nat) (x : List UInt8) : RowsU X g1 g2 n (T.set j x) K (w.setCell ⟨g1, j, none⟩ (S x)) := by
  have hs := h.t.stored j (S x)
  refine ⟨?_, h.k.kept hs.2 (.inr (by simpa [Value.ownBlock] using fun e => h.ne e.symm)), h.ne⟩
  have := hs.1
  rwa [← List.map_set] at this
theorem RowsU.setK (h : RowsU X g1 g2 n T K w) (j : Nat) (x : Bool) : RowsU X g1 g2 n T (K.set j x) (w.setCell ⟨g2, j, none⟩ (.bool x)) := by
  have hs := h.k.stored j (.bool x)
  refine ⟨h.t.kept hs.2 (.inr (by simpa [Value.ownBlock] using fun e => h.ne e)), ?_, h.ne⟩
  have := hs.1
  rwa [← List.map_set] at this
theorem RowsU.lenT (h : RowsU X g1 g2 n T K w) : T.length = n := by have := h.t.1; simpa using this
theorem RowsU.lenK (h : RowsU X g1 g2 n T K w) : K.length = n := by have := h.k.1; simpa using this
theorem RowsU.cT (h : RowsU X g1 g2 n T K w) {j : Nat} (hj : j < n) : w.cell? ⟨g1, j, none⟩ = some (S (T.getD j [])) := by
  rw [h.t.cellAt j (by omega), List.getElem?_map, List.getElem?_eq_getElem (by rw [h.lenT]; exact hj), getD_at _ _ _ (by rw [h.lenT]; exact hj)]; rfl
theorem RowsU.cK (h : RowsU X g1 g2 n T K w) {j : Nat} (hj : j < n) : w.cell? ⟨g2, j, none⟩ = some (.bool (K.getD j false)) := by
  rw [h.k.cellAt j (by omega), List.getElem?_map, List.getElem?_eq_getElem (by rw [h.lenK]; exact hj), getD_at _ _ _ (by rw [h.lenK]; exact hj)]; rfl
theorem RowsU.fT (h : RowsU X g1 g2 n T K w) (j : Nat) : w.frozen? ⟨g1, j, none⟩ = false := h.t.frozenAt j
theorem RowsU.fK (h : RowsU X g1 g2 n T K w) (j : Nat) : w.frozen? ⟨g2, j, none⟩ = false := h.k.frozenAt j
end
theorem getD_set {α : Type} (l : List α) (d x : α) (j k : Nat) (hj : j < l.length) : (l.set j x).getD k d = if j = k then x else l.getD k d := by
  rw [List.getD_eq_getElem?_getD, List.getElem?_set]
  split
  · rename_i h
    subst h
    simp
  · rw [← List.getD_eq_getElem?_getD]

/-- what is known is right. -/
def JInv (ms : List Mo) (an : Nat) (s : List UInt8) (T : List (List UInt8)) (K : List Bool) : Prop :=
  T.length = ms.length ∧ K.length = ms.length ∧ ∀ o, HGood ms an s o → ∀ j, K.getD j false = true → o.getD j [] = T.getD j []
theorem jInv_set {ms : List Mo} {an q : Nat} {s y : List UInt8} {T : List (List UInt8)} {K : List Bool} (h : JInv ms an s T K) (hq : q < ms.length) (hy : ∀ o, HGood ms an s o → o.getD q [] = y) : JInv ms an s (T.set q y) (K.set q true) := by
  obtain ⟨h1, h2, h3⟩ := h
  refine ⟨by simpa using h1, by simpa using h2, fun o ho j hj => ?_⟩
  rw [getD_set _ _ _ _ _ (by omega)] at hj ⊢
  by_cases e : q = j
  · subst e
    rw [if_pos rfl]; exact hy o ho
  · rw [if_neg e] at hj ⊢
    exact h3 o ho j hj
/-- the first walk: from state an back to state 0. -/
def WInv (ms : List Mo) (an q : Nat) (s y : List UInt8) (T : List (List UInt8)) (K : List Bool) : Prop :=
  JInv ms an s T K ∧ tv y = true ∧ (∀ o, HGood ms an s o → o.getD q [] = y) ∧ ((q = an ∧ y = s) ∨ (q < an ∧ K.getD an false = true ∧ T.getD an [] = s))
/-- behind the store. -/
theorem wInv_set {ms : List Mo} {an q : Nat} {s y : List UInt8} {T : List (List UInt8)} {K : List Bool} (h : WInv ms an q s y T K) (hq : q < ms.length) (ha : an < ms.length) :
    JInv ms an s (T.set q y) (K.set q true) ∧ (K.set q true).getD an false = true ∧ (T.set q y).getD an [] = s ∧ (K.set q true).getD q false = true ∧ (T.set q y).getD q [] = y := by
  obtain ⟨h1, h2, h3, h4⟩ := h
  have l1 := h1.1
  have l2 := h1.2.1
  refine ⟨jInv_set h1 hq h3, ?_, ?_, ?_, ?_⟩
  · rw [getD_set _ _ _ _ _ (by omega)]
    rcases h4 with ⟨rfl, _⟩ | ⟨_, h5, _⟩
    · simp
    · split
      · rfl
      · exact h5
  · rw [getD_set _ _ _ _ _ (by omega)]
    rcases h4 with ⟨rfl, rfl⟩ | ⟨h6, _, h5⟩
    · simp
    · rw [if_neg (by omega)]; exact h5
  · rw [getD_set _ _ _ _ _ (by omega), if_pos rfl]
  · rw [getD_set _ _ _ _ _ (by omega), if_pos rfl]
/-- the second walk: from state 1 on. -/
def SInv (ms : List Mo) (an k : Nat) (s : List UInt8) (T : List (List UInt8)) (K : List Bool) : Prop :=
  JInv ms an s T K ∧ K.getD an false = true ∧ T.getD an [] = s ∧ tv (T.getD 0 []) = true ∧ (∀ j, j < k → K.getD j false = true) ∧ ∀ j, 0 < j → j < k → Step ms T j
theorem sInv_tv {ms : List Mo} {an k : Nat} {s : List UInt8} {T : List (List UInt8)} {K : List Bool} (h : SInv ms an k s T K) (j : Nat) (hj : j < k) : tv (T.getD j []) = true := by
  by_cases h0 : j = 0
  · subst h0; exact h.2.2.2.1
  · obtain ⟨_, _, h3, _, h5⟩ := h.2.2.2.2.2 j (by omega) hj
    rw [h5]; exact (okF_tv h3).2
theorem sInv_step {ms : List Mo} {an k : Nat} {s : List UInt8} {T : List (List UInt8)} {K : List Bool} (h : SInv ms an k s T K) (hk : k < ms.length) (h0k : 0 < k)
    (h0 : 0 ≤ (ms.getD k m0).par) (h1 : (ms.getD k m0).par < k) (hf : okF (T.getD (ms.getD k m0).par.toNat []) (ms.getD k m0).f = true) (hr : rvF (T.getD (ms.getD k m0).par.toNat []) (ms.getD k m0).f = (ms.getD k m0).b)
    (hkn : K.getD k false = true → apF (T.getD (ms.getD k m0).par.toNat []) (ms.getD k m0).f = T.getD k []) :
    SInv ms an (k + 1) s (T.set k (apF (T.getD (ms.getD k m0).par.toNat []) (ms.getD k m0).f)) (K.set k true) := by
  obtain ⟨a1, a2, a3, a4, a5, a6⟩ := h
  have l1 := a1.1
  have l2 := a1.2.1
  have hy : ∀ o, HGood ms an s o → o.getD k [] = apF (T.getD (ms.getD k m0).par.toNat []) (ms.getD k m0).f := fun o ho => by
    obtain ⟨_, _, _, _, p5⟩ := ho.step k h0k hk
    rw [p5, a1.2.2 o ho _ (a5 _ (by omega))]
  refine ⟨jInv_set a1 hk hy, ?_, ?_, ?_, fun j hj => ?_, fun j hj0 hj => ?_⟩
  · rw [getD_set _ _ _ _ _ (by omega)]; split
    · rfl
    · exact a2
  · rw [getD_set _ _ _ _ _ (by omega)]
    split
    · rename_i e
      subst e
      rw [hkn a2]; exact a3
    · exact a3
  · rw [getD_set _ _ _ _ _ (by omega), if_neg (by omega)]; exact a4
  · rw [getD_set _ _ _ _ _ (by omega)]
    split
    · rfl
    · exact a5 j (by omega)
  · unfold Step
    by_cases e : j = k
    · subst e
      rw [getD_set _ _ _ _ _ (by omega), if_neg (by omega), getD_set _ _ _ _ _ (by omega), if_pos rfl]
      exact ⟨h0, h1, hf, hr, rfl⟩
    · obtain ⟨p1, p2, p3, p4, p5⟩ := a6 j hj0 (by omega)
      rw [getD_set _ _ _ _ _ (by omega), if_neg (by omega), getD_set _ _ _ _ _ (by omega), if_neg (by omega)]
      exact ⟨p1, p2, p3, p4, p5⟩
theorem sInv_end {ms : List Mo} {an : Nat} {s : List UInt8} {T : List (List UInt8)} {K : List Bool} (h : SInv ms an ms.length s T K) (ht : tv s = true) (hn1 : 1 ≤ ms.length) (hn30 : ms.length ≤ 30) (ha : an < ms.length) (hm : ms.getD 0 m0 = m0) : HGood ms an s T :=
  ⟨ht, hn1, hn30, by omega, by omega, hm, h.1.1, h.2.2.2.1, h.2.2.2.2.2, by rw [Int.toNat_natCast]; exact h.2.2.1⟩

end Go.Proofs.YtdngdlcibaiekaaGreatDoor
