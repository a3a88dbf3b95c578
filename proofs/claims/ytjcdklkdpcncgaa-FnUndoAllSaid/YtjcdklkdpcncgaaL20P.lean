/- What is proved here: plain laws for l20History: a row of states with one cell changed; a box with one cell changed. No condition. -/
import Derived.Test.YtjcdklkdpcncgaaRegG
namespace Go.Proofs.Ytjcdklkdpcncgaa
open Go.RowKit
set_option linter.unusedVariables false

theorem own_cellX {w : World} {base : Nat} {e : TypeId} {size g n cap j : Nat} {xs : List Value} (h : Own w base e size (.slice (some ⟨g, 0, none⟩) n cap) n xs) (hj : j < n * size) : ∃ u, w.cell? ⟨g, j, none⟩ = some u := by
  rw [h.cellAt j hj]
  exact ⟨_, List.getElem?_eq_getElem (by rw [h.1]; exact hj)⟩
theorem last_of {ms : List Mo} {j : Nat} (h : ms.length = j + 1) : ∃ init m, ms = init ++ [m] ∧ init.length = j := by
  refine ⟨ms.take j, ms[j], ?_, by rw [List.length_take]; omega⟩
  have := List.take_succ_eq_append_getElem (show j < ms.length by omega)
  rw [← this, ← h, List.take_length]
/-- small texts. -/
def PutsLe (K : Nat) (ms : List Mo) : Prop := ∀ m ∈ ms, m.f.p.length ≤ K ∧ m.b.p.length ≤ K
theorem puts_good {ms : List Mo} {a : Int} {s : List UInt8} {o : List (List UInt8)} (hg : HGood ms a s o) : PutsLe 120 ms := fun m hm => by
  obtain ⟨k, hk, rfl⟩ := List.getElem_of_mem hm
  have := hg.put hk
  rwa [getD_at ms m0 k hk] at this
theorem set_par {ms : List Mo} {j K : Nat} (h : ms.length = j + 1) (x : Int) (hp : PutsLe K ms) : ∃ ns : List Mo, ns.length = ms.length ∧ (ms.flatMap moC).set (j * 7) (.int .i64 x) = ns.flatMap moC ∧ PutsLe K ns := by
  obtain ⟨init, m, rfl, hl⟩ := last_of h
  have hf : (init.flatMap moC).length = j * 7 := by rw [flat_len moC 7 moC_len, hl]
  refine ⟨init ++ [⟨x, m.f, m.b⟩], by simp, ?_, fun y hy => ?_⟩
  · rw [List.flatMap_append, List.set_append, if_neg (by omega), hf, Nat.sub_self, List.flatMap_append]
    rfl
  · rw [List.mem_append, List.mem_singleton] at hy
    rcases hy with hy | rfl
    · exact hp y (List.mem_append_left _ hy)
    · exact hp m (by simp)
theorem set_put {ms : List Mo} {j K : Nat} (h : ms.length = j + 1) (t : List UInt8) (ht : t.length ≤ K) (hp : PutsLe K ms) : ∃ ns : List Mo, ns.length = ms.length ∧ (ms.flatMap moC).set (j * 7 + 6) (S t) = ns.flatMap moC ∧ PutsLe K ns := by
  obtain ⟨init, m, rfl, hl⟩ := last_of h
  have hf : (init.flatMap moC).length = j * 7 := by rw [flat_len moC 7 moC_len, hl]
  refine ⟨init ++ [⟨m.par, m.f, ⟨m.b.a, m.b.c, t⟩⟩], by simp, ?_, fun y hy => ?_⟩
  · rw [List.flatMap_append, List.set_append, if_neg (by omega), hf, show j * 7 + 6 - j * 7 = 6 by omega, List.flatMap_append]
    rfl
  · rw [List.mem_append, List.mem_singleton] at hy
    rcases hy with hy | rfl
    · exact hp y (List.mem_append_left _ hy)
    · exact ⟨(hp m (by simp)).1, ht⟩
theorem rdM_puts {w : World} {base K : Nat} {v : Value} {ms : List Mo} (h : OwnM w base v ms) (hp : PutsLe K ms) (hK : K ≤ 1048576) : RdM w v ms := ⟨RdL.of_own h, fun m hm => by have := hp m hm; omega⟩
theorem is_set1 {w : World} {d : Nat} {V A u : Value} (h : Is w d #[V, A]) : Is (w.setCell ⟨d, 1, none⟩ u) d #[V, u] := by
  refine ⟨fun o => ?_, fun o => by rw [World.frozen?_setCell]; exact h.2 o⟩
  by_cases ho : o = 1
  · subst ho
    rw [World.cell?_setCell_same w ⟨d, 1, none⟩ u (h.1 1)]
    rfl
  · rw [World.cell?_setCell_other w ⟨d, 1, none⟩ ⟨d, o, none⟩ u (fun e => ho (by injection e with _ e _; exact e.symm)), h.1 o]
    match o, ho with
    | 0, _ => rfl
    | o + 2, _ => rfl
theorem is_set0 {w : World} {d : Nat} {V A u : Value} (h : Is w d #[V, A]) : Is (w.setCell ⟨d, 0, none⟩ u) d #[u, A] := by
  refine ⟨fun o => ?_, fun o => by rw [World.frozen?_setCell]; exact h.2 o⟩
  by_cases ho : o = 0
  · subst ho
    rw [World.cell?_setCell_same w ⟨d, 0, none⟩ u (h.1 0)]
    rfl
  · rw [World.cell?_setCell_other w ⟨d, 0, none⟩ ⟨d, o, none⟩ u (fun e => ho (by injection e with _ e _; exact e.symm)), h.1 o]
    match o, ho with
    | o + 1, _ => rfl

theorem rs_own {L : List Nat} {a b : World} {bs n : Nat} {v : Value} {e : TypeId} {size : Nat} {xs : List Value} (h : RS L a b) (ho : Own a bs e size v n xs) (h1 : ∀ x, v.ownBlock = some x → x ∉ L) : Own b bs e size v n xs := by
  refine ⟨ho.1, ?_⟩
  rcases ho.2 with hn | ⟨x, cap, cur, rfl, hbg, hgg, rest⟩
  · exact .inl hn
  · refine .inr ⟨x, cap, cur, rfl, hbg, ?_, rest⟩
    rw [h.block x (Array.getElem?_eq_some_iff.1 hgg).1 (h1 x rfl)]
    exact hgg
theorem rdM_tail {w : World} {b n cap K : Nat} {ms : List Mo} (h : RdL w 7 moC (.slice (some ⟨b, 0, none⟩) n cap) ms) (hn : ms.length = n) (hc : 1 < cap) (hp : PutsLe K ms) (hK : K ≤ 1048576) : RdM w (.slice (some ⟨b, 7, none⟩) (n - 1) (cap - 1)) ms.tail := by
  refine ⟨?_, fun m hm => by have := hp m (List.mem_of_mem_tail hm); omega⟩
  obtain ⟨h1, h2, A, c, he, h3, h4⟩ := h
  injection he with he1 he2 he3
  subst he1 he3
  refine ⟨flat_len moC 7 moC_len _, by simp; omega, some ⟨b, 7, none⟩, cap - 1, by rw [List.length_tail, hn], by rw [List.length_tail]; omega, fun hl => ?_⟩
  rw [List.length_tail] at hl
  obtain ⟨b', o', hA, hb, hcell⟩ := h4 (by omega)
  injection hA with hA
  injection hA with hA1 hA2 _
  subst hA1 hA2
  refine ⟨b, 7, rfl, hb, fun j u hu => ?_⟩
  have := hcell (7 + j) u (by
    cases ms with
    | nil => simp at hl
    | cons m rest =>
      rw [List.flatMap_cons, List.getElem?_append_right (by rw [moC_len]; omega), moC_len, show 7 + j - 7 = j by omega]
      exact hu)
  rwa [Nat.zero_add] at this
theorem rdM_none {w : World} (A : Option Addr) (c : Nat) : RdM w (.slice A 0 c) [] := ⟨⟨rfl, Nat.zero_le _, A, c, rfl, Nat.zero_le _, fun h => absurd h (by simp)⟩, fun m hm => by cases hm⟩
theorem rdr_set {w : World} {g n q : Nat} {zs : List Int} (h : Rdr w g n zs q) (p : Addr) (u : Value) (hp : g < p.block) : Rdr (w.setCell p u) g n zs q := by
  refine Rdr.below h ?_
  refine Below.setCell ?_ (by show g + 1 ≤ p.block; omega) _
  exact Below.refl _ _

end Go.Proofs.Ytjcdklkdpcncgaa
