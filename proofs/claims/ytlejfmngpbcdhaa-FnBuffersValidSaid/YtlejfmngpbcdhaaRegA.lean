/- What is proved here: words for a drawn region that appends one more element to a row of files that it made itself. No condition. -/
import Derived.Test.YtlejfmngpbcdhaaEver2
import Derived.Test.YtlejfmngpbcdhaaBuf1
import Derived.Test.YtlejfmngpbcdhaaAppG
namespace Go.Proofs.Ytlejfmngpbcdhaa
open Go.RowKit
set_option linter.unusedVariables false

theorem buf_infoA : (Try.prog.info? 37).map (fun i => (i.zero, i.size, i.bytes)) = some (some (.agg #[S [], S [], S []]), 3, 48) := by kernel_rfl
/-- the world goes on: a block is as it was, or it is a new row of files in which what lies behind n elements was not tgt, and what lies before is as it was. -/
structure RA (B n : Nat) (tgt : List Value) (a b : World) : Prop where
  os : b.os = a.os
  tape : b.tape = a.tape
  output : b.output = a.output
  size : a.heap.size ≤ b.heap.size
  block : ∀ i, i < a.heap.size → b.heap[i]? = a.heap[i]? ∨ (B ≤ i ∧ ∃ cur cur' : Array Value, a.heap[i]? = some (.cells cur 37 (0, 0)) ∧ b.heap[i]? = some (.cells cur' 37 (0, 0)) ∧ cur'.size = cur.size ∧ cur'.toList.take (n * 3) = cur.toList.take (n * 3) ∧ (cur.toList.drop (n * 3)).take 3 ≠ tgt)
section
variable {B n : Nat} {tgt : List Value} {a b c : World}
theorem RA.refl (B n : Nat) (tgt : List Value) (a : World) : RA B n tgt a a := ⟨rfl, rfl, rfl, Nat.le_refl _, fun _ _ => .inl rfl⟩
theorem RA.trans (h : RA B n tgt a b) (k : RA B n tgt b c) : RA B n tgt a c := ⟨k.os.trans h.os, k.tape.trans h.tape, k.output.trans h.output, Nat.le_trans h.size k.size, fun i hi => by
  rcases k.block i (Nat.lt_of_lt_of_le hi h.size) with k1 | ⟨k0, c1, c2, k1, k2, k3, k4, k5⟩
  · rcases h.block i hi with h1 | ⟨h0, d1, d2, h1, h2, h3, h4, h5⟩
    · exact .inl (k1.trans h1)
    · exact .inr ⟨h0, d1, d2, h1, k1.trans h2, h3, h4, h5⟩
  · rcases h.block i hi with h1 | ⟨h0, d1, d2, h1, h2, h3, h4, h5⟩
    · exact .inr ⟨k0, c1, c2, h1.symm.trans k1, k2, k3, k4, k5⟩
    · rw [h2] at k1
      injection k1 with k1
      injection k1 with k1 _ _
      subst k1
      exact .inr ⟨h0, d1, c2, h1, k2, k3.trans h3, k4.trans h4, h5⟩⟩
theorem RA.of_below (k : Below b.heap.size b c) : RA B n tgt b c := ⟨k.os, k.tape, k.output, k.size, fun i hi => .inl (k.block i hi)⟩
theorem RA.of_drew (h : RA B n tgt a.drew b) : RA B n tgt a b := ⟨h.os, h.tape, h.output, h.size, h.block⟩
theorem RA.to_below (h : RA a.heap.size n tgt a b) : Below a.heap.size a b := ⟨h.os, h.tape, h.output, h.size, fun i hi => by
  rcases h.block i hi with h1 | ⟨h1, _⟩
  · exact h1
  · omega⟩
theorem RA.own {bs k : Nat} {v : Value} {xs : List Value} (h : RA B n tgt a b) (ho : Own a bs 37 3 v k xs) (hk : k ≤ n) : Own b bs 37 3 v k xs := by
  refine ⟨ho.1, ?_⟩
  rcases ho.2 with hn | ⟨g, cap, cur, rfl, hbg, hgg, h1, h2, h3, h4⟩
  · exact .inl hn
  · rcases h.block g (Array.getElem?_eq_some_iff.1 hgg).1 with e | ⟨_, c1, c2, e1, e2, e3, e4, _⟩
    · exact .inr ⟨g, cap, cur, rfl, hbg, e.trans hgg, h1, h2, h3, h4⟩
    · rw [hgg] at e1
      injection e1 with e1
      injection e1 with e1 _ _
      subst e1
      refine .inr ⟨g, cap, c2, rfl, hbg, e2, h1, h2, e3.trans h3, ?_⟩
      have e5 := congrArg (List.take (k * 3)) e4
      rw [List.take_take, List.take_take, Nat.min_eq_left (by omega)] at e5
      exact e5.trans h4
theorem RA.more {bs : Nat} {v : Value} {xs : List Value} (h : RA B n tgt a b) (ho : Own a bs 37 3 v (n + 1) (xs ++ tgt)) (hx : xs.length = n * 3) (ht : tgt.length = 3) : Own b bs 37 3 v (n + 1) (xs ++ tgt) := by
  refine ⟨ho.1, ?_⟩
  rcases ho.2 with hn | ⟨g, cap, cur, rfl, hbg, hgg, h1, h2, h3, h4⟩
  · exact .inl hn
  · rcases h.block g (Array.getElem?_eq_some_iff.1 hgg).1 with e | ⟨_, c1, c2, e1, e2, e3, e4, e5⟩
    · exact .inr ⟨g, cap, cur, rfl, hbg, e.trans hgg, h1, h2, h3, h4⟩
    · rw [hgg] at e1
      injection e1 with e1
      injection e1 with e1 _ _
      subst e1
      exfalso
      apply e5
      have := congrArg (List.drop (n * 3)) h4
      rw [List.drop_append_of_le_length (by omega), List.drop_of_length_le (Nat.le_of_eq hx), List.nil_append, List.drop_take] at this
      rw [← this, show (n + 1) * 3 - n * 3 = 3 by omega]
set_option maxRecDepth 100000 in
/-- the first append: onto an empty row without room. -/
theorem app_first {w : World} (hB : B ≤ w.heap.size) (ty : TypeId) (blk : Nat) (hn : 0 < n) (u : Value) (xs : List Value) (hr : Rd w 3 u n xs) (h1 : ∀ x ∈ xs, x.oneCell' = true) (hn8 : n ≤ 1048576) :
    ∃ v' w', (Builtin.append_ #[32, 32] ty #[.slice (some ⟨blk, 0, none⟩) 0 0, u]).run Try.prog w = .ok v' w' ∧ Own w' B 37 3 v' n xs ∧ RA B n tgt w w' := by
  obtain ⟨hl, _, A, c, rfl, _, hA⟩ := hr
  obtain ⟨i0, hi, hz0, hz1, hz2⟩ := info_parts buf_infoA
  obtain ⟨b, o, rfl, _, hc⟩ := hA hn
  have hadd : ∀ j, (⟨b, o, none⟩ : Addr).add j = ⟨b, o + j, none⟩ := fun j => by unfold Addr.add; split <;> simp_all
  have hg := run_append_grow (P := Try.prog) w 32 ty 37 i0 _ Try.underlying32 hi hz0 ⟨blk, 0, none⟩ 0 0 [] (by simp) (fun j v h => by simp at h) ⟨b, o, none⟩ n c xs (by rw [hz1]; exact hl) (fun j x hx => by rw [hadd]; exact hc j x hx) (by omega) (by omega) (growslice_fits (by omega) (by rw [hz2]; omega))
  refine ⟨_, _, hg, ?_, ?_⟩
  · have hge := grownCap_ge w (0 + n) 0 37
    have hcm : grownCap w (0 + n) 0 37 ≤ maxLen := grownCap_le_maxLen w (0 + n) 0 37 (by unfold maxLen; omega)
    rw [Nat.zero_add] at *
    refine ⟨hl, .inr ⟨w.heap.size, _, _, rfl, hB, heap_alloc_new w.drew _, hge, hcm, ?_, ?_⟩⟩
    · simp only [Array.size_append, List.size_toArray, size_zeroCells, List.length_nil, hl, Nat.zero_add]
      show n * 3 + (grownCap w n 0 37 - n) * 3 = _
      rw [← Nat.add_mul]
      congr 1
      omega
    · simp only [Array.toList_append, List.nil_append]
      rw [← hl]
      simp
  · exact RA.of_below (up_alloc (⟨rfl, rfl, rfl, Nat.le_refl _, fun _ _ => rfl⟩ : Below w.heap.size w w.drew) _)
set_option maxRecDepth 100000 in
/-- the second append: one element more. -/
theorem app_second {w : World} (hB : B ≤ w.heap.size) (ty : TypeId) (hn : 0 < n) (v u : Value) (xs : List Value) (ho : Own w B 37 3 v n xs) (hu : Own w B 37 3 u 1 tgt) (h1 : ∀ x ∈ tgt, x.oneCell' = true) (ht : tgt.length = 3) (hn8 : n ≤ 1048576) :
    ∃ v' w', (Builtin.append_ #[32, 32] ty #[v, u]).run Try.prog w = .ok v' w' ∧ Own w' B 37 3 v' (n + 1) (xs ++ tgt) ∧ RA B n tgt w w' := by
  obtain ⟨i0, hi, hz0, hz1, hz2⟩ := info_parts buf_infoA
  rcases hu.2 with ⟨_, h0⟩ | ⟨gu, cu, curu, rfl, _, hgu, _, _, hcsu, htu⟩
  · omega
  have hnews : ∀ j x, tgt[j]? = some x → w.cell? ((⟨gu, 0, none⟩ : Addr).add j) = some x := hu.cells (g := gu) rfl
  obtain ⟨v', w', hr, o1, g1, -, p1⟩ := run_append_own_at (P := Try.prog) w B 32 ty 37 i0 _ 3 48 Try.underlying32 hi hz0 hz1 hz2 rfl (by decide) v n xs ho ⟨gu, 0, none⟩ 1 cu tgt (by rw [ht]) hnews h1 (by unfold maxLen; omega) (by omega) hB
  refine ⟨v', w', hr, o1, ?_⟩
  rcases ho.2 with ⟨_, h0⟩ | ⟨g, cap, cur, rfl, hbg, hg, hnc, hcm, hcs, htake⟩
  · omega
  by_cases hroom : n + 1 ≤ cap
  · have hr2 := run_append_room (P := Try.prog) w 32 ty 37 i0 Try.underlying32 hi g n cap cur hg ⟨gu, 0, none⟩ 1 cu tgt (by rw [hz1, ht]) hnews h1 hroom (by rw [hz1, ht, hcs]; omega)
    rw [hr] at hr2
    injection hr2 with hv hw
    subst hw
    rw [hz1, ht]
    refine ⟨rfl, rfl, rfl, by simp, fun i hi2 => ?_⟩
    by_cases e : i = g
    · subst e
      by_cases hs : (cur.toList.drop (n * 3)).take 3 = tgt
      · refine .inl ?_
        rw [setRow_heap w i cur _ 37 _ hg, hg]
        congr 2
        have : cur.toList.take (n * 3) ++ tgt ++ cur.toList.drop (n * 3 + 3) = cur.toList := by
          rw [← hs, List.append_assoc, ← List.drop_drop, List.take_append_drop, List.take_append_drop]
        rw [this]
      · refine .inr ⟨hbg, cur, _, hg, setRow_heap w i cur _ 37 _ hg, ?_, ?_, hs⟩
        · simp only [List.size_toArray, List.length_append, List.length_take, List.length_drop, Array.length_toList]
          omega
        · have : (cur.toList.take (n * 3)).length = n * 3 := by rw [List.length_take, Array.length_toList]; omega
          rw [List.append_assoc]
          simp [this]
    · exact .inl (setRow_other w g i _ e)
  · have holds : ∀ j x, xs[j]? = some x → w.cell? ((⟨g, 0, none⟩ : Addr).add j) = some x := ho.cells (g := g) rfl
    have hr2 := run_append_grow (P := Try.prog) w 32 ty 37 i0 _ Try.underlying32 hi hz0 ⟨g, 0, none⟩ n cap xs (by rw [hz1]; exact ho.1) holds ⟨gu, 0, none⟩ 1 cu tgt (by rw [hz1, ht]) hnews (by omega) (by omega) (growslice_fits (by omega) (by rw [hz2]; omega))
    rw [hr] at hr2
    injection hr2 with hv hw
    subst hw
    exact RA.of_below (up_alloc (⟨rfl, rfl, rfl, Nat.le_refl _, fun _ _ => rfl⟩ : Below w.heap.size w w.drew) _)
end
def raEq (B n : Nat) (tgt : List Value) (u : Value) : Ty (RA B n tgt) := ⟨fun v _ => v = u, fun _ _ _ _ h => h⟩
def raEmp (B n : Nat) (tgt : List Value) : Ty (RA B n tgt) := ⟨fun v _ => ∃ blk, v = .slice (some ⟨blk, 0, none⟩) 0 0, fun _ _ _ _ h => h⟩
def raOwn (B n : Nat) (tgt : List Value) (k : Nat) (hk : k ≤ n) (xs : List Value) : Ty (RA B n tgt) := ⟨fun v w => Own w B 37 3 v k xs, fun _ _ _ hR h => hR.own h hk⟩
def raMore (B n : Nat) (tgt : List Value) (xs : List Value) (hx : xs.length = n * 3) (ht : tgt.length = 3) : Ty (RA B n tgt) := ⟨fun v w => Own w B 37 3 v (n + 1) (xs ++ tgt), fun _ _ _ hR h => hR.more h hx ht⟩
theorem rdB_drop {w : World} {b o n c k : Nat} {bs : List Bf} (h : RdB w (.slice (some ⟨b, o, none⟩) n c) bs) (hn : bs.length = n) (hk : k < n) : RdB w (.slice (some ⟨b, o + k * 3, none⟩) (n - k) (c - k)) (bs.drop k) := by
  refine ⟨?_, fun x hx => h.2 x (List.mem_of_mem_drop hx)⟩
  obtain ⟨⟨h1, h2, A, c', he, h3, h4⟩, _⟩ := h
  injection he with he1 he2 he3
  subst he1 he3
  refine ⟨flat_len bfC 3 bfC_len _, by rw [List.length_drop]; omega, some ⟨b, o + k * 3, none⟩, c - k, by rw [List.length_drop, hn], by rw [List.length_drop]; omega, fun hl => ?_⟩
  obtain ⟨b', o', hA, hb, hcell⟩ := h4 (by omega)
  injection hA with hA
  injection hA with hA1 hA2 _
  subst hA1 hA2
  refine ⟨b, o + k * 3, rfl, hb, fun j u hu => ?_⟩
  have := hcell (k * 3 + j) u (by
    have e : bs.flatMap bfC = (bs.take k).flatMap bfC ++ (bs.drop k).flatMap bfC := by rw [← List.flatMap_append, List.take_append_drop]
    have hl2 : ((bs.take k).flatMap bfC).length = k * 3 := by rw [flat_len bfC 3 bfC_len, List.length_take]; congr 1; omega
    rw [e, List.getElem?_append_right (by omega), hl2, show k * 3 + j - k * 3 = j by omega]
    exact hu)
  rwa [Nat.add_assoc]
theorem rdB_snoc {w : World} {B n : Nat} {v : Value} {bs : List Bf} {x : Bf} (h : Own w B 37 3 v (n + 1) (bs.flatMap bfC ++ bfC x)) (hn : bs.length = n) (hl : ∀ b ∈ bs ++ [x], b.name.length ≤ maxLen ∧ b.body.length ≤ maxLen ∧ b.saved.length ≤ maxLen) : RdB w v (bs ++ [x]) := by
  refine ⟨?_, hl⟩
  have e : (bs ++ [x]).flatMap bfC = bs.flatMap bfC ++ bfC x := by rw [List.flatMap_append]; simp
  have := Rd.of_own h
  rw [← e] at this
  have e2 : n + 1 = (bs ++ [x]).length := by simp [hn]
  rw [e2] at this
  exact this
theorem bf_oneA (bs : List Bf) : ∀ x ∈ bs.flatMap bfC, x.oneCell' = true := by
  intro x hx
  rw [List.mem_flatMap] at hx
  obtain ⟨b, _, hx⟩ := hx
  simp [bfC] at hx
  rcases hx with rfl | rfl | rfl <;> rfl

end Go.Proofs.Ytlejfmngpbcdhaa
