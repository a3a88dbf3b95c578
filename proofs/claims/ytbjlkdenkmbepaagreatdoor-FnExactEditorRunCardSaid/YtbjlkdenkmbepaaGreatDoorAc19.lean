/- What is proved here: What is proved here: the contract of the program's linesOf. Condition: the cell of the library's MaxLen holds an int. What is proved here: the contract of slices.Insert at []string where there is no room. What is proved here: contracts of strings.Join, of the program's CutLines and PutLines at lines that exist. Condition: the cell of the library's MaxLen holds an int. No condition. -/
import Derived.Test.YtbjlkdenkmbepaaGreatDoorAc2
import Derived.Test.YtbjlkdenkmbepaaGreatDoorShelf
import Derived.Test.YtbjlkdenkmbepaaGreatDoorLaidW
import Derived.Test.YtbjlkdenkmbepaaGreatDoorBase
import Derived.Test.YtbjlkdenkmbepaaGreatDoorAc18
import Derived.Test.YtbjlkdenkmbepaaGreatDoorEverL
import Derived.Shelf.Spec.SlicesInsertGrow
namespace Go.Proofs.YtbjlkdenkmbepaaGreatDoor
open Go.RowKit
set_option linter.unusedVariables false

theorem count_c (c : UInt8) : ∀ (n : Nat) (s : List UInt8) (fuel : Nat), s.length ≤ n → s.length < fuel → Lib.countFrom [c] fuel s = s.count c
  | n, s, 0, _, hf => absurd hf (by omega)
  | n, s, fuel + 1, hn, hf => by
    rw [Lib.countFrom]
    have ixn : ∀ s : List UInt8, Lib.index s [c] = -1 → s.count c = 0 := by
      intro s
      induction s with
      | nil => intro _; rfl
      | cons b l ih =>
        intro h
        rw [Lib.index] at h
        have hp : [c].isPrefixOf (b :: l) = (c == b) := by simp [List.isPrefixOf]
        rw [hp] at h
        by_cases e : c = b
        · subst e; simp at h
        · rw [if_neg (by simpa using e)] at h
          split at h
          · rename_i h1
            rw [List.count_cons_of_ne (fun e2 => e (by simpa using e2.symm))]
            exact ih (by simpa using h1)
          · have := Lib.index_ge l [c]
            omega
    have ixs : ∀ (s : List UInt8) (i : Nat), Lib.index s [c] = i → i < s.length ∧ s.count c = 1 + (s.drop (i + 1)).count c := by
      intro s
      induction s with
      | nil =>
        intro i h
        have h0 : Lib.index ([] : List UInt8) [c] = -1 := rfl
        rw [h0] at h
        omega
      | cons b l ih =>
        intro i h
        rw [Lib.index] at h
        have hp : [c].isPrefixOf (b :: l) = (c == b) := by simp [List.isPrefixOf]
        rw [hp] at h
        by_cases e : c = b
        · subst e
          simp at h
          have : i = 0 := by omega
          subst this
          refine ⟨by simp, ?_⟩
          simp [Nat.add_comm]
        · rw [if_neg (by simpa using e)] at h
          split at h
          · omega
          · rename_i hne
            have hne2 : Lib.index l [c] ≠ -1 := by simpa using hne
            have hg := Lib.index_ge l [c]
            obtain ⟨j, rfl⟩ : ∃ j, i = j + 1 := ⟨i - 1, by omega⟩
            obtain ⟨h1, h2⟩ := ih j (by omega)
            refine ⟨by simp; omega, ?_⟩
            rw [List.count_cons_of_ne (fun e2 => e (by simpa using e2.symm)), h2, List.drop_succ_cons]
    by_cases hm : Lib.index s [c] = -1
    · rw [if_pos (by simp [hm])]
      exact (ixn s hm).symm
    · rw [if_neg (by simp [hm])]
      have hge := Lib.index_ge s [c]
      obtain ⟨i, hi⟩ : ∃ i : Nat, Lib.index s [c] = i := ⟨(Lib.index s [c]).toNat, by omega⟩
      obtain ⟨h1, h2⟩ := ixs s i hi
      cases n with
      | zero => omega
      | succ n =>
        have ih := count_c c n (s.drop (i + 1)) fuel (by rw [List.length_drop]; omega) (by rw [List.length_drop]; omega)
        rw [hi, show ((i : Int).toNat + [c].length) = i + 1 by simp, ih, h2]
theorem countB_nl (s : List UInt8) : Lib.countB ⟨s.toArray⟩ ⟨[10].toArray⟩ = nl s := count_c 10 s.length s _ (Nat.le_refl _) (Nat.lt_succ_self _)
/-- the lines, as values. -/
def lnsV (s : List UInt8) : List Value := (List.range (nl s + 1)).map fun q => S (lnT s q)
theorem lnsV_len (s : List UInt8) : (lnsV s).length = nl s + 1 := by simp [lnsV]
theorem splitB_lns (s : List UInt8) : (Lib.splitB ⟨[10].toArray⟩ 0 (nl s) ⟨s.toArray⟩).map Value.string = lnsV s := by
  have h1 := Lib.splitB_data ⟨[10].toArray⟩ 0 (nl s) ⟨s.toArray⟩
  have h0 : lst s 0 = 0 := lst_eq (Nat.zero_le _) ⟨rfl, .inl rfl⟩
  have h2 := split_from s (nl s) 0 (by omega)
  rw [h0, List.drop_zero] at h2
  have h3 : (Lib.splitB ⟨[10].toArray⟩ 0 (nl s) ⟨s.toArray⟩).map (·.data.toList) = (List.range' 0 (nl s + 1)).map (lnT s) := h1.trans h2
  have h4 : (Lib.splitB ⟨[10].toArray⟩ 0 (nl s) ⟨s.toArray⟩).map Value.string = ((Lib.splitB ⟨[10].toArray⟩ 0 (nl s) ⟨s.toArray⟩).map (·.data.toList)).map S := by
    rw [List.map_map]
    rfl
  rw [h4, h3, List.map_map, ← List.range_eq_range']
  rfl
def LnPost (s : List UInt8) (w : World) (e : Ending) (w' : World) : Prop := ∃ g, e = .returned (.slice (some ⟨g, 0, none⟩) (nl s + 1) (nl s + 1)) ∧ Own w' w.heap.size 9 1 (.slice (some ⟨g, 0, none⟩) (nl s + 1) (nl s + 1)) (nl s + 1) (lnsV s) ∧ Below w.heap.size w w'
set_option maxRecDepth 100000 in
theorem linesOf_any (s : List UInt8) (w : World) (hs : s.length ≤ 120) (hm : MX w) :
    Calls Tryz.prog 192 #[S s] w (LnPost s w) := by
  obtain ⟨m, hm⟩ := hm
  have H := Lib.hid (Tryz.strings_Split ⟨s.toArray⟩ ⟨[10].toArray⟩ m w (by show s.length < _; omega) hm (by decide))
  rw [countB_nl, splitB_lns] at H
  have hn := nl_le s
  unfold LnPost
  go_enter Tryz.func192, Tryz.ntmps192
  go_wp2_with fail
  refine H.out.mono ?_
  rintro e w1 ⟨rfl, rfl⟩
  go_wp2_with fail
  go_ret
  refine ⟨_, rfl, ⟨?_, .inr ⟨w.heap.size, nl s + 1, (lnsV s).toArray, rfl, Nat.le_refl _, heap_alloc_new _ _, Nat.le_refl _, by unfold maxLen; omega, ?_, ?_⟩⟩, up_alloc (Below.refl _ _) _⟩
  · rw [lnsV_len]; omega
  · simp [lnsV_len]
  · rw [List.take_of_length_le (by simp [lnsV_len])]

end Go.Proofs.YtbjlkdenkmbepaaGreatDoor

namespace Go.Proofs.YtbjlkdenkmbepaaGreatDoor
open Go.RowKit Go.Shelf
set_option linter.unusedVariables false

def insRen : Go.Shelf.Ren := ⟨fun | 22 => 219 | 29 => 236 | 30 => 237 | 36 => 253 | 17 => 261 | n => n, fun | 24 => 28 | 9 => 9 | 3 => 3 | 4 => 4 | 0 => 0 | n => n, fun | n => n⟩
theorem insLays : Go.Proofs.Lays2.n22 Tryz.prog insRen := {
  mixed := by kernel_rfl
  f17 := Tryz.func261.trans (congrArg some (by kernel_rfl))
  f22 := Tryz.func219.trans (congrArg some (by kernel_rfl))
  f29 := Tryz.func236.trans (congrArg some (by kernel_rfl))
  f30 := Tryz.func237.trans (congrArg some (by kernel_rfl))
  f36 := Tryz.func253.trans (congrArg some (by kernel_rfl))
  t0 := Tryz.underlying0
  a0 := Tryz.isAgg0
  z0 := Tryz.sizeOf0
  v0 := Tryz.zeroValue0
  t3 := Tryz.underlying3
  a3 := Tryz.isAgg3
  z3 := Tryz.sizeOf3
  v3 := Tryz.zeroValue3
  t4 := Tryz.underlying4
  a4 := Tryz.isAgg4
  z4 := Tryz.sizeOf4
  v4 := Tryz.zeroValue4
  t9 := Tryz.underlying9
  a9 := Tryz.isAgg9
  z9 := Tryz.sizeOf9
  v9 := Tryz.zeroValue9
  t24 := Tryz.underlying28
  a24 := Tryz.isAgg28
  z24 := Tryz.sizeOf28
  v24 := Tryz.zeroValue28
  i9 := by kernel_rfl }
theorem setCells_below {B b : Nat} {w0 w : World} (vs : List Value) (o : Nat) (h : Below B w0 w) (hb : B ≤ b) : Below B w0 (w.setCells b o vs) := by
  obtain ⟨h1, h2, h3⟩ := setCells_rest b vs o w
  exact ⟨h1.trans h.os, h2.trans h.tape, h3.trans h.output, by rw [setCells_size]; exact h.size, fun i hi => (setCells_other b (by omega) _ _ _).trans (h.block i hi)⟩
theorem rd_cells1 {w : World} {b o n c : Nat} {L : List (List UInt8)} (h : RdL w 1 strC (.slice (some ⟨b, o, none⟩) n c) L) : ∀ j u, (L.flatMap strC)[j]? = some u → w.cell? ⟨b, o + j, none⟩ = some u := by
  intro j u hu
  have hj : j < L.length := by
    have := (List.getElem?_eq_some_iff.1 hu).1
    rwa [flat_len1] at this
  obtain ⟨_, _, A', c', he, _, hA⟩ := h
  injection he with e1 e2 e3
  subst e1
  obtain ⟨b', o', hA2, _, hc⟩ := hA (by omega)
  injection hA2 with hA2
  injection hA2 with h1 h2 _
  subst h1 h2
  exact hc j u hu
theorem flat_drop1 (L : List (List UInt8)) (k : Nat) : (L.drop k).flatMap strC = (L.flatMap strC).drop k := by
  have := flat_drop strC 1 strC_len L k
  rwa [Nat.mul_one] at this
theorem flat_take1 (L : List (List UInt8)) (k : Nat) : (L.take k).flatMap strC = (L.flatMap strC).take k := by
  have := flat_take strC 1 strC_len L k
  rwa [Nat.mul_one] at this
/-- what a world holds behind the copies. -/
theorem ins_cells {w : World} {h i m : Nat} {X : Array Value} {t : TypeId} {cs vs : List Value} (hi : i ≤ cs.length) (hm : vs.length = m) (hX : cs.length + m ≤ X.size) (hpre : ∀ j, j < i → X[j]? = cs[j]?) (hh : h = w.heap.size) :
    ∀ j u, (cs.take i ++ (vs ++ cs.drop i))[j]? = some u → ((((w.alloc (.cells X t)).drew.setCells h i vs).drew).setCells h (i + m) (cs.drop i)).cell? ⟨h, j, none⟩ = some u := by
  subst hh
  intro j u hu
  have hj : j < cs.length + m := by
    have := (List.getElem?_eq_some_iff.1 hu).1
    rw [List.length_append, List.length_append, List.length_take, List.length_drop] at this
    omega
  have base : ∀ k, (w.alloc (.cells X t)).drew.cell? ⟨w.heap.size, k, none⟩ = X[k]? := fun k => World.cell?_alloc_new w X t k
  have some1 : ∀ k, k < X.size → ((w.alloc (.cells X t)).drew.cell? ⟨w.heap.size, k, none⟩).isSome = true := fun k hk => by rw [base, Array.getElem?_eq_getElem hk]; rfl
  have dr : ∀ (z : World) k, z.drew.cell? ⟨w.heap.size, k, none⟩ = z.cell? ⟨w.heap.size, k, none⟩ := fun _ _ => rfl
  have mid : ∀ k, (((w.alloc (.cells X t)).drew.setCells w.heap.size i vs)).cell? ⟨w.heap.size, k, none⟩ = if i ≤ k ∧ k < i + m then vs[k - i]? else X[k]? := by
    intro k
    by_cases hk : i ≤ k ∧ k < i + m
    · rw [if_pos hk]
      have := World.cell?_setCells_in w.heap.size vs i (w.alloc (.cells X t)).drew (fun q hq => some1 _ (by omega)) (k - i) (by omega)
      rw [show i + (k - i) = k by omega] at this
      rw [this, List.getElem?_eq_getElem (by omega)]
    · rw [if_neg hk, World.cell?_setCells_out w.heap.size vs i _ ⟨w.heap.size, k, none⟩ (fun _ _ => by show k < i ∨ _ ≤ k; omega), base]
  by_cases h1 : j < i
  · rw [World.cell?_setCells_out w.heap.size _ _ _ ⟨w.heap.size, j, none⟩ (fun _ _ => by show j < i + m ∨ _ ≤ j; omega), dr, mid, if_neg (by omega), hpre j h1]
    rw [List.getElem?_append_left (by rw [List.length_take]; omega), List.getElem?_take, if_pos h1] at hu
    exact hu
  · rw [List.getElem?_append_right (by rw [List.length_take]; omega), List.length_take, Nat.min_eq_left hi] at hu
    by_cases h2 : j < i + m
    · rw [World.cell?_setCells_out w.heap.size _ _ _ ⟨w.heap.size, j, none⟩ (fun _ _ => by show j < i + m ∨ _ ≤ j; omega), dr, mid, if_pos (by omega)]
      rw [List.getElem?_append_left (by omega)] at hu
      exact hu
    · rw [List.getElem?_append_right (by omega), hm] at hu
      have hlen : j - i - m < (cs.drop i).length := by rw [List.length_drop]; omega
      have := World.cell?_setCells_in w.heap.size (cs.drop i) (i + m) (((w.alloc (.cells X t)).drew.setCells w.heap.size i vs).drew) (fun q hq => by
        rw [List.length_drop] at hq
        rw [dr, mid, if_neg (by omega), Array.getElem?_eq_getElem (by omega)]
        rfl) (j - i - m) hlen
      rw [show i + m + (j - i - m) = j by omega] at this
      rw [this, ← hu, List.getElem?_eq_getElem hlen]

def InsPost (B n : Nat) (C : List (List UInt8)) (w : World) (e : Ending) (w' : World) : Prop := ∃ g c, e = .returned (.slice (some ⟨g, 0, none⟩) n c) ∧ g < w'.heap.size ∧ RdL w' 1 strC (.slice (some ⟨g, 0, none⟩) n c) C ∧ Below B w w'
set_option maxRecDepth 100000 in
set_option maxHeartbeats 2000000 in
theorem insertS_any (B g b o vc i n m : Nat) (L K : List (List UInt8)) (w : World) (hL : Own w B 9 1 (.slice (some ⟨g, 0, none⟩) n n) n (L.flatMap strC)) (hK : RdL w 1 strC (.slice (some ⟨b, o, none⟩) m vc) K) (hn : L.length = n) (hm : K.length = m) (hi : i ≤ n) (hm0 : 0 < m) (hB : B ≤ w.heap.size) (hbig : n + m ≤ 1000) :
    Calls Tryz.prog 219 #[.slice (some ⟨g, 0, none⟩) n n, .int .i64 i, .slice (some ⟨b, o, none⟩) m vc] w (InsPost B (n + m) (L.take i ++ (K ++ L.drop i)) w) := by
  have hcl : (L.flatMap strC).length = n := by rw [flat_len1, hn]
  have hvl : (K.flatMap strC).length = m := by rw [flat_len1, hm]
  have hC : (L.take i ++ (K ++ L.drop i)).flatMap strC = (L.flatMap strC).take i ++ (K.flatMap strC ++ (L.flatMap strC).drop i) := by
    rw [List.flatMap_append, List.flatMap_append, flat_take1, flat_drop1]
  have hCl : (L.take i ++ (K ++ L.drop i)).length = n + m := by
    rw [List.length_append, List.length_append, List.length_take, List.length_drop]
    omega
  by_cases hin : i < n
  · have hRL : RdL w 1 strC (.slice (some ⟨g, 0, none⟩) n n) L := by
      have h2 := hL
      rw [← hn] at h2 ⊢
      exact RdL.of_own h2
    refine (Any2.slices_Insert_string_grow insLays g 0 n n i b o m vc (L.flatMap strC) (K.flatMap strC) w hin hm0 (Nat.le_refl _) (by omega) (by omega) hcl hvl (rd_cells1 hRL) (rd_cells1 hK) (strs_one _) (strs_one _)).mono ?_
    rintro e w' ⟨he, hw⟩
    have hcap := grownCap_ge w (n + m) n 9
    refine ⟨w.heap.size, grownCap w (n + m) n 9, he, ?_, ?_, ?_⟩
    · rw [hw, setCells_size]
      show w.heap.size < ((w.alloc _).drew.setCells w.heap.size i _).heap.size
      rw [setCells_size]
      simp
    · refine ⟨by rw [flat_len1, Nat.mul_one], by rw [hCl]; unfold maxLen; omega, _, _, by rw [hCl], by rw [hCl]; exact hcap, fun _ => ⟨w.heap.size, 0, rfl, ?_, fun j u hu => ?_⟩⟩
      · rw [hw, setCells_size]
        show w.heap.size < ((w.alloc _).drew.setCells w.heap.size i _).heap.size
        rw [setCells_size]
        simp
      · rw [hC] at hu
        rw [hw, Nat.zero_add]
        refine ins_cells (by omega) hvl ?_ ?_ rfl j u hu
        · simp only [Array.size_append, List.size_toArray, List.length_take, size_zeroCells]
          rw [hcl]
          show n + m ≤ min i n + (n + m - i) * 1 + (grownCap w (n + m) n 9 - (n + m)) * 1
          omega
        · intro j hj
          rw [Array.append_assoc, Array.getElem?_append_left (by rw [List.size_toArray, List.length_take, hcl]; omega), List.getElem?_toArray, List.getElem?_take, if_pos hj]
    · rw [hw]
      exact setCells_below _ _ (Below.drew (setCells_below _ _ (Below.drew ((Below.refl B w).alloc hB _)) hB)) hB
  · obtain rfl : i = n := by omega
    obtain ⟨i0, hi0, hz0, hz1, hz2⟩ := info_parts str_info
    have c0 : ((m : Int) == 0) = false := by rw [beq_eq_false_iff_ne]; omega
    have HL := Lib.hid hL
    have HK := Lib.hid hK
    have HC := Lib.hid hC
    have HCl := Lib.hid hCl
    unfold InsPost
    generalize hCC : L.take i ++ (K ++ L.drop i) = C at *
    have HT := Lib.hid (show (L.flatMap strC).take i ++ (K.flatMap strC ++ (L.flatMap strC).drop i) = L.flatMap strC ++ K.flatMap strC by rw [List.take_of_length_le (by omega), List.drop_of_length_le (by omega), List.append_nil])
    clear hL hK hC hCC hcl hvl hCl
    go_enter Tryz.func219, Tryz.ntmps219
    go_wp2_with (at_builtin; refine wpList_append_any _ rfl _ _ 28 rfl B 9 i0 (S []) 1 16 Tryz.underlying28 hi0 hz0 hz1 hz2 rfl (by decide) _ _ _ rfl HL.out _ m (K.flatMap strC) rfl (rd_of hm HK.out) (strs_one _) (by unfold maxLen; omega) (by omega) hB ?_; intro v2 w2 how hgr)
    obtain ⟨g2, c2, rfl, hg0, hg1, hgc⟩ := row_form how (by omega)
    have HB2 := Lib.hid (show Below B w w2 from (Below.refl B w).grown hgr hB (own_lt HL.out (Nat.le_refl _)))
    have HR2 := Lib.hid (show RdL w2 1 strC (.slice (some ⟨g2, 0, none⟩) (i + m) c2) C by
      have h1 := how
      rw [← HT.out, ← HC.out, ← HCl.out] at h1
      rw [← HCl.out]
      exact RdL.of_own h1)
    clear how hgr
    go_wp2_with fail
    go_ret
    exact ⟨g2, c2, rfl, hg1, HR2.out, HB2.out⟩

end Go.Proofs.YtbjlkdenkmbepaaGreatDoor

namespace Go.Proofs.YtbjlkdenkmbepaaGreatDoor
open Go.RowKit Go.Shelf
set_option linter.unusedVariables false

theorem lnsV_flat (s : List UInt8) : lnsV s = (lns s).flatMap strC := by
  unfold lnsV lns
  rw [List.flatMap_map]
  generalize List.range (nl s + 1) = R
  induction R with
  | nil => rfl
  | cons a R ih => rw [List.map_cons, List.flatMap_cons, ih]; rfl
theorem own_row_is {w : World} {B g n : Nat} {e : TypeId} {xs : List Value} (h : Own w B e 1 (.slice (some ⟨g, 0, none⟩) n n) n xs) : Is w g xs.toArray := by
  have hh : w.heap[g]? = some (.cells xs.toArray e (0, 0)) := by
    obtain ⟨hl, h | ⟨g', cap, cur, hv, hb, hh, hnc, hcm, hcs, htk⟩⟩ := h
    · cases h.1
    · injection hv with e1 _ e3
      injection e1 with e1
      injection e1 with e1 _ _
      subst e1 e3
      have hc : cur.toList = xs := by
        rw [← htk, List.take_of_length_le]
        rw [Array.length_toList, hcs]
        exact Nat.le_refl _
      rw [hh, ← hc]
  exact ⟨fun o => by simp [World.cell?, hh], fun o => by simp [World.frozen?, hh]⟩
theorem joinS_any (b o c n : Nat) (xs : List (List UInt8)) (w : World) (h : RdL w 1 strC (.slice (some ⟨b, o, none⟩) n c) xs) (hn : xs.length = n) (hb : b < w.heap.size) (hl : (jn xs).length ≤ 100000000000) (hm : n ≤ 1000000) :
    Calls Tryz.prog 193 #[.slice (some ⟨b, o, none⟩) n c, S [10]] w fun e w' => e = .returned (S (jn xs)) ∧ Below w.heap.size w w' := by
  subst hn
  have hx : (xs.map fun x => (⟨x.toArray⟩ : ByteArray)).map (·.data.toList) = xs := by
    rw [List.map_map]
    conv => rhs; rw [← List.map_id xs]
    rfl
  have hc : xs.length ≤ c := by
    obtain ⟨_, _, A', c', he, h3, _⟩ := h
    injection he with _ _ e3
    subst e3
    exact h3
  have key := Tryz.strings_Join b o c (xs.map fun x => (⟨x.toArray⟩ : ByteArray)) ⟨[10].toArray⟩ w (fun j x hj => by
    rw [List.getElem?_map, Option.map_eq_some_iff] at hj
    obtain ⟨y, hy, rfl⟩ := hj
    refine rd_cells1 h j _ ?_
    have hlt := (List.getElem?_eq_some_iff.1 hy).1
    have h1 := flat_at strC 1 strC_len xs j 0 y hy (by omega)
    rw [Nat.mul_one, Nat.add_zero] at h1
    exact h1) hb (by rw [List.length_map]; omega) (by rw [List.length_map]; exact hc) (by rw [hx]; exact Nat.le_trans hl (by omega))
  rw [hx, List.length_map] at key
  exact key
theorem strsOf_list (L : List (List UInt8)) (n : Nat) (hn : L.length = n) : Lib.strsOf (fun i => (⟨(L.getD i []).toArray⟩ : ByteArray)) n = L := by
  subst hn
  unfold Lib.strsOf
  apply List.ext_getElem (by simp)
  intro i h1 h2
  simp [List.getD_eq_getElem?_getD, h2]
theorem enc_map (xs : List (List UInt8)) : xs.map encStr = xs.flatMap strC := by
  induction xs with
  | nil => rfl
  | cons x xs ih => rw [List.map_cons, List.flatMap_cons, ih]; rfl
theorem is_cells {w : World} {g n : Nat} {L : List (List UInt8)} (h : Is w g (L.flatMap strC).toArray) (hn : L.length = n) : ∀ i, i < n → w.cell? ⟨g, 0 + i, none⟩ = some (.string ⟨(L.getD i []).toArray⟩) := by
  subst hn
  intro i hi
  have h1 := flat_at strC 1 strC_len L i 0 L[i] (List.getElem?_eq_getElem hi) (by omega)
  rw [Nat.mul_one, Nat.add_zero] at h1
  rw [Nat.zero_add, h.1, List.getElem?_toArray, h1, List.getD_eq_getElem?_getD, List.getElem?_eq_getElem hi]
  rfl
theorem is_rd {w : World} {g n c : Nat} {V : List Value} {C : List (List UInt8)} (h : Is w g V.toArray) (hg : g < w.heap.size) (hC : C.length = n) (hnc : n ≤ c) (hn : n ≤ 1000) (hV : ∀ (j : Nat) (u : Value), (C.flatMap strC)[j]? = some u → V[j]? = some u) : RdL w 1 strC (.slice (some ⟨g, 0, none⟩) n c) C := by
  subst hC
  refine ⟨by rw [flat_len1, Nat.mul_one], by unfold maxLen; omega, _, _, rfl, hnc, fun _ => ⟨g, 0, rfl, hg, fun j u hu => ?_⟩⟩
  rw [Nat.zero_add, h.1, List.getElem?_toArray]
  exact hV j u hu
set_option maxRecDepth 100000 in
set_option maxHeartbeats 2000000 in
theorem implCutLines_any (s : List UInt8) (f m : Nat) (w : World) (hs : tv s = true) (hm : 1 ≤ m) (hfm : f + m ≤ nl s + 1) (hmx : MX w) :
    Calls Tryz.prog 169 #[S s, .int .i64 f, .int .i64 m] w fun e w' => e = .returned (.tuple #[S (jn (cutL s f m)), .bool true]) ∧ Below w.heap.size w w' := by
  have hl := tv_len hs
  have hnl := nl_le s
  have T := Lib.hid (fun w => implTextValid_any s w (by unfold maxLen; omega))
  rw [hs] at T
  have LO := Lib.hid (fun w hm => linesOf_any s w hl hm)
  unfold LnPost at LO
  rw [lnsV_flat] at LO
  have hll := lns_len s
  have HJ := Lib.hid (cutL_len s f m hs)
  have HC := Lib.hid (show cutL s f m = (lns s).take f ++ (lns s).drop (f + m) from rfl)
  have I1 := Lib.hid (inB_iff.2 (show (0 : Int) ≤ (f : Int) ∧ (f : Int) ≤ ((nl s + 1 : Nat) : Int) - 1 by omega))
  have I2 := Lib.hid (inB_iff.2 (show (1 : Int) ≤ (m : Int) ∧ (m : Int) ≤ ((nl s + 1 : Nat) : Int) - (f : Int) by omega))
  have HMX := Lib.hid hmx
  generalize cutL s f m = C at *
  generalize lns s = L at *
  generalize hn : nl s + 1 = n at *
  clear hs hmx
  go_enter Tryz.func169, Tryz.ntmps169
  go_wp2_with fail
  refine (T.out _).mono ?_
  rintro e w1 ⟨rfl, rfl⟩
  go_wp2_with fail
  refine (LO.out _ HMX.out).mono ?_
  rintro e w1 ⟨g, rfl, ho, hb⟩
  have HIs := Lib.hid (own_row_is ho)
  obtain ⟨_, _, _, hg0, hg1, _⟩ := row_form ho (by omega)
  have hgo := ho.lt g rfl
  have HW1 := Lib.hid hb
  have s1 := hb.size
  clear ho hb LO HMX T hg0 hg1
  go_wp2_with fail
  refine (in_any _ _ _ _).mono ?_
  rw [I1.out]
  rintro e w2 ⟨rfl, rfl⟩
  go_wp2_with fail
  refine (in_any _ _ _ _).mono ?_
  rw [I2.out]
  rintro e w2 ⟨rfl, rfl⟩
  clear I1 I2
  have E1 := Lib.hid (show (f : Int) + (m : Int) = ((f + m : Nat) : Int) by omega)
  have HCE := Lib.hid (is_cells HIs.out hll)
  go_wp2_with fail
  rw [E1.out]
  refine (Tryz.slices_Delete_string_cells g 0 n n f (f + m) (fun i => ⟨(L.getD i []).toArray⟩) _ (Nat.le_refl _) (by omega) (by omega) hfm HCE.out (fun i hi => HIs.out.2 _)).mono ?_
  rintro e w2 ⟨rfl, q, hw2⟩
  rw [strsOf_list L n hll, enc_map] at hw2
  obtain ⟨r, hr⟩ : ∃ r, r = n - (f + m - f) := ⟨_, rfl⟩
  rw [← hr]
  have HB2 := Lib.hid (show Below w.heap.size w w2 by
    rw [hw2]
    exact setCells_below _ _ (up_drewN HW1.out q) hgo.1)
  have hsz2 : w2.heap.size = w1.heap.size := by rw [hw2, setCells_size]; rfl
  have hlen : C.length = r := by rw [HC.out, List.length_append, List.length_take, List.length_drop]; omega
  have HR2 := Lib.hid (show RdL w2 1 strC (.slice (some ⟨g, 0, none⟩) r n) C by
    have h1 : Is w2 g ((L.take f ++ L.drop (f + m) ++ List.replicate (f + m - f) []).flatMap strC).toArray := by
      rw [hw2]
      have h2 := put_is (V := ((L.take f ++ L.drop (f + m) ++ List.replicate (f + m - f) []).flatMap strC).toArray) (show Is (w1.drewN q) g (L.flatMap strC).toArray from ⟨HIs.out.1, HIs.out.2⟩) (by
        rw [List.size_toArray, List.size_toArray, flat_len1, flat_len1, List.length_append, List.length_append, List.length_take, List.length_drop, List.length_replicate]
        omega)
      exact h2
    refine is_rd h1 (by omega) hlen (by omega) (by omega) fun j u hu => ?_
    rw [List.flatMap_append, ← HC.out]
    rw [List.getElem?_append_left (List.getElem?_eq_some_iff.1 hu).1]
    exact hu)
  have HLN := Lib.hid hlen
  have hrn : r ≤ n := by omega
  clear hw2 HIs hr
  go_wp2_with fail
  refine (joinS_any g 0 n r C w2 HR2.out HLN.out (by omega) (by have := HJ.out; omega) (by omega)).mono ?_
  rintro e w3 ⟨rfl, hb3⟩
  have HB3 := Lib.hid (up_trans HB2.out hb3)
  clear hb3
  go_wp2_with fail
  go_ret2
  exact ⟨rfl, HB3.out⟩
set_option maxRecDepth 100000 in
set_option maxHeartbeats 2000000 in
theorem implPutLines_any (s : List UInt8) (a : Nat) (t : List UInt8) (w : World) (hs : tv s = true) (ht : tv t = true) (ha : a ≤ nl s + 1) (hmx : MX w) (z : List UInt8) (ok : Bool) (hz : (s.length + 1 + t.length ≤ 120 → z = jn (putL s a t) ∧ ok = true) ∧ (¬ s.length + 1 + t.length ≤ 120 → z = s ∧ ok = false)) :
    Calls Tryz.prog 195 #[S s, .int .i64 a, S t] w fun e w' => e = .returned (.tuple #[S z, .bool ok]) ∧ Below w.heap.size w w' := by
  have hl := tv_len hs
  have htl := tv_len ht
  have hnl := nl_le s
  have hnt := nl_le t
  have T := Lib.hid (fun w => implTextValid_any s w (by unfold maxLen; omega))
  rw [hs] at T
  have T2 := Lib.hid (fun w => implTextValid_any t w (by unfold maxLen; omega))
  rw [ht] at T2
  have LO := Lib.hid (fun w hm => linesOf_any s w hl hm)
  have LO2 := Lib.hid (fun w hm => linesOf_any t w htl hm)
  unfold LnPost at LO LO2
  rw [lnsV_flat] at LO LO2
  have hll := lns_len s
  have hlt := lns_len t
  have HMX := Lib.hid hmx
  have hpl := putL_len s a t
  have TV := Lib.hid (fun w => implTextValid_any (jn (putL s a t)) w (by unfold maxLen; omega))
  rw [putL_tv hs ht] at TV
  have HC := Lib.hid (show putL s a t = (lns s).take a ++ (lns t ++ (lns s).drop a) from rfl)
  have I1 := Lib.hid (inB_iff.2 (show (0 : Int) ≤ (a : Int) ∧ (a : Int) ≤ ((nl s + 1 : Nat) : Int) by omega))
  have HZ := Lib.hid hz
  generalize hJ : jn (putL s a t) = J at *
  have HJ := Lib.hid hJ
  generalize putL s a t = C at *
  generalize lns s = L at *
  generalize lns t = K at *
  generalize hn : nl s + 1 = n at *
  generalize hn2 : nl t + 1 = n2 at *
  clear hs ht hz hJ hmx
  go_enter Tryz.func195, Tryz.ntmps195
  go_wp2_with fail
  refine (T.out _).mono ?_
  rintro e w1 ⟨rfl, rfl⟩
  go_wp2_with fail
  refine (T2.out _).mono ?_
  rintro e w1 ⟨rfl, rfl⟩
  go_wp2_with fail
  refine (LO.out _ HMX.out).mono ?_
  rintro e w1 ⟨g, rfl, ho, hb⟩
  have HO1 := Lib.hid ho
  have HW1 := Lib.hid hb
  have HM1 := Lib.hid (HMX.out.up hb)
  clear ho hb LO HMX T T2
  go_wp2_with fail
  refine (in_any _ _ _ _).mono ?_
  rw [I1.out]
  rintro e w2 ⟨rfl, rfl⟩
  clear I1
  go_wp2_with fail
  refine (LO2.out _ HM1.out).mono ?_
  rintro e w2 ⟨g2, rfl, ho2, hb2⟩
  have HK2 := Lib.hid (show RdL w2 1 strC (.slice (some ⟨g2, 0, none⟩) n2 n2) K by
    have h1 := ho2
    rw [← hlt] at h1 ⊢
    exact RdL.of_own h1)
  have HO2 := Lib.hid (own_up HO1.out hb2)
  have HW2 := Lib.hid (up_trans HW1.out hb2)
  have s2 := HW2.out.size
  clear ho2 hb2 HO1 HM1 LO2
  go_wp2_with fail
  refine (insertS_any w.heap.size g g2 0 n2 a n n2 L K _ HO2.out HK2.out hll hlt ha (by omega) s2 (by omega)).mono ?_
  rintro e w3 ⟨g3, c3, rfl, hg3, hr3, hb3⟩
  rw [← HC.out] at hr3
  have HR3 := Lib.hid hr3
  have HW3 := Lib.hid (HW2.out.trans hb3)
  have HCl := Lib.hid (show C.length = n + n2 by rw [HC.out, List.length_append, List.length_append, List.length_take, List.length_drop]; omega)
  clear hr3 hb3 HO2 HK2
  go_wp2_with fail
  refine (joinS_any g3 0 c3 (n + n2) C w3 HR3.out HCl.out hg3 (by rw [HJ.out]; omega) (by omega)).mono ?_
  rw [HJ.out]
  rintro e w4 ⟨rfl, hb4⟩
  have HW4 := Lib.hid (up_trans HW3.out hb4)
  clear hb4
  go_wp2_with fail
  refine (TV.out _).mono ?_
  rintro e w5 ⟨rfl, rfl⟩
  by_cases hroom : s.length + 1 + t.length ≤ 120
  · obtain ⟨hz1, hz2⟩ := HZ.out.1 hroom
    subst hz1 hz2
    rw [decide_eq_true hroom]
    clear hroom HZ
    go_wp2_with fail
    go_ret2
    exact ⟨rfl, HW4.out⟩
  · obtain ⟨hz1, hz2⟩ := HZ.out.2 hroom
    subst hz1 hz2
    rw [decide_eq_false hroom]
    clear hroom HZ
    go_wp2_with fail
    go_ret2
    exact ⟨rfl, HW4.out⟩

end Go.Proofs.YtbjlkdenkmbepaaGreatDoor
