/- What is proved here: plain laws on lists of open files: what is valid, and what opening, closing, saving and changing do. No condition. -/
import Derived.Test.YtlejfmngpbcdhaaChg4
import Derived.Test.YtlejfmngpbcdhaaDn
namespace Go.Proofs.Ytlejfmngpbcdhaa
open Go.RowKit

theorem bfAt_none (bs : List Bf) (nm : List UInt8) (h : nm ∉ bs.map Bf.name) : bfAt bs nm = -1 := by
  induction bs with
  | nil => rfl
  | cons b bs ih =>
    rw [List.map_cons, List.mem_cons] at h
    have h1 : ¬ nm = b.name := fun e => h (.inl e)
    have h2 := ih (fun e => h (.inr e))
    unfold bfAt
    rw [if_neg (by simpa using fun e => h1 e.symm), h2]; rfl
theorem bfAt_some (bs : List Bf) (nm : List UInt8) (k : Nat) (h : bfAt bs nm = (k : Int)) : ∃ hk : k < bs.length, bs[k].name = nm := by
  induction bs generalizing k with
  | nil => simp [bfAt] at h
  | cons b bs ih =>
    unfold bfAt at h
    by_cases hn : (b.name == nm) = true
    · rw [if_pos hn] at h
      obtain rfl : k = 0 := by omega
      exact ⟨by simp, by simpa using hn⟩
    · rw [if_neg hn] at h
      have hb := bfAt_ge bs nm
      split at h
      · omega
      · obtain ⟨j, rfl⟩ : ∃ j, k = j + 1 := ⟨k - 1, by omega⟩
        obtain ⟨hj, hh⟩ := ih j (by omega)
        exact ⟨by simpa using hj, by simpa using hh⟩
theorem bfAt_nn (bs : List Bf) (nm : List UInt8) : 0 ≤ bfAt bs nm ↔ nm ∈ bs.map Bf.name := by
  constructor
  · intro h
    obtain ⟨k, hk, he⟩ := bfAt_nat h
    obtain ⟨hk', hn⟩ := bfAt_some bs nm k he
    rw [← hn]
    exact List.mem_map_of_mem (List.getElem_mem hk)
  · intro h
    have hb := bfAt_ge bs nm
    rcases Int.lt_or_le (bfAt bs nm) 0 with h1 | h1
    · exfalso
      rw [List.mem_map] at h
      obtain ⟨b, hb1, hb2⟩ := h
      have key : ∀ (l : List Bf), b ∈ l → bfAt l nm ≠ -1 := by
        intro l
        induction l with
        | nil => intro h; cases h
        | cons c l ih =>
          intro hm
          unfold bfAt
          split
          · omega
          · rename_i hne
            rcases List.mem_cons.1 hm with rfl | hm
            · exact absurd (by simpa using hb2) hne
            · have := ih hm
              have := bfAt_ge l nm
              rw [if_neg ‹_›]; omega
      exact key bs hb1 (by omega)
    · exact h1
theorem bfAt_nodup {bs : List Bf} (h : (bs.map Bf.name).Nodup) (k : Nat) (hk : k < bs.length) : bfAt bs bs[k].name = k := by
  refine bfAt_hit bs _ k hk (bfAt_none _ _ fun hm => ?_) rfl
  rw [List.mem_map] at hm
  obtain ⟨b, hb, hn⟩ := hm
  obtain ⟨j, hj, rfl⟩ := List.getElem_of_mem hb
  rw [List.length_take] at hj
  rw [List.getElem_take] at hn
  have := (List.pairwise_iff_getElem.1 h) j k (by simp; omega) (by simpa using hk) (by omega)
  simp at this
  exact this hn
/-- valid files. -/
def V (bs : List Bf) : Prop := bs.length ≤ 8 ∧ (bs.map Bf.name).Nodup ∧ ∀ b ∈ bs, nv b.name = true ∧ tv b.body = true ∧ tv b.saved = true
theorem okFrom_of (bs : List Bf) (h : ∀ k (hk : k < bs.length), okAt bs k bs[k] = true) : ∀ n, n ≤ bs.length → okFrom bs (bs.length - n) (bs.drop (bs.length - n)) = true := by
  intro n
  induction n with
  | zero => intro _; simp [okFrom]
  | succ n ih =>
    intro hn
    rw [okFrom_drop bs _ (by omega), h _ (by omega), show bs.length - (n + 1) + 1 = bs.length - n by omega, ih (by omega)]
    rfl
theorem bvB_iff {bs : List Bf} : bvB bs = true ↔ V bs := by
  constructor
  · intro h
    have hl := bvB_len h
    unfold bvB at h
    rw [Bool.and_eq_true] at h
    have ho := okFrom_all bs h.1
    refine ⟨hl, ?_, fun b hb => ?_⟩
    · unfold List.Nodup
      rw [List.pairwise_iff_getElem]
      intro i j hi hj hij he
      simp at hi hj he
      have h1 := ho i hi
      have h2 := ho j hj
      unfold okAt at h1 h2
      simp only [Bool.and_eq_true, beq_iff_eq] at h1 h2
      have e1 := h1.1.1.2
      have e2 := h2.1.1.2
      rw [he] at e1
      omega
    · obtain ⟨k, hk, rfl⟩ := List.getElem_of_mem hb
      have h1 := ho k hk
      unfold okAt at h1
      simp only [Bool.and_eq_true] at h1
      exact ⟨h1.1.1.1, h1.1.2, h1.2⟩
  · rintro ⟨h1, h2, h3⟩
    unfold bvB
    have := okFrom_of bs (fun k hk => by
      have hb := h3 _ (List.getElem_mem hk)
      unfold okAt
      rw [hb.1, bfAt_nodup h2 k hk, hb.2.1, hb.2.2]
      simp) bs.length (Nat.le_refl _)
    simp only [Nat.sub_self, List.drop_zero] at this
    rw [this]
    simpa using h1
theorem V.sub {bs cs : List Bf} (h : V bs) (hs : cs.Sublist bs) : V cs :=
  ⟨Nat.le_trans hs.length_le h.1, h.2.1.sublist (hs.map _), fun b hb => h.2.2 b (hs.subset hb)⟩
theorem bfAt_names : ∀ (bs cs : List Bf) (nm : List UInt8), bs.map Bf.name = cs.map Bf.name → bfAt bs nm = bfAt cs nm
  | [], [], _, _ => rfl
  | [], c :: cs, _, h => by cases h
  | b :: bs, [], _, h => by cases h
  | b :: bs, c :: cs, nm, h => by
    rw [List.map_cons, List.map_cons] at h
    injection h with h1 h2
    unfold bfAt
    rw [h1, bfAt_names bs cs nm h2]
theorem set_names (bs : List Bf) (k : Nat) (hk : k < bs.length) (t u : List UInt8) : (bs.set k ⟨bs[k].name, t, u⟩).map Bf.name = bs.map Bf.name := by
  rw [List.map_set]
  apply List.ext_getElem (by simp)
  intro i h1 h2
  rw [List.getElem_set]
  split
  · subst_vars; simp
  · rfl
theorem V.set {bs : List Bf} (h : V bs) (k : Nat) (hk : k < bs.length) {t u : List UInt8} (ht : tv t = true) (hu : tv u = true) : V (bs.set k ⟨bs[k].name, t, u⟩) := by
  refine ⟨by rw [List.length_set]; exact h.1, by rw [set_names bs k hk]; exact h.2.1, fun b hb => ?_⟩
  rcases List.mem_or_eq_of_mem_set hb with hb | rfl
  · exact h.2.2 b hb
  · exact ⟨(h.2.2 _ (List.getElem_mem hk)).1, ht, hu⟩

theorem open_law {bs : List Bf} {nm s : List UInt8} (h : obOk bs nm s = true) :
    obOut bs nm s = bs ++ [⟨nm, s, s⟩] ∧ bvB (obOut bs nm s) = true ∧ obOk (obOut bs nm s) nm s = false ∧ clOk (obOut bs nm s) nm = true ∧ clOut (obOut bs nm s) nm = bs := by
  have h0 := h
  unfold obOk at h0
  simp only [Bool.and_eq_true, decide_eq_true_iff] at h0
  obtain ⟨⟨⟨⟨h1, h2⟩, h3⟩, h4⟩, h5⟩ := h0
  have e : obOut bs nm s = bs ++ [⟨nm, s, s⟩] := by unfold obOut; rw [if_pos h]
  rw [e]
  have hv := bvB_iff.1 h1
  have hn : nm ∉ bs.map Bf.name := fun hm => by have := (bfAt_nn bs nm).2 hm; omega
  have hV : V (bs ++ [⟨nm, s, s⟩]) := by
    refine ⟨by rw [List.length_append]; have := hv.1; simp; omega, ?_, fun b hb => ?_⟩
    · rw [List.map_append, List.map_cons, List.map_nil, List.nodup_append]
      refine ⟨hv.2.1, by simp, fun a ha b hb => ?_⟩
      rw [List.mem_singleton] at hb
      subst hb
      exact fun e => hn (e ▸ ha)
    · rw [List.mem_append, List.mem_singleton] at hb
      rcases hb with hb | rfl
      · exact hv.2.2 b hb
      · exact ⟨h4, h2, h2⟩
  have hat : bfAt (bs ++ [⟨nm, s, s⟩]) nm = (bs.length : Nat) := bfAt_hit _ _ bs.length (by simp) (by rw [List.take_left]; exact bfAt_none _ _ hn) (by simp)
  have hc : clOk (bs ++ [⟨nm, s, s⟩]) nm = true := by
    unfold clOk
    rw [bvB_iff.2 hV, clSame_at (by simp) hat, hat]
    simp

  refine ⟨rfl, bvB_iff.2 hV, ?_, hc, ?_⟩
  · unfold obOk
    rw [hat]
    have : decide (((bs.length : Nat) : Int) < 0) = false := decide_eq_false (by omega)
    rw [this]
    simp
  · unfold clOut outK
    rw [if_pos hc, hat, Int.toNat_natCast, List.take_left, List.drop_of_length_le (by simp)]
    simp
theorem open_not {bs : List Bf} {nm s : List UInt8} (h : obOk bs nm s = false) : obOut bs nm s = [] ∨ obOut bs nm s = bs := by
  unfold obOut
  rw [h]
  simp only [Bool.false_eq_true, if_false]
  split
  · exact .inr rfl
  · exact .inl rfl

theorem save_law {bs : List Bf} {nm : List UInt8} (h : svOk bs nm = true) :
    bvB (svOut bs nm) = true ∧ clOk (svOut bs nm) nm = true ∧ svOut (svOut bs nm) nm = svOut bs nm ∧ (svOut bs nm).length = bs.length ∧ ∀ k (h1 : k < (svOut bs nm).length) (h2 : k < bs.length), (svOut bs nm)[k].body = bs[k].body := by
  have h0 := h
  unfold svOk at h0
  simp only [Bool.and_eq_true, decide_eq_true_iff] at h0
  obtain ⟨h1, h2⟩ := h0
  obtain ⟨k, hk, hk1⟩ := bfAt_nat h2
  have hv := bvB_iff.1 h1
  have e : svOut bs nm = bs.set k ⟨bs[k].name, bs[k].body, bs[k].body⟩ := by
    unfold svOut; rw [h1, if_pos rfl, if_pos h2, hk1, Int.toNat_natCast, svOne_at bs k hk]
  have hb := hv.2.2 _ (List.getElem_mem hk)
  have hV := hv.set k hk hb.2.1 hb.2.1
  have hat : bfAt (bs.set k ⟨bs[k].name, bs[k].body, bs[k].body⟩) nm = (k : Nat) := by rw [bfAt_names _ _ nm (set_names bs k hk _ _)]; exact hk1
  have hk2 : k < (bs.set k ⟨bs[k].name, bs[k].body, bs[k].body⟩).length := by simpa using hk
  rw [e]
  refine ⟨bvB_iff.2 hV, ?_, ?_, by simp, fun j h1 h2 => ?_⟩
  · unfold clOk
    rw [bvB_iff.2 hV, clSame_at hk2 hat, hat]
    simp

  · unfold svOut
    rw [bvB_iff.2 hV, if_pos rfl, if_pos (by rw [hat]; omega), hat, Int.toNat_natCast, svOne_at _ k hk2]
    simp
  · rw [List.getElem_set]
    split
    · subst_vars; rfl
    · rfl
theorem save_not {bs : List Bf} {nm : List UInt8} (h : svOk bs nm = false) : svOut bs nm = [] ∨ svOut bs nm = bs := by
  unfold svOut
  unfold svOk at h
  split
  · rename_i hb
    rw [hb] at h
    simp at h
    rw [if_neg (by omega)]
    exact .inr rfl
  · exact .inl rfl

theorem change_law {bs : List Bf} {nm : List UInt8} {a c : Int} {p : List UInt8} (h : cgOk bs nm a c p = true) :
    bvB (cgOut bs nm a c p) = true ∧ (cgOut bs nm a c p).length = bs.length ∧
    ∀ k (h1 : k < (cgOut bs nm a c p).length) (h2 : k < bs.length), (cgOut bs nm a c p)[k].body = (if (bs[k].name == nm) = true then apTo bs[k].body a c p else bs[k].body) ∧ (cgOut bs nm a c p)[k].saved = bs[k].saved ∧ (cgOut bs nm a c p)[k].name = bs[k].name := by
  have h0 := h
  unfold cgOk at h0
  simp only [Bool.and_eq_true, decide_eq_true_iff] at h0
  obtain ⟨⟨h1, h2⟩, h3⟩ := h0
  obtain ⟨k, hk, hk1⟩ := bfAt_nat h2
  rw [cgSame_at hk hk1] at h3
  have hv := bvB_iff.1 h1
  have e : cgOut bs nm a c p = bs.set k ⟨bs[k].name, apTo bs[k].body a c p, bs[k].saved⟩ := by
    unfold cgOut; rw [if_pos h, hk1, Int.toNat_natCast, cgOne_at bs k a c p hk]
  have hb := hv.2.2 _ (List.getElem_mem hk)
  have ht : tv (apTo bs[k].body a c p) = true := by
    unfold apTo
    rw [if_pos h3]
    have h4 := h3
    unfold chOk at h4
    simp only [Bool.and_eq_true] at h4
    rw [chTo_tv p hb.2.1 h4.1.1.2]
    exact h3
  have hV := hv.set k hk ht hb.2.2
  rw [e]
  obtain ⟨_, hkn⟩ := bfAt_some bs nm k hk1
  refine ⟨bvB_iff.2 hV, by simp, fun j h1 h2 => ?_⟩
  rw [List.getElem_set]
  by_cases hjk : k = j
  · subst hjk
    simp [hkn]
  · rw [if_neg hjk]
    have : (bs[j].name == nm) = false := by
      rw [Bool.eq_false_iff]
      intro hn
      have hn' : bs[j].name = nm := by simpa using hn
      have := bfAt_nodup hv.2.1 j h2
      rw [hn', hk1] at this
      omega
    simp [this]
theorem change_not {bs : List Bf} {nm : List UInt8} {a c : Int} {p : List UInt8} (h : cgOk bs nm a c p = false) : cgOut bs nm a c p = [] ∨ cgOut bs nm a c p = bs := by
  unfold cgOut
  rw [h]
  simp only [Bool.false_eq_true, if_false]
  split
  · exact .inr rfl
  · exact .inl rfl

theorem valid_law {bs : List Bf} (h : bvB bs = true) (hn : 0 < bs.length) : bvB (bs.drop (bs.length / 2)) = true ∧ bvB (bs ++ [bs[0]]) = false := by
  have hv := bvB_iff.1 h
  refine ⟨bvB_iff.2 (hv.sub (List.drop_sublist _ _)), ?_⟩
  rw [Bool.eq_false_iff]
  intro hb
  have := (bvB_iff.1 hb).2.1
  rw [List.map_append, List.nodup_append] at this
  exact this.2.2 _ (List.mem_map_of_mem (List.getElem_mem hn)) _ (List.mem_map_of_mem (List.mem_singleton_self _)) rfl

theorem close_law {bs : List Bf} {nm : List UInt8} (h : bvB bs = true) :
    (clOk bs nm = ((bs.map Bf.name).contains nm && !(dn bs).contains nm)) ∧ clOk (clOut bs nm) nm = false ∧ bvB (clOut bs nm) = true ∧ (clOk bs nm = true → (clOut bs nm).length + 1 = bs.length) ∧ (clOk bs nm = false → clOut bs nm = bs) := by
  have hv := bvB_iff.1 h
  have e1 : clOk bs nm = ((bs.map Bf.name).contains nm && !(dn bs).contains nm) := by
    unfold clOk
    rw [h, Bool.true_and]
    by_cases hf : 0 ≤ bfAt bs nm
    · obtain ⟨k, hk, hk1⟩ := bfAt_nat hf
      obtain ⟨_, hkn⟩ := bfAt_some bs nm k hk1
      rw [clSame_at hk hk1, decide_eq_true hf]
      have h1 : (bs.map Bf.name).contains nm = true := by rw [List.contains_iff_mem]; exact (bfAt_nn bs nm).1 hf
      rw [h1]
      have h2 : (dn bs).contains nm = (bs[k].body != bs[k].saved) := by
        rw [Bool.eq_iff_iff, List.contains_iff_mem, dn, List.mem_map]
        constructor
        · rintro ⟨b, hb, hbn⟩
          rw [List.mem_filter] at hb
          obtain ⟨j, hj, rfl⟩ := List.getElem_of_mem hb.1
          have := bfAt_nodup hv.2.1 j hj
          rw [hbn, hk1] at this
          obtain rfl : k = j := by omega
          exact hb.2
        · intro hd
          exact ⟨bs[k], List.mem_filter.2 ⟨List.getElem_mem hk, hd⟩, hkn⟩
      rw [h2]
      simp [bne]
    · rw [decide_eq_false hf]
      have h1 : (bs.map Bf.name).contains nm = false := by
        rw [Bool.eq_false_iff]
        intro hc
        exact hf ((bfAt_nn bs nm).2 (List.contains_iff_mem.1 hc))
      rw [h1]; rfl
  refine ⟨e1, ?_⟩
  rcases hc : clOk bs nm with _ | _
  · have e2 : clOut bs nm = bs := by unfold clOut; rw [hc, h]; rfl
    rw [e2]
    exact ⟨hc, h, (fun h => by cases h), fun _ => rfl⟩
  · have h0 := hc
    unfold clOk at h0
    simp only [Bool.and_eq_true, decide_eq_true_iff] at h0
    obtain ⟨k, hk, hk1⟩ := bfAt_nat h0.1.2
    obtain ⟨_, hkn⟩ := bfAt_some bs nm k hk1
    have e2 : clOut bs nm = outK bs k := by unfold clOut; rw [if_pos hc, hk1, Int.toNat_natCast]
    have hs : (outK bs k).Sublist bs := by
      unfold outK
      have h1 : (bs.drop (k + 1)).Sublist (bs.drop k) := by
        rw [List.drop_eq_getElem_cons hk]
        exact List.sublist_cons_self _ _
      have h2 := List.Sublist.append (List.Sublist.refl (bs.take k)) h1
      rwa [List.take_append_drop] at h2
    have hV := hv.sub hs
    have hnm : nm ∉ (outK bs k).map Bf.name := by
      intro hm
      rw [List.mem_map] at hm
      obtain ⟨b, hb, hbn⟩ := hm
      unfold outK at hb
      rw [List.mem_append] at hb
      rcases hb with hb | hb
      · obtain ⟨j, hj, rfl⟩ := List.getElem_of_mem hb
        rw [List.length_take] at hj
        rw [List.getElem_take] at hbn
        have := bfAt_nodup hv.2.1 j (by omega)
        rw [hbn, hk1] at this
        omega
      · obtain ⟨j, hj, rfl⟩ := List.getElem_of_mem hb
        rw [List.length_drop] at hj
        rw [List.getElem_drop] at hbn
        have := bfAt_nodup hv.2.1 (k + 1 + j) (by omega)
        rw [hbn, hk1] at this
        omega
    rw [e2]
    refine ⟨?_, bvB_iff.2 hV, fun _ => (by rw [outK_len bs k hk]; omega), (fun h => by cases h)⟩
    unfold clOk
    rw [bfAt_none _ _ hnm]
    simp

end Go.Proofs.Ytlejfmngpbcdhaa
