/- What is proved here: plain laws on tables: the changed table is valid, its text is the changed text, and it has at most two pieces more. No condition. -/
import Derived.Test.YtlejfmngpbcdhaaTabC
namespace Go.Proofs.Ytlejfmngpbcdhaa
open Go.RowKit
set_option linter.unusedVariables false

theorem cutA_neg : ∀ (ps : List Pc) (t : Int), t ≤ 0 → (∀ p ∈ ps, 1 ≤ p.sz) → cutA t ps = []
  | [], _, _, _ => rfl
  | p :: l, t, ht, h => by
    have hp := h p (List.mem_cons_self ..)
    have ih := cutA_neg l (t - p.sz) (by omega) fun q hq => h q (List.mem_cons_of_mem _ hq)
    unfold cutA
    rw [ih, if_neg (by unfold cutN; omega)]
    rfl
theorem cut_count : ∀ (ps : List Pc) (t u : Int), t ≤ u → (∀ p ∈ ps, 1 ≤ p.sz) → (cutA t ps).length + (cutB u ps).length ≤ ps.length + 1
  | [], _, _, _, _ => by simp [cutA, cutB]
  | p :: l, t, u, htu, h => by
    have hp := h p (List.mem_cons_self ..)
    have hq : ∀ q ∈ l, 1 ≤ q.sz := fun q hq => h q (List.mem_cons_of_mem _ hq)
    have ih := cut_count l (t - p.sz) (u - p.sz) (by omega) hq
    unfold cutA cutB
    rw [List.length_append, List.length_append, List.length_cons]
    by_cases h1 : 0 < cutN t p
    · by_cases h2 : cutN u p < p.sz
      · have h3 := cutA_neg l (t - p.sz) (by unfold cutN at h2; omega) hq
        have h4 := cutB_len (u - p.sz) l
        rw [if_pos h1, if_pos h2, h3]
        simp only [List.length_cons, List.length_nil]
        omega
      · rw [if_pos h1, if_neg h2]
        simp only [List.length_cons, List.length_nil]
        omega
    · rw [if_neg h1]
      split <;> simp only [List.length_cons, List.length_nil] <;> omega
theorem tcP_len {f m : List UInt8} {ps : List Pc} {x : Ch} (h : ∀ p ∈ ps, pcOk f m p = true) (hc : 0 ≤ x.c) : (tcP m ps x).length ≤ ps.length + 2 := by
  have := cut_count ps x.a (x.a + x.c) (by omega) fun p hp => (pcOk_in (h p hp)).2.1
  have := putP_len m x.p
  unfold tcP
  simp only [List.length_append]
  omega

/-- a piece of a piece. -/
theorem pcOk_sub {f m : List UInt8} {p : Pc} (h : pcOk f m p = true) {d n : Int} (hd : 0 ≤ d) (hn : 1 ≤ n) (hdn : d + n ≤ p.sz) : pcOk f m ⟨p.ad, p.st + d, n⟩ = true := by
  have := pcOk_in h
  have hr : rmT f m ⟨p.ad, p.st + d, n⟩ = rmT f m p := rfl
  unfold pcOk
  rw [hr]
  simp only [Bool.and_eq_true]
  exact ⟨inB_iff.2 (by omega), inB_iff.2 (by omega)⟩
theorem pcT_sub {f m : List UInt8} {p : Pc} (h : pcOk f m p = true) {d n : Int} (hd : 0 ≤ d) (hn : 0 ≤ n) (hdn : d + n ≤ p.sz) : pcT f m ⟨p.ad, p.st + d, n⟩ = ((pcT f m p).drop d.toNat).take n.toNat := by
  have := pcOk_in h
  unfold pcT
  simp only
  rw [List.drop_take, List.take_take, List.drop_drop, show p.st.toNat + d.toNat = (p.st + d).toNat by omega]
  congr 1
  omega
theorem cutA_ok {f m : List UInt8} : ∀ (ps : List Pc) (t : Int), (∀ p ∈ ps, pcOk f m p = true) → ∀ q ∈ cutA t ps, pcOk f m q = true
  | [], _, _, q, hq => by cases hq
  | p :: l, t, h, q, hq => by
    unfold cutA at hq
    rw [List.mem_append] at hq
    have hp := h p (List.mem_cons_self ..)
    rcases hq with hq | hq
    · split at hq
      · rename_i h1
        rw [List.mem_singleton] at hq
        subst hq
        have hin := pcOk_in hp
        have := pcOk_sub hp (d := 0) (n := cutN t p) (by omega) (by omega) (by unfold cutN; omega)
        rwa [Int.add_zero] at this
      · cases hq
    · exact cutA_ok l _ (fun r hr => h r (List.mem_cons_of_mem _ hr)) q hq
theorem cutB_ok {f m : List UInt8} : ∀ (ps : List Pc) (t : Int), (∀ p ∈ ps, pcOk f m p = true) → ∀ q ∈ cutB t ps, pcOk f m q = true
  | [], _, _, q, hq => by cases hq
  | p :: l, t, h, q, hq => by
    unfold cutB at hq
    rw [List.mem_append] at hq
    have hp := h p (List.mem_cons_self ..)
    rcases hq with hq | hq
    · split at hq
      · rename_i h1
        rw [List.mem_singleton] at hq
        subst hq
        have h0 : 0 ≤ cutN t p := by unfold cutN; omega
        exact pcOk_sub hp h0 (by omega) (by omega)
      · cases hq
    · exact cutB_ok l _ (fun r hr => h r (List.mem_cons_of_mem _ hr)) q hq
theorem tbT_cons (f m : List UInt8) (p : Pc) (l : List Pc) : tbT f m (p :: l) = pcT f m p ++ tbT f m l := rfl
theorem tbT_app (f m : List UInt8) (a b : List Pc) : tbT f m (a ++ b) = tbT f m a ++ tbT f m b := List.flatMap_append
theorem cutA_text {f m : List UInt8} : ∀ (ps : List Pc) (t : Int), (∀ p ∈ ps, pcOk f m p = true) → tbT f m (cutA t ps) = (tbT f m ps).take t.toNat
  | [], t, _ => by simp [cutA, tbT]
  | p :: l, t, h => by
    have hp := h p (List.mem_cons_self ..)
    have hin := pcOk_in hp
    have hl := pcT_len hp
    have ih := cutA_text l (t - p.sz) fun q hq => h q (List.mem_cons_of_mem _ hq)
    unfold cutA
    rw [tbT_app, ih, tbT_cons, List.take_append]
    have e2 : (t - p.sz).toNat = t.toNat - (pcT f m p).length := by omega
    rw [e2]
    congr 1
    by_cases h1 : 0 < cutN t p
    · rw [if_pos h1]
      have := pcT_sub hp (d := 0) (n := cutN t p) (by omega) (by omega) (by unfold cutN; omega)
      rw [Int.add_zero] at this
      show pcT f m ⟨p.ad, p.st, cutN t p⟩ ++ [] = _
      rw [List.append_nil, this]
      show (List.drop 0 (pcT f m p)).take (cutN t p).toNat = _
      rw [List.drop_zero]
      unfold cutN
      by_cases h2 : t ≤ p.sz
      · congr 1; omega
      · rw [List.take_of_length_le (by omega), List.take_of_length_le (by omega)]
    · rw [if_neg h1]
      have : t.toNat = 0 := by unfold cutN at h1; omega
      rw [this]
      simp [tbT]
theorem cutB_text {f m : List UInt8} : ∀ (ps : List Pc) (t : Int), (∀ p ∈ ps, pcOk f m p = true) → tbT f m (cutB t ps) = (tbT f m ps).drop t.toNat
  | [], t, _ => by simp [cutB, tbT]
  | p :: l, t, h => by
    have hp := h p (List.mem_cons_self ..)
    have hin := pcOk_in hp
    have hl := pcT_len hp
    have ih := cutB_text l (t - p.sz) fun q hq => h q (List.mem_cons_of_mem _ hq)
    unfold cutB
    rw [tbT_app, ih, tbT_cons, List.drop_append]
    have e2 : (t - p.sz).toNat = t.toNat - (pcT f m p).length := by omega
    rw [e2]
    congr 1
    by_cases h1 : cutN t p < p.sz
    · rw [if_pos h1]
      have h0 : 0 ≤ cutN t p := by unfold cutN; omega
      have := pcT_sub hp (d := cutN t p) (n := p.sz - cutN t p) h0 (by omega) (by omega)
      show pcT f m ⟨p.ad, p.st + cutN t p, p.sz - cutN t p⟩ ++ [] = _
      rw [List.append_nil, this]
      rw [List.take_of_length_le (by rw [List.length_drop]; omega)]
      congr 1
      unfold cutN at h1 ⊢
      omega
    · rw [if_neg h1]
      have : (pcT f m p).length ≤ t.toNat := by unfold cutN at h1; omega
      rw [List.drop_of_length_le this]
      rfl
/-- what is added later does not matter. -/
theorem pcOk_more {f m : List UInt8} {p : Pc} (k : List UInt8) (h : pcOk f m p = true) : pcOk f (m ++ k) p = true := by
  have := pcOk_in h
  have hr : rmT f m p ≤ rmT f (m ++ k) p := by unfold rmT; split <;> simp <;> omega
  unfold pcOk
  simp only [Bool.and_eq_true]
  exact ⟨inB_iff.2 (by omega), inB_iff.2 (by omega)⟩
theorem pcT_more {f m : List UInt8} {p : Pc} (k : List UInt8) (h : pcOk f m p = true) : pcT f (m ++ k) p = pcT f m p := by
  have := pcOk_in h
  unfold pcT
  unfold rmT at this
  split at this
  · rename_i hc
    rw [if_pos hc, if_pos hc, List.drop_append_of_le_length (by omega), List.take_append_of_le_length (by rw [List.length_drop]; omega)]
  · rename_i hc
    rw [if_neg hc, if_neg hc]
theorem tbT_more {f m : List UInt8} (k : List UInt8) : ∀ (ps : List Pc), (∀ p ∈ ps, pcOk f m p = true) → tbT f (m ++ k) ps = tbT f m ps
  | [], _ => rfl
  | p :: l, h => by
    rw [tbT_cons, tbT_cons, pcT_more k (h p (List.mem_cons_self ..)), tbT_more k l fun q hq => h q (List.mem_cons_of_mem _ hq)]
theorem putP_ok (f m p : List UInt8) : ∀ q ∈ putP m p, pcOk f (m ++ p) q = true := by
  intro q hq
  unfold putP at hq
  split at hq
  · cases hq
  · rename_i h
    rw [List.mem_singleton] at hq
    subst hq
    have : 0 < p.length := List.length_pos_iff.2 h
    unfold pcOk rmT
    simp only [Bool.and_eq_true, if_true, List.length_append]
    exact ⟨inB_iff.2 (by omega), inB_iff.2 (by omega)⟩
theorem putP_text (f m p : List UInt8) : tbT f (m ++ p) (putP m p) = p := by
  unfold putP
  split
  · rename_i h
    rw [h]; rfl
  · rw [tbT_cons]
    unfold pcT tbT
    simp
theorem tcP_ok {f m : List UInt8} {ps : List Pc} (x : Ch) (h : ∀ p ∈ ps, pcOk f m p = true) : ∀ q ∈ tcP m ps x, pcOk f (m ++ x.p) q = true := by
  intro q hq
  unfold tcP at hq
  rw [List.mem_append, List.mem_append] at hq
  rcases hq with (hq | hq) | hq
  · exact pcOk_more _ (cutA_ok ps _ h q hq)
  · exact putP_ok f m x.p q hq
  · exact pcOk_more _ (cutB_ok ps _ h q hq)
theorem tcP_text {f m : List UInt8} {ps : List Pc} (x : Ch) (h : ∀ p ∈ ps, pcOk f m p = true) : tbT f (m ++ x.p) (tcP m ps x) = apF (tbT f m ps) x := by
  unfold tcP
  rw [tbT_app, tbT_app, tbT_more _ _ (cutA_ok ps _ h), tbT_more _ _ (cutB_ok ps _ h), putP_text, cutA_text ps _ h, cutB_text ps _ h]
  unfold apF chTo
  simp
theorem psOk_of {f m : List UInt8} : ∀ (ps : List Pc) (t : Int), (∀ p ∈ ps, pcOk f m p = true) → t + psSum ps ≤ 120 → psOk f m t ps = true
  | [], _, _, _ => rfl
  | p :: l, t, h, hs => by
    have hq : ∀ q ∈ l, pcOk f m q = true := fun q hq => h q (List.mem_cons_of_mem _ hq)
    have hn := psSum_nn fun q hq' => (pcOk_in (hq q hq')).2.1
    unfold psSum at hs
    unfold psOk
    rw [h p (List.mem_cons_self ..), psOk_of l _ hq (by omega)]
    simp
    omega
theorem tbB_mk {f m : List UInt8} {ps : List Pc} (h1 : tv f = true) (h2 : m.length ≤ 400) (h3 : m.all okC = true) (h4 : ∀ p ∈ ps, pcOk f m p = true) (h5 : psSum ps ≤ 120) : tbB f m ps = true := by
  unfold tbB
  rw [h1, h3, psOk_of ps 0 h4 (by omega)]
  simp [h2]
theorem okF_all {s : List UInt8} {x : Ch} (h : okF s x = true) : x.p.all okC = true := by
  have := (okF_tv h).2
  unfold apF chTo tv at this
  simp only [List.all_append, Bool.and_eq_true] at this
  first | exact this.1.1.2 | exact this.1.2.1 | exact this.1.2
/-- the changed table is valid. -/
theorem tcP_tb {f m : List UInt8} {ps : List Pc} {x : Ch} (hv : tbB f m ps = true) (hok : okF (tbT f m ps) x = true) (h4 : m.length + x.p.length ≤ 400) : tbB f (m ++ x.p) (tcP m ps x) = true := by
  obtain ⟨h1, h2, h3, h5, hall, hs⟩ := tbB_out hv
  have hok2 := tcP_ok x hall
  refine tbB_mk h1 (by rw [List.length_append]; exact h4) ?_ hok2 ?_
  · rw [List.all_append, h5, okF_all hok]; rfl
  · have hl := tbT_len _ hok2
    rw [tcP_text x hall] at hl
    have := tv_len (okF_tv hok).2
    omega

end Go.Proofs.Ytlejfmngpbcdhaa
