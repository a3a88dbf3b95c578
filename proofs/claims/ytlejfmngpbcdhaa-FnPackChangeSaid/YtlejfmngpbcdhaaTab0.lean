/- What is proved here: plain laws on tables of pieces: what is valid, and that cutting as the program does is cutting as the reference does. No condition. -/
import Derived.Test.YtlejfmngpbcdhaaTab1
namespace Go.Proofs.Ytlejfmngpbcdhaa
open Go.RowKit
set_option linter.unusedVariables false

def rmT (f m : List UInt8) (p : Pc) : Int := if p.ad = true then (m.length : Int) else (f.length : Int)
def pcOk (f m : List UInt8) (p : Pc) : Bool := inB p.st 0 (rmT f m p) && inB p.sz 1 (rmT f m p - p.st)
/-- the pieces are valid, and behind t bytes they come to 120 at most. -/
def psOk (f m : List UInt8) (t : Int) : List Pc → Bool
  | [] => true
  | p :: l => pcOk f m p && decide (t + p.sz ≤ 120) && psOk f m (t + p.sz) l
def tbB (f m : List UInt8) (ps : List Pc) : Bool := tv f && decide (m.length ≤ 400) && m.all okC && psOk f m 0 ps
def psSum : List Pc → Int
  | [] => 0
  | p :: l => p.sz + psSum l
def pcT (f m : List UInt8) (p : Pc) : List UInt8 := ((if p.ad = true then m else f).drop p.st.toNat).take p.sz.toNat
def tbT (f m : List UInt8) (ps : List Pc) : List UInt8 := ps.flatMap (pcT f m)

theorem pcOk_in {f m : List UInt8} {p : Pc} (h : pcOk f m p = true) : 0 ≤ p.st ∧ 1 ≤ p.sz ∧ p.st + p.sz ≤ rmT f m p := by
  unfold pcOk at h
  rw [Bool.and_eq_true] at h
  have h1 := inB_iff.1 h.1
  have h2 := inB_iff.1 h.2
  omega
theorem rmT_nn (f m : List UInt8) (p : Pc) : 0 ≤ rmT f m p := by unfold rmT; split <;> omega
theorem pcT_len {f m : List UInt8} {p : Pc} (h : pcOk f m p = true) : ((pcT f m p).length : Int) = p.sz := by
  have := pcOk_in h
  unfold pcT
  unfold rmT at this
  rw [List.length_take, List.length_drop]
  split <;> simp_all <;> omega
theorem psOk_all {f m : List UInt8} : ∀ (ps : List Pc) (t : Int), psOk f m t ps = true → ∀ p ∈ ps, pcOk f m p = true
  | [], _, _, p, hp => by cases hp
  | x :: l, t, h, p, hp => by
    unfold psOk at h
    simp only [Bool.and_eq_true] at h
    rcases List.mem_cons.1 hp with rfl | hp
    · exact h.1.1
    · exact psOk_all l _ h.2 p hp
theorem psSum_nn {ps : List Pc} (h : ∀ p ∈ ps, 1 ≤ p.sz) : 0 ≤ psSum ps := by
  induction ps with
  | nil => exact Int.le_refl _
  | cons p l ih =>
    have := h p (List.mem_cons_self ..)
    have := ih fun q hq => h q (List.mem_cons_of_mem _ hq)
    unfold psSum
    omega
theorem psOk_sum {f m : List UInt8} : ∀ (ps : List Pc) (t : Int), t ≤ 120 → psOk f m t ps = true → t + psSum ps ≤ 120
  | [], t, h0, _ => by simpa [psSum] using h0
  | x :: l, t, h0, h => by
    unfold psOk at h
    simp only [Bool.and_eq_true, decide_eq_true_eq] at h
    have := psOk_sum l _ h.1.2 h.2
    unfold psSum
    omega
theorem tbT_len {f m : List UInt8} : ∀ (ps : List Pc), (∀ p ∈ ps, pcOk f m p = true) → ((tbT f m ps).length : Int) = psSum ps
  | [], _ => rfl
  | x :: l, h => by
    have h1 := pcT_len (h x (List.mem_cons_self ..))
    have h2 := tbT_len l fun q hq => h q (List.mem_cons_of_mem _ hq)
    unfold tbT at h2 ⊢
    rw [List.flatMap_cons, List.length_append]
    unfold psSum
    omega

/-- the pieces of the bytes between two places, as the program cuts. -/
def btw (lo hi at_ : Int) : List Pc → List Pc
  | [] => []
  | p :: l => (if max lo at_ < min hi (at_ + p.sz) then [⟨p.ad, p.st + max lo at_ - at_, min hi (at_ + p.sz) - max lo at_⟩] else []) ++ btw lo hi (at_ + p.sz) l
/-- the pieces of the first bytes, and of the others, as the reference cuts. -/
def cutN (at_ : Int) (p : Pc) : Int := max 0 (min p.sz at_)
def cutA (at_ : Int) : List Pc → List Pc
  | [] => []
  | p :: l => (if 0 < cutN at_ p then [⟨p.ad, p.st, cutN at_ p⟩] else []) ++ cutA (at_ - p.sz) l
def cutB (at_ : Int) : List Pc → List Pc
  | [] => []
  | p :: l => (if cutN at_ p < p.sz then [⟨p.ad, p.st + cutN at_ p, p.sz - cutN at_ p⟩] else []) ++ cutB (at_ - p.sz) l

theorem btw_first (hi : Int) : ∀ (ps : List Pc) (t : Int), 0 ≤ t → (∀ p ∈ ps, 1 ≤ p.sz) → btw 0 hi t ps = cutA (hi - t) ps
  | [], _, _, _ => rfl
  | p :: l, t, ht, h => by
    have hp := h p (List.mem_cons_self ..)
    have ih := btw_first hi l (t + p.sz) (by omega) fun q hq => h q (List.mem_cons_of_mem _ hq)
    unfold btw cutA
    rw [ih, show hi - (t + p.sz) = hi - t - p.sz by omega, show max 0 t = t by omega]
    congr 1
    unfold cutN
    by_cases hc : t < min hi (t + p.sz)
    · rw [if_pos hc, if_pos (by omega), show p.st + t - t = p.st by omega, show min hi (t + p.sz) - t = max 0 (min p.sz (hi - t)) by omega]
    · rw [if_neg hc, if_neg (by omega)]
theorem btw_rest (lo L : Int) : ∀ (ps : List Pc) (t : Int), (∀ p ∈ ps, 1 ≤ p.sz) → t + psSum ps ≤ L → btw lo L t ps = cutB (lo - t) ps
  | [], _, _, _ => rfl
  | p :: l, t, h, hL => by
    have hp := h p (List.mem_cons_self ..)
    have hq : ∀ q ∈ l, 1 ≤ q.sz := fun q hq => h q (List.mem_cons_of_mem _ hq)
    have hn := psSum_nn hq
    unfold psSum at hL
    have ih := btw_rest lo L l (t + p.sz) hq (by omega)
    unfold btw cutB
    rw [ih, show lo - (t + p.sz) = lo - t - p.sz by omega, show min L (t + p.sz) = t + p.sz by omega]
    congr 1
    unfold cutN
    by_cases hc : max lo t < t + p.sz
    · rw [if_pos hc, if_pos (by omega), show p.st + max lo t - t = p.st + max 0 (min p.sz (lo - t)) by omega, show t + p.sz - max lo t = p.sz - max 0 (min p.sz (lo - t)) by omega]
    · rw [if_neg hc, if_neg (by omega)]
theorem cutB_neg : ∀ (ps : List Pc) (y : Int), y ≤ 0 → (∀ p ∈ ps, 1 ≤ p.sz) → cutB y ps = ps
  | [], _, _, _ => rfl
  | p :: l, y, hy, h => by
    have hp := h p (List.mem_cons_self ..)
    have ih := cutB_neg l (y - p.sz) (by omega) fun q hq => h q (List.mem_cons_of_mem _ hq)
    unfold cutB
    rw [ih]
    have : cutN y p = 0 := by unfold cutN; omega
    rw [this, if_pos (by omega)]
    simp
theorem cutB_cutB (x : Int) (hx : 0 ≤ x) : ∀ (ps : List Pc) (y : Int), 0 ≤ y → (∀ p ∈ ps, 1 ≤ p.sz) → cutB x (cutB y ps) = cutB (x + y) ps
  | [], _, _, _ => rfl
  | p :: l, y, hy, h => by
    have hp := h p (List.mem_cons_self ..)
    have hq : ∀ q ∈ l, 1 ≤ q.sz := fun q hq => h q (List.mem_cons_of_mem _ hq)
    by_cases hc : p.sz ≤ y
    · have ih := cutB_cutB x hx l (y - p.sz) (by omega) hq
      have n1 : cutN y p = p.sz := by unfold cutN; omega
      have n2 : cutN (x + y) p = p.sz := by unfold cutN; omega
      have e1 : cutB y (p :: l) = cutB (y - p.sz) l := by
        show (if cutN y p < p.sz then _ else []) ++ cutB (y - p.sz) l = _
        rw [n1, if_neg (by omega)]
        rfl
      have e2 : cutB (x + y) (p :: l) = cutB (x + y - p.sz) l := by
        show (if cutN (x + y) p < p.sz then _ else []) ++ cutB (x + y - p.sz) l = _
        rw [n2, if_neg (by omega)]
        rfl
      rw [e1, e2, ih, show x + y - p.sz = x + (y - p.sz) by omega]
    · have n1 : cutN y p = y := by unfold cutN; omega
      have hr := cutB_neg l (y - p.sz) (by omega) hq
      have e1 : cutB y (p :: l) = ⟨p.ad, p.st + y, p.sz - y⟩ :: l := by
        unfold cutB
        rw [n1, if_pos (by omega), hr]
        rfl
      rw [e1]
      unfold cutB
      rw [show x + y - p.sz = x - (p.sz - y) by omega]
      congr 1
      have n3 : cutN x ⟨p.ad, p.st + y, p.sz - y⟩ = max 0 (min (p.sz - y) x) := rfl
      have n4 : cutN (x + y) p = max 0 (min p.sz (x + y)) := rfl
      rw [n3, n4]
      show (if max 0 (min (p.sz - y) x) < p.sz - y then [(⟨p.ad, p.st + y + max 0 (min (p.sz - y) x), p.sz - y - max 0 (min (p.sz - y) x)⟩ : Pc)] else []) = _
      by_cases hd : x < p.sz - y
      · rw [if_pos (by omega), if_pos (by omega), show p.st + y + max 0 (min (p.sz - y) x) = p.st + max 0 (min p.sz (x + y)) by omega, show p.sz - y - max 0 (min (p.sz - y) x) = p.sz - max 0 (min p.sz (x + y)) by omega]
      · rw [if_neg (by omega), if_neg (by omega)]

end Go.Proofs.Ytlejfmngpbcdhaa
