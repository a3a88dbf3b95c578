/- What is proved here: plain facts on the keys that put a text. No condition. -/
import Derived.Test.YtcjgllbhmghkeaaDoorKey7
import Derived.Lib.Replace
import Derived.Lib.IndexAny
namespace Go.Proofs.YtcjgllbhmghkeaaDoor
open Go.RowKit
set_option linter.unusedVariables false

theorem ix_nil (c : UInt8) : Lib.index [] [c] = -1 := rfl
theorem ix_cons (b c : UInt8) (l : List UInt8) : Lib.index (b :: l) [c] = if b = c then 0 else if Lib.index l [c] = -1 then -1 else Lib.index l [c] + 1 := by
  rw [Lib.index]
  have h : [c].isPrefixOf (b :: l) = (c == b) := by simp [List.isPrefixOf]
  rw [h]
  by_cases e : b = c
  · subst e; simp
  · rw [if_neg (by simp; exact fun h => e h.symm), if_neg e]
    simp
theorem ix_none (c : UInt8) : ∀ s : List UInt8, Lib.index s [c] = -1 → c ∉ s
  | [], _ => by simp
  | b :: l, h => by
    rw [ix_cons] at h
    split at h
    · cases h
    · rename_i hb
      split at h
      · rename_i hl
        have := ix_none c l hl
        simp only [List.mem_cons, not_or]
        exact ⟨fun e => hb e.symm, this⟩
      · have := Lib.index_ge l [c]
        omega
theorem ix_some (c : UInt8) : ∀ (s : List UInt8) (i : Nat), Lib.index s [c] = i → i < s.length ∧ s = s.take i ++ c :: s.drop (i + 1) ∧ c ∉ s.take i
  | [], i, h => by rw [ix_nil] at h; omega
  | b :: l, i, h => by
    rw [ix_cons] at h
    split at h
    · rename_i hb
      obtain rfl : i = 0 := by omega
      subst hb
      exact ⟨by simp, by simp, by simp⟩
    · rename_i hb
      split at h
      · omega
      · have hg := Lib.index_ge l [c]
        obtain ⟨j, rfl⟩ : ∃ j, i = j + 1 := ⟨i - 1, by omega⟩
        obtain ⟨h1, h2, h3⟩ := ix_some c l j (by omega)
        refine ⟨by simp; omega, ?_, ?_⟩
        · rw [List.take_succ_cons, List.drop_succ_cons, List.cons_append, ← h2]
        · rw [List.take_succ_cons]
          simp only [List.mem_cons, not_or]
          exact ⟨fun e => hb e.symm, h3⟩
theorem map_same {g : UInt8 → UInt8} {c : UInt8} (hg : ∀ x, x ≠ c → g x = x) : ∀ s : List UInt8, c ∉ s → s.map g = s
  | [], _ => rfl
  | b :: l, h => by
    simp only [List.mem_cons, not_or] at h
    rw [List.map_cons, hg b (fun e => h.1 e.symm), map_same hg l h.2]
theorem replace_one {c d : UInt8} {g : UInt8 → UInt8} (hg : ∀ x, x ≠ c → g x = x) (hc : g c = d) : ∀ (n : Nat) (s : List UInt8) (fuel : Nat), s.length ≤ n → s.length < fuel → Lib.replaceK [c] [d] (Lib.countFrom [c] fuel s) s = s.map g
  | n, s, 0, _, hf => absurd hf (by omega)
  | n, s, fuel + 1, hn, hf => by
    rw [Lib.countFrom]
    by_cases hm : Lib.index s [c] = -1
    · rw [if_pos (by simp [hm])]
      rw [map_same hg s (ix_none c s hm)]; rfl
    · rw [if_neg (by simp [hm])]
      have hge := Lib.index_ge s [c]
      obtain ⟨i, hi⟩ : ∃ i : Nat, Lib.index s [c] = i := ⟨(Lib.index s [c]).toNat, by omega⟩
      obtain ⟨h1, h2, h3⟩ := ix_some c s i hi
      rw [Nat.add_comm 1, Lib.replaceK_hit _ _ _ _ i hi, hi]
      cases n with
      | zero => omega
      | succ n =>
        have ih := replace_one hg hc n (s.drop (i + 1)) fuel (by rw [List.length_drop]; omega) (by rw [List.length_drop]; omega)
        rw [show ((i : Int).toNat + [c].length) = i + 1 by simp, show i + [c].length = i + 1 by simp, ih]
        conv => rhs; rw [h2]
        rw [List.map_append, List.map_cons, map_same hg _ h3, hc]
        simp
/-- the keys that put a text. -/
def kOf (s : List UInt8) : List UInt8 := s.map fun c => if c = 10 then 64 else c
def bad6 : List UInt8 := [60, 62, 94, 95, 35, 64]
def kOk (s : List UInt8) : Bool := tv s && decide (s.length ≤ 60) && !(s.any fun c => bad6.contains c)
theorem kOf_replace (s : List UInt8) : Lib.replaceAll s [10] [64] = kOf s := by
  unfold Lib.replaceAll Lib.replace
  rw [if_neg (by decide)]
  have : Lib.replaceNum s [10] (-1) = Lib.countFrom [10] (s.length + 1) s := by
    unfold Lib.replaceNum
    rw [if_pos (by left; decide)]; rfl
  rw [this]
  exact replace_one (fun x hx => by simp [hx]) (by simp) s.length s _ (Nat.le_refl _) (by omega)
theorem any6 : ∀ s : List UInt8, Lib.containsAny s bad6 = s.any fun c => bad6.contains c
  | [] => rfl
  | b :: l => by
    have ih := any6 l
    unfold Lib.containsAny at ih ⊢
    rw [Lib.indexAny, List.any_cons, ← ih]
    have hge := Lib.indexAny_ge bad6 l
    by_cases h : bad6.contains b = true
    · rw [if_pos h, h]; simp
    · rw [if_neg h]
      simp only [Bool.not_eq_true] at h
      rw [h, Bool.false_or]
      by_cases hm : Lib.indexAny l bad6 = -1
      · rw [hm]; simp
      · rw [if_neg (by simp [hm])]
        congr 1
        simp only [eq_iff_iff]
        omega
theorem okC_ascii {c : UInt8} (h : okC c = true) : c.toNat < 128 := by
  unfold okC okB at h
  simp at h
  omega
theorem put_one {s : List UInt8} (hs : tv s = true) (hl : s.length ≤ 60) {k : Nat} (hk : k < s.length) : chgK (dkAt (s.take k) k) (dkAt (s.take k) k).place 0 [s[k]] = (dkAt (s.take (k + 1)) (k + 1), true) := by
  have hlen : (s.take k).length = k := by rw [List.length_take]; omega
  have hpl : (dkAt (s.take k) k).place = (k : Int) := rfl
  have hbd : (dkAt (s.take k) k).body = s.take k := rfl
  have hc : okC s[k] = true := by
    unfold tv at hs
    simp only [Bool.and_eq_true] at hs
    exact List.all_eq_true.1 hs.1 _ (List.getElem_mem hk)
  have hok : chOk (s.take k) (k : Int) 0 [s[k]] = true := by
    unfold chOk chIn
    rw [hlen]
    simp only [Bool.and_eq_true, tv_take hs k, List.all_cons, List.all_nil, hc, decide_eq_true_eq, and_true, true_and, List.length_cons, List.length_nil]
    exact ⟨⟨inB_iff.2 (by omega), inB_iff.2 (by omega)⟩, by omega⟩
  unfold chgK
  rw [hpl, hbd, if_pos hok]
  congr 2
  unfold chTo
  rw [show ((k : Int) + 0).toNat = k by omega, Int.toNat_natCast, List.take_of_length_le (by omega), List.drop_of_length_le (by omega), List.append_nil, List.take_succ_eq_append_getElem hk]
/-- a byte of a text that keys can put. -/
theorem key_one {s : List UInt8} (h : kOk s = true) {k : Nat} (hk : k < s.length) : pressF (dkAt (s.take k) k, k) ((kOf s)[k]'(by simp [kOf]; exact hk)) = (dkAt (s.take (k + 1)) (k + 1), k + 1) := by
  unfold kOk at h
  simp only [Bool.and_eq_true, decide_eq_true_eq, Bool.not_eq_true', List.any_eq_false] at h
  obtain ⟨⟨hs, hl⟩, hb⟩ := h
  have hlen : (s.take k).length = k := by rw [List.length_take]; omega
  have hok : dkOk (dkAt (s.take k) k) = true := dkAt_ok (tv_take hs k) (by omega)
  have hput := put_one hs hl hk
  have hbk := hb _ (List.getElem_mem hk)
  have hkey : keyK (dkAt (s.take k) k) ((((kOf s)[k]'(by simp [kOf]; exact hk)).toNat : Nat) : Int) = (dkAt (s.take (k + 1)) (k + 1), true) := by
    have hget : (kOf s)[k]'(by simp [kOf]; exact hk) = if s[k] = 10 then 64 else s[k] := by simp [kOf]
    rw [hget]
    by_cases h10 : s[k] = 10
    · rw [if_pos h10]
      rw [h10] at hput
      exact hput
    · rw [if_neg h10]
      have hne : ∀ n : UInt8, n ∈ bad6 → ¬ (((s[k]).toNat : Nat) : Int) = ((n.toNat : Nat) : Int) := fun n hn e => by
        have : s[k] = n := UInt8.toNat_inj.1 (by omega)
        rw [this] at hbk
        exact hbk (by simpa using hn)
      have h10' : ¬ (((s[k]).toNat : Nat) : Int) = 10 := fun e => h10 (UInt8.toNat_inj.1 (by simpa using (by omega : (s[k]).toNat = 10)))
      unfold keyK
      rw [if_neg (show ¬ (((s[k]).toNat : Nat) : Int) = 60 from hne 60 (by decide)), if_neg (show ¬ (((s[k]).toNat : Nat) : Int) = 62 from hne 62 (by decide)), if_neg (show ¬ (((s[k]).toNat : Nat) : Int) = 94 from hne 94 (by decide)), if_neg (show ¬ (((s[k]).toNat : Nat) : Int) = 95 from hne 95 (by decide)), if_neg (show ¬ (((s[k]).toNat : Nat) : Int) = 35 from hne 35 (by decide)), if_neg (show ¬ (((s[k]).toNat : Nat) : Int) = 64 from hne 64 (by decide)), if_neg h10']
      rw [Int.toNat_natCast, UInt8.ofNat_toNat]
      exact hput
  have hp : pressK (dkAt (s.take k) k) ((((kOf s)[k]'(by simp [kOf]; exact hk)).toNat : Nat) : Int) = (dkAt (s.take (k + 1)) (k + 1), true) := by
    unfold pressK
    rw [if_pos hok, hkey]
  unfold pressF
  simp only [hp]
  simp
theorem kOf_len (s : List UInt8) : (kOf s).length = s.length := by simp [kOf]
theorem keys_all {s : List UInt8} (h : kOk s = true) : ∀ k, k ≤ s.length → pressesK dk0 ((kOf s).take k) = (dkAt (s.take k) k, k)
  | 0, _ => rfl
  | k + 1, hk => by
    have ih := keys_all h k (by omega)
    rw [pressesK_take dk0 (kOf s) k (by rw [kOf_len]; omega), ih]
    exact key_one h (by omega)
/-- the keys put the text. -/
theorem keys_put {s : List UInt8} (h : kOk s = true) : pressKeysK dk0 (kOf s) = (dkAt s s.length, (s.length : Int)) := by
  have := keys_all h s.length (Nat.le_refl _)
  rw [List.take_of_length_le (by rw [kOf_len]; exact Nat.le_refl _), List.take_length] at this
  unfold kOk at h
  simp only [Bool.and_eq_true, decide_eq_true_eq] at h
  unfold pressKeysK
  rw [if_pos ⟨rfl, by rw [kOf_len]; exact h.1.2⟩, this]

end Go.Proofs.YtcjgllbhmghkeaaDoor
