/- What is proved here: What is proved here: plain facts on the place of the last space. What is proved here: What is proved here: plain facts on the texts of records: numbers, bytes that are written as two, sums. What is proved here: plain facts on the parts of a record's text. What is proved here: plain facts: decimal numbers at the beginning of a command, and the range of lines with which it begins. What is proved here: contracts of the reference's l20Number and ReadRange. No condition. -/
import Derived.Test.YtbjlkdenkmbepaaGreatDoorBase
import Derived.Lib.LastIndexByte
import Derived.Test.YtbjlkdenkmbepaaGreatDoorText1
import Derived.Lib.ItoaNum
namespace Go.Proofs.YtbjlkdenkmbepaaGreatDoor
open Go.RowKit

/-- the number of bytes up to the last space. -/
def lsp (l : List UInt8) : Nat := (l.reverse.dropWhile fun c => c != 32).length
end Go.Proofs.YtbjlkdenkmbepaaGreatDoor

namespace Go.Proofs.YtbjlkdenkmbepaaGreatDoor
open Go.RowKit

/-- the decimal digits. -/
def nm (n : Nat) : List UInt8 := Go.Lib.decDigits n
theorem nm_small {n : Nat} (h : n < 10) : nm n = [UInt8.ofNat (48 + n)] := by
  unfold nm
  rw [Go.Lib.decDigits, dif_pos h]
theorem nm_big {n : Nat} (h : ¬ n < 10) : nm n = nm (n / 10) ++ [UInt8.ofNat (48 + n % 10)] := by
  unfold nm
  rw [Go.Lib.decDigits, dif_neg h]
theorem dgt {k : Nat} (h : k < 10) : (UInt8.ofNat (48 + k)).toNat = 48 + k := by
  rw [UInt8.toNat_ofNat']
  omega
theorem nm_digits (n : Nat) : ∀ c ∈ nm n, 48 ≤ c.toNat ∧ c.toNat ≤ 57 := by
  induction n using Nat.strongRecOn with
  | _ n ih =>
    intro c hc
    by_cases h : n < 10
    · rw [nm_small h] at hc
      rw [List.mem_singleton.1 hc, dgt h]
      omega
    · rw [nm_big h, List.mem_append] at hc
      rcases hc with hc | hc
      · exact ih (n / 10) (by omega) c hc
      · rw [List.mem_singleton.1 hc, dgt (by omega)]
        omega
theorem nm_pos (n : Nat) : 1 ≤ (nm n).length := by
  by_cases h : n < 10
  · rw [nm_small h]; simp
  · rw [nm_big h]; simp
theorem nm_len {n : Nat} (h : n < 1000) : (nm n).length ≤ 3 := by
  by_cases h1 : n < 10
  · rw [nm_small h1]; simp
  · rw [nm_big h1]
    by_cases h2 : n / 10 < 10
    · rw [nm_small h2]; simp
    · rw [nm_big h2, nm_small (show n / 10 / 10 < 10 by omega)]; simp
/-- the number of a row of digits. -/
def vl (n : Nat) : List UInt8 → Nat
  | [] => n
  | c :: l => vl (10 * n + (c.toNat - 48)) l
theorem vl_snoc (l : List UInt8) : ∀ n c, vl n (l ++ [c]) = 10 * vl n l + (c.toNat - 48) := by
  induction l with
  | nil => intro n c; rfl
  | cons x l ih => intro n c; exact ih _ c
theorem vl_nm (n : Nat) : vl 0 (nm n) = n := by
  induction n using Nat.strongRecOn with
  | _ n ih =>
    by_cases h : n < 10
    · rw [nm_small h]
      show 10 * 0 + ((UInt8.ofNat (48 + n)).toNat - 48) = n
      rw [dgt h]
      omega
    · rw [nm_big h, vl_snoc, ih (n / 10) (by omega), dgt (by omega)]
      omega
/-- a byte as it stands in a record. -/
def esc1 (c : UInt8) : List UInt8 := if c = 10 then [92, 110] else if c = 92 then [92, 92] else [c]
def esc (l : List UInt8) : List UInt8 := l.flatMap esc1
theorem esc_len (l : List UInt8) : (esc l).length ≤ 2 * l.length := by
  induction l with
  | nil => simp [esc]
  | cons c l ih =>
    have e : esc (c :: l) = esc1 c ++ esc l := by simp [esc]
    rw [e, List.length_append, List.length_cons]
    have : (esc1 c).length ≤ 2 := by unfold esc1; split; simp; split <;> simp
    omega
/-- the sum of the bytes. -/
def smS (n : Nat) : List UInt8 → Nat
  | [] => n
  | c :: l => smS ((31 * n + c.toNat) % 997) l
theorem smS_lt (l : List UInt8) : ∀ n, n < 997 → smS n l < 997 := by
  induction l with
  | nil => intro n h; exact h
  | cons x l ih => intro n h; exact ih _ (by omega)
def recB (a b : Nat) (p : List UInt8) : List UInt8 := nm a ++ 32 :: (nm b ++ 32 :: esc p)
def recX (a b : Nat) (p : List UInt8) : List UInt8 := recB a b p ++ 32 :: nm (smS 0 (recB a b p))
def recOk (a b : Int) (p : List UInt8) : Bool := inB a 0 120 && inB b 0 120 && tv p
/-- the text of a change, or nothing. -/
def recT (a b : Int) (p : List UInt8) : List UInt8 := if recOk a b p then recX a.toNat b.toNat p else []
theorem recX_len {a b : Nat} (ha : a ≤ 120) (hb : b ≤ 120) {p : List UInt8} (hp : p.length ≤ 120) : 1 ≤ (recX a b p).length ∧ (recX a b p).length ≤ 252 := by
  have h1 := nm_len (n := a) (by omega)
  have h2 := nm_len (n := b) (by omega)
  have h3 := nm_len (n := smS 0 (recB a b p)) (by have := smS_lt (recB a b p) 0 (by omega); omega)
  have h4 := esc_len p
  unfold recX
  generalize smS 0 (recB a b p) = q at *
  unfold recB
  simp only [List.length_append, List.length_cons]
  omega

end Go.Proofs.YtbjlkdenkmbepaaGreatDoor

namespace Go.Proofs.YtbjlkdenkmbepaaGreatDoor
open Go.RowKit

def dgB (c : UInt8) : Bool := decide (48 ≤ c.toNat) && decide (c.toNat ≤ 57)
/-- the digits at a place, four at most. -/
def dgs (s : List UInt8) (k : Nat) : List UInt8 := ((s.drop k).take 4).takeWhile dgB
/-- the number at a place and the place behind the space behind it. -/
def vAt (s : List UInt8) (k : Nat) : Int × Nat :=
  if (dgs s k).length = 0 ∨ s[k + (dgs s k).length]? ≠ some 32 then (-1, k + (dgs s k).length) else ((vl 0 (dgs s k) : Nat), k + (dgs s k).length + 1)
theorem dgs_nm {a : Nat} (ha : a < 1000) (x r : List UInt8) : dgs (x ++ (nm a ++ 32 :: r)) x.length = nm a := by
  have hl := nm_len ha
  unfold dgs
  rw [List.drop_left]
  obtain ⟨j, hj⟩ : ∃ j, 4 - (nm a).length = j + 1 := ⟨3 - (nm a).length, by omega⟩
  rw [List.take_append, List.take_of_length_le (by omega), hj, List.take_succ_cons, List.takeWhile_append_of_pos]
  · rw [List.takeWhile_cons_of_neg (by decide), List.append_nil]
  · intro c hc
    have := nm_digits a c hc
    simp [dgB]
    omega
theorem vAt_nm {a : Nat} (ha : a < 1000) (x r : List UInt8) : vAt (x ++ (nm a ++ 32 :: r)) x.length = ((a : Int), x.length + (nm a).length + 1) := by
  have hp := nm_pos a
  unfold vAt
  rw [dgs_nm ha, vl_nm, if_neg]
  rw [← List.append_assoc, List.getElem?_append_right (by rw [List.length_append]; omega), List.length_append, Nat.sub_self]
  simp
  intro h
  rw [h] at hp
  simp at hp
theorem no32 (n : Nat) : ∀ c ∈ nm n, c ≠ 32 := by
  intro c hc e
  have := nm_digits n c hc
  rw [e] at this
  simp at this
theorem lsp_tail (x : List UInt8) : ∀ (y : List UInt8), (∀ c ∈ y, c ≠ 32) → lsp (x ++ 32 :: y) = x.length + 1 := by
  intro y hy
  unfold lsp
  rw [List.reverse_append, List.reverse_cons, List.append_assoc, List.dropWhile_append_of_pos]
  · simp
  · intro c hc
    simpa using hy c (by simpa using hc)
/-- the change of which a text is the record. -/
def IsRec (s : List UInt8) (a b : Nat) (p : List UInt8) : Prop := a ≤ 120 ∧ b ≤ 120 ∧ tv p = true ∧ recX a b p = s
theorem IsRec.parts {s : List UInt8} {a b : Nat} {p : List UInt8} (h : IsRec s a b p) :
    vAt s 0 = ((a : Int), (nm a).length + 1) ∧ vAt s ((nm a).length + 1) = ((b : Int), (nm a).length + 1 + (nm b).length + 1) ∧ lsp s = (nm a).length + 1 + (nm b).length + 1 + (esc p).length + 1 ∧
    ((s.take ((nm a).length + 1 + (nm b).length + 1 + (esc p).length)).drop ((nm a).length + 1 + (nm b).length + 1)) = esc p := by
  obtain ⟨h1, h2, _, rfl⟩ := h
  have e : recX a b p = nm a ++ 32 :: (nm b ++ 32 :: (esc p ++ 32 :: nm (smS 0 (recB a b p)))) := by simp [recX, recB]
  have hq := no32 (smS 0 (recB a b p))
  rw [e]
  generalize nm (smS 0 (recB a b p)) = q at *
  refine ⟨?_, ?_, ?_, ?_⟩
  · have := vAt_nm (a := a) (by omega) [] (nm b ++ 32 :: (esc p ++ 32 :: q))
    simpa using this
  · have := vAt_nm (a := b) (by omega) (nm a ++ [32]) (esc p ++ 32 :: q)
    simpa using this
  · have := lsp_tail (nm a ++ 32 :: (nm b ++ 32 :: esc p)) q hq
    simp only [List.append_assoc, List.cons_append, List.length_append, List.length_cons] at this
    rw [this]
    omega
  · have e2 : nm a ++ 32 :: (nm b ++ 32 :: (esc p ++ 32 :: q)) = (nm a ++ 32 :: (nm b ++ [32])) ++ (esc p ++ 32 :: q) := by simp
    have e3 : (nm a ++ 32 :: (nm b ++ [32])).length = (nm a).length + 1 + (nm b).length + 1 := by simp; omega
    rw [e2, ← e3, List.drop_take, List.drop_left, Nat.add_sub_cancel_left, List.take_left]
theorem IsRec.of {s : List UInt8} {a b : Int} {p : List UInt8} (h : recT a b p = s) (hs : s ≠ []) : IsRec s a.toNat b.toNat p ∧ 0 ≤ a ∧ 0 ≤ b := by
  unfold recT at h
  split at h
  · rename_i hk
    unfold recOk at hk
    simp only [Bool.and_eq_true, inB_iff] at hk
    exact ⟨⟨by omega, by omega, hk.2, h⟩, by omega, by omega⟩
  · exact absurd h.symm hs
theorem IsRec.text {s : List UInt8} {a b : Nat} {p : List UInt8} (h : IsRec s a b p) : recT a b p = s ∧ s ≠ [] := by
  obtain ⟨h1, h2, h3, h4⟩ := h
  have hk : recOk a b p = true := by
    unfold recOk
    simp only [Bool.and_eq_true, inB_iff]
    exact ⟨⟨by omega, by omega⟩, h3⟩
  have := (recX_len h1 h2 (tv_len h3)).1
  refine ⟨by unfold recT; rw [if_pos hk]; simpa using h4, ?_⟩
  rintro rfl
  rw [h4] at this
  simp at this

end Go.Proofs.YtbjlkdenkmbepaaGreatDoor

namespace Go.Proofs.YtbjlkdenkmbepaaGreatDoor
open Go.RowKit
set_option linter.unusedVariables false

/-- the digits at the beginning. -/
def dgW (s : List UInt8) : List UInt8 := s.takeWhile dgB
theorem dgW_le (s : List UInt8) : (dgW s).length ≤ s.length := (List.takeWhile_sublist (l := s) _).length_le
/-- the number at the beginning, at most 999 and without zeros before it, and how many digits it has. -/
def num (s : List UInt8) : Option (Nat × Nat) := if (dgW s).length ≤ 3 ∧ nm (vl 0 (dgW s)) = dgW s then some (vl 0 (dgW s), (dgW s).length) else none
theorem vl_ltA : ∀ (l : List UInt8) (n : Nat), (∀ c ∈ l, 48 ≤ c.toNat ∧ c.toNat ≤ 57) → vl n l < (n + 1) * 10 ^ l.length
  | [], n, _ => by
    rw [show vl n [] = n from rfl, List.length_nil, Nat.pow_zero]
    omega
  | c :: l, n, h => by
    have hc := h c (by simp)
    have ih := vl_ltA l (10 * n + (c.toNat - 48)) fun d hd => h d (by simp [hd])
    have h2 : (10 * n + (c.toNat - 48) + 1) * 10 ^ l.length ≤ (10 * (n + 1)) * 10 ^ l.length := Nat.mul_le_mul_right _ (by omega)
    have h3 : (n + 1) * 10 ^ (c :: l).length = (10 * (n + 1)) * 10 ^ l.length := by
      rw [List.length_cons, Nat.pow_succ, Nat.mul_comm (10 ^ l.length) 10, ← Nat.mul_assoc, Nat.mul_comm (n + 1) 10]
    rw [h3]
    exact Nat.lt_of_lt_of_le ih h2
theorem vl_ltB {l : List UInt8} (h : ∀ c ∈ l, 48 ≤ c.toNat ∧ c.toNat ≤ 57) (hl : l.length ≤ 3) : vl 0 l < 1000 := by
  have h1 := vl_ltA l 0 h
  have h2 : 10 ^ l.length ≤ 10 ^ 3 := Nat.pow_le_pow_right (by omega) hl
  omega
theorem num_some {s : List UInt8} {a k : Nat} (h : num s = some (a, k)) : a < 1000 ∧ nm a = dgW s ∧ k = (dgW s).length ∧ k ≤ s.length ∧ 1 ≤ k := by
  unfold num at h
  split at h
  · rename_i hc
    injection h with h
    injection h with h1 h2
    subst h1
    have hp := nm_pos (vl 0 (dgW s))
    have hl := dgW_le s
    refine ⟨vl_ltB (fun c hc2 => ?_) hc.1, hc.2, h2.symm, by omega, by rw [hc.2] at hp; omega⟩
    rw [← hc.2] at hc2
    exact nm_digits _ c hc2
  · exact absurd h (by simp)
theorem num_of {s : List UInt8} {a : Nat} (ha : a < 1000) (h : nm a = dgW s) : num s = some (a, (dgW s).length) := by
  have hl := nm_len ha
  have hv := vl_nm a
  unfold num
  rw [← h, hv, if_pos ⟨hl, rfl⟩]
theorem nm_head (n : Nat) : 0 < n → (nm n).head? ≠ some 48 := by
  induction n using Nat.strongRecOn with
  | _ n ih =>
    intro h0
    by_cases h : n < 10
    · rw [nm_small h]
      intro e
      simp only [List.head?_cons, Option.some.injEq] at e
      have := congrArg UInt8.toNat e
      rw [dgt h] at this
      simp at this
      omega
    · rw [nm_big h]
      have hp := nm_pos (n / 10)
      cases hq : nm (n / 10) with
      | nil => rw [hq] at hp; simp at hp
      | cons c r =>
        have h2 := ih (n / 10) (by omega) (by omega)
        rw [hq] at h2
        simpa using h2
/-- j digits from k on that are a number. -/
def NumAt (s : List UInt8) (j q : Nat) : Prop := q < 1000 ∧ 1 ≤ j ∧ j ≤ s.length ∧ nm q = s.take j
theorem NumAt.digits {s : List UInt8} {j q : Nat} (h : NumAt s j q) : ∀ c ∈ s.take j, dgB c = true := fun c hc => by
  rw [← h.2.2.2] at hc
  have := nm_digits q c hc
  simp [dgB, this]
theorem dgW_app {x y : List UInt8} (h : ∀ c ∈ x, dgB c = true) : dgW (x ++ y) = x ++ dgW y := by
  unfold dgW
  rw [List.takeWhile_append_of_pos h]
theorem numAt_first {s : List UInt8} (h : 0 < s.length) (hd : dgB s[0] = true) : NumAt s 1 ((s[0]).toNat - 48) := by
  simp [dgB] at hd
  refine ⟨by omega, Nat.le_refl _, h, ?_⟩
  rw [nm_small (by omega), List.take_succ_eq_append_getElem h]
  simp only [List.take_zero, List.nil_append, List.cons.injEq, and_true]
  apply UInt8.toNat_inj.1
  rw [dgt (by omega)]
  omega
theorem NumAt.next {s : List UInt8} {j q : Nat} (h : NumAt s j q) (hj : j < s.length) (hd : dgB s[j] = true) (h0 : q ≠ 0) (h1 : q < 100) : NumAt s (j + 1) (10 * q + ((s[j]).toNat - 48)) := by
  simp [dgB] at hd
  refine ⟨by omega, by omega, hj, ?_⟩
  rw [nm_big (by omega), List.take_succ_eq_append_getElem hj, ← h.2.2.2, show (10 * q + ((s[j]).toNat - 48)) / 10 = q by omega, show (10 * q + ((s[j]).toNat - 48)) % 10 = (s[j]).toNat - 48 by omega]
  congr 2
  apply UInt8.toNat_inj.1
  rw [dgt (by omega)]
  omega
theorem NumAt.stop {s : List UInt8} {j q : Nat} (h : NumAt s j q) (he : s[j]?.map dgB ≠ some true) : num s = some (q, j) := by
  have hd : dgW s = s.take j := by
    have := dgW_app (y := s.drop j) h.digits
    rw [List.take_append_drop] at this
    rw [this]
    have h2 : dgW (s.drop j) = [] := by
      unfold dgW
      cases hx : s.drop j with
      | nil => rfl
      | cons c r =>
        have hg : s[j]? = some c := by
          have := congrArg (·[0]?) hx
          simpa using this
        rw [hg] at he
        rw [List.takeWhile_cons, if_neg (by simpa using he)]
    rw [h2, List.append_nil]
  have h3 := num_of h.1 (h.2.2.2.trans hd.symm)
  rw [h3, hd, List.length_take, Nat.min_eq_left h.2.2.1]
theorem NumAt.long {s : List UInt8} {j q : Nat} (h : NumAt s j q) (hj : j < s.length) (hd : dgB s[j] = true) (h0 : q = 0 ∨ 100 ≤ q) : num s = none := by
  cases hn : num s with
  | none => rfl
  | some p =>
    exfalso
    obtain ⟨a, k⟩ := p
    obtain ⟨h1, h2, h3, h4, h5⟩ := num_some hn
    have e : dgW s = s.take j ++ dgW (s.drop j) := by
      have := dgW_app (y := s.drop j) h.digits
      rwa [List.take_append_drop] at this
    have e2 : dgW (s.drop j) = s[j] :: dgW (s.drop (j + 1)) := by
      rw [List.drop_eq_getElem_cons hj]
      unfold dgW
      rw [List.takeWhile_cons, if_pos hd]
    have hl := nm_len h1
    have hlen : (s.take j).length = j := by rw [List.length_take]; omega
    rw [h2, e, e2, List.length_append, List.length_cons, hlen] at hl
    have hq := h.2.2.2
    rcases h0 with rfl | h0
    · rw [nm_small (by omega)] at hq
      have hj1 : j = 1 := by
        have := congrArg List.length hq
        rw [hlen] at this
        simpa using this.symm
      rw [e, ← hq] at h2
      have ha : a = 0 ∨ 0 < a := by omega
      rcases ha with rfl | ha
      · rw [nm_small (by omega), e2] at h2
        simp at h2
      · have := nm_head a ha
        rw [h2] at this
        simp at this
    · have hq3 := h.1
      have h4 : 3 ≤ j := by
        rw [← hlen, ← hq]
        by_cases h10 : q < 10
        · omega
        · rw [nm_big h10, nm_big (show ¬ q / 10 < 10 by omega), nm_small (show q / 10 / 10 < 10 by omega)]
          simp
      omega
theorem num_empty {s : List UInt8} (h : s[0]?.map dgB ≠ some true) : num s = none := by
  have hd : dgW s = [] := by
    unfold dgW
    cases s with
    | nil => rfl
    | cons c r => rw [List.takeWhile_cons, if_neg (by simpa using h)]
  unfold num
  rw [hd, if_neg]
  rintro ⟨_, h2⟩
  have := nm_pos (vl 0 [])
  rw [h2] at this
  simp at this

/-- the range of lines at the beginning of a command, and where it ends. -/
def rng (s : List UInt8) (L : Nat) : Option (Nat × Nat × Nat) :=
  if s.head? = some 37 then some (0, L - 1, 1)
  else match num s with
    | none => none
    | some (a, k) =>
      if (s.drop k).head? = some 44 then
        match num (s.drop (k + 1)) with
        | none => none
        | some (b, j) => if 1 ≤ a ∧ a ≤ L ∧ a ≤ b ∧ b ≤ L then some (a - 1, b - 1, k + 1 + j) else none
      else if 1 ≤ a ∧ a ≤ L then some (a - 1, a - 1, k) else none
theorem rng_all {s : List UInt8} (L : Nat) (h : s.head? = some 37) : rng s L = some (0, L - 1, 1) := by unfold rng; rw [if_pos h]
theorem rng_no {s : List UInt8} (L : Nat) (h : s.head? ≠ some 37) (hn : num s = none) : rng s L = none := by unfold rng; rw [if_neg h, hn]
theorem rng_one {s : List UInt8} (L : Nat) {a k : Nat} (h : s.head? ≠ some 37) (hn : num s = some (a, k)) (hc : (s.drop k).head? ≠ some 44) : rng s L = if 1 ≤ a ∧ a ≤ L then some (a - 1, a - 1, k) else none := by
  unfold rng
  rw [if_neg h, hn]
  simp only
  rw [if_neg hc]
theorem rng_two {s : List UInt8} (L : Nat) {a k b j : Nat} (h : s.head? ≠ some 37) (hn : num s = some (a, k)) (hc : (s.drop k).head? = some 44) (hm : num (s.drop (k + 1)) = some (b, j)) :
    rng s L = if 1 ≤ a ∧ a ≤ L ∧ a ≤ b ∧ b ≤ L then some (a - 1, b - 1, k + 1 + j) else none := by
  unfold rng
  rw [if_neg h, hn]
  simp only
  rw [if_pos hc, hm]
theorem rng_half {s : List UInt8} (L : Nat) {a k : Nat} (h : s.head? ≠ some 37) (hn : num s = some (a, k)) (hc : (s.drop k).head? = some 44) (hm : num (s.drop (k + 1)) = none) : rng s L = none := by
  unfold rng
  rw [if_neg h, hn]
  simp only
  rw [if_pos hc, hm]
theorem rng_in {s : List UInt8} {L a b k : Nat} (hL : 1 ≤ L) (h : rng s L = some (a, b, k)) : a ≤ b ∧ b < L ∧ k ≤ s.length ∧ 1 ≤ k := by
  by_cases h1 : s.head? = some 37
  · rw [rng_all L h1] at h
    injection h with h
    injection h with e1 h
    injection h with e2 e3
    have : 1 ≤ s.length := by cases s <;> simp_all
    omega
  · cases hn : num s with
    | none => rw [rng_no L h1 hn] at h; simp at h
    | some p =>
      obtain ⟨x, y⟩ := p
      have hx := num_some hn
      by_cases h2 : (s.drop y).head? = some 44
      · cases hm : num (s.drop (y + 1)) with
        | none => rw [rng_half L h1 hn h2 hm] at h; simp at h
        | some p =>
          obtain ⟨u, v⟩ := p
          have hu := num_some hm
          rw [List.length_drop] at hu
          rw [rng_two L h1 hn h2 hm] at h
          split at h
          · injection h with h
            injection h with e1 h
            injection h with e2 e3
            omega
          · simp at h
      · rw [rng_one L h1 hn h2] at h
        split at h
        · injection h with h
          injection h with e1 h
          injection h with e2 e3
          omega
        · simp at h

end Go.Proofs.YtbjlkdenkmbepaaGreatDoor

namespace Go.Proofs.YtbjlkdenkmbepaaGreatDoor
open Go.RowKit
set_option linter.unusedVariables false

/-- a digit stands at a place. -/
def DgAt (s : List UInt8) (j : Nat) : Prop := ∃ h : j < s.length, dgB s[j] = true
/-- what l20Number gives. -/
def NsIs (s : List UInt8) (p : Nat) (x n : Int) : Prop := (∃ a k : Nat, num (s.drop p) = some (a, k) ∧ x = a ∧ n = ((p + k : Nat) : Int)) ∨ (num (s.drop p) = none ∧ ((x = -1 ∧ n = p) ∨ (0 ≤ x ∧ x < 1000 ∧ ∃ j : Nat, n = j ∧ p ≤ j ∧ DgAt s j)))
def NsPost (s : List UInt8) (p : Nat) (w : World) (e : Ending) (w' : World) : Prop := ∃ x n : Int, e = .returned (.tuple #[.int .i64 x, .int .i64 n]) ∧ NsIs s p x n ∧ w = w'
/-- what is read so far. -/
def NsR (d : List UInt8) (j : Nat) (m : Int) : Prop := (j = 0 ∧ m = -1) ∨ ∃ q : Nat, m = q ∧ NumAt d j q
theorem nsR_end {s : List UInt8} {p j : Nat} {m : Int} (h : NsR (s.drop p) j m) (he : s[p + j]?.map dgB ≠ some true) : NsIs s p m ((p + j : Nat) : Int) := by
  have he2 : (s.drop p)[j]?.map dgB ≠ some true := by rwa [List.getElem?_drop]
  rcases h with ⟨rfl, rfl⟩ | ⟨q, rfl, hq⟩
  · exact .inr ⟨num_empty he2, .inl ⟨rfl, rfl⟩⟩
  · exact .inl ⟨q, j, hq.stop he2, rfl, rfl⟩
theorem nsR_long {s : List UInt8} {p j : Nat} {m : Int} (h : NsR (s.drop p) j m) (hj : p + j < s.length) (hd : dgB s[p + j] = true) (hm : m = 0 ∨ 100 ≤ m) : NsIs s p m ((p + j : Nat) : Int) := by
  rcases h with ⟨rfl, rfl⟩ | ⟨q, rfl, hq⟩
  · omega
  · have h1 : j < (s.drop p).length := by rw [List.length_drop]; omega
    have h2 : (s.drop p)[j] = s[p + j] := by rw [List.getElem_drop]
    refine .inr ⟨hq.long h1 (by rw [h2]; exact hd) (by omega), .inr ⟨by omega, by have := hq.1; omega, p + j, rfl, by omega, hj, hd⟩⟩
theorem nsR_next {s : List UInt8} {p j : Nat} {m : Int} (h : NsR (s.drop p) j m) (hj : p + j < s.length) (hd : dgB s[p + j] = true) (h0 : m ≠ 0) (h1 : m < 100) : NsR (s.drop p) (j + 1) (max 0 m * 10 + (((s[p + j]).toNat : Int) - 48)) := by
  have h2 : j < (s.drop p).length := by rw [List.length_drop]; omega
  have h3 : (s.drop p)[j] = s[p + j] := by rw [List.getElem_drop]
  have hd2 := hd
  simp [dgB] at hd2
  rcases h with ⟨rfl, rfl⟩ | ⟨q, rfl, hq⟩
  · have h4 := numAt_first (s := s.drop p) h2 (by rw [h3]; exact hd)
    refine .inr ⟨_, ?_, h4⟩
    rw [h3]
    omega
  · have h4 := hq.next h2 (by rw [h3]; exact hd) (by omega) (by omega)
    refine .inr ⟨_, ?_, h4⟩
    rw [h3]
    omega
theorem nsR_bd {d : List UInt8} {j : Nat} {m : Int} (h : NsR d j m) : -1 ≤ m ∧ m < 1000 := by
  rcases h with ⟨rfl, rfl⟩ | ⟨q, rfl, hq⟩
  · omega
  · have := hq.1; omega
set_option maxRecDepth 100000 in
set_option maxHeartbeats 2000000 in
theorem l20Number_any (s : List UInt8) (p : Nat) (w : World) (hs : s.length ≤ 1048576) (hp : p ≤ s.length) :
    Calls Tryz.prog 97 #[S s, .int .i64 p] w (NsPost s p w) := by
  unfold NsPost
  go_enter Tryz.func97, Tryz.ntmps97
  go_wp2_with fail
  go_loop [1, 6] (fun at_ n => ∃ (j : Nat) (m : Int), p + j ≤ s.length ∧ at_ = .int .i64 ((p + j : Nat) : Int) ∧ n = .int .i64 m ∧ Hid (NsR (s.drop p) j m)) (fun at_ _ => s.length - (intOf at_).toNat)
  case atStart => exact ⟨0, -1, by omega, rfl, rfl, Lib.hid (.inl ⟨rfl, rfl⟩)⟩
  case round =>
    obtain ⟨j, m, hj, rfl, rfl, HR⟩ := hrel
    obtain ⟨m0, m1⟩ := nsR_bd HR.out
    obtain ⟨k, hk⟩ : ∃ k, k = p + j := ⟨_, rfl⟩
    have hkl : k ≤ s.length := by omega
    rw [← hk]
    have i0 : (0 : Int) ≤ (k : Int) := by omega
    by_cases hlt : k < s.length
    · have i2 : (k : Int) < (s.length : Int) := by omega
      have hu8 := UInt8.toNat_lt s[k]
      by_cases hd : dgB s[k] = true
      · have hd2 : 48 ≤ (s[k]).toNat ∧ (s[k]).toNat ≤ 57 := by simpa [dgB] using hd
        have j1 : (48 : Int) ≤ ((s[k]).toNat : Int) := by omega
        have j2 : ((s[k]).toNat : Int) ≤ 57 := by omega
        by_cases h0 : m = 0
        · have HE := Lib.hid (show NsIs s p m k by subst hk; exact nsR_long HR.out hlt hd (.inl h0))
          have c1 : (m == 0) = true := by simpa using h0
          have c2 : (m != 0) = false := by simpa using h0
          clear hk hd h0 HR
          go_wp2_with fail
          go_ret2
          exact ⟨_, _, rfl, HE.out, rfl⟩
        · have c1 : (m == 0) = false := by simpa using h0
          have c2 : (m != 0) = true := by simpa using h0
          by_cases h1 : m < 100
          · have HN := Lib.hid (show NsR (s.drop p) (j + 1) (max 0 m * 10 + (((s[k]).toNat : Int) - 48)) by subst hk; exact nsR_next HR.out hlt hd h0 h1)
            obtain ⟨c, hc⟩ : ∃ c : Nat, c = (s[k]).toNat := ⟨_, rfl⟩
            have hk1 := hk
            have HKJ := Lib.hid hk
            by_cases hm0 : 0 < m
            · have HM := Lib.hid (show max 0 m = m by omega)
              clear hk hd h0 HR hk1 hc
              go_wp2_with fail
              go_round
              case rel => exact ⟨j + 1, _, (by have := HKJ.out; omega), (by have := HKJ.out; go_num), rfl, (by rw [HM.out] at HN; exact HN)⟩
              case measure => simp [intOf]; omega
            · have HM := Lib.hid (show max 0 m = 0 by omega)
              clear hk hd h0 HR hk1 hc
              go_wp2_with fail
              go_round
              case rel => exact ⟨j + 1, _, (by have := HKJ.out; omega), (by have := HKJ.out; go_num), rfl, (by rw [HM.out] at HN; simpa using HN)⟩
              case measure => simp [intOf]; omega
          · have HE := Lib.hid (show NsIs s p m k by subst hk; exact nsR_long HR.out hlt hd (.inr (by omega)))
            clear hk hd h0 HR
            go_wp2_with fail
            go_ret2
            exact ⟨_, _, rfl, HE.out, rfl⟩
      · have HE := Lib.hid (show NsIs s p m k by subst hk; exact nsR_end HR.out (by rw [List.getElem?_eq_getElem hlt]; simpa using hd))
        by_cases j1 : (48 : Int) ≤ ((s[k]).toNat : Int)
        · have j2 : ¬ ((s[k]).toNat : Int) ≤ 57 := fun h => hd (by simp [dgB]; omega)
          clear hk hd HR
          go_wp2_with fail
          go_ret2
          exact ⟨_, _, rfl, HE.out, rfl⟩
        · clear hk hd HR
          go_wp2_with fail
          go_ret2
          exact ⟨_, _, rfl, HE.out, rfl⟩
    · have HE := Lib.hid (show NsIs s p m k by subst hk; exact nsR_end HR.out (by rw [List.getElem?_eq_none (by omega)]; simp))
      have i4 : ¬ (k : Int) < (s.length : Int) := by omega
      clear hk HR
      go_wp2_with fail
      go_ret2
      exact ⟨_, _, rfl, HE.out, rfl⟩

end Go.Proofs.YtbjlkdenkmbepaaGreatDoor
