/- What is proved here: What is proved here: plain facts on the texts of records: numbers, bytes that are written as two, sums. What is proved here: plain facts on the parts of a record's text. No condition. -/
import Derived.Test.YtbjlkdenkmbepaaGreatDoorText1
import Derived.Lib.ItoaNum
import Derived.Test.YtbjlkdenkmbepaaGreatDoorLsp
namespace Go.Proofs.YtbjlkdenkmbepaaGreatDoor
open Go.RowKit

/-- the decimal digits. -/
def nm (n : Nat) : List UInt8 := Go.Lib.decDigits n
theorem nm_small {n : Nat} (h : n < 10) : nm n = [UInt8.ofNat (48 + n)] := by
  unfold nm
  rw [Go.Lib.decDigits, dif_pos h]
theorem nm_big {n : Nat} (h : ¬ n < 10) : nm n = nm (n / 10) ++ [UInt8.ofNat (48 + n % 10)] := by
  unfold nm
  rw [Go.Lib.decDigits, dif_neg h]
theorem dgt {k : Nat} (h : k < 10) : (UInt8.ofNat (48 + k)).toNat = 48 + k := by
  rw [UInt8.toNat_ofNat']
  omega
theorem nm_digits (n : Nat) : ∀ c ∈ nm n, 48 ≤ c.toNat ∧ c.toNat ≤ 57 := by
  induction n using Nat.strongRecOn with
  | _ n ih =>
    intro c hc
    by_cases h : n < 10
    · rw [nm_small h] at hc
      rw [List.mem_singleton.1 hc, dgt h]
      omega
    · rw [nm_big h, List.mem_append] at hc
      rcases hc with hc | hc
      · exact ih (n / 10) (by omega) c hc
      · rw [List.mem_singleton.1 hc, dgt (by omega)]
        omega
theorem nm_pos (n : Nat) : 1 ≤ (nm n).length := by
  by_cases h : n < 10
  · rw [nm_small h]; simp
  · rw [nm_big h]; simp
theorem nm_len {n : Nat} (h : n < 1000) : (nm n).length ≤ 3 := by
  by_cases h1 : n < 10
  · rw [nm_small h1]; simp
  · rw [nm_big h1]
    by_cases h2 : n / 10 < 10
    · rw [nm_small h2]; simp
    · rw [nm_big h2, nm_small (show n / 10 / 10 < 10 by omega)]; simp
/-- the number of a row of digits. -/
def vl (n : Nat) : List UInt8 → Nat
  | [] => n
  | c :: l => vl (10 * n + (c.toNat - 48)) l
theorem vl_snoc (l : List UInt8) : ∀ n c, vl n (l ++ [c]) = 10 * vl n l + (c.toNat - 48) := by
  induction l with
  | nil => intro n c; rfl
  | cons x l ih => intro n c; exact ih _ c
theorem vl_nm (n : Nat) : vl 0 (nm n) = n := by
  induction n using Nat.strongRecOn with
  | _ n ih =>
    by_cases h : n < 10
    · rw [nm_small h]
      show 10 * 0 + ((UInt8.ofNat (48 + n)).toNat - 48) = n
      rw [dgt h]
      omega
    · rw [nm_big h, vl_snoc, ih (n / 10) (by omega), dgt (by omega)]
      omega
/-- a byte as it stands in a record. -/
def esc1 (c : UInt8) : List UInt8 := if c = 10 then [92, 110] else if c = 92 then [92, 92] else [c]
def esc (l : List UInt8) : List UInt8 := l.flatMap esc1
theorem esc_len (l : List UInt8) : (esc l).length ≤ 2 * l.length := by
  induction l with
  | nil => simp [esc]
  | cons c l ih =>
    have e : esc (c :: l) = esc1 c ++ esc l := by simp [esc]
    rw [e, List.length_append, List.length_cons]
    have : (esc1 c).length ≤ 2 := by unfold esc1; split; simp; split <;> simp
    omega
/-- what the bytes of a record stand for. -/
def une : List UInt8 → List UInt8
  | [] => []
  | [c] => [c]
  | c :: d :: l => if c = 92 then (if d = 110 then 10 else d) :: une l else c :: une (d :: l)
theorem une_esc (l : List UInt8) : une (esc l) = l := by
  induction l with
  | nil => rfl
  | cons c l ih =>
    have e : esc (c :: l) = esc1 c ++ esc l := by simp [esc]
    rw [e]
    unfold esc1
    split
    · rename_i h
      subst h
      show une (92 :: 110 :: esc l) = _
      rw [une, if_pos rfl, if_pos rfl, ih]
    · split
      · rename_i h1 h
        subst h
        show une (92 :: 92 :: esc l) = _
        rw [une, if_pos rfl, if_neg (by decide), ih]
      · rename_i h1 h2
        show une (c :: esc l) = _
        cases he : esc l with
        | nil => rw [he] at ih; rw [une, ← ih]; rfl
        | cons d m => rw [une, if_neg h2, ← he, ih]
/-- the sum of the bytes. -/
def smS (n : Nat) : List UInt8 → Nat
  | [] => n
  | c :: l => smS ((31 * n + c.toNat) % 997) l
theorem smS_snoc (l : List UInt8) : ∀ n c, smS n (l ++ [c]) = (31 * smS n l + c.toNat) % 997 := by
  induction l with
  | nil => intro n c; rfl
  | cons x l ih => intro n c; exact ih _ c
theorem smS_lt (l : List UInt8) : ∀ n, n < 997 → smS n l < 997 := by
  induction l with
  | nil => intro n h; exact h
  | cons x l ih => intro n h; exact ih _ (by omega)
def recB (a b : Nat) (p : List UInt8) : List UInt8 := nm a ++ 32 :: (nm b ++ 32 :: esc p)
def recX (a b : Nat) (p : List UInt8) : List UInt8 := recB a b p ++ 32 :: nm (smS 0 (recB a b p))
def recOk (a b : Int) (p : List UInt8) : Bool := inB a 0 120 && inB b 0 120 && tv p
/-- the text of a change, or nothing. -/
def recT (a b : Int) (p : List UInt8) : List UInt8 := if recOk a b p then recX a.toNat b.toNat p else []
theorem recX_len {a b : Nat} (ha : a ≤ 120) (hb : b ≤ 120) {p : List UInt8} (hp : p.length ≤ 120) : 1 ≤ (recX a b p).length ∧ (recX a b p).length ≤ 252 := by
  have h1 := nm_len (n := a) (by omega)
  have h2 := nm_len (n := b) (by omega)
  have h3 := nm_len (n := smS 0 (recB a b p)) (by have := smS_lt (recB a b p) 0 (by omega); omega)
  have h4 := esc_len p
  unfold recX
  generalize smS 0 (recB a b p) = q at *
  unfold recB
  simp only [List.length_append, List.length_cons]
  omega

end Go.Proofs.YtbjlkdenkmbepaaGreatDoor

namespace Go.Proofs.YtbjlkdenkmbepaaGreatDoor
open Go.RowKit

def dgB (c : UInt8) : Bool := decide (48 ≤ c.toNat) && decide (c.toNat ≤ 57)
/-- the digits at a place, four at most. -/
def dgs (s : List UInt8) (k : Nat) : List UInt8 := ((s.drop k).take 4).takeWhile dgB
/-- the number at a place and the place behind the space behind it. -/
def vAt (s : List UInt8) (k : Nat) : Int × Nat :=
  if (dgs s k).length = 0 ∨ s[k + (dgs s k).length]? ≠ some 32 then (-1, k + (dgs s k).length) else ((vl 0 (dgs s k) : Nat), k + (dgs s k).length + 1)
theorem dgs_nm {a : Nat} (ha : a < 1000) (x r : List UInt8) : dgs (x ++ (nm a ++ 32 :: r)) x.length = nm a := by
  have hl := nm_len ha
  unfold dgs
  rw [List.drop_left]
  obtain ⟨j, hj⟩ : ∃ j, 4 - (nm a).length = j + 1 := ⟨3 - (nm a).length, by omega⟩
  rw [List.take_append, List.take_of_length_le (by omega), hj, List.take_succ_cons, List.takeWhile_append_of_pos]
  · rw [List.takeWhile_cons_of_neg (by decide), List.append_nil]
  · intro c hc
    have := nm_digits a c hc
    simp [dgB]
    omega
theorem vAt_nm {a : Nat} (ha : a < 1000) (x r : List UInt8) : vAt (x ++ (nm a ++ 32 :: r)) x.length = ((a : Int), x.length + (nm a).length + 1) := by
  have hp := nm_pos a
  unfold vAt
  rw [dgs_nm ha, vl_nm, if_neg]
  rw [← List.append_assoc, List.getElem?_append_right (by rw [List.length_append]; omega), List.length_append, Nat.sub_self]
  simp
  intro h
  rw [h] at hp
  simp at hp
theorem no32 (n : Nat) : ∀ c ∈ nm n, c ≠ 32 := by
  intro c hc e
  have := nm_digits n c hc
  rw [e] at this
  simp at this
theorem lsp_tail (x : List UInt8) : ∀ (y : List UInt8), (∀ c ∈ y, c ≠ 32) → lsp (x ++ 32 :: y) = x.length + 1 := by
  intro y hy
  unfold lsp
  rw [List.reverse_append, List.reverse_cons, List.append_assoc, List.dropWhile_append_of_pos]
  · simp
  · intro c hc
    simpa using hy c (by simpa using hc)
/-- the change of which a text is the record. -/
def IsRec (s : List UInt8) (a b : Nat) (p : List UInt8) : Prop := a ≤ 120 ∧ b ≤ 120 ∧ tv p = true ∧ recX a b p = s
theorem IsRec.parts {s : List UInt8} {a b : Nat} {p : List UInt8} (h : IsRec s a b p) :
    vAt s 0 = ((a : Int), (nm a).length + 1) ∧ vAt s ((nm a).length + 1) = ((b : Int), (nm a).length + 1 + (nm b).length + 1) ∧ lsp s = (nm a).length + 1 + (nm b).length + 1 + (esc p).length + 1 ∧
    ((s.take ((nm a).length + 1 + (nm b).length + 1 + (esc p).length)).drop ((nm a).length + 1 + (nm b).length + 1)) = esc p := by
  obtain ⟨h1, h2, _, rfl⟩ := h
  have e : recX a b p = nm a ++ 32 :: (nm b ++ 32 :: (esc p ++ 32 :: nm (smS 0 (recB a b p)))) := by simp [recX, recB]
  have hq := no32 (smS 0 (recB a b p))
  rw [e]
  generalize nm (smS 0 (recB a b p)) = q at *
  refine ⟨?_, ?_, ?_, ?_⟩
  · have := vAt_nm (a := a) (by omega) [] (nm b ++ 32 :: (esc p ++ 32 :: q))
    simpa using this
  · have := vAt_nm (a := b) (by omega) (nm a ++ [32]) (esc p ++ 32 :: q)
    simpa using this
  · have := lsp_tail (nm a ++ 32 :: (nm b ++ 32 :: esc p)) q hq
    simp only [List.append_assoc, List.cons_append, List.length_append, List.length_cons] at this
    rw [this]
    omega
  · have e2 : nm a ++ 32 :: (nm b ++ 32 :: (esc p ++ 32 :: q)) = (nm a ++ 32 :: (nm b ++ [32])) ++ (esc p ++ 32 :: q) := by simp
    have e3 : (nm a ++ 32 :: (nm b ++ [32])).length = (nm a).length + 1 + (nm b).length + 1 := by simp; omega
    rw [e2, ← e3, List.drop_take, List.drop_left, Nat.add_sub_cancel_left, List.take_left]
theorem IsRec.uniq {s : List UInt8} {a b c d : Nat} {p q : List UInt8} (h : IsRec s a b p) (k : IsRec s c d q) : a = c ∧ b = d ∧ p = q := by
  obtain ⟨h1, h2, h3, h4⟩ := h.parts
  obtain ⟨k1, k2, k3, k4⟩ := k.parts
  rw [h1] at k1
  injection k1 with e1 e2
  rw [← e2] at k2 k3 k4
  rw [h2] at k2
  injection k2 with e3 e4
  rw [← e4] at k3 k4
  have e5 : (esc p).length = (esc q).length := by omega
  rw [← e5, h4] at k4
  refine ⟨by omega, by omega, ?_⟩
  rw [← une_esc p, k4, une_esc]
theorem IsRec.of {s : List UInt8} {a b : Int} {p : List UInt8} (h : recT a b p = s) (hs : s ≠ []) : IsRec s a.toNat b.toNat p ∧ 0 ≤ a ∧ 0 ≤ b := by
  unfold recT at h
  split at h
  · rename_i hk
    unfold recOk at hk
    simp only [Bool.and_eq_true, inB_iff] at hk
    exact ⟨⟨by omega, by omega, hk.2, h⟩, by omega, by omega⟩
  · exact absurd h.symm hs
theorem IsRec.text {s : List UInt8} {a b : Nat} {p : List UInt8} (h : IsRec s a b p) : recT a b p = s ∧ s ≠ [] := by
  obtain ⟨h1, h2, h3, h4⟩ := h
  have hk : recOk a b p = true := by
    unfold recOk
    simp only [Bool.and_eq_true, inB_iff]
    exact ⟨⟨by omega, by omega⟩, h3⟩
  have := (recX_len h1 h2 (tv_len h3)).1
  refine ⟨by unfold recT; rw [if_pos hk]; simpa using h4, ?_⟩
  rintro rfl
  rw [h4] at this
  simp at this

end Go.Proofs.YtbjlkdenkmbepaaGreatDoor
