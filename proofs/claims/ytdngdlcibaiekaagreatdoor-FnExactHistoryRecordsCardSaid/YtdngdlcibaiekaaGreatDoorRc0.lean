/- What is proved here: plain facts on the texts of records: numbers, bytes that are written as two, sums. No condition. -/
import Derived.Test.YtdngdlcibaiekaaGreatDoorText1
import Derived.Lib.ItoaNum
namespace Go.Proofs.YtdngdlcibaiekaaGreatDoor
open Go.RowKit

/-- the decimal digits. -/
def nm (n : Nat) : List UInt8 := Go.Lib.decDigits n
theorem nm_small {n : Nat} (h : n < 10) : nm n = [UInt8.ofNat (48 + n)] := by
  unfold nm
  rw [Go.Lib.decDigits, dif_pos h]
theorem nm_big {n : Nat} (h : ¬ n < 10) : nm n = nm (n / 10) ++ [UInt8.ofNat (48 + n % 10)] := by
  unfold nm
  rw [Go.Lib.decDigits, dif_neg h]
theorem dgt {k : Nat} (h : k < 10) : (UInt8.ofNat (48 + k)).toNat = 48 + k := by
  rw [UInt8.toNat_ofNat']
  omega
theorem nm_digits (n : Nat) : ∀ c ∈ nm n, 48 ≤ c.toNat ∧ c.toNat ≤ 57 := by
  induction n using Nat.strongRecOn with
  | _ n ih =>
    intro c hc
    by_cases h : n < 10
    · rw [nm_small h] at hc
      rw [List.mem_singleton.1 hc, dgt h]
      omega
    · rw [nm_big h, List.mem_append] at hc
      rcases hc with hc | hc
      · exact ih (n / 10) (by omega) c hc
      · rw [List.mem_singleton.1 hc, dgt (by omega)]
        omega
theorem nm_pos (n : Nat) : 1 ≤ (nm n).length := by
  by_cases h : n < 10
  · rw [nm_small h]; simp
  · rw [nm_big h]; simp
theorem nm_len {n : Nat} (h : n < 1000) : (nm n).length ≤ 3 := by
  by_cases h1 : n < 10
  · rw [nm_small h1]; simp
  · rw [nm_big h1]
    by_cases h2 : n / 10 < 10
    · rw [nm_small h2]; simp
    · rw [nm_big h2, nm_small (show n / 10 / 10 < 10 by omega)]; simp
/-- the number of a row of digits. -/
def vl (n : Nat) : List UInt8 → Nat
  | [] => n
  | c :: l => vl (10 * n + (c.toNat - 48)) l
theorem vl_snoc (l : List UInt8) : ∀ n c, vl n (l ++ [c]) = 10 * vl n l + (c.toNat - 48) := by
  induction l with
  | nil => intro n c; rfl
  | cons x l ih => intro n c; exact ih _ c
theorem vl_nm (n : Nat) : vl 0 (nm n) = n := by
  induction n using Nat.strongRecOn with
  | _ n ih =>
    by_cases h : n < 10
    · rw [nm_small h]
      show 10 * 0 + ((UInt8.ofNat (48 + n)).toNat - 48) = n
      rw [dgt h]
      omega
    · rw [nm_big h, vl_snoc, ih (n / 10) (by omega), dgt (by omega)]
      omega
/-- a byte as it stands in a record. -/
def esc1 (c : UInt8) : List UInt8 := if c = 10 then [92, 110] else if c = 92 then [92, 92] else [c]
def esc (l : List UInt8) : List UInt8 := l.flatMap esc1
theorem esc_len (l : List UInt8) : (esc l).length ≤ 2 * l.length := by
  induction l with
  | nil => simp [esc]
  | cons c l ih =>
    have e : esc (c :: l) = esc1 c ++ esc l := by simp [esc]
    rw [e, List.length_append, List.length_cons]
    have : (esc1 c).length ≤ 2 := by unfold esc1; split; simp; split <;> simp
    omega
/-- what the bytes of a record stand for. -/
def une : List UInt8 → List UInt8
  | [] => []
  | [c] => [c]
  | c :: d :: l => if c = 92 then (if d = 110 then 10 else d) :: une l else c :: une (d :: l)
theorem une_esc (l : List UInt8) : une (esc l) = l := by
  induction l with
  | nil => rfl
  | cons c l ih =>
    have e : esc (c :: l) = esc1 c ++ esc l := by simp [esc]
    rw [e]
    unfold esc1
    split
    · rename_i h
      subst h
      show une (92 :: 110 :: esc l) = _
      rw [une, if_pos rfl, if_pos rfl, ih]
    · split
      · rename_i h1 h
        subst h
        show une (92 :: 92 :: esc l) = _
        rw [une, if_pos rfl, if_neg (by decide), ih]
      · rename_i h1 h2
        show une (c :: esc l) = _
        cases he : esc l with
        | nil => rw [he] at ih; rw [une, ← ih]; rfl
        | cons d m => rw [une, if_neg h2, ← he, ih]
/-- the sum of the bytes. -/
def smS (n : Nat) : List UInt8 → Nat
  | [] => n
  | c :: l => smS ((31 * n + c.toNat) % 997) l
theorem smS_snoc (l : List UInt8) : ∀ n c, smS n (l ++ [c]) = (31 * smS n l + c.toNat) % 997 := by
  induction l with
  | nil => intro n c; rfl
  | cons x l ih => intro n c; exact ih _ c
theorem smS_lt (l : List UInt8) : ∀ n, n < 997 → smS n l < 997 := by
  induction l with
  | nil => intro n h; exact h
  | cons x l ih => intro n h; exact ih _ (by omega)
def recB (a b : Nat) (p : List UInt8) : List UInt8 := nm a ++ 32 :: (nm b ++ 32 :: esc p)
def recX (a b : Nat) (p : List UInt8) : List UInt8 := recB a b p ++ 32 :: nm (smS 0 (recB a b p))
def recOk (a b : Int) (p : List UInt8) : Bool := inB a 0 120 && inB b 0 120 && tv p
/-- the text of a change, or nothing. -/
def recT (a b : Int) (p : List UInt8) : List UInt8 := if recOk a b p then recX a.toNat b.toNat p else []
theorem recX_len {a b : Nat} (ha : a ≤ 120) (hb : b ≤ 120) {p : List UInt8} (hp : p.length ≤ 120) : 1 ≤ (recX a b p).length ∧ (recX a b p).length ≤ 252 := by
  have h1 := nm_len (n := a) (by omega)
  have h2 := nm_len (n := b) (by omega)
  have h3 := nm_len (n := smS 0 (recB a b p)) (by have := smS_lt (recB a b p) 0 (by omega); omega)
  have h4 := esc_len p
  unfold recX
  generalize smS 0 (recB a b p) = q at *
  unfold recB
  simp only [List.length_append, List.length_cons]
  omega

end Go.Proofs.YtdngdlcibaiekaaGreatDoor
