/- What is proved here: plain lemmas on lists of cells of fixed size, and classes of bytes. No condition. -/
import Derived.Test.YtbjlkdenkmbepaaGreatDoorMem
namespace Go.Proofs.YtbjlkdenkmbepaaGreatDoor
open Go.RowKit

/-- a string. -/
abbrev S (l : List UInt8) : Value := .string ⟨l.toArray⟩

theorem flat_len {α β : Type} (f : α → List β) (m : Nat) (hf : ∀ a, (f a).length = m) (l : List α) : (l.flatMap f).length = l.length * m := by
  induction l with
  | nil => simp
  | cons a l ih => rw [List.flatMap_cons, List.length_append, hf, ih, List.length_cons, Nat.add_mul, Nat.one_mul, Nat.add_comm]
theorem flat_at {α β : Type} (f : α → List β) (m : Nat) (hf : ∀ a, (f a).length = m) : ∀ (l : List α) (k j : Nat) (a : α), l[k]? = some a → j < m → (l.flatMap f)[k * m + j]? = (f a)[j]?
  | [], k, j, a, h, _ => by simp at h
  | x :: l, 0, j, a, h, hj => by
    simp at h
    subst h
    rw [List.flatMap_cons, Nat.zero_mul, Nat.zero_add, List.getElem?_append_left (by rw [hf]; exact hj)]
  | x :: l, k + 1, j, a, h, hj => by
    simp at h
    rw [List.flatMap_cons, List.getElem?_append_right (by rw [hf, Nat.add_mul]; omega), hf, show (k + 1) * m + j - m = k * m + j by rw [Nat.add_mul]; omega]
    exact flat_at f m hf l k j a h hj
theorem flat_take {α β : Type} (f : α → List β) (m : Nat) (hf : ∀ a, (f a).length = m) : ∀ (l : List α) (k : Nat), (l.take k).flatMap f = (l.flatMap f).take (k * m)
  | [], k => by simp
  | x :: l, 0 => by simp
  | x :: l, k + 1 => by
    have h1 : List.take ((k + 1) * m) (f x) = f x := List.take_of_length_le (by rw [hf, Nat.add_mul]; omega)
    have h2 : (k + 1) * m - (f x).length = k * m := by rw [hf, Nat.add_mul]; omega
    rw [List.take_succ_cons, List.flatMap_cons, List.flatMap_cons, flat_take f m hf l k, List.take_append, h1, h2]
theorem flat_drop {α β : Type} (f : α → List β) (m : Nat) (hf : ∀ a, (f a).length = m) : ∀ (l : List α) (k : Nat), (l.drop k).flatMap f = (l.flatMap f).drop (k * m)
  | [], k => by simp
  | x :: l, 0 => by simp
  | x :: l, k + 1 => by
    have h1 : List.drop ((k + 1) * m) (f x) = [] := List.drop_of_length_le (by rw [hf, Nat.add_mul]; omega)
    have h2 : (k + 1) * m - (f x).length = k * m := by rw [hf, Nat.add_mul]; omega
    rw [List.drop_succ_cons, List.flatMap_cons, flat_drop f m hf l k, List.drop_append, h1, h2, List.nil_append]

/-- a slice of things of m cells each, that reads as bs. -/
def RdL {α : Type} (w : World) (m : Nat) (f : α → List Value) (v : Value) (bs : List α) : Prop := Rd w m v bs.length (bs.flatMap f)
theorem RdL.up {α : Type} {w w' : World} {m : Nat} {f : α → List Value} {v : Value} {bs : List α} (h : RdL w m f v bs) (hb : Below w.heap.size w w') : RdL w' m f v bs := Rd.up h hb
theorem RdL.cells {α : Type} {w : World} {m : Nat} {f : α → List Value} (hf : ∀ a, (f a).length = m) {A : Option Addr} {n c : Nat} {bs : List α} (h : RdL w m f (.slice A n c) bs) {k : Nat} (hk : k < bs.length) :
    ∃ b o, A = some ⟨b, o, none⟩ ∧ b < w.heap.size ∧ ∀ j u, (f bs[k])[j]? = some u → w.cell? ⟨b, o + k * m + j, none⟩ = some u := by
  obtain ⟨_, _, A', c', he, _, hA⟩ := h
  injection he with e1 e2 e3
  subst e1
  obtain ⟨b, o, rfl, hb, hc⟩ := hA (by omega)
  refine ⟨b, o, rfl, hb, fun j u hu => ?_⟩
  have hj : j < m := by
    have := (List.getElem?_eq_some_iff.1 hu).1
    rwa [hf] at this
  rw [Nat.add_assoc]
  exact hc _ _ ((flat_at f m hf bs k j _ (List.getElem?_eq_getElem hk) hj).trans hu)
theorem RdL.form {α : Type} {w : World} {m : Nat} {f : α → List Value} {v : Value} {bs : List α} (h : RdL w m f v bs) : ∃ A c, v = .slice A bs.length c ∧ bs.length ≤ maxLen ∧ bs.length ≤ c := by
  obtain ⟨_, h1, A, c, rfl, h2, _⟩ := h
  exact ⟨A, c, rfl, h1, h2⟩
theorem RdL.of_own {α : Type} {w : World} {base m : Nat} {e : TypeId} {f : α → List Value} {v : Value} {bs : List α} (h : Own w base e m v bs.length (bs.flatMap f)) : RdL w m f v bs := Rd.of_own h

/-- the class of a byte. -/
def cls (c : Int) : Int := if c = 32 ∨ c = 10 then 0 else if (48 ≤ c ∧ c ≤ 57) ∨ (97 ≤ c ∧ c ≤ 122) ∨ (65 ≤ c ∧ c ≤ 90) then 1 else 2
def clsC (c : UInt8) : Int := cls (c.toNat : Int)
/-- the first place from p on at which a byte is not of a class. -/
def skipN (l : List UInt8) (p : Nat) (k : Int) : Nat := p + ((l.drop p).takeWhile fun c => clsC c == k).length
theorem skipN_le (l : List UInt8) (p : Nat) (k : Int) (hp : p ≤ l.length) : skipN l p k ≤ l.length := by
  unfold skipN
  have := (List.takeWhile_sublist (l := l.drop p) (fun c => clsC c == k)).length_le
  rw [List.length_drop] at this
  omega
theorem skipN_step (l : List UInt8) (p : Nat) (k : Int) (hp : p < l.length) (hc : clsC l[p] = k) : skipN l p k = skipN l (p + 1) k := by
  unfold skipN
  rw [List.drop_eq_getElem_cons hp, List.takeWhile_cons]
  simp [hc]; omega
theorem skipN_stop (l : List UInt8) (p : Nat) (k : Int) (hp : p < l.length) (hc : clsC l[p] ≠ k) : skipN l p k = p := by
  unfold skipN
  rw [List.drop_eq_getElem_cons hp, List.takeWhile_cons]
  simp [hc]
theorem skipN_end (l : List UInt8) (p : Nat) (k : Int) (hp : l.length ≤ p) : skipN l p k = p := by
  unfold skipN
  rw [List.drop_of_length_le hp]; simp
/-- a name is valid. -/
def nv (l : List UInt8) : Bool := decide (1 ≤ l.length) && decide (l.length ≤ 12) && l.all fun c => clsC c == 1
theorem skip_all (l : List UInt8) : (skipN l 0 1 = l.length) ↔ (l.all fun c => clsC c == 1) = true := by
  unfold skipN
  simp only [List.drop_zero, Nat.zero_add]
  induction l with
  | nil => simp
  | cons a l ih =>
    rw [List.takeWhile_cons, List.all_cons]
    by_cases h : (clsC a == 1) = true
    · rw [if_pos h, h, Bool.true_and, ← ih]; simp
    · rw [if_neg h]; simp at h; simp [h]

end Go.Proofs.YtbjlkdenkmbepaaGreatDoor
