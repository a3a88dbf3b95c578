/- What is proved here: What is proved here: small facts used by all later texts of this seat: hiding, Below over cells, the ranges test. What is proved here: words for slices that are read and rows that a call owns, and how they are kept. What is proved here: plain lemmas on lists of cells of fixed size, and classes of bytes. What is proved here: append of a slice that is read onto a row that the call owns, the source nil or not. What is proved here: a part of a string that is given as a list. What is proved here: a region whose order is drawn, whose own operations only read, and whose callees leave old memory as it was, walked once in the order of the text. What is proved here: contracts of the range test and of ViewValid, in the program and in the reference. No condition. -/
import Derived.Test.YtbjlkdenkmbepaaGreatDoorRows
import Derived.WalkKit
import Derived.WalkSpells
import Derived.WalkLawsBesides
import Derived.Lib.Hide
import Derived.Maps.AppendAt
import Derived.Deep.RegionLaw
import Derived.Deep.QuietTactic
import Derived.BigQuiet
namespace Go.Proofs.YtbjlkdenkmbepaaGreatDoor
open Go.RowKit

theorem bcell {W w1 : World} (hb : Below W.heap.size W w1) : (∀ b o, b < W.heap.size → w1.cell? ⟨b, o, none⟩ = W.cell? ⟨b, o, none⟩) ∧ (∀ b o, b < W.heap.size → w1.frozen? ⟨b, o, none⟩ = W.frozen? ⟨b, o, none⟩) :=
  ⟨fun b o h => hb.cell (p := ⟨b, o, none⟩) h, fun b o h => hb.frozen (p := ⟨b, o, none⟩) h⟩

theorem up_trans {a b c : World} (h : Below a.heap.size a b) (k : Below b.heap.size b c) : Below a.heap.size a c := h.trans (k.mono h.size)
theorem up_alloc {a b : World} (h : Below a.heap.size a b) (o : Obj) : Below a.heap.size a (b.alloc o) := h.alloc h.size o
theorem up_set {a b : World} (h : Below a.heap.size a b) (p : Addr) (u : Value) (hp : a.heap.size ≤ p.block) : Below a.heap.size a (b.setCell p u) := h.setCell hp u

theorem up_drewN {a b : World} (h : Below a.heap.size a b) (n : Nat) : Below a.heap.size a (b.drewN n) := ⟨h.os, h.tape, h.output, h.size, h.block⟩
theorem bBel {n : Nat} {w w' : World} (h : Below n w w' := by (repeat (first | exact Below.refl _ _ | assumption | refine Below.drew ?_ | refine up_drewN ?_ _ | refine up_alloc ?_ _ | refine up_set ?_ _ _ (by first | exact Nat.le_refl _ | (simp; done) | (simp; omega) | omega) | refine up_trans ?_ (by assumption)))) : Below n w w' := h
theorem up_c {w w1 : World} {b : Nat} {A : Array Value} (h : Below w.heap.size w w1) (hz : b < w.heap.size) (hc : ∀ o, w.cell? ⟨b, o, none⟩ = A[o]?) : ∀ o, w1.cell? ⟨b, o, none⟩ = A[o]? :=
  fun o => (h.cell (p := ⟨b, o, none⟩) hz).trans (hc o)
theorem up_f {w w1 : World} {b : Nat} (h : Below w.heap.size w w1) (hz : b < w.heap.size) (hc : ∀ o, w.frozen? ⟨b, o, none⟩ = false) : ∀ o, w1.frozen? ⟨b, o, none⟩ = false :=
  fun o => (h.frozen (p := ⟨b, o, none⟩) hz).trans (hc o)

/-- a byte of a string that is given as a list. -/
@[go_sem] theorem str_at (l : List UInt8) (k : Nat) (h : k < (ByteArray.mk l.toArray).size) : (ByteArray.mk l.toArray)[k]'h = l[k]'(show k < l.toArray.size from h) := rfl

@[go_sem] theorem str_app (a b : List UInt8) : (ByteArray.mk a.toArray) ++ (ByteArray.mk b.toArray) = ByteArray.mk (a ++ b).toArray := by
  apply ByteArray.ext
  simp [ByteArray.data_append]

/-- a number is in a range. -/
def inB (a lo hi : Int) : Bool := decide (lo ≤ a) && decide (a ≤ hi)
theorem inB_iff {a lo hi : Int} : inB a lo hi = true ↔ lo ≤ a ∧ a ≤ hi := by simp [inB]

theorem ret_int {k : IntKind} {a b : Int} (h : a = b) : Ending.returned (.int k a) = .returned (.int k b) := by rw [h]
theorem ret_bool {a b : Bool} (h : a = b) : Ending.returned (.bool a) = .returned (.bool b) := by rw [h]
end Go.Proofs.YtbjlkdenkmbepaaGreatDoor

namespace Go.Proofs.YtbjlkdenkmbepaaGreatDoor
open Go.RowKit

/-- The slice v has n elements of size cells each and reads as xs. -/
def Rd (w : World) (size : Nat) (v : Value) (n : Nat) (xs : List Value) : Prop :=
  xs.length = n * size ∧ n ≤ maxLen ∧ ∃ A c, v = .slice A n c ∧ n ≤ c ∧ (0 < n → ∃ b o, A = some ⟨b, o, none⟩ ∧ b < w.heap.size ∧ ∀ j u, xs[j]? = some u → w.cell? ⟨b, o + j, none⟩ = some u)

/-- v is a row of the call's own, from base on. -/
abbrev Own (w : World) (base : Nat) (e : TypeId) (size : Nat) (v : Value) (n : Nat) (xs : List Value) : Prop := w.ownsRow base e size v n xs

section
variable {w w' : World} {base size n : Nat} {e : TypeId} {v : Value} {xs : List Value}

theorem Rd.keep (h : Rd w size v n xs) (hs : w.heap.size ≤ w'.heap.size) (hk : ∀ b o, v.ownBlock = some b → b < w.heap.size → w'.cell? ⟨b, o, none⟩ = w.cell? ⟨b, o, none⟩) : Rd w' size v n xs := by
  obtain ⟨h1, h2, A, c, rfl, hnc, h3⟩ := h
  refine ⟨h1, h2, A, c, rfl, hnc, fun hn => ?_⟩
  obtain ⟨b, o, rfl, hb, hc⟩ := h3 hn
  exact ⟨b, o, rfl, by omega, fun j u hu => (hk b _ rfl hb).trans (hc j u hu)⟩
theorem Rd.up (h : Rd w size v n xs) (hb : Below w.heap.size w w') : Rd w' size v n xs :=
  h.keep hb.size fun b o _ hlt => hb.cell (p := ⟨b, o, none⟩) hlt
theorem Rd.alloc (h : Rd w size v n xs) (o : Obj) : Rd (w.alloc o) size v n xs := h.up (up_alloc (Below.refl _ _) o)
theorem Rd.grown {row : Option Nat} (h : Rd w size v n xs) (hg : w.grownBy w' row) (hne : v.ownBlock = none ∨ v.ownBlock ≠ row) : Rd w' size v n xs :=
  h.keep hg.size fun b o hv hlt => World.cell?_of_block (hg.block b hlt (by
    rcases hne with hne | hne
    · rw [hv] at hne; cases hne
    · rw [hv] at hne; exact hne))
theorem own_up (h : Own w base e size v n xs) (hb : Below w.heap.size w w') : Own w' base e size v n xs := by
  refine ⟨h.1, ?_⟩
  rcases h.2 with hn | ⟨g, cap, cur, rfl, hbg, hgg, rest⟩
  · exact .inl hn
  · refine .inr ⟨g, cap, cur, rfl, hbg, ?_, rest⟩
    rw [hb.block g (Array.getElem?_eq_some_iff.1 hgg).1]
    exact hgg
theorem own_base {base' : Nat} (h : Own w base e size v n xs) (hb : base' ≤ base) : Own w base' e size v n xs := by
  refine ⟨h.1, ?_⟩
  rcases h.2 with hn | ⟨g, cap, cur, hv, hbg, rest⟩
  · exact .inl hn
  · exact .inr ⟨g, cap, cur, hv, by omega, rest⟩
theorem own_len (h : Own w base e size v n xs) : n ≤ maxLen := by
  rcases h.2 with ⟨_, rfl⟩ | ⟨g, cap, cur, hv, hbg, _, h1, h2, _⟩
  · exact Nat.zero_le _
  · omega
theorem Rd.of_own (h : Own w base e size v n xs) : Rd w size v n xs := by
  refine ⟨h.1, own_len h, ?_⟩
  rcases h.2 with ⟨rfl, rfl⟩ | ⟨g, cap, cur, rfl, hbg, hgg, hnc, hcm, hcs, htake⟩
  · exact ⟨none, 0, rfl, Nat.le_refl _, fun h => absurd h (by omega)⟩
  · refine ⟨some ⟨g, 0, none⟩, cap, rfl, hnc, fun _ => ⟨g, 0, rfl, (Array.getElem?_eq_some_iff.1 hgg).1, fun j u hu => ?_⟩⟩
    have := h.cells (g := g) rfl j u hu
    have hadd : (⟨g, 0, none⟩ : Addr).add j = ⟨g, 0 + j, none⟩ := by unfold Addr.add; split <;> simp_all
    rwa [hadd] at this
theorem own_ne {base' : Nat} {e' : TypeId} {size' n' : Nat} {v' : Value} {xs' : List Value} (h : Own w base e size v n xs) (h' : Own w' base' e' size' v' n' xs') (hb : w.heap.size ≤ base') : v.ownBlock = none ∨ v.ownBlock ≠ v'.ownBlock := by
  cases hv : v.ownBlock with
  | none => exact .inl rfl
  | some k =>
    refine .inr fun he => ?_
    have h1 := (h.lt k hv).2
    have h2 := (h'.lt k he.symm).1
    omega
theorem own_lt {B : Nat} (h : Own w base e size v n xs) (hb : B ≤ base) : ∀ k, v.ownBlock = some k → B ≤ k := fun k hk => by
  have := (h.lt k hk).1; omega
end
theorem up_grown {a b c : World} {row : Option Nat} (h : Below a.heap.size a b) (hg : b.grownBy c row) (hr : ∀ k, row = some k → a.heap.size ≤ k) : Below a.heap.size a c := h.grown hg h.size hr

/-- the cells of a block that was just made. -/
theorem cells_new (w : World) (cs : List Value) (t : TypeId) : ∀ j u, cs[j]? = some u → (w.alloc (.cells cs.toArray t)).cell? ((⟨w.heap.size, 0, none⟩ : Addr).add j) = some u := by
  intro j u hu
  have hadd : (⟨w.heap.size, 0, none⟩ : Addr).add j = ⟨w.heap.size, j, none⟩ := by unfold Addr.add; split <;> simp_all
  rw [hadd, World.cell?_alloc_new]
  simpa using hu

section
variable {a b c : World} {g : Nat} {row : Option Nat}
theorem gb_trans (h : a.grownBy b row) (k : b.grownBy c row) : a.grownBy c row :=
  ⟨k.os.trans h.os, k.tape.trans h.tape, k.output.trans h.output, Nat.le_trans h.size k.size, fun i hi hne => (k.block i (Nat.lt_of_lt_of_le hi h.size) hne).trans (h.block i hi hne)⟩
theorem gb_alloc (h : a.grownBy b row) (o : Obj) : a.grownBy (b.alloc o) row := gb_trans h (World.grownBy_alloc b o row)
theorem gb_drewN (h : a.grownBy b row) (n : Nat) : a.grownBy (b.drewN n) row := ⟨h.os, h.tape, h.output, h.size, h.block⟩
theorem gb_drew (h : a.grownBy b row) : a.grownBy b.drew row := ⟨h.os, h.tape, h.output, h.size, h.block⟩
theorem gb_set (h : a.grownBy b row) (p : Addr) (u : Value) (hp : a.heap.size ≤ p.block) : a.grownBy (b.setCell p u) row :=
  ⟨h.os, h.tape, h.output, by simpa [World.setCell] using h.size, fun i hi hne => (Below.heap_setCell b p u i (by omega)).trans (h.block i hi hne)⟩
theorem gb_here {x : Nat} (h : a.grownBy b (some x)) {p : Addr} (hp : p.block = x) (u : Value) : a.grownBy (b.setCell p u) (some x) :=
  ⟨h.os, h.tape, h.output, by simpa [World.setCell] using h.size, fun i hi hne => (Below.heap_setCell b p u i (fun e => hne (by rw [e, hp]))).trans (h.block i hi hne)⟩
theorem gb_below (h : a.grownBy b row) (k : Below b.heap.size b c) : a.grownBy c row :=
  gb_trans h ⟨k.os, k.tape, k.output, k.size, fun i hi _ => k.block i hi⟩
theorem gup_c {A : Array Value} {x : Nat} (h : a.grownBy b (some g)) (hz : x < a.heap.size) (hn : x ≠ g) (hc : ∀ o, a.cell? ⟨x, o, none⟩ = A[o]?) : ∀ o, b.cell? ⟨x, o, none⟩ = A[o]? :=
  fun o => (World.cell?_of_block (a := ⟨x, o, none⟩) (h.block x hz (fun e => by injection e; omega))).trans (hc o)
theorem gup_f {x : Nat} (h : a.grownBy b (some g)) (hz : x < a.heap.size) (hn : x ≠ g) (hc : ∀ o, a.frozen? ⟨x, o, none⟩ = false) : ∀ o, b.frozen? ⟨x, o, none⟩ = false :=
  fun o => (World.frozen?_of_block (a := ⟨x, o, none⟩) (h.block x hz (fun e => by injection e; omega))).trans (hc o)
theorem gup_own {base size n : Nat} {e : TypeId} {v : Value} {xs : List Value} (h : Own a base e size v n xs) (hG : a.grownBy b (some g)) (hn : g < base) : Own b base e size v n xs :=
  h.kept hG (by
    cases hv : v.ownBlock with
    | none => exact .inl rfl
    | some k => exact .inr (fun e => by have := (h.lt k hv).1; injection e; omega))
end
theorem own_setn {w : World} {base size n : Nat} {e : TypeId} {v : Value} {xs : List Value} (h : Own w base e size v n xs) (p : Addr) (u : Value) (hp : ∀ g, v.ownBlock = some g → g ≠ p.block) : Own (w.setCell p u) base e size v n xs := by
  refine ⟨h.1, ?_⟩
  rcases h.2 with hn | ⟨g, cap, cur, rfl, hbg, hgg, rest⟩
  · exact .inl hn
  · refine .inr ⟨g, cap, cur, rfl, hbg, ?_, rest⟩
    rw [Below.heap_setCell w p u g (hp g rfl)]
    exact hgg

end Go.Proofs.YtbjlkdenkmbepaaGreatDoor

namespace Go.Proofs.YtbjlkdenkmbepaaGreatDoor
open Go.RowKit

/-- a string. -/
abbrev S (l : List UInt8) : Value := .string ⟨l.toArray⟩

theorem flat_len {α β : Type} (f : α → List β) (m : Nat) (hf : ∀ a, (f a).length = m) (l : List α) : (l.flatMap f).length = l.length * m := by
  induction l with
  | nil => simp
  | cons a l ih => rw [List.flatMap_cons, List.length_append, hf, ih, List.length_cons, Nat.add_mul, Nat.one_mul, Nat.add_comm]
theorem flat_at {α β : Type} (f : α → List β) (m : Nat) (hf : ∀ a, (f a).length = m) : ∀ (l : List α) (k j : Nat) (a : α), l[k]? = some a → j < m → (l.flatMap f)[k * m + j]? = (f a)[j]?
  | [], k, j, a, h, _ => by simp at h
  | x :: l, 0, j, a, h, hj => by
    simp at h
    subst h
    rw [List.flatMap_cons, Nat.zero_mul, Nat.zero_add, List.getElem?_append_left (by rw [hf]; exact hj)]
  | x :: l, k + 1, j, a, h, hj => by
    simp at h
    rw [List.flatMap_cons, List.getElem?_append_right (by rw [hf, Nat.add_mul]; omega), hf, show (k + 1) * m + j - m = k * m + j by rw [Nat.add_mul]; omega]
    exact flat_at f m hf l k j a h hj
theorem flat_take {α β : Type} (f : α → List β) (m : Nat) (hf : ∀ a, (f a).length = m) : ∀ (l : List α) (k : Nat), (l.take k).flatMap f = (l.flatMap f).take (k * m)
  | [], k => by simp
  | x :: l, 0 => by simp
  | x :: l, k + 1 => by
    have h1 : List.take ((k + 1) * m) (f x) = f x := List.take_of_length_le (by rw [hf, Nat.add_mul]; omega)
    have h2 : (k + 1) * m - (f x).length = k * m := by rw [hf, Nat.add_mul]; omega
    rw [List.take_succ_cons, List.flatMap_cons, List.flatMap_cons, flat_take f m hf l k, List.take_append, h1, h2]
theorem flat_drop {α β : Type} (f : α → List β) (m : Nat) (hf : ∀ a, (f a).length = m) : ∀ (l : List α) (k : Nat), (l.drop k).flatMap f = (l.flatMap f).drop (k * m)
  | [], k => by simp
  | x :: l, 0 => by simp
  | x :: l, k + 1 => by
    have h1 : List.drop ((k + 1) * m) (f x) = [] := List.drop_of_length_le (by rw [hf, Nat.add_mul]; omega)
    have h2 : (k + 1) * m - (f x).length = k * m := by rw [hf, Nat.add_mul]; omega
    rw [List.drop_succ_cons, List.flatMap_cons, flat_drop f m hf l k, List.drop_append, h1, h2, List.nil_append]

/-- a slice of things of m cells each, that reads as bs. -/
def RdL {α : Type} (w : World) (m : Nat) (f : α → List Value) (v : Value) (bs : List α) : Prop := Rd w m v bs.length (bs.flatMap f)
theorem RdL.up {α : Type} {w w' : World} {m : Nat} {f : α → List Value} {v : Value} {bs : List α} (h : RdL w m f v bs) (hb : Below w.heap.size w w') : RdL w' m f v bs := Rd.up h hb
theorem RdL.cells {α : Type} {w : World} {m : Nat} {f : α → List Value} (hf : ∀ a, (f a).length = m) {A : Option Addr} {n c : Nat} {bs : List α} (h : RdL w m f (.slice A n c) bs) {k : Nat} (hk : k < bs.length) :
    ∃ b o, A = some ⟨b, o, none⟩ ∧ b < w.heap.size ∧ ∀ j u, (f bs[k])[j]? = some u → w.cell? ⟨b, o + k * m + j, none⟩ = some u := by
  obtain ⟨_, _, A', c', he, _, hA⟩ := h
  injection he with e1 e2 e3
  subst e1
  obtain ⟨b, o, rfl, hb, hc⟩ := hA (by omega)
  refine ⟨b, o, rfl, hb, fun j u hu => ?_⟩
  have hj : j < m := by
    have := (List.getElem?_eq_some_iff.1 hu).1
    rwa [hf] at this
  rw [Nat.add_assoc]
  exact hc _ _ ((flat_at f m hf bs k j _ (List.getElem?_eq_getElem hk) hj).trans hu)
theorem RdL.form {α : Type} {w : World} {m : Nat} {f : α → List Value} {v : Value} {bs : List α} (h : RdL w m f v bs) : ∃ A c, v = .slice A bs.length c ∧ bs.length ≤ maxLen ∧ bs.length ≤ c := by
  obtain ⟨_, h1, A, c, rfl, h2, _⟩ := h
  exact ⟨A, c, rfl, h1, h2⟩
theorem RdL.of_own {α : Type} {w : World} {base m : Nat} {e : TypeId} {f : α → List Value} {v : Value} {bs : List α} (h : Own w base e m v bs.length (bs.flatMap f)) : RdL w m f v bs := Rd.of_own h

/-- the class of a byte. -/
def cls (c : Int) : Int := if c = 32 ∨ c = 10 then 0 else if (48 ≤ c ∧ c ≤ 57) ∨ (97 ≤ c ∧ c ≤ 122) ∨ (65 ≤ c ∧ c ≤ 90) then 1 else 2
def clsC (c : UInt8) : Int := cls (c.toNat : Int)
/-- the first place from p on at which a byte is not of a class. -/
def skipN (l : List UInt8) (p : Nat) (k : Int) : Nat := p + ((l.drop p).takeWhile fun c => clsC c == k).length
theorem skipN_le (l : List UInt8) (p : Nat) (k : Int) (hp : p ≤ l.length) : skipN l p k ≤ l.length := by
  unfold skipN
  have := (List.takeWhile_sublist (l := l.drop p) (fun c => clsC c == k)).length_le
  rw [List.length_drop] at this
  omega
theorem skipN_step (l : List UInt8) (p : Nat) (k : Int) (hp : p < l.length) (hc : clsC l[p] = k) : skipN l p k = skipN l (p + 1) k := by
  unfold skipN
  rw [List.drop_eq_getElem_cons hp, List.takeWhile_cons]
  simp [hc]; omega
theorem skipN_stop (l : List UInt8) (p : Nat) (k : Int) (hp : p < l.length) (hc : clsC l[p] ≠ k) : skipN l p k = p := by
  unfold skipN
  rw [List.drop_eq_getElem_cons hp, List.takeWhile_cons]
  simp [hc]
theorem skipN_end (l : List UInt8) (p : Nat) (k : Int) (hp : l.length ≤ p) : skipN l p k = p := by
  unfold skipN
  rw [List.drop_of_length_le hp]; simp
end Go.Proofs.YtbjlkdenkmbepaaGreatDoor

namespace Go.Proofs.YtbjlkdenkmbepaaGreatDoor
open Go.RowKit

section
variable {P : Program} (w : World)
theorem run_append_of_nil (base : Nat) (t ty e : TypeId) (i : TypeInfo) (size : Nat) (ht : P.underlying t = some (.slice e)) (hi : P.info? e = some i)
    (v : Value) (n : Nat) (xs : List Value) (hown : w.ownsRow base e size v n xs) (c : Nat) : (Builtin.append_ #[t, t] ty #[v, .slice none 0 c]).run P w = .ok v w := by
  rcases hown.2 with ⟨rfl, rfl⟩ | ⟨g, cap, cur, rfl, _, _, hnc, _⟩
  · simp [Builtin.append_, run_underlying ht, sizeOf, typeInfo, hi, Builtin.lenOf, Builtin.firstCells]
  · simp [Builtin.append_, run_underlying ht, sizeOf, typeInfo, hi, Builtin.lenOf, Builtin.firstCells, hnc, storeCells]

theorem run_append_any (base : Nat) (t ty e : TypeId) (i : TypeInfo) (z : Value) (size bytes : Nat) (ht : P.underlying t = some (.slice e)) (hi : P.info? e = some i) (hz : i.zero = some z)
    (hsize : i.size = size) (hby : i.bytes = bytes) (hzs : z.cells.size = size) (hsz : 0 < size)
    (v : Value) (n : Nat) (xs : List Value) (hown : w.ownsRow base e size v n xs)
    (u : Value) (m : Nat) (news : List Value) (hr : Rd w size u m news) (h1 : ∀ x ∈ news, x.oneCell' = true)
    (h63 : n + m ≤ maxLen) (hbytes : (n + m) * bytes ≤ 140737488355328) (hbase : base ≤ w.heap.size) :
    ∃ v' w', (Builtin.append_ #[t, t] ty #[v, u]).run P w = .ok v' w' ∧ w'.ownsRow base e size v' (n + m) (xs ++ news) ∧ w.grownBy w' v.ownBlock := by
  obtain ⟨hl, _, A, c, rfl, _, hA⟩ := hr
  rcases Nat.eq_zero_or_pos m with h0 | h0
  · subst h0
    have hn : news = [] := List.eq_nil_of_length_eq_zero (by simpa using hl)
    subst hn
    rcases A with _ | ad
    · exact ⟨v, w, run_append_of_nil w base t ty e i size ht hi v n xs hown c, by simpa using hown, World.grownBy.refl w _⟩
    · obtain ⟨v', w', hrun, h2, h3, _, _⟩ := run_append_own_at (P := P) w base t ty e i z size bytes ht hi hz hsize hby hzs hsz v n xs hown ad 0 c [] hl (fun j x hx => by simp at hx) h1 h63 hbytes hbase
      exact ⟨v', w', hrun, h2, h3⟩
  · obtain ⟨b, o, rfl, _, hc⟩ := hA h0
    have hadd : ∀ j, (⟨b, o, none⟩ : Addr).add j = ⟨b, o + j, none⟩ := fun j => by unfold Addr.add; split <;> simp_all
    obtain ⟨v', w', hrun, h2, h3, _, _⟩ := run_append_own_at (P := P) w base t ty e i z size bytes ht hi hz hsize hby hzs hsz v n xs hown ⟨b, o, none⟩ m c news hl (fun j x hx => by rw [hadd]; exact hc j x hx) h1 h63 hbytes hbase
    exact ⟨v', w', hrun, h2, h3⟩

theorem wpList_append_any {ops : Array Oper} {rest : List Oper} {o : Oper} {a : Act} {Q : Exit → Act → World → Prop} (hgd : o.guard = none) (s x : Operand) (t : TypeId)
    (ho : o.op = .call { callee := .builtin .append, args := #[s, x], argTypes := #[t, t] })
    (base : Nat) (e : TypeId) (i : TypeInfo) (z : Value) (size bytes : Nat) (ht : P.underlying t = some (.slice e)) (hi : P.info? e = some i) (hz : i.zero = some z)
    (hsize : i.size = size) (hby : i.bytes = bytes) (hzs : z.cells.size = size) (hsz : 0 < size)
    (v : Value) (n : Nat) (xs : List Value) (hs : a.eval s = v) (hown : w.ownsRow base e size v n xs)
    (u : Value) (m : Nat) (news : List Value) (hx : a.eval x = u) (hr : Rd w size u m news) (h1 : ∀ x ∈ news, x.oneCell' = true)
    (h63 : n + m ≤ maxLen) (hbytes : (n + m) * bytes ≤ 140737488355328) (hbase : base ≤ w.heap.size)
    (h : ∀ v' w', w'.ownsRow base e size v' (n + m) (xs ++ news) → w.grownBy w' v.ownBlock → wpList P ops Q rest (a.put o.dst v') w') : wpList P ops Q (o :: rest) a w := by
  refine wpList_plain hgd fun K hK => ?_
  obtain ⟨v', w', hrun, h2, h3⟩ := run_append_any (P := P) w base t o.type e i z size bytes ht hi hz hsize hby hzs hsz v n xs hown u m news hr h1 h63 hbytes hbase
  unfold Oper.wp execOp
  simp only [ho, resolve, invoke, builtin, Sem.run_bind, Sem.run_pure, Result.andThen_ok, List.map_toArray, List.map_cons, List.map_nil, hs, hx, hrun]
  exact hK _ _ (h v' w' h2 h3)
/-- the same as one step of a region that draws its order. -/
theorem step_append_any {ops : Array Oper} {o : Oper} {a : Act} {K : Act → World → Prop} {Q : Exit → Act → World → Prop} {E : Prop} (hgd : o.guard = none) (s x : Operand) (t : TypeId)
    (ho : o.op = .call { callee := .builtin .append, args := #[s, x], argTypes := #[t, t] })
    (base : Nat) (e : TypeId) (i : TypeInfo) (z : Value) (size bytes : Nat) (ht : P.underlying t = some (.slice e)) (hi : P.info? e = some i) (hz : i.zero = some z)
    (hsize : i.size = size) (hby : i.bytes = bytes) (hzs : z.cells.size = size) (hsz : 0 < size)
    (v : Value) (n : Nat) (xs : List Value) (hs : a.eval s = v) (hown : w.ownsRow base e size v n xs)
    (u : Value) (m : Nat) (news : List Value) (hx : a.eval x = u) (hr : Rd w size u m news) (h1 : ∀ x ∈ news, x.oneCell' = true)
    (h63 : n + m ≤ maxLen) (hbytes : (n + m) * bytes ≤ 140737488355328) (hbase : base ≤ w.heap.size)
    (h : ∀ v' w', w'.ownsRow base e size v' (n + m) (xs ++ news) → w.grownBy w' v.ownBlock → K (a.put o.dst v') w') : if Region.wanted o (yielded ops a.tmps) = true then Oper.wp P o a w K Q else E := by
  have hw : Region.wanted o (yielded ops a.tmps) = true := by simp [Region.wanted, hgd]
  rw [if_pos hw]
  obtain ⟨v', w', hrun, h2, h3⟩ := run_append_any (P := P) w base t o.type e i z size bytes ht hi hz hsize hby hzs hsz v n xs hown u m news hr h1 h63 hbytes hbase
  unfold Oper.wp execOp
  simp only [ho, resolve, invoke, builtin, Sem.run_bind, Sem.run_pure, Result.andThen_ok, List.map_toArray, List.map_cons, List.map_nil, hs, hx, hrun]
  exact h v' w' h2 h3
end

end Go.Proofs.YtbjlkdenkmbepaaGreatDoor

namespace Go.Proofs.YtbjlkdenkmbepaaGreatDoor
open Go.RowKit

@[go_sem] theorem str_ext (l : List UInt8) (a b : Nat) : (ByteArray.mk l.toArray).extract a b = ByteArray.mk ((l.take b).drop a).toArray := by
  apply ByteArray.ext
  simp [ByteArray.data_extract, List.drop_take]

end Go.Proofs.YtbjlkdenkmbepaaGreatDoor

namespace Go.Proofs.YtbjlkdenkmbepaaGreatDoor
open Go.RowKit

/-- the worlds in which all that w holds is as it was. -/
def UpW (w : World) : Type := { w' : World // Below w.heap.size w w' }
def UpW.at (w : World) (x : UpW w) : World := x.1
theorem UpW.below {w : World} (x : UpW w) : Below w.heap.size w (x.at w) := x.2
theorem UpW.nonempty (w : World) : Nonempty (UpW w) := ⟨⟨w, Below.refl _ _⟩⟩
theorem UpW.mk_at {w w' : World} (h : Below w.heap.size w w') : ∃ x : UpW w, w' = x.at w := ⟨⟨w', h⟩, rfl⟩
@[go_sem] theorem UpW.cell (w : World) (x : UpW w) (b o : Nat) (h : b < w.heap.size) : (x.at w).cell? ⟨b, o, none⟩ = w.cell? ⟨b, o, none⟩ := x.2.cell (p := ⟨b, o, none⟩) h

theorem wp_region_up_lit {P : Program} {id : Nat} {Q : Exit → Act → World → Prop} {a : Act} {w : World} {l : List Oper} (hm : P.follows .mixedOrders = true) (hB : Region.lexB .any l.toArray = true)
    (h : wpQuiet P l.toArray (fun w' => ∃ x : UpW w, w' = x.at w) (fun a' => ∀ w', (∃ x : UpW w, w' = x.at w) → Q .normal a' w') l a) : (Code.region id l.toArray true).wp P Q a w :=
  wp_region_quiet (C := fun w' => ∃ x : UpW w, w' = x.at w) hm hB (UpW.mk_at ⟨rfl, rfl, rfl, Nat.le_refl _, fun _ _ => rfl⟩) (by simpa using h)

theorem calls_up {P : Program} {f : FuncId} {args : Array Value} {w : World} {x : UpW w} {v : Value}
    (h : Calls P f args (x.at w) fun e w' => e = .returned v ∧ Below (x.at w).heap.size (x.at w) w') : Calls P f args (x.at w) fun e w'' => e = .returned v ∧ ∃ y : UpW w, w'' = y.at w :=
  h.mono fun _ _ ⟨he, hb⟩ => ⟨he, UpW.mk_at (up_trans x.2 hb)⟩
theorem UpW.out {w w' : World} (h : ∃ x : UpW w, w' = x.at w) : Below w.heap.size w w' := by
  obtain ⟨x, rfl⟩ := h
  exact x.2

end Go.Proofs.YtbjlkdenkmbepaaGreatDoor

namespace Go.Proofs.YtbjlkdenkmbepaaGreatDoor
open Go.RowKit

theorem l1In_any (a lo hi : Int) (w : World) :
    Calls Tryz.prog 79 #[.int .i64 a, .int .i64 lo, .int .i64 hi] w fun e w' => e = .returned (.bool (inB a lo hi)) ∧ w = w' := by
  by_cases h1 : lo ≤ a <;> by_cases h2 : a ≤ hi
  all_goals
    have e : inB a lo hi = (decide (lo ≤ a) && decide (a ≤ hi)) := rfl
    simp only [h1, h2, decide_true, decide_false, Bool.and_true, Bool.and_false, Bool.and_self] at e
    rw [e]
    clear e
    go_enter Tryz.func79, Tryz.ntmps79
    go_wp2
    go_ret
    exact ⟨rfl, rfl⟩

theorem in_any (a lo hi : Int) (w : World) :
    Calls Tryz.prog 87 #[.int .i64 a, .int .i64 lo, .int .i64 hi] w fun e w' => e = .returned (.bool (inB a lo hi)) ∧ w = w' := by
  by_cases h1 : lo ≤ a <;> by_cases h2 : a ≤ hi
  all_goals
    have e : inB a lo hi = (decide (lo ≤ a) && decide (a ≤ hi)) := rfl
    simp only [h1, h2, decide_true, decide_false, Bool.and_true, Bool.and_false, Bool.and_self] at e
    rw [e]
    clear e
    go_enter Tryz.func87, Tryz.ntmps87
    go_wp2
    go_ret
    exact ⟨rfl, rfl⟩

end Go.Proofs.YtbjlkdenkmbepaaGreatDoor
