/- What is proved here: words for the law on drawn regions: worlds that go on, facts on numbers, strings and rows. No condition. -/
import Derived.Test.YtbjlkdenkmbepaaGreatDoorEver
import Derived.Test.YtbjlkdenkmbepaaGreatDoorFlat
import Derived.Test.YtbjlkdenkmbepaaGreatDoorDraw1
namespace Go.Proofs.YtbjlkdenkmbepaaGreatDoor
open Go.RowKit

/-- the world goes on: old blocks but those of L are as they were. -/
structure RS (L : List Nat) (w w' : World) : Prop where
  os : w'.os = w.os
  tape : w'.tape = w.tape
  output : w'.output = w.output
  size : w.heap.size ≤ w'.heap.size
  block : ∀ i, i < w.heap.size → i ∉ L → w'.heap[i]? = w.heap[i]?

section
variable {L : List Nat} {a b c : World} {P : Program} {M : World → Prop} {w w' : World} {v : Value}
theorem RS.refl (L : List Nat) (a : World) : RS L a a := ⟨rfl, rfl, rfl, Nat.le_refl _, fun _ _ _ => rfl⟩
theorem RS.trans (h : RS L a b) (k : RS L b c) : RS L a c := ⟨k.os.trans h.os, k.tape.trans h.tape, k.output.trans h.output, Nat.le_trans h.size k.size, fun i hi hn => (k.block i (Nat.lt_of_lt_of_le hi h.size) hn).trans (h.block i hi hn)⟩
theorem RS.alloc (h : RS L a b) (o : Obj) : RS L a (b.alloc o) := h.trans (by
  have := World.grownBy_alloc b o none
  exact ⟨this.os, this.tape, this.output, this.size, fun i hi _ => this.block i hi (by simp)⟩)
theorem RS.drew (h : RS L a b) : RS L a b.drew := ⟨h.os, h.tape, h.output, h.size, h.block⟩
theorem RS.of_drew (h : RS L a.drew b) : RS L a b := ⟨h.os, h.tape, h.output, h.size, h.block⟩
theorem RS.set (h : RS L a b) (p : Addr) (u : Value) (hp : p.block ∈ L) : RS L a (b.setCell p u) := h.trans
  ⟨rfl, rfl, rfl, by simp [World.setCell], fun i _ hn => Below.heap_setCell b p u i (fun e => hn (e ▸ hp))⟩
theorem RS.grown {row : Option Nat} (h : RS L a b) (k : b.grownBy c row) (hr : ∀ g, row = some g → g ∈ L ∨ a.heap.size ≤ g) : RS L a c :=
  ⟨k.os.trans h.os, k.tape.trans h.tape, k.output.trans h.output, Nat.le_trans h.size k.size, fun i hi hn => (k.block i (Nat.lt_of_lt_of_le hi h.size) (fun e => by rcases hr i e.symm with h | h; exact hn h; omega)).trans (h.block i hi hn)⟩
theorem RS.below (h : RS L a b) (k : Below b.heap.size b c) : RS L a c :=
  h.trans ⟨k.os, k.tape, k.output, k.size, fun i hi _ => k.block i hi⟩
theorem RS.to_grown {g : Nat} (h : RS [g] a b) : a.grownBy b (some g) := ⟨h.os, h.tape, h.output, h.size, fun i hi hn => h.block i hi (by simpa using fun e => hn (by rw [e]))⟩
theorem RS.cell (h : RS L a b) {x : Nat} (hx : x < a.heap.size) (hn : x ∉ L) (o : Nat) : b.cell? ⟨x, o, none⟩ = a.cell? ⟨x, o, none⟩ := World.cell?_of_block (a := ⟨x, o, none⟩) (h.block x hx hn)

theorem RS.to_below (h : RS [] a b) : Below a.heap.size a b := ⟨h.os, h.tape, h.output, h.size, fun i hi => h.block i hi (by simp)⟩
/-- a row of the call's own, from base on. -/
def tOwn (base : Nat) (e : TypeId) (size : Nat) (n : Nat) (xs : List Value) : Ty (RS []) := ⟨fun v w => Own w base e size v n xs, fun _ _ _ hR h => own_up h hR.to_below⟩
/-- such a row beside whether it was done. -/
def tOwnOk (base : Nat) (e : TypeId) (size : Nat) (n : Nat) (xs : List Value) (ok : Bool) : Ty (RS []) := ⟨fun v w => ∃ u, v = .tuple #[u, .bool ok] ∧ Own w base e size u n xs, fun _ _ _ hR ⟨u, hv, h⟩ => ⟨u, hv, own_up h hR.to_below⟩⟩
theorem row_new (w : World) (t : TypeId) (xs : List Value) (e : Value → Prop) (h : ∀ x ∈ xs, e x) : ∀ j, j < xs.length → ∃ u, (w.alloc (.cells xs.toArray t)).cell? ⟨w.heap.size, j, none⟩ = some u ∧ e u := fun j hj => by
  refine ⟨xs[j], ?_, h _ (List.getElem_mem _)⟩
  rw [World.cell?_alloc_new]
  simp [hj]
def isI (lo hi : Int) (u : Value) : Prop := ∃ x : Int, u = .int .i64 x ∧ lo ≤ x ∧ x ≤ hi
def isS (n : Nat) (u : Value) : Prop := ∃ l : List UInt8, u = S l ∧ l.length ≤ n
def tOf (L : List Nat) (e : Value → Prop) : Ty (RS L) := ⟨fun v _ => e v, fun _ _ _ _ h => h⟩
def tEq (L : List Nat) (u : Value) : Ty (RS L) := ⟨fun v _ => v = u, fun _ _ _ _ h => h⟩
/-- a row of n elements of one cell each, made within the region. -/
def tRow (L : List Nat) (e : Value → Prop) (n : Nat) : Ty (RS L) := ⟨fun v w => ∃ b, v = .slice (some ⟨b, 0, none⟩) n n ∧ b ∉ L ∧ b < w.heap.size ∧ ∀ j, j < n → ∃ u, w.cell? ⟨b, j, none⟩ = some u ∧ e u, by
  rintro v w w' hR ⟨b, rfl, h1, h2, h3⟩
  exact ⟨b, rfl, h1, Nat.lt_of_lt_of_le h2 hR.size, fun j hj => by obtain ⟨u, hu, he⟩ := h3 j hj; exact ⟨u, (hR.cell h2 h1 j).trans hu, he⟩⟩⟩
def tPtr (L : List Nat) (e : Value → Prop) : Ty (RS L) := ⟨fun v w => ∃ b o, v = .pointer (some ⟨b, o, none⟩) ∧ b ∉ L ∧ b < w.heap.size ∧ ∃ u, w.cell? ⟨b, o, none⟩ = some u ∧ e u, by
  rintro v w w' hR ⟨b, o, rfl, h1, h2, u, h3, h4⟩
  exact ⟨b, o, rfl, h1, Nat.lt_of_lt_of_le h2 hR.size, u, (hR.cell h2 h1 o).trans h3, h4⟩⟩

variable {R : World → World → Prop} {T : Ty R}
/-- what is asked, behind a variable. -/
def GoodK (P : Program) (K : Value → World → Prop) : Result Next → Prop
  | .ok (.value v) w' => K v w'
  | .ok .skip w' => K undef w'
  | .ok (.enter f args) w' => Calls P f args w' fun e w'' => ∃ v, e = .returned v ∧ K v w''
  | _ => False
@[go_sem] theorem good_value {K : Value → World → Prop} : GoodK P K (.ok (.value v) w') = K v w' := rfl
@[go_sem] theorem good_skip {K : Value → World → Prop} : GoodK P K (.ok .skip w') = K undef w' := rfl
@[go_sem] theorem good_enter {K : Value → World → Prop} (f : FuncId) (args : Array Value) : GoodK P K (.ok (.enter f args) w') = Calls P f args w' (fun e w'' => ∃ v, e = .returned v ∧ K v w'') := rfl
theorem good_of {r : Result Next} (h : ∀ K : Value → World → Prop, (∀ v w'', R w w'' → M w'' → T.p v w'' → K v w'') → GoodK P K r) : Good P R M T w r := by
  have := h (fun v w'' => R w w'' ∧ M w'' ∧ T.p v w'') (fun v w'' h1 h2 h3 => ⟨h1, h2, h3⟩)
  cases r with
  | ok n w' => cases n <;> exact this
  | halt x w' => exact this

end
theorem Rdr.alloc {w : World} {g n p : Nat} {zs : List Int} (h : Rdr w g n zs p) (o : Obj) : Rdr (w.alloc o) g n zs p := h.up (up_alloc (Below.refl _ _) o)
/-- the running fact of a drawing region: the reader has moved C steps an operation at most. -/
def MR (g n : Nat) (zs : List Int) (p C k : Nat) (w : World) : Prop := ∃ q, q ≤ p + C * k ∧ Rdr w g n zs q
theorem MR.next {g n : Nat} {zs : List Int} {p C k : Nat} {w : World} (h : MR g n zs p C k w) : MR g n zs p C (k + 1) w := by
  obtain ⟨q, hq, h⟩ := h
  exact ⟨q, by rw [Nat.mul_add]; omega, h⟩
theorem MR.alloc {g n : Nat} {zs : List Int} {p C k : Nat} {w : World} (h : MR g n zs p C k w) (o : Obj) : MR g n zs p C k (w.alloc o) := by
  obtain ⟨q, hq, h⟩ := h
  exact ⟨q, hq, h.up (up_alloc (Below.refl _ _) o)⟩
theorem MR.drew {g n : Nat} {zs : List Int} {p C k : Nat} {w : World} (h : MR g n zs p C k w) : MR g n zs p C k w.drew := by
  obtain ⟨q, hq, h⟩ := h
  exact ⟨q, hq, h.up ⟨rfl, rfl, rfl, Nat.le_refl _, fun _ _ => rfl⟩⟩

end Go.Proofs.YtbjlkdenkmbepaaGreatDoor
