/- What is proved here: words for drawn regions that read a code, call for a history, and store it in the box d that held V0. No condition. -/
import Derived.Test.YtjcdklkdpcncgaaEverV
import Derived.Test.YtjcdklkdpcncgaaEverH
import Derived.Test.YtjcdklkdpcncgaaHNx
namespace Go.Proofs.Ytjcdklkdpcncgaa
open Go.RowKit
set_option linter.unusedVariables false

def isCh (v : Value) : Prop := ∃ (a c : Int) (t : List UInt8), v = .agg #[.int .i64 a, .int .i64 c, S t] ∧ t.length ≤ 260
def isStr (v : Value) : Prop := ∃ t : List UInt8, v = S t
def isInt (v : Value) : Prop := ∃ x : Int, v = .int .i64 x
/-- the world goes on: old blocks but g and d are as they were; block d is as it was, or it held V0 and holds something else now. -/
structure RG (g d : Nat) (V0 : Value) (a b : World) : Prop where
  os : b.os = a.os
  tape : b.tape = a.tape
  output : b.output = a.output
  size : a.heap.size ≤ b.heap.size
  block : ∀ i, i < a.heap.size → i ≠ g → i ≠ d → b.heap[i]? = a.heap[i]?
  dd : b.heap[d]? = a.heap[d]? ∨ a.cell? ⟨d, 0, none⟩ = some V0
section
variable {g d : Nat} {V0 : Value} {a b c : World}
theorem RG.refl (g d : Nat) (V0 : Value) (a : World) : RG g d V0 a a := ⟨rfl, rfl, rfl, Nat.le_refl _, fun _ _ _ _ => rfl, .inl rfl⟩
theorem RG.trans (h : RG g d V0 a b) (k : RG g d V0 b c) : RG g d V0 a c := ⟨k.os.trans h.os, k.tape.trans h.tape, k.output.trans h.output, Nat.le_trans h.size k.size,
  fun i hi h1 h2 => (k.block i (Nat.lt_of_lt_of_le hi h.size) h1 h2).trans (h.block i hi h1 h2), by
  rcases h.dd with h1 | h1
  · rcases k.dd with k1 | k1
    · exact .inl (k1.trans h1)
    · exact .inr ((World.cell?_of_block (a := ⟨d, 0, none⟩) h1).symm.trans k1)
  · exact .inr h1⟩
theorem RG.of_drew (h : RG g d V0 a.drew b) : RG g d V0 a b := ⟨h.os, h.tape, h.output, h.size, h.block, h.dd⟩
theorem RG.of_below (hd : d < b.heap.size) (k : Below b.heap.size b c) : RG g d V0 b c := ⟨k.os, k.tape, k.output, k.size, fun i hi _ _ => k.block i hi, .inl (k.block d hd)⟩
theorem RG.of_grown (hd : d < b.heap.size) (hg : d ≠ g) (k : b.grownBy c (some g)) : RG g d V0 b c := ⟨k.os, k.tape, k.output, k.size, fun i hi h1 _ => k.block i hi (by simpa using h1), .inl (k.block d hd (by simpa using hg))⟩
theorem RG.own {bs n : Nat} {v : Value} {e : TypeId} {size : Nat} {xs : List Value} (h : RG g d V0 a b) (ho : Own a bs e size v n xs) (h1 : v.ownBlock ≠ some g) (h2 : v.ownBlock ≠ some d) : Own b bs e size v n xs := by
  refine ⟨ho.1, ?_⟩
  rcases ho.2 with hn | ⟨x, cap, cur, rfl, hbg, hgg, rest⟩
  · exact .inl hn
  · refine .inr ⟨x, cap, cur, rfl, hbg, ?_, rest⟩
    rw [h.block x (Array.getElem?_eq_some_iff.1 hgg).1 (fun e => h1 (by rw [← e]; rfl)) (fun e => h2 (by rw [← e]; rfl))]
    exact hgg
theorem RG.to_grown {w : World} (h : RG g d V0 a b) (hw : w.grownBy a (some g)) (hd : w.heap.size ≤ d) : w.grownBy b (some g) :=
  ⟨h.os.trans hw.os, h.tape.trans hw.tape, h.output.trans hw.output, Nat.le_trans hw.size h.size, fun i hi h1 => (h.block i (Nat.lt_of_lt_of_le hi hw.size) (by simpa using h1) (by omega)).trans (hw.block i hi h1)⟩
theorem own_near {w : World} {bs n x : Nat} {v : Value} {e : TypeId} {size : Nat} {xs : List Value} (ho : Own w bs e size v n xs) (h : w.heap.size ≤ x) : v.ownBlock ≠ some x := fun e => by
  have := (ho.lt x e).2
  omega
theorem own_far {w : World} {bs n x : Nat} {v : Value} {e : TypeId} {size : Nat} {xs : List Value} (ho : Own w bs e size v n xs) (h : x < bs) : v.ownBlock ≠ some x := fun e => by
  have := (ho.lt x e).1
  omega
end
section
variable (B g d : Nat) (hg : g < B) (hd : d < B) (V0 : Value)
def gAny : Ty (RG g d V0) := ⟨fun _ _ => True, fun _ _ _ _ h => h⟩
def gOf (e : Value → Prop) : Ty (RG g d V0) := ⟨fun v _ => e v, fun _ _ _ _ h => h⟩
def gEq (u : Value) : Ty (RG g d V0) := ⟨fun v _ => v = u, fun _ _ _ _ h => h⟩
/-- what the call gives. -/
def gTup : Ty (RG g d V0) := ⟨fun v w => ∃ u ms a t ok o, v = .tuple #[.agg #[u, .int .i64 a], S t, .bool ok] ∧ OwnM w B u ms ∧ HGood ms a t o, fun _ _ _ hR ⟨u, ms, a, t, ok, o, hv, h, hh⟩ => ⟨u, ms, a, t, ok, o, hv, hR.own h (own_far h hg) (own_far h hd), hh⟩⟩
/-- a history of the region's own. -/
def gHis : Ty (RG g d V0) := ⟨fun v w => ∃ u ms a t o, v = .agg #[u, .int .i64 a] ∧ OwnM w B u ms ∧ HGood ms a t o, fun _ _ _ hR ⟨u, ms, a, t, o, hv, h, hh⟩ => ⟨u, ms, a, t, o, hv, hR.own h (own_far h hg) (own_far h hd), hh⟩⟩
/-- the value is the k-th of the tuple in slot t. -/
def gExt (T : Ty (RG g d V0)) (t : Nat) (k : Nat) : TlV (RG g d V0) := { T with
  lk := some t
  s := fun v u _ => ∀ x y z, u = .tuple #[x, y, z] → v = (#[x, y, z][k]?).getD undef
  us := fun _ _ _ _ _ h => h }
/-- the value is that of slot t. -/
def gSame (T : Ty (RG g d V0)) (t : Nat) : TlV (RG g d V0) := { T with
  lk := some t
  s := fun v u _ => v = u
  us := fun _ _ _ _ _ h => h }
/-- the history of slot t is stored in box d. -/
def gPut (t : Nat) : TlV (RG g d V0) := { gAny g d V0 with
  lk := some t
  s := fun _ u w => ∀ u0 y, u = .agg #[u0, .int .i64 y] → u0 ≠ V0 → d < w.heap.size ∧ Is w d #[u0, .int .i64 y]
  us := fun _ u w w' hR h u0 y hu hne => by
    obtain ⟨h1, h2⟩ := h u0 y hu hne
    refine ⟨Nat.lt_of_lt_of_le h1 hR.size, ?_⟩
    rcases hR.dd with h3 | h3
    · exact h2.of_block h3
    · have h4 := h2.1 0
      rw [h3] at h4
      exact absurd (by simpa using h4.symm) hne }
end
section
variable {g d : Nat} {V0 : Value} {w : World}
theorem gput_mk {A0 : Value} {u : Value} {y : Int} (hI : Is w d #[V0, A0]) : Is ((w.setCell ⟨d, 0, none⟩ u).setCell ⟨d, 1, none⟩ (.int .i64 y)) d #[u, .int .i64 y] ∧ RG g d V0 w ((w.setCell ⟨d, 0, none⟩ u).setCell ⟨d, 1, none⟩ (.int .i64 y)) :=
  ⟨put_is (V := #[u, .int .i64 y]) hI rfl, rfl, rfl, rfl, by simp [World.setCell], fun i _ _ h2 => (Below.heap_setCell _ ⟨d, 1, none⟩ _ i h2).trans (Below.heap_setCell w ⟨d, 0, none⟩ u i h2), .inr (hI.1 0)⟩
theorem own_new {B n : Nat} {u : Value} {e : TypeId} {size : Nat} {xs : List Value} (h : Own w B e size u n xs) (hn : 0 < n) (hV : ∀ k, V0.ownBlock = some k → k < B) : u ≠ V0 := by
  rintro rfl
  rcases h.2 with ⟨_, rfl⟩ | ⟨x, cap, cur, rfl, hbx, _⟩
  · omega
  · have := hV x rfl
    omega
theorem gput_rdr {n q : Nat} {zs : List Int} (h : Rdr w g n zs q) (hgd : g < d) (u y : Value) : Rdr ((w.setCell ⟨d, 0, none⟩ u).setCell ⟨d, 1, none⟩ y) g n zs q := by
  refine Rdr.below h ?_
  refine Below.setCell ?_ (by show g + 1 ≤ d; omega) _
  refine Below.setCell ?_ (by show g + 1 ≤ d; omega) _
  exact Below.refl _ _
/-- the reader's fact and the box's, behind calls that make memory. -/
theorem MR.up {n : Nat} {zs : List Int} {p C k : Nat} {w' : World} (h : MR g n zs p C k w) (hb : Below w.heap.size w w') : MR g n zs p C (k + 1) w' := by
  obtain ⟨q, hq, hr⟩ := h
  exact ⟨q, by rw [Nat.mul_add]; omega, hr.up hb⟩
end

end Go.Proofs.Ytjcdklkdpcncgaa
