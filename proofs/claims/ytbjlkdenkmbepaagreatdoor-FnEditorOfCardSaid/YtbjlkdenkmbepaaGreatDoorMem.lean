/- What is proved here: words for slices that are read and rows that a call owns, and how they are kept. No condition. -/
import Derived.Test.YtbjlkdenkmbepaaGreatDoorBase
namespace Go.Proofs.YtbjlkdenkmbepaaGreatDoor
open Go.RowKit

/-- The slice v has n elements of size cells each and reads as xs. -/
def Rd (w : World) (size : Nat) (v : Value) (n : Nat) (xs : List Value) : Prop :=
  xs.length = n * size ∧ n ≤ maxLen ∧ ∃ A c, v = .slice A n c ∧ n ≤ c ∧ (0 < n → ∃ b o, A = some ⟨b, o, none⟩ ∧ b < w.heap.size ∧ ∀ j u, xs[j]? = some u → w.cell? ⟨b, o + j, none⟩ = some u)

/-- v is a row of the call's own, from base on. -/
abbrev Own (w : World) (base : Nat) (e : TypeId) (size : Nat) (v : Value) (n : Nat) (xs : List Value) : Prop := w.ownsRow base e size v n xs

section
variable {w w' : World} {base size n : Nat} {e : TypeId} {v : Value} {xs : List Value}

theorem Rd.keep (h : Rd w size v n xs) (hs : w.heap.size ≤ w'.heap.size) (hk : ∀ b o, v.ownBlock = some b → b < w.heap.size → w'.cell? ⟨b, o, none⟩ = w.cell? ⟨b, o, none⟩) : Rd w' size v n xs := by
  obtain ⟨h1, h2, A, c, rfl, hnc, h3⟩ := h
  refine ⟨h1, h2, A, c, rfl, hnc, fun hn => ?_⟩
  obtain ⟨b, o, rfl, hb, hc⟩ := h3 hn
  exact ⟨b, o, rfl, by omega, fun j u hu => (hk b _ rfl hb).trans (hc j u hu)⟩
theorem Rd.up (h : Rd w size v n xs) (hb : Below w.heap.size w w') : Rd w' size v n xs :=
  h.keep hb.size fun b o _ hlt => hb.cell (p := ⟨b, o, none⟩) hlt
theorem Rd.alloc (h : Rd w size v n xs) (o : Obj) : Rd (w.alloc o) size v n xs := h.up (up_alloc (Below.refl _ _) o)
theorem Rd.grown {row : Option Nat} (h : Rd w size v n xs) (hg : w.grownBy w' row) (hne : v.ownBlock = none ∨ v.ownBlock ≠ row) : Rd w' size v n xs :=
  h.keep hg.size fun b o hv hlt => World.cell?_of_block (hg.block b hlt (by
    rcases hne with hne | hne
    · rw [hv] at hne; cases hne
    · rw [hv] at hne; exact hne))
theorem own_up (h : Own w base e size v n xs) (hb : Below w.heap.size w w') : Own w' base e size v n xs := by
  refine ⟨h.1, ?_⟩
  rcases h.2 with hn | ⟨g, cap, cur, rfl, hbg, hgg, rest⟩
  · exact .inl hn
  · refine .inr ⟨g, cap, cur, rfl, hbg, ?_, rest⟩
    rw [hb.block g (Array.getElem?_eq_some_iff.1 hgg).1]
    exact hgg
theorem own_base {base' : Nat} (h : Own w base e size v n xs) (hb : base' ≤ base) : Own w base' e size v n xs := by
  refine ⟨h.1, ?_⟩
  rcases h.2 with hn | ⟨g, cap, cur, hv, hbg, rest⟩
  · exact .inl hn
  · exact .inr ⟨g, cap, cur, hv, by omega, rest⟩
theorem own_len (h : Own w base e size v n xs) : n ≤ maxLen := by
  rcases h.2 with ⟨_, rfl⟩ | ⟨g, cap, cur, hv, hbg, _, h1, h2, _⟩
  · exact Nat.zero_le _
  · omega
theorem Rd.of_own (h : Own w base e size v n xs) : Rd w size v n xs := by
  refine ⟨h.1, own_len h, ?_⟩
  rcases h.2 with ⟨rfl, rfl⟩ | ⟨g, cap, cur, rfl, hbg, hgg, hnc, hcm, hcs, htake⟩
  · exact ⟨none, 0, rfl, Nat.le_refl _, fun h => absurd h (by omega)⟩
  · refine ⟨some ⟨g, 0, none⟩, cap, rfl, hnc, fun _ => ⟨g, 0, rfl, (Array.getElem?_eq_some_iff.1 hgg).1, fun j u hu => ?_⟩⟩
    have := h.cells (g := g) rfl j u hu
    have hadd : (⟨g, 0, none⟩ : Addr).add j = ⟨g, 0 + j, none⟩ := by unfold Addr.add; split <;> simp_all
    rwa [hadd] at this
theorem own_ne {base' : Nat} {e' : TypeId} {size' n' : Nat} {v' : Value} {xs' : List Value} (h : Own w base e size v n xs) (h' : Own w' base' e' size' v' n' xs') (hb : w.heap.size ≤ base') : v.ownBlock = none ∨ v.ownBlock ≠ v'.ownBlock := by
  cases hv : v.ownBlock with
  | none => exact .inl rfl
  | some k =>
    refine .inr fun he => ?_
    have h1 := (h.lt k hv).2
    have h2 := (h'.lt k he.symm).1
    omega
theorem own_lt {B : Nat} (h : Own w base e size v n xs) (hb : B ≤ base) : ∀ k, v.ownBlock = some k → B ≤ k := fun k hk => by
  have := (h.lt k hk).1; omega
end
theorem up_grown {a b c : World} {row : Option Nat} (h : Below a.heap.size a b) (hg : b.grownBy c row) (hr : ∀ k, row = some k → a.heap.size ≤ k) : Below a.heap.size a c := h.grown hg h.size hr

/-- the cells of a block that was just made. -/
theorem cells_new (w : World) (cs : List Value) (t : TypeId) : ∀ j u, cs[j]? = some u → (w.alloc (.cells cs.toArray t)).cell? ((⟨w.heap.size, 0, none⟩ : Addr).add j) = some u := by
  intro j u hu
  have hadd : (⟨w.heap.size, 0, none⟩ : Addr).add j = ⟨w.heap.size, j, none⟩ := by unfold Addr.add; split <;> simp_all
  rw [hadd, World.cell?_alloc_new]
  simpa using hu

section
variable {a b c : World} {g : Nat} {row : Option Nat}
theorem gb_trans (h : a.grownBy b row) (k : b.grownBy c row) : a.grownBy c row :=
  ⟨k.os.trans h.os, k.tape.trans h.tape, k.output.trans h.output, Nat.le_trans h.size k.size, fun i hi hne => (k.block i (Nat.lt_of_lt_of_le hi h.size) hne).trans (h.block i hi hne)⟩
theorem gb_alloc (h : a.grownBy b row) (o : Obj) : a.grownBy (b.alloc o) row := gb_trans h (World.grownBy_alloc b o row)
theorem gb_drewN (h : a.grownBy b row) (n : Nat) : a.grownBy (b.drewN n) row := ⟨h.os, h.tape, h.output, h.size, h.block⟩
theorem gb_drew (h : a.grownBy b row) : a.grownBy b.drew row := ⟨h.os, h.tape, h.output, h.size, h.block⟩
theorem gb_set (h : a.grownBy b row) (p : Addr) (u : Value) (hp : a.heap.size ≤ p.block) : a.grownBy (b.setCell p u) row :=
  ⟨h.os, h.tape, h.output, by simpa [World.setCell] using h.size, fun i hi hne => (Below.heap_setCell b p u i (by omega)).trans (h.block i hi hne)⟩
theorem gb_here {x : Nat} (h : a.grownBy b (some x)) {p : Addr} (hp : p.block = x) (u : Value) : a.grownBy (b.setCell p u) (some x) :=
  ⟨h.os, h.tape, h.output, by simpa [World.setCell] using h.size, fun i hi hne => (Below.heap_setCell b p u i (fun e => hne (by rw [e, hp]))).trans (h.block i hi hne)⟩
theorem gb_below (h : a.grownBy b row) (k : Below b.heap.size b c) : a.grownBy c row :=
  gb_trans h ⟨k.os, k.tape, k.output, k.size, fun i hi _ => k.block i hi⟩
theorem gb_own {c' : World} {r : Option Nat} (h : a.grownBy b row) (k : b.grownBy c' r) (hr : ∀ i, r = some i → a.heap.size ≤ i) : a.grownBy c' row :=
  ⟨k.os.trans h.os, k.tape.trans h.tape, k.output.trans h.output, Nat.le_trans h.size k.size, fun i hi hne => (k.block i (Nat.lt_of_lt_of_le hi h.size) (fun e => by have := hr i e.symm; omega)).trans (h.block i hi hne)⟩
theorem gup_c {A : Array Value} {x : Nat} (h : a.grownBy b (some g)) (hz : x < a.heap.size) (hn : x ≠ g) (hc : ∀ o, a.cell? ⟨x, o, none⟩ = A[o]?) : ∀ o, b.cell? ⟨x, o, none⟩ = A[o]? :=
  fun o => (World.cell?_of_block (a := ⟨x, o, none⟩) (h.block x hz (fun e => by injection e; omega))).trans (hc o)
theorem gup_f {x : Nat} (h : a.grownBy b (some g)) (hz : x < a.heap.size) (hn : x ≠ g) (hc : ∀ o, a.frozen? ⟨x, o, none⟩ = false) : ∀ o, b.frozen? ⟨x, o, none⟩ = false :=
  fun o => (World.frozen?_of_block (a := ⟨x, o, none⟩) (h.block x hz (fun e => by injection e; omega))).trans (hc o)
theorem gup_own {base size n : Nat} {e : TypeId} {v : Value} {xs : List Value} (h : Own a base e size v n xs) (hG : a.grownBy b (some g)) (hn : g < base) : Own b base e size v n xs :=
  h.kept hG (by
    cases hv : v.ownBlock with
    | none => exact .inl rfl
    | some k => exact .inr (fun e => by have := (h.lt k hv).1; injection e; omega))
/-- what is grown by a new row is below. -/
theorem below_of_gb (h : a.grownBy b (some g)) (hg : a.heap.size ≤ g) : Below a.heap.size a b :=
  ⟨h.os, h.tape, h.output, h.size, fun i hi => h.block i hi (fun e => by injection e; omega)⟩
end
theorem own_setn {w : World} {base size n : Nat} {e : TypeId} {v : Value} {xs : List Value} (h : Own w base e size v n xs) (p : Addr) (u : Value) (hp : ∀ g, v.ownBlock = some g → g ≠ p.block) : Own (w.setCell p u) base e size v n xs := by
  refine ⟨h.1, ?_⟩
  rcases h.2 with hn | ⟨g, cap, cur, rfl, hbg, hgg, rest⟩
  · exact .inl hn
  · refine .inr ⟨g, cap, cur, rfl, hbg, ?_, rest⟩
    rw [Below.heap_setCell w p u g (hp g rfl)]
    exact hgg

end Go.Proofs.YtbjlkdenkmbepaaGreatDoor
