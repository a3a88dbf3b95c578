/- What is proved here: contracts of the drawing of open files, names and texts. No condition but that the code is a slice of bytes. -/
import Derived.Test.YtlejfmngpbcdhaaDrawB
namespace Go.Proofs.Ytlejfmngpbcdhaa
open Go.RowKit

def DrawBufsPost (w : World) (e : Ending) (w' : World) : Prop := ∃ v bs, e = .returned v ∧ RdB w' v bs ∧ Sm 8 bs ∧ Below w.heap.size w w'
def DrawBufs1Post (w : World) (e : Ending) (w' : World) : Prop := ∃ v bs nm, e = .returned (.tuple #[v, S nm]) ∧ RdB w' v bs ∧ Sm 8 bs ∧ nm.length ≤ 130 ∧ Below w.heap.size w w'
def DrawBufs2Post (w : World) (e : Ending) (w' : World) : Prop := ∃ v bs nm s, e = .returned (.tuple #[v, S nm, S s]) ∧ RdB w' v bs ∧ Sm 8 bs ∧ nm.length ≤ 130 ∧ s.length ≤ 130 ∧ Below w.heap.size w w'
def DrawBufs3Post (w : World) (e : Ending) (w' : World) : Prop := ∃ (v : Value) (bs : List Bf) (nm : List UInt8) (a c : Int) (t : List UInt8), e = .returned (.tuple #[v, S nm, .agg #[.int .i64 a, .int .i64 c, S t]]) ∧ RdB w' v bs ∧ Sm 8 bs ∧ nm.length ≤ 130 ∧ t.length ≤ 260 ∧ Below w.heap.size w w'

theorem rdB_own {w : World} {base : Nat} {v : Value} {bs : List Bf} {N : Nat} (h : Own w base 37 3 v bs.length (bs.flatMap bfC)) (hs : Sm N bs) : RdB w v bs := ⟨RdL.of_own h, hs.len⟩

def NamePost (g n : Nat) (zs : List Int) (p : Nat) (w : World) (e : Ending) (w' : World) : Prop :=
  ∃ nm : List UInt8, e = .returned (S nm) ∧ nm.length ≤ 130 ∧ (∃ q, q ≤ p + 2 ∧ Rdr w' g n zs q) ∧ w.grownBy w' (some g)
theorem RdB.set {w : World} {v : Value} {bs : List Bf} {p : Addr} {u : Value} (h : RdB w v bs) (hn : v.ownBlock = none ∨ v.ownBlock ≠ some p.block) : RdB (w.setCell p u) v bs :=
  ⟨Rd.keep h.1 (by simp [World.setCell]) fun b o hv _ => World.cell?_setCell_other w p ⟨b, o, none⟩ u (fun e => by
    rcases hn with hn | hn
    · rw [hv] at hn; cases hn
    · exact hn (by rw [hv]; first | exact congrArg (some ∘ Addr.block) e | exact congrArg (some ∘ Addr.block) e.symm)), h.2⟩
theorem RdB.grown {w w' : World} {v : Value} {bs : List Bf} {g : Nat} (h : RdB w v bs) (hb : w.grownBy w' (some g)) (hn : v.ownBlock = none ∨ v.ownBlock ≠ some g) : RdB w' v bs := ⟨Rd.grown h.1 hb hn, h.2⟩


theorem bytes_cut_form {w : World} {B n : Nat} {v : Value} {zs : List Int} (h : Bytes w B v n zs) : ∃ A c, v = .slice A n c := by
  obtain ⟨_, _, A, c, rfl, _⟩ := h
  exact ⟨A, c, rfl⟩
theorem own_ne_g {w : World} {base size n g : Nat} {e : TypeId} {v : Value} {xs : List Value} (h : Own w base e size v n xs) (hg : g < base) : v.ownBlock = none ∨ v.ownBlock ≠ some g := by
  cases hv : v.ownBlock with
  | none => exact .inl rfl
  | some k =>
    refine .inr fun e => ?_
    have := (h.lt k hv).1
    injection e with e
    omega


theorem drawBuffersValid_any (v : Value) (n : Nat) (zs : List Int) (w : World) (h : Bytes w w.heap.size v n zs) :
    Calls Try.prog 14 #[v] w (DrawBufsPost w) := by
  have hW := Below.refl w.heap.size w
  go_enter Try.func14, Try.ntmps14
  go_wp2_with fail
  refine (open_any v n zs _ h).mono ?_
  rintro e w1 ⟨g, m, ys, rfl, hr, hb, hg⟩
  have hB : Below w.heap.size w w1 := (by (repeat (first | exact Below.refl _ _ | assumption | refine Below.drew ?_ | refine up_drewN ?_ _ | refine up_alloc ?_ _ | refine up_set ?_ _ _ (by first | exact Nat.le_refl _ | (simp; done) | (simp; omega) | omega) | refine up_trans ?_ (by assumption)))); have sw1 := hB.size; replace hW := up_trans hW hB; clear hB
  clear hb h
  have hgz := hr.lt
  go_wp2_with fail
  refine (l20Buffers_any _ _ _ _ _ _ hr (by omega)).mono ?_
  rintro e w2 ⟨u, bs, rfl, ho, hs, -, hb⟩
  replace hW := below_of_gb (gb_trans (gb_below (World.grownBy.refl _ _) hW) hb) hg
  have H := Lib.hid (rdB_own ho hs)
  clear hb hr ho
  go_wp2_with fail
  go_ret
  exact ⟨_, bs, rfl, H.out, hs, hW⟩






end Go.Proofs.Ytlejfmngpbcdhaa
