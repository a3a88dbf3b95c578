/- What is proved here: boxes of a draw's results lie apart from the reader's code; a box that holds some change. No condition. -/
import Derived.Test.YtlejfmngpbcdhaaDraw1
import Derived.Test.YtlejfmngpbcdhaaEverL
namespace Go.Proofs.Ytlejfmngpbcdhaa
open Go.RowKit
set_option linter.unusedVariables false

theorem rdr_far {w w' : World} {g n q r : Nat} {zs : List Int} {V : Array Value} (h : Rdr w g n zs q) (hI : Is w r V) (hV : ∀ (o : Nat) (x : Value), V[o]? = some x → ∀ z : Int, x ≠ Value.int .u8 z) (hrg : r ≠ g) (hs : ∀ i, i ≠ r → w'.heap[i]? = w.heap[i]?) : Rdr w' g n zs q := by
  obtain ⟨v, h1, h2, h3, b1, b2, A, c, rfl, b3, b4, b5⟩ := h
  refine ⟨_, (hs g (Ne.symm hrg)).trans h1, h2, h3, b1, b2, A, c, rfl, b3, b4, fun hn => ?_⟩
  obtain ⟨b, o, rfl, hbg, hc⟩ := b5 hn
  have hne : b ≠ r := by
    rintro rfl
    have hz : zs[0]? = some zs[0] := List.getElem?_eq_getElem (by omega)
    have := hc 0 _ hz
    rw [hI.1] at this
    exact hV _ _ this _ rfl
  exact ⟨b, o, rfl, hbg, fun j z hz => (World.cell?_of_block (a := ⟨b, o + j, none⟩) (hs b hne)).trans (hc j z hz)⟩
/-- the result's second box holds some change. -/
def CB (r : Nat) (w : World) : Prop := ∃ (qa qc : Int) (t : List UInt8), t.length ≤ 260 ∧ Is w r #[.int .i64 qa, .int .i64 qc, S t]
theorem CB.same {r : Nat} {w w' : World} (h : CB r w) (hb : w'.heap[r]? = w.heap[r]?) : CB r w' := by
  obtain ⟨qa, qc, t, ht, h⟩ := h
  exact ⟨qa, qc, t, ht, h.of_block hb⟩
theorem cb_put {r g m q : Nat} {zs : List Int} {qa qc qa' qc' : Int} {t t' : List UInt8} {w : World} (h : Is w r #[.int .i64 qa', .int .i64 qc', S t']) (ht : t.length ≤ 260) (hr : Rdr w g m zs q) (hrg : r ≠ g) : Rdr (((w.setCell ⟨r, 0, none⟩ (.int .i64 qa)).setCell ⟨r, 1, none⟩ (.int .i64 qc)).setCell ⟨r, 2, none⟩ (S t)) g m zs q ∧ CB r (((w.setCell ⟨r, 0, none⟩ (.int .i64 qa)).setCell ⟨r, 1, none⟩ (.int .i64 qc)).setCell ⟨r, 2, none⟩ (S t)) :=
  ⟨rdr_far hr h (fun o x hx z => by
      match o, hx with
      | 0, hx => simp at hx; subst hx; simp
      | 1, hx => simp at hx; subst hx; simp
      | 2, hx => simp at hx; subst hx; simp
      | o + 3, hx => simp at hx) hrg (fun i hi => ((Below.heap_setCell _ ⟨r, 2, none⟩ _ i hi).trans (Below.heap_setCell _ ⟨r, 1, none⟩ _ i hi)).trans (Below.heap_setCell w ⟨r, 0, none⟩ _ i hi)),
    qa, qc, t, ht, put_is (V := #[.int .i64 qa, .int .i64 qc, S t]) h rfl⟩

end Go.Proofs.Ytlejfmngpbcdhaa
