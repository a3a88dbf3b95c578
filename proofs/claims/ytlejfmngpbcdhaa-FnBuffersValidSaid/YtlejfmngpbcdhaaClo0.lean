/- What is proved here: rows that a call owns, cut and overwritten; clear at open files. No condition. -/
import Derived.Test.YtlejfmngpbcdhaaSav0
import Derived.Deep.RegionLaw
import Derived.Lib.SliceRun
namespace Go.Proofs.Ytlejfmngpbcdhaa
open Go.RowKit

def setL : List Value → Nat → List Value → List Value
  | xs, _, [] => xs
  | xs, o, v :: r => setL (xs.set o v) (o + 1) r
theorem setL_take : ∀ (vs xs : List Value) (o m : Nat), m ≤ o → (setL xs o vs).take m = xs.take m
  | [], _, _, _, _ => rfl
  | v :: r, xs, o, m, h => by
    rw [setL, setL_take r _ _ m (by omega), List.take_set, List.set_eq_of_length_le (by simp; omega)]
theorem setL_pre : ∀ (vs xs : List Value) (o : Nat), o + vs.length ≤ xs.length → (setL xs o vs).take (o + vs.length) = xs.take o ++ vs
  | [], xs, o, _ => by simp [setL]
  | v :: r, xs, o, h => by
    rw [List.length_cons] at h
    have := setL_pre r (xs.set o v) (o + 1) (by simp; omega)
    rw [setL, List.length_cons, show o + (r.length + 1) = o + 1 + r.length by omega, this, List.take_succ_eq_append_getElem (by simp; omega), List.take_set, List.set_eq_of_length_le (by rw [List.length_take]; omega)]
    simp
theorem own_setCells {base : Nat} {e : TypeId} {size n cap g : Nat} : ∀ (vs : List Value) (o : Nat) (w : World) (xs : List Value), Own w base e size (.slice (some ⟨g, 0, none⟩) n cap) n xs →
    Own (w.setCells g o vs) base e size (.slice (some ⟨g, 0, none⟩) n cap) n (setL xs o vs) ∧ w.grownBy (w.setCells g o vs) (some g)
  | [], _, w, _, h => ⟨h, World.grownBy.refl _ _⟩
  | v :: r, o, w, xs, h => by
    have h1 := h.stored o v
    have h2 := own_setCells r (o + 1) _ _ h1.1
    exact ⟨h2.1, gb_trans h1.2 h2.2⟩
theorem own_pre {w : World} {base : Nat} {e : TypeId} {size n cap g k : Nat} {xs : List Value} (h : Own w base e size (.slice (some ⟨g, 0, none⟩) n cap) n xs) (hk : k ≤ n) :
    Own w base e size (.slice (some ⟨g, 0, none⟩) k cap) k (xs.take (k * size)) := by
  have hks : k * size ≤ n * size := Nat.mul_le_mul_right _ hk
  refine ⟨by rw [List.length_take, h.1]; omega, .inr ?_⟩
  rcases h.2 with ⟨h0, _⟩ | ⟨g', cap', cur, hv, hbg, hg, hnc, hcm, hcs, ht⟩
  · simp at h0
  · simp only [Value.slice.injEq, Option.some.injEq, Addr.mk.injEq, and_true, true_and] at hv
    obtain ⟨rfl, rfl⟩ := hv
    exact ⟨g, cap, cur, rfl, hbg, hg, by omega, hcm, hcs, by rw [← ht, List.take_take, Nat.min_eq_left hks]⟩
/-- open files without number k. -/
def outK (bs : List Bf) (k : Nat) : List Bf := bs.take k ++ bs.drop (k + 1)
theorem outK_len (bs : List Bf) (k : Nat) (hk : k < bs.length) : (outK bs k).length = k + (bs.length - (k + 1)) := by simp [outK]; omega
def clSame (bs : List Bf) (nm : List UInt8) : Bool := match bs[(bfAt bs nm).toNat]? with | some b => b.body == b.saved | none => false
theorem clSame_at {bs : List Bf} {nm : List UInt8} {k : Nat} (hk : k < bs.length) (h : bfAt bs nm = (k : Nat)) : clSame bs nm = (bs[k].body == bs[k].saved) := by
  unfold clSame; rw [h, Int.toNat_natCast, List.getElem?_eq_getElem hk]
def clOk (bs : List Bf) (nm : List UInt8) : Bool := bvB bs && decide (0 ≤ bfAt bs nm) && clSame bs nm
def clOut (bs : List Bf) (nm : List UInt8) : List Bf := if clOk bs nm then outK bs (bfAt bs nm).toNat else if bvB bs then bs else []
theorem clOut_len (bs : List Bf) (nm : List UInt8) : (clOut bs nm).length ≤ 9 := by
  unfold clOut
  split
  · rename_i h
    have : bvB bs = true := by unfold clOk at h; simp only [Bool.and_eq_true] at h; exact h.1.1
    have := bvB_len this
    simp [outK]; omega
  · split
    · rename_i h
      have := bvB_len h
      omega
    · simp

theorem run_clear3 {P : Program} (w : World) (t e ty : TypeId) (ht : P.underlying t = some (.slice e)) (hv : ∀ w, (zeroValue e).run P w = .ok (.agg #[S [], S [], S []]) w) (b o c : Nat)
    (hc : ∀ j, j < 3 → (w.cell? ⟨b, o + j, none⟩).isSome = true) (hf : ∀ j, j < 3 → w.frozen? ⟨b, o + j, none⟩ = false) :
    (Builtin.clear_ #[t] ty #[.slice (some ⟨b, o, none⟩) 1 c]).run P w = .ok (.tuple #[]) (w.setCells b o [S [], S [], S []]) := by
  have hzc : (Builtin.zeroCells (Value.agg #[S [], S [], S []]).cells 1).toList = [S [], S [], S []] := by kernel_rfl
  have hst := run_storeCells_cells (P := P) b o [S [], S [], S []] 0 w (by simpa using hc) (by simpa using hf) (by intro v hv'; simp at hv'; rw [hv']; rfl)
  simp only [Nat.add_zero] at hst
  simp [Builtin.clear_, run_underlying ht, hv, hzc, hst]

end Go.Proofs.Ytlejfmngpbcdhaa
