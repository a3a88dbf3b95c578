/- What is proved here: the contract of sameBuffers at equal lists, and small words for the walks of the laws on files. No condition. -/
import Derived.Test.YtaldlnbgloplbaaPBuf
import Derived.Test.YtaldlnbgloplbaaDrawB2
import Derived.Test.YtaldlnbgloplbaaAlive
namespace Go.Proofs.Ytaldlnbgloplbaa
open Go.RowKit

theorem RdB.hup {w w' : World} {v : Value} {bs : List Bf} (h : Hid (RdB w v bs)) (hb : Below w.heap.size w w') : Hid (RdB w' v bs) := Lib.hid (h.out.up hb)

set_option maxHeartbeats 1000000 in
theorem sameBuffers_same (u v : Value) (bs : List Bf) (w : World) (hu : RdB w u bs) (hv : RdB w v bs) :
    Calls Try.prog 18 #[u, v] w fun e w' => e = .returned (.bool true) ∧ Below w.heap.size w w' := by
  obtain ⟨A, c, rfl, hm, _⟩ := hu.1.form
  obtain ⟨B, d, rfl, _, _⟩ := hv.1.form
  unfold maxLen at hm
  go_enter Try.func18, Try.ntmps18
  go_wp2_with fail
  go_loopw [5] (fun i wr => ∃ k : Nat, k ≤ bs.length ∧ i = .int .i64 k ∧ Below w.heap.size w wr) (fun i _ => bs.length - (intOf i).toNat)
  case atStart => exact ⟨0, Nat.zero_le _, rfl, Below.refl _ _⟩
  case round =>
    obtain ⟨k, hk, rfl, hW⟩ := hrel
    by_cases hlt : k < bs.length
    · have i1 : (0 : Int) ≤ (k : Int) := by omega
      have i2 : (k : Int) < (bs.length : Int) := by omega
      obtain ⟨b, o, rfl, hb, c0, c1, c2⟩ := (hu.up hW).cells hlt
      obtain ⟨b', o', rfl, hb', d0, d1, d2⟩ := (hv.up hW).cells hlt
      obtain ⟨x, hx⟩ : ∃ x, x = bs[k] := ⟨_, rfl⟩
      rw [← hx] at c0 c1 c2 d0 d1 d2
      clear hx
      go_wp2_with fail
      go_quiet (fail)
      go_wp2_with fail
      go_roundw
      case rel => exact ⟨k + 1, by omega, by go_num, by (repeat (first | exact Below.refl _ _ | assumption | refine Below.drew ?_ | refine up_drewN ?_ _ | refine up_alloc ?_ _ | refine up_set ?_ _ _ (by first | exact Nat.le_refl _ | (simp; done) | (simp; omega) | omega) | refine up_trans ?_ (by assumption)))⟩
      case measure => simp [intOf]; omega
    · go_wp2_with fail
      go_ret
      exact ⟨rfl, hW⟩

end Go.Proofs.Ytaldlnbgloplbaa
