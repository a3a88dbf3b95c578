/- What is proved here: What is proved here: contracts of WordRight, WordLeft and WordAround in the program and in the reference. What is proved here: contracts of MovePlace in the program and in the reference. No condition. -/
import Derived.Test.YtbjlkdenkmbepaaAc0
import Derived.Test.YtbjlkdenkmbepaaCls
import Derived.Test.YtbjlkdenkmbepaaBase
namespace Go.Proofs.Ytbjlkdenkmbepaa
open Go.RowKit
set_option linter.unusedVariables false

theorem place_in {s : List UInt8} {p : Nat} (hp : p ≤ s.length) : inB (p : Int) 0 s.length = true := inB_iff.2 ⟨by omega, by omega⟩
theorem cls_ne {s : List UInt8} {p : Nat} {h : p < s.length} (hc : clsC s[p] ≠ 0) : (cls ((s[p].toNat : Nat) : Int) != 0) = true := by
  have h2 : cls ((s[p].toNat : Nat) : Int) ≠ 0 := hc
  simpa using h2
theorem cls_eq {s : List UInt8} {p : Nat} {h : p < s.length} (hc : clsC s[p] = 0) : (cls ((s[p].toNat : Nat) : Int) != 0) = false := by
  have h2 : cls ((s[p].toNat : Nat) : Int) = 0 := hc
  simpa using h2
theorem cls_ne0 {s : List UInt8} {p : Nat} {h : p < s.length} (hc : clsC s[p] ≠ 0) : (cls ((s[p].toNat : Nat) : Int) == 0) = false := by
  have h2 : cls ((s[p].toNat : Nat) : Int) ≠ 0 := hc
  simpa using h2
theorem cls_eq0 {s : List UInt8} {p : Nat} {h : p < s.length} (hc : clsC s[p] = 0) : (cls ((s[p].toNat : Nat) : Int) == 0) = true := by
  have h2 : cls ((s[p].toNat : Nat) : Int) = 0 := hc
  simpa using h2
theorem cls_beq {s : List UInt8} {p : Nat} {k : Int} {h : p < s.length} (hc : clsC s[p] = k) : (cls ((s[p].toNat : Nat) : Int) == k) = true := by
  have h2 : cls ((s[p].toNat : Nat) : Int) = k := hc
  simpa using h2
theorem cls_bne {s : List UInt8} {p : Nat} {k : Int} {h : p < s.length} (hc : clsC s[p] ≠ k) : (cls ((s[p].toNat : Nat) : Int) == k) = false := by
  have h2 : cls ((s[p].toNat : Nat) : Int) ≠ k := hc
  simpa using h2





end Go.Proofs.Ytbjlkdenkmbepaa

namespace Go.Proofs.Ytbjlkdenkmbepaa
open Go.RowKit
set_option linter.unusedVariables false

theorem mvP_cases (a c x : Int) (p : List UInt8) : (x < a ∧ mvP ⟨a, c, p⟩ x = x) ∨ (¬ x < a ∧ a + c < x ∧ mvP ⟨a, c, p⟩ x = x + p.length - c) ∨ (¬ x < a ∧ ¬ a + c < x ∧ mvP ⟨a, c, p⟩ x = a + p.length) := by
  unfold mvP
  simp only
  by_cases h1 : x < a
  · exact .inl ⟨h1, if_pos h1⟩
  · by_cases h2 : a + c < x
    · exact .inr (.inl ⟨h1, h2, by rw [if_neg h1, if_pos h2]⟩)
    · exact .inr (.inr ⟨h1, h2, by rw [if_neg h1, if_neg h2]⟩)
set_option maxRecDepth 100000 in
set_option maxHeartbeats 1000000 in
theorem specMovePlace_any (a c x : Int) (p : List UInt8) (w : World) (h1 : inB a 0 120 = true) (h2 : inB c 0 120 = true) (h3 : inB x 0 120 = true) (h4 : p.length ≤ 120) :
    Calls Try.prog 50 #[chV a c p, .int .i64 x, .bool true] w fun e w' => e = .returned (.int .i64 (mvP ⟨a, c, p⟩ x)) ∧ Below w.heap.size w w' := by
  have k1 := inB_iff.1 h1
  have k2 := inB_iff.1 h2
  have k3 := inB_iff.1 h3
  obtain ⟨a0, a1⟩ := k1
  obtain ⟨c0, c1⟩ := k2
  obtain ⟨x0, x1⟩ := k3
  clear h1 h2 h3
  unfold chV
  rcases mvP_cases a c x p with ⟨e1, e2⟩ | ⟨e1, e2, e3⟩ | ⟨e1, e2, e3⟩
  case' inl => have HE := Lib.hid e2; clear e2
  case' inr.inl => have HE := Lib.hid e3; clear e3
  case' inr.inr => have HE := Lib.hid e3; clear e3
  all_goals
    go_enter Try.func50, Try.ntmps50
    go_wp2_with fail
    go_ret
    exact ⟨ret_int (by rw [HE.out]), by (repeat (first | exact Below.refl _ _ | assumption | refine Below.drew ?_ | refine up_drewN ?_ _ | refine up_alloc ?_ _ | refine up_set ?_ _ _ (by first | exact Nat.le_refl _ | (simp; done) | (simp; omega) | omega) | refine up_trans ?_ (by assumption)))⟩

end Go.Proofs.Ytbjlkdenkmbepaa
