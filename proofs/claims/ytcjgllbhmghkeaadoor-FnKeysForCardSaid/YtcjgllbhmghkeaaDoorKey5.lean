/- What is proved here: the reference's PressKey does what the program's does. No condition. -/
import Derived.Test.YtcjgllbhmghkeaaDoorKey4
namespace Go.Proofs.YtcjgllbhmghkeaaDoor
open Go.RowKit

theorem dk_of {s : List UInt8} {n : Nat} {x : Int} {s2 : List UInt8} {p x2 : Int} {ok : Bool} {f : FuncId} {c : Int} {w : World} {r : Dk × Bool} (hr : r = (⟨s2, p, x2⟩, ok))
    (h : Calls Tryd.prog f #[.agg #[S s, .int .i64 n, .int .i64 x], .int .u8 c] w (SkPost s2 p x2 ok w)) : Calls Tryd.prog f #[dkV ⟨s, n, x⟩, .int .u8 c] w (DkPost r w) := by
  subst hr
  exact h

theorem up_eq {s : List UInt8} {n : Nat} {x b : Int} {q : Nat} (hq : (nl (s.take n) : Int) + b = q) (hqn : q ≤ nl s) : upK ⟨s, n, x⟩ b = (⟨s, pAt s q x, x⟩, true) := by
  unfold upK
  simp only [Int.toNat_natCast]
  rw [hq, if_pos (inB_iff.2 (by omega)), Int.toNat_natCast]
theorem up_no {s : List UInt8} {n : Nat} {x b : Int} (hi : inB ((nl (s.take n) : Int) + b) 0 (nl s) = false) : upK ⟨s, n, x⟩ b = (⟨s, n, x⟩, false) := by
  unfold upK
  simp only [Int.toNat_natCast]
  rw [hi]; rfl
theorem cut_eq {s : List UInt8} {n : Nat} {x : Int} (hd : dkOk ⟨s, n, x⟩ = true) (hn : 0 < n) : chgK ⟨s, n, x⟩ ((n : Int) - 1) 1 [] = (dkAt (s.take (n - 1) ++ s.drop n) (n - 1), true) := by
  have h := dkOk_out hd
  simp only at h
  have hi : chIn s ((n : Int) - 1) 1 = true := by
    unfold chIn
    rw [inB_iff.2 (by omega), inB_iff.2 (by omega)]; rfl
  have hk : chOk s ((n : Int) - 1) 1 [] = true := by
    unfold chOk
    rw [h.1, hi]
    simp
    omega
  have e : chTo s ((n : Int) - 1) 1 [] = s.take (n - 1) ++ s.drop n := by
    unfold chTo
    rw [show ((n : Int) - 1).toNat = n - 1 by omega, show ((n : Int) - 1 + 1).toNat = n by omega, List.nil_append]
  unfold chgK
  rw [if_pos hk, e, show ((n : Int) - 1).toNat + ([] : List UInt8).length = n - 1 by simp]
theorem cut_no {s : List UInt8} {n : Nat} {x : Int} (hn : n = 0) : chgK ⟨s, n, x⟩ ((n : Int) - 1) 1 [] = (⟨s, n, x⟩, false) := by
  subst hn
  have hk : chOk s (((0 : Nat) : Int) - 1) 1 [] = false := by
    unfold chOk chIn
    have : inB (((0 : Nat) : Int) - 1) 0 s.length = false := by
      rw [Bool.eq_false_iff]
      intro h
      have := inB_iff.1 h
      omega
    rw [this]; simp
  unfold chgK
  rw [hk]; rfl
theorem put_eq {s : List UInt8} {n : Nat} {x : Int} {c : UInt8} (hk : chOk s n 0 [c] = true) : chgK ⟨s, n, x⟩ n 0 [c] = (dkAt (chTo s n 0 [c]) (n + 1), true) := by
  unfold chgK
  rw [if_pos hk]; rfl
theorem put_no {s : List UInt8} {n : Nat} {x : Int} {c : UInt8} (hk : chOk s n 0 [c] = false) : chgK ⟨s, n, x⟩ n 0 [c] = (⟨s, n, x⟩, false) := by
  unfold chgK
  rw [hk]; rfl
theorem okC_of {c : Int} (h0 : 0 ≤ c) (h1 : c ≤ 255) (h10 : c ≠ 10) {s : List UInt8} {n : Nat} (hk : chOk s n 0 [UInt8.ofNat c.toNat] = true) : 32 ≤ c ∧ c ≤ 126 := by
  unfold chOk at hk
  simp only [Bool.and_eq_true, List.all_cons, List.all_nil, Bool.and_true] at hk
  have h := hk.1.2
  unfold okC okB at h
  rw [u8_back h0 h1] at h
  simp at h
  omega


end Go.Proofs.YtcjgllbhmghkeaaDoor
