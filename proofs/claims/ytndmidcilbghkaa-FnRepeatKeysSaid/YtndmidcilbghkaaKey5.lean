/- What is proved here: the reference's PressKey does what the program's does. No condition. -/
import Derived.Test.YtndmidcilbghkaaKey4
namespace Go.Proofs.Ytndmidcilbghkaa
open Go.RowKit

theorem dk_of {s : List UInt8} {n : Nat} {x : Int} {s2 : List UInt8} {p x2 : Int} {ok : Bool} {f : FuncId} {c : Int} {w : World} {r : Dk × Bool} (hr : r = (⟨s2, p, x2⟩, ok))
    (h : Calls Try.prog f #[.agg #[S s, .int .i64 n, .int .i64 x], .int .u8 c] w (SkPost s2 p x2 ok w)) : Calls Try.prog f #[dkV ⟨s, n, x⟩, .int .u8 c] w (DkPost r w) := by
  subst hr
  exact h

theorem spec_side60 (s : List UInt8) (n : Nat) (x : Int) (w : World) (hd : dkOk ⟨s, n, x⟩ = true) :
    Calls Try.prog 12 #[dkV ⟨s, n, x⟩, .int .u8 60] w (DkPost (sideK ⟨s, n, x⟩ (-1)) w) := by
  have h := dkOk_out hd
  simp only at h
  by_cases hn : 0 < n
  · refine dk_of ?_ (sk60y s n x w hd hn)
    unfold sideK
    rw [if_pos (inB_iff.2 (by simp only; omega))]
    show (dkAt s ((n : Int) + -1).toNat, true) = _
    rw [show ((n : Int) + -1).toNat = n - 1 by omega]; rfl
  · refine dk_of ?_ (sk60n s n x w hd (by omega))
    unfold sideK
    rw [if_neg (fun hi => by have := inB_iff.1 hi; simp only at this; omega)]
theorem spec_side62 (s : List UInt8) (n : Nat) (x : Int) (w : World) (hd : dkOk ⟨s, n, x⟩ = true) :
    Calls Try.prog 12 #[dkV ⟨s, n, x⟩, .int .u8 62] w (DkPost (sideK ⟨s, n, x⟩ 1) w) := by
  have h := dkOk_out hd
  simp only at h
  by_cases hn : n < s.length
  · refine dk_of ?_ (sk62y s n x w hd hn)
    unfold sideK
    rw [if_pos (inB_iff.2 (by simp only; omega))]
    show (dkAt s ((n : Int) + 1).toNat, true) = _
    rw [show ((n : Int) + 1).toNat = n + 1 by omega]; rfl
  · refine dk_of ?_ (sk62n s n x w hd (by omega))
    unfold sideK
    rw [if_neg (fun hi => by have := inB_iff.1 hi; simp only at this; omega)]
theorem up_eq {s : List UInt8} {n : Nat} {x b : Int} {q : Nat} (hq : (nl (s.take n) : Int) + b = q) (hqn : q ≤ nl s) : upK ⟨s, n, x⟩ b = (⟨s, pAt s q x, x⟩, true) := by
  unfold upK
  simp only [Int.toNat_natCast]
  rw [hq, if_pos (inB_iff.2 (by omega)), Int.toNat_natCast]
theorem up_no {s : List UInt8} {n : Nat} {x b : Int} (hi : inB ((nl (s.take n) : Int) + b) 0 (nl s) = false) : upK ⟨s, n, x⟩ b = (⟨s, n, x⟩, false) := by
  unfold upK
  simp only [Int.toNat_natCast]
  rw [hi]; rfl
theorem spec_up (key b : Int) (s : List UInt8) (n : Nat) (x : Int) (w : World)
    (hy : ∀ (q : Nat), (nl (s.take n) : Int) + b = q → q ≤ nl s → Calls Try.prog 12 #[.agg #[S s, .int .i64 n, .int .i64 x], .int .u8 key] w (SkPost s (pAt s q x) x true w))
    (hn : inB ((nl (s.take n) : Int) + b) 0 (nl s) = false → Calls Try.prog 12 #[.agg #[S s, .int .i64 n, .int .i64 x], .int .u8 key] w (SkPost s n x false w)) :
    Calls Try.prog 12 #[dkV ⟨s, n, x⟩, .int .u8 key] w (DkPost (upK ⟨s, n, x⟩ b) w) := by
  rcases hi : inB ((nl (s.take n) : Int) + b) 0 (nl s) with _ | _
  · exact dk_of (up_no hi) (hn hi)
  · have := inB_iff.1 hi
    obtain ⟨q, hq⟩ : ∃ q : Nat, (nl (s.take n) : Int) + b = q := ⟨((nl (s.take n) : Int) + b).toNat, by omega⟩
    exact dk_of (up_eq hq (by omega)) (hy q hq (by omega))
theorem cut_eq {s : List UInt8} {n : Nat} {x : Int} (hd : dkOk ⟨s, n, x⟩ = true) (hn : 0 < n) : chgK ⟨s, n, x⟩ ((n : Int) - 1) 1 [] = (dkAt (s.take (n - 1) ++ s.drop n) (n - 1), true) := by
  have h := dkOk_out hd
  simp only at h
  have hi : chIn s ((n : Int) - 1) 1 = true := by
    unfold chIn
    rw [inB_iff.2 (by omega), inB_iff.2 (by omega)]; rfl
  have hk : chOk s ((n : Int) - 1) 1 [] = true := by
    unfold chOk
    rw [h.1, hi]
    simp
    omega
  have e : chTo s ((n : Int) - 1) 1 [] = s.take (n - 1) ++ s.drop n := by
    unfold chTo
    rw [show ((n : Int) - 1).toNat = n - 1 by omega, show ((n : Int) - 1 + 1).toNat = n by omega, List.nil_append]
  unfold chgK
  rw [if_pos hk, e, show ((n : Int) - 1).toNat + ([] : List UInt8).length = n - 1 by simp]
theorem cut_no {s : List UInt8} {n : Nat} {x : Int} (hn : n = 0) : chgK ⟨s, n, x⟩ ((n : Int) - 1) 1 [] = (⟨s, n, x⟩, false) := by
  subst hn
  have hk : chOk s (((0 : Nat) : Int) - 1) 1 [] = false := by
    unfold chOk chIn
    have : inB (((0 : Nat) : Int) - 1) 0 s.length = false := by
      rw [Bool.eq_false_iff]
      intro h
      have := inB_iff.1 h
      omega
    rw [this]; simp
  unfold chgK
  rw [hk]; rfl
theorem put_eq {s : List UInt8} {n : Nat} {x : Int} {c : UInt8} (hk : chOk s n 0 [c] = true) : chgK ⟨s, n, x⟩ n 0 [c] = (dkAt (chTo s n 0 [c]) (n + 1), true) := by
  unfold chgK
  rw [if_pos hk]; rfl
theorem put_no {s : List UInt8} {n : Nat} {x : Int} {c : UInt8} (hk : chOk s n 0 [c] = false) : chgK ⟨s, n, x⟩ n 0 [c] = (⟨s, n, x⟩, false) := by
  unfold chgK
  rw [hk]; rfl
theorem okC_of {c : Int} (h0 : 0 ≤ c) (h1 : c ≤ 255) (h10 : c ≠ 10) {s : List UInt8} {n : Nat} (hk : chOk s n 0 [UInt8.ofNat c.toNat] = true) : 32 ≤ c ∧ c ≤ 126 := by
  unfold chOk at hk
  simp only [Bool.and_eq_true, List.all_cons, List.all_nil, Bool.and_true] at hk
  have h := hk.1.2
  unfold okC okB at h
  rw [u8_back h0 h1] at h
  simp at h
  omega

theorem specPressKey_any (d : Dk) (c : Int) (w : World) (hs : d.body.length ≤ maxLen) (h0 : 0 ≤ c) (h1 : c ≤ 255) :
    Calls Try.prog 12 #[dkV d, .int .u8 c] w (DkPost (pressK d c) w) := by
  rcases hd : dkOk d with _ | _
  · have e : pressK d c = (dk0, false) := by unfold pressK; rw [hd]; rfl
    rw [e]
    exact skNo d c w hs hd
  · have e : pressK d c = keyK d c := by unfold pressK; rw [hd]; rfl
    rw [e]
    have ho := dkOk_out hd
    obtain ⟨s, p, x⟩ := d
    simp only at ho
    obtain ⟨n, rfl⟩ : ∃ n : Nat, p = n := ⟨p.toNat, by omega⟩
    unfold keyK
    simp only
    by_cases e1 : c = 60
    · rw [if_pos e1]; subst e1; exact spec_side60 s n x w hd
    rw [if_neg e1]
    by_cases e2 : c = 62
    · rw [if_pos e2]; subst e2; exact spec_side62 s n x w hd
    rw [if_neg e2]
    by_cases e3 : c = 94
    · rw [if_pos e3]; subst e3
      exact spec_up 94 (-1) s n x w (fun q h1 h2 => sk94y s n x w hd q h1 h2) (fun h => sk94n s n x w hd h)
    rw [if_neg e3]
    by_cases e4 : c = 95
    · rw [if_pos e4]; subst e4
      exact spec_up 95 1 s n x w (fun q h1 h2 => sk95y s n x w hd q h1 h2) (fun h => sk95n s n x w hd h)
    rw [if_neg e4]
    by_cases e5 : c = 35
    · rw [if_pos e5]; subst e5
      by_cases hn : 0 < n
      · exact dk_of (cut_eq hd hn) (sk35y s n x w hd hn)
      · exact dk_of (cut_no (by omega)) (sk35n s n x w hd (by omega))
    rw [if_neg e5]
    by_cases e6 : c = 64
    · rw [if_pos e6]; subst e6
      rcases hk : chOk s n 0 [10] with _ | _
      · exact dk_of (put_no hk) (sk64n s n x w hd hk)
      · exact dk_of (put_eq hk) (sk64y s n x w hd hk)
    rw [if_neg e6]
    by_cases e7 : c = 10
    · rw [if_pos e7]; subst e7
      exact dk_of rfl (sk10 s n x w hd)
    rw [if_neg e7]
    have b1 : (c == 60) = false := beq_eq_false_iff_ne.2 e1
    have b2 : (c == 62) = false := beq_eq_false_iff_ne.2 e2
    have b3 : (c == 35) = false := beq_eq_false_iff_ne.2 e5
    have b4 : (c == 94) = false := beq_eq_false_iff_ne.2 e3
    have b5 : (c == 95) = false := beq_eq_false_iff_ne.2 e4
    have b6 : (c == 64) = false := beq_eq_false_iff_ne.2 e6
    rcases hk : chOk s n 0 [UInt8.ofNat c.toNat] with _ | _
    · exact dk_of (put_no hk) (skOthn s n x c w hd h0 h1 b1 b2 b3 b4 b5 b6 hk)
    · have hr := okC_of h0 h1 e7 hk
      exact dk_of (put_eq hk) (skOthy s n x c w hd h0 h1 b1 b2 b3 b4 b5 b6 hr.1 hr.2 hk)

end Go.Proofs.Ytndmidcilbghkaa
