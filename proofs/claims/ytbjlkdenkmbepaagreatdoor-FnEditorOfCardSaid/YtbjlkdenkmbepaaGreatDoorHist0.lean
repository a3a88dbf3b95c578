/- What is proved here: plain facts on trees of states: changes and their reverses, and when a history is one of a text. No condition. -/
import Derived.Test.YtbjlkdenkmbepaaGreatDoorChg2
namespace Go.Proofs.YtbjlkdenkmbepaaGreatDoor
open Go.RowKit
set_option linter.unusedVariables false

structure Ch where
  a : Int
  c : Int
  p : List UInt8
structure Mo where
  par : Int
  f : Ch
  b : Ch
def chC (x : Ch) : List Value := [.int .i64 x.a, .int .i64 x.c, S x.p]
def chAgg (x : Ch) : Value := .agg #[.int .i64 x.a, .int .i64 x.c, S x.p]
def moC (m : Mo) : List Value := [.int .i64 m.par, .int .i64 m.f.a, .int .i64 m.f.c, S m.f.p, .int .i64 m.b.a, .int .i64 m.b.c, S m.b.p]
theorem moC_len (m : Mo) : (moC m).length = 7 := rfl
def c0 : Ch := ⟨0, 0, []⟩
def m0 : Mo := ⟨-1, c0, c0⟩
def okF (s : List UInt8) (x : Ch) : Bool := chOk s x.a x.c x.p
def apF (s : List UInt8) (x : Ch) : List UInt8 := chTo s x.a x.c x.p
def rvF (s : List UInt8) (x : Ch) : Ch := ⟨x.a, x.p.length, (s.drop x.a.toNat).take x.c.toNat⟩

theorem okF_tv {s : List UInt8} {x : Ch} (h : okF s x = true) : tv s = true ∧ tv (apF s x) = true := by
  have h2 := h
  unfold okF chOk at h2
  simp only [Bool.and_eq_true] at h2
  exact ⟨h2.1.1.1, (chTo_tv x.p h2.1.1.1 h2.1.1.2).trans h⟩
theorem okF_in {s : List UInt8} {x : Ch} (h : okF s x = true) : 0 ≤ x.a ∧ x.a ≤ s.length ∧ 0 ≤ x.c ∧ x.a + x.c ≤ s.length := by
  unfold okF chOk at h
  simp only [Bool.and_eq_true] at h
  exact chIn_out h.1.1.2
theorem okF_put {s : List UInt8} {x : Ch} (h : okF s x = true) : x.p.length ≤ 120 := by
  have hl := chTo_len (c := x.c) (a := x.a) (s := s) x.p (by unfold okF chOk at h; simp only [Bool.and_eq_true] at h; exact h.1.1.2)
  have ht := tv_len (okF_tv h).2
  have := okF_in h
  unfold apF at ht
  omega
/-- the reverse is possible, and leads back. -/
theorem rv_back {s : List UInt8} {x : Ch} (h : okF s x = true) : okF (apF s x) (rvF s x) = true ∧ apF (apF s x) (rvF s x) = s := by
  obtain ⟨h1, h2⟩ := okF_tv h
  obtain ⟨b0, b1, b2, b3⟩ := okF_in h
  obtain ⟨n, hn⟩ : ∃ n : Nat, x.a = n := ⟨x.a.toNat, by omega⟩
  obtain ⟨m, hm⟩ : ∃ m : Nat, x.c = m := ⟨x.c.toNat, by omega⟩
  have hap : apF s x = s.take n ++ (x.p ++ s.drop (n + m)) := by
    unfold apF chTo
    rw [hn, hm, Int.toNat_natCast, show ((n : Int) + (m : Int)).toNat = n + m by omega]
  have hlt : (s.take n).length = n := by rw [List.length_take]; omega
  have hin : chIn (apF s x) x.a (x.p.length : Int) = true := by
    unfold chIn
    have hl : (apF s x).length = n + (x.p.length + (s.length - (n + m))) := by rw [hap]; simp; omega
    rw [hl, inB_iff.2 (by omega), inB_iff.2 (by omega)]; rfl
  have hback : chTo (apF s x) x.a (x.p.length : Int) ((s.drop x.a.toNat).take x.c.toNat) = s := by
    unfold chTo
    rw [hap, hn, hm, Int.toNat_natCast, Int.toNat_natCast, show ((n : Int) + (x.p.length : Int)).toNat = n + x.p.length by omega]
    have e1 : (s.take n ++ (x.p ++ s.drop (n + m))).take n = s.take n := by
      rw [List.take_append, hlt, Nat.sub_self, List.take_zero, List.append_nil, List.take_take, Nat.min_self]
    have e2 : (s.take n ++ (x.p ++ s.drop (n + m))).drop (n + x.p.length) = s.drop (n + m) := by
      rw [← List.append_assoc, List.drop_append, List.drop_of_length_le (by rw [List.length_append, hlt]; exact Nat.le_refl _), List.nil_append, List.length_append, hlt, Nat.sub_self, List.drop_zero]
    rw [e1, e2, ← List.drop_drop, List.take_append_drop, List.take_append_drop]
  refine ⟨?_, hback⟩
  show chOk (apF s x) x.a (x.p.length : Int) ((s.drop x.a.toNat).take x.c.toNat) = true
  rw [← chTo_tv _ h2 hin, hback]
  exact h1

/-- the local conditions on state k. -/
def Step (ms : List Mo) (o : List (List UInt8)) (k : Nat) : Prop :=
  0 ≤ (ms.getD k m0).par ∧ (ms.getD k m0).par < k ∧ okF (o.getD (ms.getD k m0).par.toNat []) (ms.getD k m0).f = true ∧ rvF (o.getD (ms.getD k m0).par.toNat []) (ms.getD k m0).f = (ms.getD k m0).b ∧
    o.getD k [] = apF (o.getD (ms.getD k m0).par.toNat []) (ms.getD k m0).f
/-- o are the texts of all states, and s that of state a. -/
structure HGood (ms : List Mo) (a : Int) (s : List UInt8) (o : List (List UInt8)) : Prop where
  t : tv s = true
  n1 : 1 ≤ ms.length
  n30 : ms.length ≤ 30
  a0 : 0 ≤ a
  a1 : a < ms.length
  m : ms.getD 0 m0 = m0
  len : o.length = ms.length
  first : tv (o.getD 0 []) = true
  step : ∀ k, 0 < k → k < ms.length → Step ms o k
  at_ : o.getD a.toNat [] = s
theorem HGood.tvs {ms : List Mo} {a : Int} {s : List UInt8} {o : List (List UInt8)} (h : HGood ms a s o) : ∀ k, k < ms.length → tv (o.getD k []) = true := by
  intro k hk
  by_cases h0 : k = 0
  · subst h0; exact h.first
  · obtain ⟨_, _, h3, _, h5⟩ := h.step k (by omega) hk
    rw [h5]
    exact (okF_tv h3).2
/-- one step back along the tree. -/
theorem HGood.back {ms : List Mo} {a : Int} {s : List UInt8} {o : List (List UInt8)} (h : HGood ms a s o) {k : Nat} (h0 : 0 < k) (hk : k < ms.length) :
    0 ≤ (ms.getD k m0).par ∧ (ms.getD k m0).par < k ∧ okF (o.getD k []) (ms.getD k m0).b = true ∧ o.getD (ms.getD k m0).par.toNat [] = apF (o.getD k []) (ms.getD k m0).b := by
  obtain ⟨h1, h2, h3, h4, h5⟩ := h.step k h0 hk
  obtain ⟨r1, r2⟩ := rv_back h3
  rw [← h5, h4] at r1 r2
  exact ⟨h1, h2, r1, r2.symm⟩
theorem HGood.put {ms : List Mo} {a : Int} {s : List UInt8} {o : List (List UInt8)} (h : HGood ms a s o) {k : Nat} (hk : k < ms.length) : (ms.getD k m0).f.p.length ≤ 120 ∧ (ms.getD k m0).b.p.length ≤ 120 := by
  by_cases h0 : k = 0
  · subst h0; rw [h.m]; exact ⟨by decide, by decide⟩
  · obtain ⟨_, _, h3, _, _⟩ := h.step k (by omega) hk
    exact ⟨okF_put h3, okF_put (h.back (by omega) hk).2.2.1⟩
/-- lists that are built alike are alike. -/
theorem good_same {ms : List Mo} {a : Int} {s : List UInt8} {o q : List (List UInt8)} {n : Nat} (h : HGood ms a s o) (h0 : o.getD 0 [] = q.getD 0 []) (hs : ∀ k, 0 < k → k < n → Step ms q k) : ∀ k, k < n → k < ms.length → q.getD k [] = o.getD k [] := by
  intro k
  induction k using Nat.strongRecOn with
  | ind k ih =>
    intro hk hkm
    by_cases hz : k = 0
    · subst hz; exact h0.symm
    · obtain ⟨p1, p2, _, _, p5⟩ := hs k (by omega) hk
      obtain ⟨_, _, _, _, g5⟩ := h.step k (by omega) hkm
      rw [p5, g5, ih _ (by omega) (by omega) (by omega)]
theorem apTo_ok {s : List UInt8} {x : Ch} (h : okF s x = true) : apTo s x.a x.c x.p = apF s x := by
  unfold apTo
  rw [if_pos (show chOk s x.a x.c x.p = true from h)]; rfl

end Go.Proofs.YtbjlkdenkmbepaaGreatDoor
