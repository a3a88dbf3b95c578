/- What is proved here: plain facts on desks and keys. No condition. -/
import Derived.Test.YtcjgllbhmghkeaaDoorLin2
import Derived.Test.YtcjgllbhmghkeaaDoorChg2
namespace Go.Proofs.YtcjgllbhmghkeaaDoor
open Go.RowKit

structure Dk where
  body : List UInt8
  place : Int
  want : Int
def dkV (d : Dk) : Value := .agg #[S d.body, .int .i64 d.place, .int .i64 d.want]
def dkOk (d : Dk) : Bool := tv d.body && inB d.place 0 d.body.length && inB d.want 0 120
def dk0 : Dk := ⟨[], 0, 0⟩
def dkAt (s : List UInt8) (n : Nat) : Dk := ⟨s, n, colOf s n⟩
def chgK (d : Dk) (a c : Int) (p : List UInt8) : Dk × Bool := if chOk d.body a c p = true then (dkAt (chTo d.body a c p) (a.toNat + p.length), true) else (d, false)
def sideK (d : Dk) (b : Int) : Dk × Bool := if inB (d.place + b) 0 d.body.length = true then (dkAt d.body (d.place + b).toNat, true) else (d, false)
def upK (d : Dk) (b : Int) : Dk × Bool := if inB ((nl (d.body.take d.place.toNat) : Int) + b) 0 (nl d.body) = true then (⟨d.body, pAt d.body ((nl (d.body.take d.place.toNat) : Int) + b).toNat d.want, d.want⟩, true) else (d, false)
def keyK (d : Dk) (c : Int) : Dk × Bool :=
  if c = 60 then sideK d (-1) else if c = 62 then sideK d 1 else if c = 94 then upK d (-1) else if c = 95 then upK d 1
  else if c = 35 then chgK d (d.place - 1) 1 [] else if c = 64 then chgK d d.place 0 [10] else if c = 10 then (d, false) else chgK d d.place 0 [UInt8.ofNat c.toNat]
def pressK (d : Dk) (c : Int) : Dk × Bool := if dkOk d = true then keyK d c else (dk0, false)
theorem dkOk_out {d : Dk} (h : dkOk d = true) : tv d.body = true ∧ 0 ≤ d.place ∧ d.place ≤ d.body.length ∧ 0 ≤ d.want ∧ d.want ≤ 120 ∧ d.body.length ≤ 120 := by
  unfold dkOk at h
  simp only [Bool.and_eq_true, inB_iff] at h
  have := tv_len h.1.1
  exact ⟨h.1.1, h.1.2.1, h.1.2.2, h.2.1, h.2.2, this⟩
theorem dkOk_mk {d : Dk} (h1 : tv d.body = true) (h2 : 0 ≤ d.place) (h3 : d.place ≤ d.body.length) (h4 : 0 ≤ d.want) (h5 : d.want ≤ 120) : dkOk d = true := by
  unfold dkOk
  rw [h1, inB_iff.2 ⟨h2, h3⟩, inB_iff.2 ⟨h4, h5⟩]; rfl
theorem dkAt_ok {s : List UInt8} {n : Nat} (hs : tv s = true) (hn : n ≤ s.length) : dkOk (dkAt s n) = true := by
  have := tv_len hs
  have hc : colOf s n ≤ n := Nat.sub_le _ _
  exact dkOk_mk hs (by show (0 : Int) ≤ (n : Int); omega) (by show (n : Int) ≤ s.length; omega) (by show (0 : Int) ≤ (colOf s n : Int); omega) (by show (colOf s n : Int) ≤ 120; omega)
theorem chgK_ok {d : Dk} (h : dkOk d = true) (a c : Int) (p : List UInt8) : dkOk (chgK d a c p).1 = true := by
  unfold chgK
  split
  · rename_i hk
    have hk2 := hk
    unfold chOk at hk2
    simp only [Bool.and_eq_true] at hk2
    have hi := chIn_out hk2.1.1.2
    have hl := chTo_len p hk2.1.1.2
    exact dkAt_ok (by rw [chTo_tv p hk2.1.1.1 hk2.1.1.2]; exact hk) (by omega)
  · exact h
theorem pAt_bd {s : List UInt8} {q : Nat} {c : Int} (hq : q ≤ nl s) (hc : 0 ≤ c) : 0 ≤ pAt s q c ∧ pAt s q c ≤ s.length := by
  have := lend_le s q hq
  unfold pAt
  omega
theorem keyK_ok {d : Dk} (h : dkOk d = true) (c : Int) : dkOk (keyK d c).1 = true := by
  have hd := dkOk_out h
  have side : ∀ b, dkOk (sideK d b).1 = true := by
    intro b
    unfold sideK
    split
    · rename_i hi
      have := inB_iff.1 hi
      exact dkAt_ok hd.1 (by omega)
    · exact h
  have up : ∀ b, dkOk (upK d b).1 = true := by
    intro b
    unfold upK
    split
    · rename_i hi
      have := inB_iff.1 hi
      have hp := pAt_bd (s := d.body) (q := ((nl (d.body.take d.place.toNat) : Int) + b).toNat) (c := d.want) (by omega) hd.2.2.2.1
      exact dkOk_mk hd.1 hp.1 hp.2 hd.2.2.2.1 hd.2.2.2.2.1
    · exact h
  unfold keyK
  by_cases e1 : c = 60
  · rw [if_pos e1]; exact side _
  rw [if_neg e1]
  by_cases e2 : c = 62
  · rw [if_pos e2]; exact side _
  rw [if_neg e2]
  by_cases e3 : c = 94
  · rw [if_pos e3]; exact up _
  rw [if_neg e3]
  by_cases e4 : c = 95
  · rw [if_pos e4]; exact up _
  rw [if_neg e4]
  by_cases e5 : c = 35
  · rw [if_pos e5]; exact chgK_ok h _ _ _
  rw [if_neg e5]
  by_cases e6 : c = 64
  · rw [if_pos e6]; exact chgK_ok h _ _ _
  rw [if_neg e6]
  by_cases e7 : c = 10
  · rw [if_pos e7]; exact h
  rw [if_neg e7]
  exact chgK_ok h _ _ _
theorem pressK_ok {d : Dk} (h : dkOk d = true) (c : Int) : dkOk (pressK d c).1 = true := by
  unfold pressK
  rw [if_pos h]
  exact keyK_ok h c

end Go.Proofs.YtcjgllbhmghkeaaDoor
