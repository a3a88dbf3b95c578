/- What is proved here: What is proved here: the contract of l20Text. No condition but that the code is a slice of bytes. What is proved here: the contract of l20Text where it draws valid texts only. No condition but that the code is a slice of bytes. What is proved here: contracts of l20Command and l20Action. No condition but that the code is a slice of bytes. No condition. -/
import Derived.Test.YtbjlkdenkmbepaaGreatDoorEverL
import Derived.Test.YtbjlkdenkmbepaaGreatDoorBase
import Derived.Test.YtbjlkdenkmbepaaGreatDoorText1
namespace Go.Proofs.YtbjlkdenkmbepaaGreatDoor
open Go.RowKit

/-- a row of short strings. -/
def Strs (w : World) (b k m : Nat) : Prop := b < w.heap.size ∧ ∀ j, j < k → ∃ l : List UInt8, w.cell? ⟨b, j, none⟩ = some (S l) ∧ l.length ≤ m
theorem Strs.up {w w' : World} {b k m g : Nat} (h : Strs w b k m) (hg : w.grownBy w' (some g)) (hn : b ≠ g) : Strs w' b k m :=
  ⟨Nat.lt_of_lt_of_le h.1 hg.size, fun j hj => by
    obtain ⟨l, h1, h2⟩ := h.2 j hj
    exact ⟨l, (World.cell?_of_block (a := ⟨b, j, none⟩) (hg.block b h.1 (by simpa using hn))).trans h1, h2⟩⟩
end Go.Proofs.YtbjlkdenkmbepaaGreatDoor

namespace Go.Proofs.YtbjlkdenkmbepaaGreatDoor
open Go.RowKit

theorem odd_zero (g : Nat) (w : World) : Calls Tryz.prog 46 #[.pointer (some ⟨g, 0, none⟩), .int .i64 0] w fun e w' => e = .returned (.bool false) ∧ w = w' := by
  go_enter Tryz.func46, Tryz.ntmps46
  go_wp2_with fail
  go_ret
  exact ⟨rfl, rfl⟩

/-- a row of short strings that may stand in texts. -/
def StrsC (w : World) (b k m : Nat) : Prop := b < w.heap.size ∧ ∀ j, j < k → ∃ l : List UInt8, w.cell? ⟨b, j, none⟩ = some (S l) ∧ l.length ≤ m ∧ l.all okC = true
theorem StrsC.up {w w' : World} {b k m g : Nat} (h : StrsC w b k m) (hg : w.grownBy w' (some g)) (hn : b ≠ g) : StrsC w' b k m :=
  ⟨Nat.lt_of_lt_of_le h.1 hg.size, fun j hj => by
    obtain ⟨l, h1, h2⟩ := h.2 j hj
    exact ⟨l, (World.cell?_of_block (a := ⟨b, j, none⟩) (hg.block b h.1 (by simpa using hn))).trans h1, h2⟩⟩
theorem strsC_new (w : World) (t : TypeId) (xs : List Value) (k m : Nat) (hk : xs.length = k) (h : ∀ x ∈ xs, ∃ l : List UInt8, x = S l ∧ l.length ≤ m ∧ l.all okC = true) : StrsC (w.alloc (.cells xs.toArray t)) w.heap.size k m :=
  ⟨by simp, fun j hj => by
    have hx : xs[j]? = some xs[j] := List.getElem?_eq_getElem (by omega)
    obtain ⟨l, hl, hm⟩ := h xs[j] (List.getElem_mem _)
    refine ⟨l, ?_, hm⟩
    rw [World.cell?_alloc_new]
    simp only [List.getElem?_toArray]
    rw [hx, hl]⟩
theorem all_take {l : List UInt8} (h : l.all okC = true) (k : Nat) : (l.take k).all okC = true := by
  rw [List.all_eq_true] at h ⊢
  exact fun x hx => h x (List.mem_of_mem_take hx)
def TextPost0 (g n : Nat) (zs : List Int) (p : Nat) (w : World) (e : Ending) (w' : World) : Prop :=
  ∃ s : List UInt8, e = .returned (S s) ∧ tv s = true ∧ (∃ q, q ≤ p + 30 ∧ Rdr w' g n zs q) ∧ w.grownBy w' (some g)

set_option maxRecDepth 100000 in
set_option maxHeartbeats 1000000 in
theorem l20Text0_any (g n : Nat) (zs : List Int) (p : Nat) (w : World) (hr : Rdr w g n zs p) (hp : p < 900000000) :
    Calls Tryz.prog 70 #[.pointer (some ⟨g, 0, none⟩), .int .i64 0] w (TextPost0 g n zs p w) := by
  have hg := hr.lt
  have hW := World.grownBy.refl w (some g)
  go_enter Tryz.func70, Tryz.ntmps70
  go_wp2_with fail
  refine (pick_any _ _ _ _ _ _ (hr.up (by exact bBel)) (by omega)).mono ?_
  rintro e w1 ⟨x1, rfl, h1, h2, hr1, hb⟩
  have hG : w.grownBy w1 (some g) := (by (repeat (first | exact World.grownBy.refl _ _ | assumption | refine gb_drew ?_ | refine gb_drewN ?_ _ | refine gb_alloc ?_ _ | refine gb_here ?_ rfl _ | refine gb_set ?_ _ _ (by first | exact Nat.le_refl _ | (simp; done) | (simp; omega) | omega) | refine gb_trans ?_ (by assumption) | refine gb_below ?_ (by assumption)))); have sw1 := hG.size; replace hW := gb_trans hW hG; clear hG
  have hx1 := h1 (by omega)
  have hS : StrsC w1 w.heap.size 24 7 := (strsC_new w _ _ 24 7 (by rfl) (by
    intro x hx
    simp only [List.mem_cons, List.not_mem_nil, or_false] at hx
    rcases hx with rfl | rfl | rfl | rfl | rfl | rfl | rfl | rfl | rfl | rfl | rfl | rfl | rfl | rfl | rfl | rfl | rfl | rfl | rfl | rfl | rfl | rfl | rfl | rfl
    all_goals exact ⟨_, rfl, by decide, by decide⟩)).up hb (by omega)
  have hbg : w.heap.size ≠ g := by omega
  clear hb hr h1 h2
  have HS := Lib.hid hS
  clear hS
  go_wp2_with fail
  go_loopw [5, 7] (fun s i wr => ∃ (k : Nat) (l : List UInt8) (q : Nat), k ≤ 23 ∧ i = .int .i64 k ∧ s = S l ∧ l.length + 7 * k ≤ 161 ∧ q + k ≤ p + 24 ∧ Rdr wr g n zs q ∧ w.grownBy wr (some g) ∧ Hid (l.all okC = true) ∧ Hid (StrsC wr w.heap.size 24 7)) (fun _ i _ => (intOf i).toNat)
  case atStart =>
    obtain ⟨k1, rfl⟩ : ∃ k1 : Nat, x1 = k1 := ⟨x1.toNat, by omega⟩
    exact ⟨k1, [], p + 1, by omega, rfl, rfl, by simp; omega, by omega, hr1, hW, Lib.hid rfl, HS⟩
  case round =>
    obtain ⟨k, l, q, hk, rfl, rfl, hl, hq, hrw, hWr, HC, HSw⟩ := hrel
    clear hr1 hW HS
    by_cases h0 : 0 < k
    · have i1 : (0 : Int) < (k : Int) := by omega
      go_wp2_with fail
      refine (pick_any _ _ _ _ _ _ (hrw.up (by exact bBel)) (by omega)).mono ?_
      rintro e w2 ⟨x2, rfl, h1, h2, hr2, hb⟩
      have hx2 := h1 (by omega)
      have hS2 := HSw.out.up hb hbg
      obtain ⟨u, hu1, hu2, hu3⟩ := hS2.2 x2.toNat (by omega)
      have HU := Lib.hid hu3
      have HS2 := Lib.hid hS2
      have hW2 := gb_trans hWr hb
      clear hb hrw h1 h2 hWr HSw hS2 hu3
      go_wp2_with fail
      go_roundw
      case rel =>
        refine ⟨k - 1, l ++ u, q + 1, by omega, ?_, rfl, by rw [List.length_append]; omega, by omega, hr2, hW2, Lib.hid (by rw [List.all_append, HC.out, HU.out]; rfl), HS2⟩
        rw [show ((k - 1 : Nat) : Int) = (k : Int) - 1 by omega]
      case measure => simp [intOf]; omega
    · obtain rfl : k = 0 := by omega
      have hlen : l.length ≤ 161 := by omega
      clear HSw hl
      have HT : Hid (∀ j, j ≤ 120 → tv (l.take j) = true) := Lib.hid (fun j hj => by
        unfold tv
        rw [all_take HC.out j, Bool.true_and]
        exact decide_eq_true (by rw [List.length_take]; omega))
      have HL : Hid (l.length ≤ 120 → tv l = true) := Lib.hid (fun h => by
        unfold tv
        rw [HC.out, Bool.true_and]
        exact decide_eq_true h)
      by_cases h120 : l.length ≤ 120
      all_goals
        go_wp2_with fail
        refine (odd_zero _ _).mono ?_
        rintro e w2 ⟨rfl, rfl⟩
        go_wp2_with fail
        go_ret
        refine ⟨_, rfl, ?_, ⟨q, by omega, hrw⟩, hWr⟩
        first | exact HL.out (by assumption) | exact HT.out _ (by omega) | (simp only [List.take_length]; exact HL.out (by assumption))

end Go.Proofs.YtbjlkdenkmbepaaGreatDoor

namespace Go.Proofs.YtbjlkdenkmbepaaGreatDoor
open Go.RowKit
set_option linter.unusedVariables false

/-- a call that draws a short text. -/
def CmdPost (g n : Nat) (zs : List Int) (p k : Nat) (w : World) (e : Ending) (w' : World) : Prop :=
  ∃ s : List UInt8, e = .returned (S s) ∧ s.length ≤ k ∧ (∃ q, q ≤ p + 20 ∧ Rdr w' g n zs q) ∧ w.grownBy w' (some g)
set_option maxRecDepth 100000 in
set_option maxHeartbeats 1000000 in
theorem l20Command_any (g n : Nat) (zs : List Int) (p : Nat) (m : Int) (w : World) (hr : Rdr w g n zs p) (hp : p < 900000000) :
    Calls Tryz.prog 82 #[.pointer (some ⟨g, 0, none⟩), .int .i64 m] w (CmdPost g n zs p 60 w) := by
  have hg := hr.lt
  have hW := World.grownBy.refl w (some g)
  unfold CmdPost
  go_enter Tryz.func82, Tryz.ntmps82
  go_wp2_with fail
  refine (pick_any _ _ _ _ _ _ (hr.up (by exact bBel)) (by omega)).mono ?_
  rintro en w1 ⟨x1, rfl, h1, h2, hr1, hb⟩
  have hx := h1 (by omega)
  have lc : ∀ o, w1.cell? ⟨w.heap.size, o, none⟩ = #[S [49], S [50], S [51], S [49, 44, 50], S [50, 44, 51], S [37], S [49, 44, 49]][o]? := gup_c hb (by simp <;> omega) (by omega) (fun o => by simp [go_sem]); have lf : ∀ o, w1.frozen? ⟨w.heap.size, o, none⟩ = false := gup_f hb (by simp <;> omega) (by omega) (fun o => by simp [go_sem]); have lz : w.heap.size < w1.heap.size := (by have := hb.size; (try simp at this); omega); have ly := lz
  obtain ⟨a, ht, al⟩ : ∃ a : List UInt8, (#[S [49], S [50], S [51], S [49, 44, 50], S [50, 44, 51], S [37], S [49, 44, 49]] : Array Value)[x1.toNat]? = some (S a) ∧ a.length ≤ 3 := by
    rcases (show x1 = 0 ∨ x1 = 1 ∨ x1 = 2 ∨ x1 = 3 ∨ x1 = 4 ∨ x1 = 5 ∨ x1 = 6 by omega) with rfl | rfl | rfl | rfl | rfl | rfl | rfl
    all_goals exact ⟨_, rfl, by first | decide | omega | (simp; done) | (simp; omega)⟩
  have lc1 := (lc x1.toNat).trans ht
  have ix0 : (0 : Int) ≤ x1 := hx.1
  have ix1 : x1 < 7 := hx.2
  replace hW := gb_trans (gb_alloc hW _) hb
  clear hb h1 h2 lc lf ly lz ht hx hr
  have sw1 := hW.size
  go_wp2_with fail
  refine (pick_any _ _ _ _ _ _ (hr1.up (by exact bBel)) (by omega)).mono ?_
  rintro en w2 ⟨x2, rfl, h1, h2, hr2, hb⟩
  have hx := h1 (by omega)
  have lc : ∀ o, w2.cell? ⟨w1.heap.size, o, none⟩ = #[S [100], S [116, 48], S [116, 49], S [116, 50], S [115, 47, 97, 47, 98, 47], S [115, 47, 97, 47, 47], S [115, 47, 97, 98, 47, 120, 32, 121, 47], S [62], S [60], S [60]][o]? := gup_c hb (by simp <;> omega) (by omega) (fun o => by simp [go_sem]); have lf : ∀ o, w2.frozen? ⟨w1.heap.size, o, none⟩ = false := gup_f hb (by simp <;> omega) (by omega) (fun o => by simp [go_sem]); have lz : w1.heap.size < w2.heap.size := (by have := hb.size; (try simp at this); omega); have ly := lz
  obtain ⟨c, ht, cl⟩ : ∃ c : List UInt8, (#[S [100], S [116, 48], S [116, 49], S [116, 50], S [115, 47, 97, 47, 98, 47], S [115, 47, 97, 47, 47], S [115, 47, 97, 98, 47, 120, 32, 121, 47], S [62], S [60], S [60]] : Array Value)[x2.toNat]? = some (S c) ∧ c.length ≤ 12 := by
    rcases (show x2 = 0 ∨ x2 = 1 ∨ x2 = 2 ∨ x2 = 3 ∨ x2 = 4 ∨ x2 = 5 ∨ x2 = 6 ∨ x2 = 7 ∨ x2 = 8 ∨ x2 = 9 by omega) with rfl | rfl | rfl | rfl | rfl | rfl | rfl | rfl | rfl | rfl
    all_goals exact ⟨_, rfl, by first | decide | omega | (simp; done) | (simp; omega)⟩
  have lc1 := (lc x2.toNat).trans ht
  have ix0 : (0 : Int) ≤ x2 := hx.1
  have ix1 : x2 < 10 := hx.2
  replace hW := gb_trans (gb_alloc hW _) hb
  clear hb h1 h2 lc lf ly lz ht hx hr1
  have sw2 := hW.size
  go_wp2_with fail
  refine (odd_any _ _ _ _ _ _ (hr2.up (by exact bBel)) (by omega)).mono ?_
  rintro en w3 ⟨b, rfl, ⟨q3, hq3, hr3⟩, hb⟩
  replace hW := gb_trans hW hb
  have sw3 := hW.size
  clear hb hr2 lc1
  rcases b with _ | _
  · go_wp2_with fail
    go_ret
    exact ⟨a ++ c, (by first | rfl | simp), by rw [List.length_append]; omega, ⟨q3, by omega, hr3⟩, hW⟩
  · go_wp2_with fail
    refine (pick_any _ _ _ _ _ _ (hr3.up (by exact bBel)) (by omega)).mono ?_
    rintro en w4 ⟨x4, rfl, h1, h2, hr4, hb⟩
    have hx := h1 (by omega)
    have lc : ∀ o, w4.cell? ⟨w3.heap.size, o, none⟩ = #[S [], S a, S [100], S [48, 100], S [51, 44, 49, 100], S (a ++ [120]), S (a ++ [115, 47, 97, 47, 98]), S (a ++ [116]), S (a ++ [116, 57]), S [49, 44, 100], S [48, 49, 100], S (a ++ [100, 100]), S (a ++ [115, 47, 47, 98, 47]), S [57, 57, 57, 57, 100]][o]? := gup_c hb (by simp <;> omega) (by omega) (fun o => by simp [go_sem]); have lf : ∀ o, w4.frozen? ⟨w3.heap.size, o, none⟩ = false := gup_f hb (by simp <;> omega) (by omega) (fun o => by simp [go_sem]); have lz : w3.heap.size < w4.heap.size := (by have := hb.size; (try simp at this); omega); have ly := lz
    obtain ⟨d, ht, dl⟩ : ∃ d : List UInt8, (#[S [], S a, S [100], S [48, 100], S [51, 44, 49, 100], S (a ++ [120]), S (a ++ [115, 47, 97, 47, 98]), S (a ++ [116]), S (a ++ [116, 57]), S [49, 44, 100], S [48, 49, 100], S (a ++ [100, 100]), S (a ++ [115, 47, 47, 98, 47]), S [57, 57, 57, 57, 100]] : Array Value)[x4.toNat]? = some (S d) ∧ d.length ≤ 12 := by
      rcases (show x4 = 0 ∨ x4 = 1 ∨ x4 = 2 ∨ x4 = 3 ∨ x4 = 4 ∨ x4 = 5 ∨ x4 = 6 ∨ x4 = 7 ∨ x4 = 8 ∨ x4 = 9 ∨ x4 = 10 ∨ x4 = 11 ∨ x4 = 12 ∨ x4 = 13 by omega) with rfl | rfl | rfl | rfl | rfl | rfl | rfl | rfl | rfl | rfl | rfl | rfl | rfl | rfl
      all_goals exact ⟨_, rfl, by first | decide | omega | (simp; done) | (simp; omega)⟩
    have lc1 := (lc x4.toNat).trans ht
    have ix0 : (0 : Int) ≤ x4 := hx.1
    have ix1 : x4 < 14 := hx.2
    replace hW := gb_trans (gb_alloc hW _) hb
    clear hb h1 h2 lc lf ly lz ht hx hr3
    go_wp2_with fail
    go_ret
    exact ⟨d, rfl, by omega, ⟨q3 + 1, by omega, hr4⟩, hW⟩
set_option maxRecDepth 100000 in
set_option maxHeartbeats 1000000 in
theorem l20Action_any (g n : Nat) (zs : List Int) (p : Nat) (m : Int) (w : World) (hr : Rdr w g n zs p) (hp : p < 800000000) :
    Calls Tryz.prog 45 #[.pointer (some ⟨g, 0, none⟩), .int .i64 m] w (fun e w' => ∃ s : List UInt8, e = .returned (S s) ∧ s.length ≤ 100 ∧ (∃ q, q ≤ p + 40 ∧ Rdr w' g n zs q) ∧ w.grownBy w' (some g)) := by
  have hg := hr.lt
  have hW := World.grownBy.refl w (some g)
  go_enter Tryz.func45, Tryz.ntmps45
  go_wp2_with fail
  refine (pick_any _ _ _ _ _ _ (hr.up (by exact bBel)) (by omega)).mono ?_
  rintro en w1 ⟨x1, rfl, h1, h2, hr1, hb⟩
  have hx := h1 (by omega)
  have lc : ∀ o, w1.cell? ⟨w.heap.size, o, none⟩ = #[S [112, 117, 116, 32, 97], S [112, 117, 116, 32, 102, 111, 111, 32, 98, 97, 114], S [112, 117, 116, 32, 32], S [108, 105, 110, 101], S [99, 117, 116], S [112, 97, 115, 116, 101], S [114, 105, 103, 104, 116], S [114, 105, 103, 104, 116], S [108, 101, 102, 116], S [102, 105, 110, 100, 32, 97], S [102, 105, 110, 100, 32, 10], S [117, 110, 100, 111], S [117, 110, 100, 111], S [114, 101, 100, 111]][o]? := gup_c hb (by simp <;> omega) (by omega) (fun o => by simp [go_sem]); have lf : ∀ o, w1.frozen? ⟨w.heap.size, o, none⟩ = false := gup_f hb (by simp <;> omega) (by omega) (fun o => by simp [go_sem]); have lz : w.heap.size < w1.heap.size := (by have := hb.size; (try simp at this); omega); have ly := lz
  obtain ⟨a, ht, al⟩ : ∃ a : List UInt8, (#[S [112, 117, 116, 32, 97], S [112, 117, 116, 32, 102, 111, 111, 32, 98, 97, 114], S [112, 117, 116, 32, 32], S [108, 105, 110, 101], S [99, 117, 116], S [112, 97, 115, 116, 101], S [114, 105, 103, 104, 116], S [114, 105, 103, 104, 116], S [108, 101, 102, 116], S [102, 105, 110, 100, 32, 97], S [102, 105, 110, 100, 32, 10], S [117, 110, 100, 111], S [117, 110, 100, 111], S [114, 101, 100, 111]] : Array Value)[x1.toNat]? = some (S a) ∧ a.length ≤ 20 := by
    rcases (show x1 = 0 ∨ x1 = 1 ∨ x1 = 2 ∨ x1 = 3 ∨ x1 = 4 ∨ x1 = 5 ∨ x1 = 6 ∨ x1 = 7 ∨ x1 = 8 ∨ x1 = 9 ∨ x1 = 10 ∨ x1 = 11 ∨ x1 = 12 ∨ x1 = 13 by omega) with rfl | rfl | rfl | rfl | rfl | rfl | rfl | rfl | rfl | rfl | rfl | rfl | rfl | rfl
    all_goals exact ⟨_, rfl, by first | decide | omega | (simp; done) | (simp; omega)⟩
  have lc1 := (lc x1.toNat).trans ht
  have ix0 : (0 : Int) ≤ x1 := hx.1
  have ix1 : x1 < 14 := hx.2
  replace hW := gb_trans (gb_alloc hW _) hb
  clear hb h1 h2 lc lf ly lz ht hx hr
  have sw1 := hW.size
  go_wp2_with fail
  refine (pick_any _ _ _ _ _ _ (hr1.up (by exact bBel)) (by omega)).mono ?_
  rintro en w2 ⟨x2, rfl, h1, h2, hr2, hb⟩
  replace hW := gb_trans hW hb
  have sw2 := hW.size
  clear hb h1 h2 hr1 lc1
  by_cases hx2 : x2 = 0
  · have b1 : (x2 == 0) = true := by simpa using hx2
    clear hx2
    go_wp2_with fail
    refine (l20Command_any _ _ _ _ _ _ (hr2.up (by exact bBel)) (by omega)).mono ?_
    rintro en w3 ⟨c, rfl, hcl, ⟨q3, hq3, hr3⟩, hb⟩
    replace hW := gb_trans hW hb
    have sw3 := hW.size
    obtain ⟨a, ha⟩ : ∃ a : List UInt8, a = 114 :: 117 :: 110 :: 32 :: c := ⟨_, rfl⟩
    have hal2 : a.length ≤ 64 := by rw [ha]; simp; omega
    clear hb hr2 al
    go_wp2_with fail
    refine (odd_any _ _ _ _ _ _ (hr3.up (by exact bBel)) (by omega)).mono ?_
    rintro en w4 ⟨b, rfl, ⟨q4, hq4, hr4⟩, hb⟩
    replace hW := gb_trans hW hb
    have sw4 := hW.size
    clear hb hr3
    rcases b with _ | _
    · go_wp2_with fail
      go_ret
      exact ⟨a, (by simp [ha]), by omega, ⟨q4, by omega, hr4⟩, hW⟩
    · go_wp2_with fail
      refine (pick_any _ _ _ _ _ _ (hr4.up (by exact bBel)) (by omega)).mono ?_
      rintro en w5 ⟨x5, rfl, h1, h2, hr5, hb⟩
      have hx := h1 (by omega)
      have lc : ∀ o, w5.cell? ⟨w4.heap.size, o, none⟩ = #[S [], S [112, 117, 116], S [112, 117, 116, 32], S [108, 105, 110, 101, 32, 120], S [67, 117, 116], S [102, 105, 110, 100], S [114, 117, 110], S [117, 110, 100, 111, 32, 49], S [112, 117, 116, 32, 9]][o]? := gup_c hb (by simp <;> omega) (by omega) (fun o => by simp [go_sem]); have lf : ∀ o, w5.frozen? ⟨w4.heap.size, o, none⟩ = false := gup_f hb (by simp <;> omega) (by omega) (fun o => by simp [go_sem]); have lz : w4.heap.size < w5.heap.size := (by have := hb.size; (try simp at this); omega); have ly := lz
      obtain ⟨d, ht, dl⟩ : ∃ d : List UInt8, (#[S [], S [112, 117, 116], S [112, 117, 116, 32], S [108, 105, 110, 101, 32, 120], S [67, 117, 116], S [102, 105, 110, 100], S [114, 117, 110], S [117, 110, 100, 111, 32, 49], S [112, 117, 116, 32, 9]] : Array Value)[x5.toNat]? = some (S d) ∧ d.length ≤ 20 := by
        rcases (show x5 = 0 ∨ x5 = 1 ∨ x5 = 2 ∨ x5 = 3 ∨ x5 = 4 ∨ x5 = 5 ∨ x5 = 6 ∨ x5 = 7 ∨ x5 = 8 by omega) with rfl | rfl | rfl | rfl | rfl | rfl | rfl | rfl | rfl
        all_goals exact ⟨_, rfl, by first | decide | omega | (simp; done) | (simp; omega)⟩
      have lc1 := (lc x5.toNat).trans ht
      have ix0 : (0 : Int) ≤ x5 := hx.1
      have ix1 : x5 < 9 := hx.2
      replace hW := gb_trans (gb_alloc hW _) hb
      clear hb h1 h2 lc lf ly lz ht hx hr4
      go_wp2_with fail
      go_ret
      exact ⟨d, rfl, by omega, ⟨q4 + 1, by omega, hr5⟩, hW⟩
  · have b1 : (x2 == 0) = false := by simpa using hx2
    obtain ⟨q3, hq3, hr3⟩ : ∃ q3, q3 ≤ p + 21 ∧ Rdr w2 g n zs q3 := ⟨p + 1 + 1, by omega, hr2⟩
    clear hx2 hr2
    go_wp2_with fail
    refine (odd_any _ _ _ _ _ _ (hr3.up (by exact bBel)) (by omega)).mono ?_
    rintro en w4 ⟨b, rfl, ⟨q4, hq4, hr4⟩, hb⟩
    replace hW := gb_trans hW hb
    have sw4 := hW.size
    clear hb hr3
    rcases b with _ | _
    · go_wp2_with fail
      go_ret
      exact ⟨a, (by first | rfl | simp), by omega, ⟨q4, by omega, hr4⟩, hW⟩
    · go_wp2_with fail
      refine (pick_any _ _ _ _ _ _ (hr4.up (by exact bBel)) (by omega)).mono ?_
      rintro en w5 ⟨x5, rfl, h1, h2, hr5, hb⟩
      have hx := h1 (by omega)
      have lc : ∀ o, w5.cell? ⟨w4.heap.size, o, none⟩ = #[S [], S [112, 117, 116], S [112, 117, 116, 32], S [108, 105, 110, 101, 32, 120], S [67, 117, 116], S [102, 105, 110, 100], S [114, 117, 110], S [117, 110, 100, 111, 32, 49], S [112, 117, 116, 32, 9]][o]? := gup_c hb (by simp <;> omega) (by omega) (fun o => by simp [go_sem]); have lf : ∀ o, w5.frozen? ⟨w4.heap.size, o, none⟩ = false := gup_f hb (by simp <;> omega) (by omega) (fun o => by simp [go_sem]); have lz : w4.heap.size < w5.heap.size := (by have := hb.size; (try simp at this); omega); have ly := lz
      obtain ⟨d, ht, dl⟩ : ∃ d : List UInt8, (#[S [], S [112, 117, 116], S [112, 117, 116, 32], S [108, 105, 110, 101, 32, 120], S [67, 117, 116], S [102, 105, 110, 100], S [114, 117, 110], S [117, 110, 100, 111, 32, 49], S [112, 117, 116, 32, 9]] : Array Value)[x5.toNat]? = some (S d) ∧ d.length ≤ 20 := by
        rcases (show x5 = 0 ∨ x5 = 1 ∨ x5 = 2 ∨ x5 = 3 ∨ x5 = 4 ∨ x5 = 5 ∨ x5 = 6 ∨ x5 = 7 ∨ x5 = 8 by omega) with rfl | rfl | rfl | rfl | rfl | rfl | rfl | rfl | rfl
        all_goals exact ⟨_, rfl, by first | decide | omega | (simp; done) | (simp; omega)⟩
      have lc1 := (lc x5.toNat).trans ht
      have ix0 : (0 : Int) ≤ x5 := hx.1
      have ix1 : x5 < 9 := hx.2
      replace hW := gb_trans (gb_alloc hW _) hb
      clear hb h1 h2 lc lf ly lz ht hx hr4
      go_wp2_with fail
      go_ret
      exact ⟨d, rfl, by omega, ⟨q4 + 1, by omega, hr5⟩, hW⟩

end Go.Proofs.YtbjlkdenkmbepaaGreatDoor
