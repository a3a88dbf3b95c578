/- What is proved here: the contract of l20Text. No condition but that the code is a slice of bytes. -/
import Derived.Test.YtbjlkdenkmbepaaGreatDoorEver2
import Derived.Test.YtbjlkdenkmbepaaGreatDoorStr
namespace Go.Proofs.YtbjlkdenkmbepaaGreatDoor
open Go.RowKit

def TextPost (g n : Nat) (zs : List Int) (p : Nat) (w : World) (e : Ending) (w' : World) : Prop :=
  ∃ s : List UInt8, e = .returned (S s) ∧ s.length ≤ 130 ∧ (∃ q, q ≤ p + 30 ∧ Rdr w' g n zs q) ∧ w.grownBy w' (some g)

/-- a row of short strings. -/
def Strs (w : World) (b k m : Nat) : Prop := b < w.heap.size ∧ ∀ j, j < k → ∃ l : List UInt8, w.cell? ⟨b, j, none⟩ = some (S l) ∧ l.length ≤ m
theorem Strs.up {w w' : World} {b k m g : Nat} (h : Strs w b k m) (hg : w.grownBy w' (some g)) (hn : b ≠ g) : Strs w' b k m :=
  ⟨Nat.lt_of_lt_of_le h.1 hg.size, fun j hj => by
    obtain ⟨l, h1, h2⟩ := h.2 j hj
    exact ⟨l, (World.cell?_of_block (a := ⟨b, j, none⟩) (hg.block b h.1 (by simpa using hn))).trans h1, h2⟩⟩
theorem strs_new (w : World) (t : TypeId) (xs : List Value) (k m : Nat) (hk : xs.length = k) (h : ∀ x ∈ xs, ∃ l : List UInt8, x = S l ∧ l.length ≤ m) : Strs (w.alloc (.cells xs.toArray t)) w.heap.size k m :=
  ⟨by simp, fun j hj => by
    have hx : xs[j]? = some xs[j] := List.getElem?_eq_getElem (by omega)
    obtain ⟨l, hl, hm⟩ := h xs[j] (List.getElem_mem _)
    refine ⟨l, ?_, hm⟩
    rw [World.cell?_alloc_new]
    simp only [List.getElem?_toArray]
    rw [hx, hl]⟩

set_option maxRecDepth 100000 in
set_option maxHeartbeats 1000000 in
theorem l20Text_any (g n : Nat) (zs : List Int) (p : Nat) (m : Int) (w : World) (hr : Rdr w g n zs p) (hp : p < 900000000) :
    Calls Tryz.prog 70 #[.pointer (some ⟨g, 0, none⟩), .int .i64 m] w (TextPost g n zs p w) := by
  have hg := hr.lt
  have hW := World.grownBy.refl w (some g)
  go_enter Tryz.func70, Tryz.ntmps70
  go_wp2_with fail
  refine (pick_any _ _ _ _ _ _ (hr.up (by (repeat (first | exact Below.refl _ _ | assumption | refine Below.drew ?_ | refine up_drewN ?_ _ | refine up_alloc ?_ _ | refine up_set ?_ _ _ (by first | exact Nat.le_refl _ | (simp; done) | (simp; omega) | omega) | refine up_trans ?_ (by assumption))))) (by omega)).mono ?_
  rintro e w1 ⟨x1, rfl, h1, h2, hr1, hb⟩
  have hG : w.grownBy w1 (some g) := (by (repeat (first | exact World.grownBy.refl _ _ | assumption | refine gb_drew ?_ | refine gb_drewN ?_ _ | refine gb_alloc ?_ _ | refine gb_here ?_ rfl _ | refine gb_set ?_ _ _ (by first | exact Nat.le_refl _ | (simp; done) | (simp; omega) | omega) | refine gb_trans ?_ (by assumption) | refine gb_below ?_ (by assumption)))); have sw1 := hG.size; replace hW := gb_trans hW hG; clear hG
  have hx1 := h1 (by omega)
  have hS : Strs w1 w.heap.size 24 7 := (strs_new w _ _ 24 7 (by rfl) (by
    intro x hx
    simp only [List.mem_cons, List.not_mem_nil, or_false] at hx
    rcases hx with rfl | rfl | rfl | rfl | rfl | rfl | rfl | rfl | rfl | rfl | rfl | rfl | rfl | rfl | rfl | rfl | rfl | rfl | rfl | rfl | rfl | rfl | rfl | rfl
    all_goals exact ⟨_, rfl, by decide⟩)).up hb (by omega)
  have hbg : w.heap.size ≠ g := by omega
  clear hb hr h1 h2
  have HS := Lib.hid hS
  clear hS
  go_wp2_with fail
  go_loopw [5, 7] (fun s i wr => ∃ (k : Nat) (l : List UInt8) (q : Nat), k ≤ 23 ∧ i = .int .i64 k ∧ s = S l ∧ l.length + 7 * k ≤ 161 ∧ q + k ≤ p + 24 ∧ Rdr wr g n zs q ∧ w.grownBy wr (some g) ∧ Hid (Strs wr w.heap.size 24 7)) (fun _ i _ => (intOf i).toNat)
  case atStart =>
    obtain ⟨k1, rfl⟩ : ∃ k1 : Nat, x1 = k1 := ⟨x1.toNat, by omega⟩
    exact ⟨k1, [], p + 1, by omega, rfl, rfl, by simp; omega, by omega, hr1, hW, HS⟩
  case round =>
    obtain ⟨k, l, q, hk, rfl, rfl, hl, hq, hrw, hWr, HSw⟩ := hrel
    clear hr1 hW HS
    by_cases h0 : 0 < k
    · have i1 : (0 : Int) < (k : Int) := by omega
      go_wp2_with fail
      refine (pick_any _ _ _ _ _ _ (hrw.up (by (repeat (first | exact Below.refl _ _ | assumption | refine Below.drew ?_ | refine up_drewN ?_ _ | refine up_alloc ?_ _ | refine up_set ?_ _ _ (by first | exact Nat.le_refl _ | (simp; done) | (simp; omega) | omega) | refine up_trans ?_ (by assumption))))) (by omega)).mono ?_
      rintro e w2 ⟨x2, rfl, h1, h2, hr2, hb⟩
      have hx2 := h1 (by omega)
      have hS2 := HSw.out.up hb hbg
      obtain ⟨u, hu1, hu2⟩ := hS2.2 x2.toNat (by omega)
      have HS2 := Lib.hid hS2
      have hW2 := gb_trans hWr hb
      clear hb hrw h1 h2 hWr HSw hS2
      go_wp2_with fail
      go_roundw
      case rel =>
        refine ⟨k - 1, l ++ u, q + 1, by omega, ?_, rfl, by rw [List.length_append]; omega, by omega, hr2, hW2, HS2⟩
        rw [show ((k - 1 : Nat) : Int) = (k : Int) - 1 by omega]
      case measure => simp [intOf]; omega
    · obtain rfl : k = 0 := by omega
      have hlen : l.length ≤ 161 := by omega
      clear HSw hl
      obtain ⟨t, ht⟩ : ∃ t, t = l.take (min l.length 120) := ⟨_, rfl⟩
      have htl : t.length ≤ 120 := by rw [ht, List.length_take]; omega
      by_cases h120 : l.length ≤ 120
      all_goals
        go_wp2_with fail
        refine (odd_any _ _ _ _ _ _ hrw (by omega)).mono ?_
        rintro e w2 ⟨x2, rfl, ⟨q2, hq2, hr2⟩, hb⟩
        have hW2 := gb_trans hWr hb
        clear hb hrw hWr
        rcases x2 with _ | _
        · go_wp2_with fail
          go_ret
          exact ⟨_, rfl, (by first | omega | (simp; done) | (simp; omega)), ⟨q2, by omega, hr2⟩, hW2⟩
        · go_wp2_with fail
          refine (pick_any _ _ _ _ _ _ hr2 (by omega)).mono ?_
          rintro e w3 ⟨x3, rfl, h1, h2, hr3, hb⟩
          have hx3 := h1 (by omega)
          have hW3 := gb_trans hW2 hb
          clear hb hr2 h1 h2 hW2
          by_cases e0 : x3 = 0
          · subst e0
            go_wp2_with fail
            go_ret
            exact ⟨_, rfl, (by first | omega | (simp; done) | (simp; omega)), ⟨q2 + 1, by omega, hr3⟩, hW3⟩
          · by_cases e1 : x3 = 1
            · subst e1
              go_wp2_with fail
              go_ret
              exact ⟨_, rfl, (by first | omega | (simp; done) | (simp; omega)), ⟨q2 + 1, by omega, hr3⟩, hW3⟩
            · have hx5 : x3 = 2 := by omega
              subst hx5
              clear e0 e1
              go_wp2_with fail
              go_loop [5] (fun s => ∃ l2 : List UInt8, s = S l2 ∧ l2.length ≤ 125) (fun s => match s with | .string b => 200 - b.size | _ => 0)
              case atStart => exact ⟨_, rfl, (by first | omega | (simp; done) | (simp; omega))⟩
              case round =>
                obtain ⟨l2, rfl, hl2⟩ := hrel
                by_cases hlt : l2.length ≤ 120
                · go_wp2_with fail
                  go_round
                  case rel => exact ⟨_, rfl, (by first | omega | (simp; done) | (simp; omega))⟩
                  case measure => simp [ByteArray.size] <;> omega
                · go_wp2_with fail
                  go_ret
                  exact ⟨_, rfl, by omega, ⟨q2 + 1, by omega, hr3⟩, hW3⟩

end Go.Proofs.YtbjlkdenkmbepaaGreatDoor
