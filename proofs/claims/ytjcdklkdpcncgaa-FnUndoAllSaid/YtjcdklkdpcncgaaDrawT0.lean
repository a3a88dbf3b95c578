/- What is proved here: the contract of l20Text where it draws valid texts only. No condition but that the code is a slice of bytes. -/
import Derived.Test.YtjcdklkdpcncgaaDrawT
import Derived.Test.YtjcdklkdpcncgaaText1
namespace Go.Proofs.Ytjcdklkdpcncgaa
open Go.RowKit

theorem odd_zero (g : Nat) (w : World) : Calls Try.prog 80 #[.pointer (some ⟨g, 0, none⟩), .int .i64 0] w fun e w' => e = .returned (.bool false) ∧ w = w' := by
  go_enter Try.func80, Try.ntmps80
  go_wp2_with fail
  go_ret
  exact ⟨rfl, rfl⟩

/-- a row of short strings that may stand in texts. -/
def StrsC (w : World) (b k m : Nat) : Prop := b < w.heap.size ∧ ∀ j, j < k → ∃ l : List UInt8, w.cell? ⟨b, j, none⟩ = some (S l) ∧ l.length ≤ m ∧ l.all okC = true
theorem StrsC.up {w w' : World} {b k m g : Nat} (h : StrsC w b k m) (hg : w.grownBy w' (some g)) (hn : b ≠ g) : StrsC w' b k m :=
  ⟨Nat.lt_of_lt_of_le h.1 hg.size, fun j hj => by
    obtain ⟨l, h1, h2⟩ := h.2 j hj
    exact ⟨l, (World.cell?_of_block (a := ⟨b, j, none⟩) (hg.block b h.1 (by simpa using hn))).trans h1, h2⟩⟩
theorem strsC_new (w : World) (t : TypeId) (xs : List Value) (k m : Nat) (hk : xs.length = k) (h : ∀ x ∈ xs, ∃ l : List UInt8, x = S l ∧ l.length ≤ m ∧ l.all okC = true) : StrsC (w.alloc (.cells xs.toArray t)) w.heap.size k m :=
  ⟨by simp, fun j hj => by
    have hx : xs[j]? = some xs[j] := List.getElem?_eq_getElem (by omega)
    obtain ⟨l, hl, hm⟩ := h xs[j] (List.getElem_mem _)
    refine ⟨l, ?_, hm⟩
    rw [World.cell?_alloc_new]
    simp only [List.getElem?_toArray]
    rw [hx, hl]⟩
theorem all_take {l : List UInt8} (h : l.all okC = true) (k : Nat) : (l.take k).all okC = true := by
  rw [List.all_eq_true] at h ⊢
  exact fun x hx => h x (List.mem_of_mem_take hx)
def TextPost0 (g n : Nat) (zs : List Int) (p : Nat) (w : World) (e : Ending) (w' : World) : Prop :=
  ∃ s : List UInt8, e = .returned (S s) ∧ tv s = true ∧ (∃ q, q ≤ p + 30 ∧ Rdr w' g n zs q) ∧ w.grownBy w' (some g)

set_option maxRecDepth 100000 in
set_option maxHeartbeats 1000000 in
theorem l20Text0_any (g n : Nat) (zs : List Int) (p : Nat) (w : World) (hr : Rdr w g n zs p) (hp : p < 900000000) :
    Calls Try.prog 65 #[.pointer (some ⟨g, 0, none⟩), .int .i64 0] w (TextPost0 g n zs p w) := by
  have hg := hr.lt
  have hW := World.grownBy.refl w (some g)
  go_enter Try.func65, Try.ntmps65
  go_wp2_with fail
  refine (pick_any _ _ _ _ _ _ (hr.up (by (repeat (first | exact Below.refl _ _ | assumption | refine Below.drew ?_ | refine up_drewN ?_ _ | refine up_alloc ?_ _ | refine up_set ?_ _ _ (by first | exact Nat.le_refl _ | (simp; done) | (simp; omega) | omega) | refine up_trans ?_ (by assumption))))) (by omega)).mono ?_
  rintro e w1 ⟨x1, rfl, h1, h2, hr1, hb⟩
  have hG : w.grownBy w1 (some g) := (by (repeat (first | exact World.grownBy.refl _ _ | assumption | refine gb_drew ?_ | refine gb_drewN ?_ _ | refine gb_alloc ?_ _ | refine gb_here ?_ rfl _ | refine gb_set ?_ _ _ (by first | exact Nat.le_refl _ | (simp; done) | (simp; omega) | omega) | refine gb_trans ?_ (by assumption) | refine gb_below ?_ (by assumption)))); have sw1 := hG.size; replace hW := gb_trans hW hG; clear hG
  have hx1 := h1 (by omega)
  have hS : StrsC w1 w.heap.size 24 7 := (strsC_new w _ _ 24 7 (by rfl) (by
    intro x hx
    simp only [List.mem_cons, List.not_mem_nil, or_false] at hx
    rcases hx with rfl | rfl | rfl | rfl | rfl | rfl | rfl | rfl | rfl | rfl | rfl | rfl | rfl | rfl | rfl | rfl | rfl | rfl | rfl | rfl | rfl | rfl | rfl | rfl
    all_goals exact ⟨_, rfl, by decide, by decide⟩)).up hb (by omega)
  have hbg : w.heap.size ≠ g := by omega
  clear hb hr h1 h2
  have HS := Lib.hid hS
  clear hS
  go_wp2_with fail
  go_loopw [5, 7] (fun s i wr => ∃ (k : Nat) (l : List UInt8) (q : Nat), k ≤ 23 ∧ i = .int .i64 k ∧ s = S l ∧ l.length + 7 * k ≤ 161 ∧ q + k ≤ p + 24 ∧ Rdr wr g n zs q ∧ w.grownBy wr (some g) ∧ Hid (l.all okC = true) ∧ Hid (StrsC wr w.heap.size 24 7)) (fun _ i _ => (intOf i).toNat)
  case atStart =>
    obtain ⟨k1, rfl⟩ : ∃ k1 : Nat, x1 = k1 := ⟨x1.toNat, by omega⟩
    exact ⟨k1, [], p + 1, by omega, rfl, rfl, by simp; omega, by omega, hr1, hW, Lib.hid rfl, HS⟩
  case round =>
    obtain ⟨k, l, q, hk, rfl, rfl, hl, hq, hrw, hWr, HC, HSw⟩ := hrel
    clear hr1 hW HS
    by_cases h0 : 0 < k
    · have i1 : (0 : Int) < (k : Int) := by omega
      go_wp2_with fail
      refine (pick_any _ _ _ _ _ _ (hrw.up (by (repeat (first | exact Below.refl _ _ | assumption | refine Below.drew ?_ | refine up_drewN ?_ _ | refine up_alloc ?_ _ | refine up_set ?_ _ _ (by first | exact Nat.le_refl _ | (simp; done) | (simp; omega) | omega) | refine up_trans ?_ (by assumption))))) (by omega)).mono ?_
      rintro e w2 ⟨x2, rfl, h1, h2, hr2, hb⟩
      have hx2 := h1 (by omega)
      have hS2 := HSw.out.up hb hbg
      obtain ⟨u, hu1, hu2, hu3⟩ := hS2.2 x2.toNat (by omega)
      have HU := Lib.hid hu3
      have HS2 := Lib.hid hS2
      have hW2 := gb_trans hWr hb
      clear hb hrw h1 h2 hWr HSw hS2 hu3
      go_wp2_with fail
      go_roundw
      case rel =>
        refine ⟨k - 1, l ++ u, q + 1, by omega, ?_, rfl, by rw [List.length_append]; omega, by omega, hr2, hW2, Lib.hid (by rw [List.all_append, HC.out, HU.out]; rfl), HS2⟩
        rw [show ((k - 1 : Nat) : Int) = (k : Int) - 1 by omega]
      case measure => simp [intOf]; omega
    · obtain rfl : k = 0 := by omega
      have hlen : l.length ≤ 161 := by omega
      clear HSw hl
      have HT : Hid (∀ j, j ≤ 120 → tv (l.take j) = true) := Lib.hid (fun j hj => by
        unfold tv
        rw [all_take HC.out j, Bool.true_and]
        exact decide_eq_true (by rw [List.length_take]; omega))
      have HL : Hid (l.length ≤ 120 → tv l = true) := Lib.hid (fun h => by
        unfold tv
        rw [HC.out, Bool.true_and]
        exact decide_eq_true h)
      by_cases h120 : l.length ≤ 120
      all_goals
        go_wp2_with fail
        refine (odd_zero _ _).mono ?_
        rintro e w2 ⟨rfl, rfl⟩
        go_wp2_with fail
        go_ret
        refine ⟨_, rfl, ?_, ⟨q, by omega, hrw⟩, hWr⟩
        first | exact HL.out (by assumption) | exact HT.out _ (by omega) | (simp only [List.take_length]; exact HL.out (by assumption))

end Go.Proofs.Ytjcdklkdpcncgaa
