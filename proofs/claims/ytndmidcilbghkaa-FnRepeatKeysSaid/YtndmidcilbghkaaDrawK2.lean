/- What is proved here: contracts of l20Keys and of the drawing of desks and keys. No condition but that the code is a slice of bytes. -/
import Derived.Test.YtndmidcilbghkaaDrawK
namespace Go.Proofs.Ytndmidcilbghkaa
open Go.RowKit

def KeysPost (g n : Nat) (zs : List Int) (p : Nat) (w : World) (e : Ending) (w' : World) : Prop :=
  ∃ s : List UInt8, e = .returned (S s) ∧ s.length ≤ 9 ∧ (∃ q, q ≤ p + 12 ∧ Rdr w' g n zs q) ∧ w.grownBy w' (some g)

set_option maxRecDepth 100000 in
set_option maxHeartbeats 1000000 in
theorem l20Keys_any (g n : Nat) (zs : List Int) (p : Nat) (w : World) (hr : Rdr w g n zs p) (hp : p < 900000000) :
    Calls Try.prog 47 #[.pointer (some ⟨g, 0, none⟩)] w (KeysPost g n zs p w) := by
  have hg := hr.lt
  go_enter Try.func47, Try.ntmps47
  go_wp2_with fail
  refine (pick_any _ _ _ _ _ _ hr (by omega)).mono ?_
  rintro e w1 ⟨x1, rfl, h1, h2, hr1, hb⟩
  have hx1 := h1 (by omega)
  have hW := hb
  clear hb hr h1 h2
  go_wp2_with fail
  go_loopw [3, 4] (fun s i wr => ∃ (k : Nat) (l : List UInt8) (q : Nat), k ≤ 8 ∧ i = .int .i64 k ∧ s = S l ∧ l.length + k ≤ 8 ∧ q + k ≤ p + 9 ∧ Rdr wr g n zs q ∧ w.grownBy wr (some g)) (fun _ i _ => (intOf i).toNat)
  case atStart =>
    obtain ⟨k1, rfl⟩ : ∃ k1 : Nat, x1 = k1 := ⟨x1.toNat, by omega⟩
    exact ⟨k1, [], p + 1, by omega, rfl, rfl, by simp; omega, by omega, hr1, hW⟩
  case round =>
    obtain ⟨k, l, q, hk, rfl, rfl, hl, hq, hrw, hWr⟩ := hrel
    clear hr1 hW
    by_cases h0 : 0 < k
    · have i1 : (0 : Int) < (k : Int) := by omega
      have hgr := hrw.lt
      go_wp2_with fail
      refine (pick_any _ _ _ _ _ _ (hrw.up (by (repeat (first | exact Below.refl _ _ | assumption | refine Below.drew ?_ | refine up_drewN ?_ _ | refine up_alloc ?_ _ | refine up_set ?_ _ _ (by first | exact Nat.le_refl _ | (simp; done) | (simp; omega) | omega) | refine up_trans ?_ (by assumption))))) (by omega)).mono ?_
      rintro e w2 ⟨x2, rfl, h1, h2, hr2, hb⟩
      have hx2 := h1 (by omega)
      have hS2 : Strs w2 wr.heap.size 10 1 := (strs_new wr _ _ 10 1 (by rfl) (by
        intro x hx
        simp only [List.mem_cons, List.not_mem_nil, or_false] at hx
        rcases hx with rfl | rfl | rfl | rfl | rfl | rfl | rfl | rfl | rfl | rfl
        all_goals exact ⟨_, rfl, by decide⟩)).up hb (by omega)
      obtain ⟨u, hu1, hu2⟩ := hS2.2 x2.toNat (by omega)
      have hW2 : w.grownBy w2 (some g) := gb_trans (gb_alloc hWr _) hb
      have sz2 : wr.heap.size < w2.heap.size := (by have := hb.size; (try simp at this); omega)
      clear hb hrw h1 h2 hWr hS2
      go_wp2_with fail
      go_roundw
      case rel =>
        refine ⟨k - 1, l ++ u, q + 1, by omega, ?_, rfl, by rw [List.length_append]; omega, by omega, hr2, hW2⟩
        rw [show ((k - 1 : Nat) : Int) = (k : Int) - 1 by omega]
      case measure => simp [intOf]; omega
    · obtain rfl : k = 0 := by omega
      go_wp2_with fail
      refine (odd_any _ _ _ _ _ _ hrw (by omega)).mono ?_
      rintro e w2 ⟨x2, rfl, ⟨q2, hq2, hr2⟩, hb⟩
      have hW2 := gb_trans hWr hb
      clear hb hrw hWr
      rcases x2 with _ | _
      · go_wp2_with fail
        go_ret
        exact ⟨_, rfl, by omega, ⟨q2, by omega, hr2⟩, hW2⟩
      · go_wp2_with fail
        go_ret
        exact ⟨_, rfl, (by first | omega | (simp; done) | (simp; omega)), ⟨q2, by omega, hr2⟩, hW2⟩

def DrawKeysPost (w : World) (e : Ending) (w' : World) : Prop :=
  ∃ (d : Dk) (s : List UInt8), e = .returned (.tuple #[dkV d, S s]) ∧ d.body.length ≤ 130 ∧ s.length ≤ 61 ∧ Below w.heap.size w w'

set_option maxRecDepth 100000 in
set_option maxHeartbeats 1000000 in
theorem drawPressKeys_any (v : Value) (n : Nat) (zs : List Int) (w : World) (h : Bytes w w.heap.size v n zs) :
    Calls Try.prog 23 #[v] w (DrawKeysPost w) := by
  have hW := Below.refl w.heap.size w
  go_enter Try.func23, Try.ntmps23
  go_wp2_with fail
  refine (open_any v n zs _ (h.to (by (repeat (first | exact Below.refl _ _ | assumption | refine Below.drew ?_ | refine up_drewN ?_ _ | refine up_alloc ?_ _ | refine up_set ?_ _ _ (by first | exact Nat.le_refl _ | (simp; done) | (simp; omega) | omega) | refine up_trans ?_ (by assumption)))))).mono ?_
  rintro e w1 ⟨g, m, ys, rfl, hr, hb, hg⟩
  have hB : Below w.heap.size w w1 := (by (repeat (first | exact Below.refl _ _ | assumption | refine Below.drew ?_ | refine up_drewN ?_ _ | refine up_alloc ?_ _ | refine up_set ?_ _ _ (by first | exact Nat.le_refl _ | (simp; done) | (simp; omega) | omega) | refine up_trans ?_ (by assumption)))); have sw1 := hB.size; replace hW := up_trans hW hB; clear hB
  have uc : ∀ o, w1.cell? ⟨w.heap.size, o, none⟩ = #[S [], .int .i64 0, .int .i64 0][o]? := (fun o => (hb.cell (p := ⟨w.heap.size, o, none⟩) (by simp <;> omega)).trans (by simp [go_sem])); have uf : ∀ o, w1.frozen? ⟨w.heap.size, o, none⟩ = false := (fun o => (hb.frozen (p := ⟨w.heap.size, o, none⟩) (by simp <;> omega)).trans (by simp [go_sem])); have uz : w.heap.size < w1.heap.size := (by have := hb.size; (try simp at this); omega); have uy := uz
  simp at hg
  clear hb h
  have hgz := hr.lt
  go_wp2_with fail
  refine (l20Desk_any _ _ _ _ _ _ hr (by omega)).mono ?_
  rintro e w2 ⟨d, rfl, hd, ⟨q, hq, hr2⟩, hb⟩
  replace hW : w.grownBy w2 (some g) := gb_trans (gb_below (World.grownBy.refl _ _) hW) hb
  replace uc := gup_c hb uz (by omega) uc
  replace uf := gup_f hb uz (by omega) uf
  have sw2 := hb.size
  replace uz : w.heap.size < w2.heap.size := by omega
  clear hb hr
  unfold dkV
  go_wp2_with fail
  refine (l20Keys_any _ _ _ _ _ (hr2.up (by (repeat (first | exact Below.refl _ _ | assumption | refine Below.drew ?_ | refine up_drewN ?_ _ | refine up_alloc ?_ _ | refine up_set ?_ _ _ (by first | exact Nat.le_refl _ | (simp; done) | (simp; omega) | omega) | refine up_trans ?_ (by assumption))))) (by omega)).mono ?_
  rintro e w3 ⟨s, rfl, hs, ⟨q3, hq3, hr3⟩, hb⟩
  have hG : w2.grownBy w3 (some g) := (by (repeat (first | exact World.grownBy.refl _ _ | assumption | refine gb_drew ?_ | refine gb_drewN ?_ _ | refine gb_alloc ?_ _ | refine gb_here ?_ rfl _ | refine gb_set ?_ _ _ (by first | exact Nat.le_refl _ | (simp; done) | (simp; omega) | omega) | refine gb_trans ?_ (by assumption) | refine gb_below ?_ (by assumption)))); replace uc := gup_c hG uz (by omega) uc; replace uf := gup_f hG uz (by omega) uf; replace uz := Nat.lt_of_lt_of_le uz hG.size; have sw3 := hG.size; replace hW := gb_trans hW hG; clear hG
  have yc : ∀ o, w3.cell? ⟨w2.heap.size, o, none⟩ = #[S d.body, .int .i64 d.place, .int .i64 d.want][o]? := gup_c hb (by simp <;> omega) (by omega) (fun o => by simp [go_sem]); have yf : ∀ o, w3.frozen? ⟨w2.heap.size, o, none⟩ = false := gup_f hb (by simp <;> omega) (by omega) (fun o => by simp [go_sem]); have yz : w2.heap.size < w3.heap.size := (by have := hb.size; (try simp at this); omega); have yy := yz
  clear hb hr2
  go_wp2_with fail
  refine (odd_any _ _ _ _ _ _ hr3 (by omega)).mono ?_
  rintro e w4 ⟨x4, rfl, ⟨q4, hq4, hr4⟩, hb⟩
  have hG : w3.grownBy w4 (some g) := (by (repeat (first | exact World.grownBy.refl _ _ | assumption | refine gb_drew ?_ | refine gb_drewN ?_ _ | refine gb_alloc ?_ _ | refine gb_here ?_ rfl _ | refine gb_set ?_ _ _ (by first | exact Nat.le_refl _ | (simp; done) | (simp; omega) | omega) | refine gb_trans ?_ (by assumption) | refine gb_below ?_ (by assumption)))); replace uc := gup_c hG uz (by omega) uc; replace uf := gup_f hG uz (by omega) uf; replace uz := Nat.lt_of_lt_of_le uz hG.size; replace yc := gup_c hG yz (by omega) yc; replace yf := gup_f hG yz (by omega) yf; replace yz := Nat.lt_of_lt_of_le yz hG.size; have sw4 := hG.size; replace hW := gb_trans hW hG; clear hG
  clear hb hr3
  have hWB := Lib.hid (below_of_gb hW (by omega))
  have uy0 := uc 0
  have uy1 := uc 1
  have uy2 := uc 2
  have y0 := yc 0
  have y1 := yc 1
  have y2 := yc 2
  simp only [List.getElem?_toArray, List.getElem?_cons_zero, List.getElem?_cons_succ] at uy0 uy1 uy2 y0 y1 y2
  have HF := Lib.hid (putV_below #[S d.body, .int .i64 d.place, .int .i64 d.want] hWB.out (Nat.le_refl _))
  clear hW uc yc yf
  rcases x4 with _ | _
  · go_wp2_with fail
    refine bodyPost_ret (v := .tuple #[.agg #[S d.body, .int .i64 d.place, .int .i64 d.want], S s]) (by simp [results, Try.results23, go_sem, uy0, uy1, uy2]) rfl ⟨d, s, rfl, hd, by omega, HF.out⟩
  · go_wp2_with fail
    go_loop [6] (fun i => ∃ l : List UInt8, l.length ≤ 61 ∧ i = S l) (fun i => match i with | .string b => 100 - b.size | _ => 0)
    case atStart => exact ⟨s, by omega, rfl⟩
    case round =>
      obtain ⟨l, hl, rfl⟩ := hrel
      by_cases hlt : l.length ≤ 60
      · go_wp2_with fail
        go_round
        case rel => exact ⟨_, (by first | omega | (simp; done) | (simp; omega)), rfl⟩
        case measure => simp [ByteArray.size] <;> omega
      · go_wp2_with fail
        refine bodyPost_ret (v := .tuple #[.agg #[S d.body, .int .i64 d.place, .int .i64 d.want], S l]) (by simp [results, Try.results23, go_sem, uy0, uy1, uy2]) rfl ⟨d, l, rfl, hd, by omega, HF.out⟩

end Go.Proofs.Ytndmidcilbghkaa
