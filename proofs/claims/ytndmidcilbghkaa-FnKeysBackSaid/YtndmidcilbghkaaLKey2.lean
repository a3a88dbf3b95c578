/- What is proved here: the walk of the law FnKeysBack. No condition. -/
import Derived.Test.YtndmidcilbghkaaPKey
import Derived.Test.YtndmidcilbghkaaDrawK3
import Derived.Test.YtndmidcilbghkaaAlive
namespace Go.Proofs.Ytndmidcilbghkaa
open Go.RowKit

set_option maxRecDepth 100000 in
set_option maxHeartbeats 1000000 in
theorem keysBack_walk (v : Value) (n : Nat) (zs : List Int) (w : World) (h : Bytes w w.heap.size v n zs) :
    Calls Try.prog 7 #[v] w fun e w' => e = .returned (.bool true) ∧ Below w.heap.size w w' := by
  have h' := h
  obtain ⟨h1, h2, A, c, rfl, h3, h4, h5⟩ := h
  clear h5 h2 h1 h4
  by_cases hn : n ≤ 1048576
  · have hW := Below.refl w.heap.size w
    go_enter Try.func7, Try.ntmps7
    go_wp2_with fail
    refine (drawPressKeys_any _ n zs _ h').mono ?_
    rintro e w1 ⟨d, s, rfl, hd, hs, hb⟩
    have I := Lib.hid (fun w => implPressKeys_any d s w (by unfold maxLen; omega) (by unfold maxLen; omega))
    have J := Lib.hid (fun w => specPressKeys_any d s w (by unfold maxLen; omega) (by unfold maxLen; omega))
    have hB : Below w.heap.size w w1 := (by (repeat (first | exact Below.refl _ _ | assumption | refine Below.drew ?_ | refine up_drewN ?_ _ | refine up_alloc ?_ _ | refine up_set ?_ _ _ (by first | exact Nat.le_refl _ | (simp; done) | (simp; omega) | omega) | refine up_trans ?_ (by assumption)))); have sw1 := hB.size; replace hW := up_trans hW hB; clear hB
    clear hb h'
    by_cases hok : dkOk d = true ∧ s.length ≤ 60
    · have he : pressKeysK d s = ((pressesK d s).1, (((pressesK d s).2 : Nat) : Int)) := by unfold pressKeysK; rw [if_pos hok]
      rw [he] at I J
      have hA := pressesK_ok hok.1 s
      have hla := (dkOk_out hA).2.2.2.2.2
      clear he hok
      generalize pressesK d s = r at *
      obtain ⟨x, i0⟩ := r
      simp only at hA hla I J
      have B1 := keys_back hA 60 62 (.inl ⟨rfl, rfl⟩)
      have B2 := keys_back hA 62 60 (.inr ⟨rfl, rfl⟩)
      have K1 := Lib.hid (fun w => implPressKeys_yes x [60, 62] w (by unfold maxLen; omega) (by decide) hA (by decide))
      have K2 := Lib.hid (fun w => implPressKeys_yes x [62, 60] w (by unfold maxLen; omega) (by decide) hA (by decide))
      generalize pressesK x [60, 62] = ra at *
      generalize pressesK x [62, 60] = rb at *
      obtain ⟨⟨ab, ap, ax⟩, i⟩ := ra
      obtain ⟨⟨bb, bp, bx⟩, j⟩ := rb
      obtain ⟨xb, xp, xx⟩ := x
      obtain ⟨db, dp, dx⟩ := d
      unfold DnPost dkV at I J K1 K2
      simp only at I J K1 K2 B1 B2 hd
      unfold dkV
      simp only
      clear hA hla
      go_wp2_with fail
      refine (I.out _).mono ?_
      rintro e w2 ⟨rfl, hb⟩
      have hB : Below w1.heap.size w1 w2 := (by (repeat (first | exact Below.refl _ _ | assumption | refine Below.drew ?_ | refine up_drewN ?_ _ | refine up_alloc ?_ _ | refine up_set ?_ _ _ (by first | exact Nat.le_refl _ | (simp; done) | (simp; omega) | omega) | refine up_trans ?_ (by assumption)))); have sw2 := hB.size; replace hW := up_trans hW hB; clear hB
      have tc : ∀ o, w2.cell? ⟨w1.heap.size, o, none⟩ = #[S db, .int .i64 dp, .int .i64 dx][o]? := (fun o => (hb.cell (p := ⟨w1.heap.size, o, none⟩) (by simp <;> omega)).trans (by simp [go_sem])); have tf : ∀ o, w2.frozen? ⟨w1.heap.size, o, none⟩ = false := (fun o => (hb.frozen (p := ⟨w1.heap.size, o, none⟩) (by simp <;> omega)).trans (by simp [go_sem])); have tz : w1.heap.size < w2.heap.size := (by have := hb.size; (try simp at this); omega); have ty := tz
      clear hb I
      go_wp2_with fail
      refine (J.out _).mono ?_
      rintro e w3 ⟨rfl, hb⟩
      have hB : Below w2.heap.size w2 w3 := (by (repeat (first | exact Below.refl _ _ | assumption | refine Below.drew ?_ | refine up_drewN ?_ _ | refine up_alloc ?_ _ | refine up_set ?_ _ _ (by first | exact Nat.le_refl _ | (simp; done) | (simp; omega) | omega) | refine up_trans ?_ (by assumption)))); replace tc := up_c hB tz tc; replace tf := up_f hB tz tf; replace tz := Nat.lt_of_lt_of_le tz hB.size; have sw3 := hB.size; replace hW := up_trans hW hB; clear hB
      have xc : ∀ o, w3.cell? ⟨w2.heap.size, o, none⟩ = #[S xb, .int .i64 xp, .int .i64 xx][o]? := (fun o => (hb.cell (p := ⟨w2.heap.size, o, none⟩) (by simp <;> omega)).trans (by simp [go_sem])); have xf : ∀ o, w3.frozen? ⟨w2.heap.size, o, none⟩ = false := (fun o => (hb.frozen (p := ⟨w2.heap.size, o, none⟩) (by simp <;> omega)).trans (by simp [go_sem])); have xz : w2.heap.size < w3.heap.size := (by have := hb.size; (try simp at this); omega); have xy := xz
      clear hb J tc tf tz ty xy
      go_wp2_with fail
      refine (K1.out _).mono ?_
      rintro e w4 ⟨rfl, hb⟩
      have hB : Below w3.heap.size w3 w4 := (by (repeat (first | exact Below.refl _ _ | assumption | refine Below.drew ?_ | refine up_drewN ?_ _ | refine up_alloc ?_ _ | refine up_set ?_ _ _ (by first | exact Nat.le_refl _ | (simp; done) | (simp; omega) | omega) | refine up_trans ?_ (by assumption)))); replace xc := up_c hB xz xc; replace xf := up_f hB xz xf; replace xz := Nat.lt_of_lt_of_le xz hB.size; have sw4 := hB.size; replace hW := up_trans hW hB; clear hB
      clear hb K1
      go_wp2_with fail
      refine (K2.out _).mono ?_
      rintro e w5 ⟨rfl, hb⟩
      have hB : Below w4.heap.size w4 w5 := (by (repeat (first | exact Below.refl _ _ | assumption | refine Below.drew ?_ | refine up_drewN ?_ _ | refine up_alloc ?_ _ | refine up_set ?_ _ _ (by first | exact Nat.le_refl _ | (simp; done) | (simp; omega) | omega) | refine up_trans ?_ (by assumption)))); replace xc := up_c hB xz xc; replace xf := up_f hB xz xf; replace xz := Nat.lt_of_lt_of_le xz hB.size; have sw5 := hB.size; replace hW := up_trans hW hB; clear hB
      have ac : ∀ o, w5.cell? ⟨w4.heap.size, o, none⟩ = #[S ab, .int .i64 ap, .int .i64 ax][o]? := (fun o => (hb.cell (p := ⟨w4.heap.size, o, none⟩) (by simp <;> omega)).trans (by simp [go_sem])); have af : ∀ o, w5.frozen? ⟨w4.heap.size, o, none⟩ = false := (fun o => (hb.frozen (p := ⟨w4.heap.size, o, none⟩) (by simp <;> omega)).trans (by simp [go_sem])); have az : w4.heap.size < w5.heap.size := (by have := hb.size; (try simp at this); omega); have ay := az
      clear hb K2 ay
      have ne1 : ¬ w5.heap.size = w4.heap.size := by omega
      have ne2 : ¬ w5.heap.size = w2.heap.size := by omega
      have C1 : ((i : Nat) : Int) < 2 ∨ (¬ ((i : Nat) : Int) < 2 ∧ xp = ap ∧ xb = ab) := by
        by_cases g : i < 2
        · exact .inl (by omega)
        · rcases B1 with B1 | ⟨e1, e2⟩
          · exact absurd B1 g
          · exact .inr ⟨by omega, e1.symm, e2.symm⟩
      have C2 : ((j : Nat) : Int) < 2 ∨ (¬ ((j : Nat) : Int) < 2 ∧ bp = xp ∧ bb = xb) := by
        by_cases g : j < 2
        · exact .inl (by omega)
        · rcases B2 with B2 | ⟨e1, e2⟩
          · exact absurd B2 g
          · exact .inr ⟨by omega, e1, e2⟩
      clear B1 B2
      rcases C2 with g2 | ⟨g2, rfl, rfl⟩
      all_goals
        rcases C1 with g1 | ⟨g1, rfl, rfl⟩
        all_goals
          go_wp2_with fail
          go_ret
          exact ⟨rfl, by (repeat (first | exact Below.refl _ _ | assumption | refine Below.drew ?_ | refine up_drewN ?_ _ | refine up_alloc ?_ _ | refine up_set ?_ _ _ (by first | exact Nat.le_refl _ | (simp; done) | (simp; omega) | omega) | refine up_trans ?_ (by assumption)))⟩
    · have he : pressKeysK d s = (dk0, -1) := by unfold pressKeysK; rw [if_neg hok]
      rw [he] at I J
      clear he hok
      obtain ⟨db, dp, dx⟩ := d
      unfold DnPost dkV at I J
      simp only [dk0] at I J
      unfold dkV
      simp only
      go_wp2_with fail
      refine (I.out _).mono ?_
      rintro e w2 ⟨rfl, hb⟩
      have hB : Below w1.heap.size w1 w2 := (by (repeat (first | exact Below.refl _ _ | assumption | refine Below.drew ?_ | refine up_drewN ?_ _ | refine up_alloc ?_ _ | refine up_set ?_ _ _ (by first | exact Nat.le_refl _ | (simp; done) | (simp; omega) | omega) | refine up_trans ?_ (by assumption)))); have sw2 := hB.size; replace hW := up_trans hW hB; clear hB
      have tc : ∀ o, w2.cell? ⟨w1.heap.size, o, none⟩ = #[S db, .int .i64 dp, .int .i64 dx][o]? := (fun o => (hb.cell (p := ⟨w1.heap.size, o, none⟩) (by simp <;> omega)).trans (by simp [go_sem])); have tf : ∀ o, w2.frozen? ⟨w1.heap.size, o, none⟩ = false := (fun o => (hb.frozen (p := ⟨w1.heap.size, o, none⟩) (by simp <;> omega)).trans (by simp [go_sem])); have tz : w1.heap.size < w2.heap.size := (by have := hb.size; (try simp at this); omega); have ty := tz
      clear hb I
      go_wp2_with fail
      refine (J.out _).mono ?_
      rintro e w3 ⟨rfl, hb⟩
      have hB : Below w2.heap.size w2 w3 := (by (repeat (first | exact Below.refl _ _ | assumption | refine Below.drew ?_ | refine up_drewN ?_ _ | refine up_alloc ?_ _ | refine up_set ?_ _ _ (by first | exact Nat.le_refl _ | (simp; done) | (simp; omega) | omega) | refine up_trans ?_ (by assumption)))); replace tc := up_c hB tz tc; replace tf := up_f hB tz tf; replace tz := Nat.lt_of_lt_of_le tz hB.size; have sw3 := hB.size; replace hW := up_trans hW hB; clear hB
      have xc : ∀ o, w3.cell? ⟨w2.heap.size, o, none⟩ = #[S [], .int .i64 0, .int .i64 0][o]? := (fun o => (hb.cell (p := ⟨w2.heap.size, o, none⟩) (by simp <;> omega)).trans (by simp [go_sem])); have xf : ∀ o, w3.frozen? ⟨w2.heap.size, o, none⟩ = false := (fun o => (hb.frozen (p := ⟨w2.heap.size, o, none⟩) (by simp <;> omega)).trans (by simp [go_sem])); have xz : w2.heap.size < w3.heap.size := (by have := hb.size; (try simp at this); omega); have xy := xz
      clear hb J ty xy
      go_wp2_with fail
      refine (alive_any _).mono ?_
      rintro e w4 ⟨rfl, rfl⟩
      go_wp2_with fail
      go_ret
      exact ⟨rfl, by (repeat (first | exact Below.refl _ _ | assumption | refine Below.drew ?_ | refine up_drewN ?_ _ | refine up_alloc ?_ _ | refine up_set ?_ _ _ (by first | exact Nat.le_refl _ | (simp; done) | (simp; omega) | omega) | refine up_trans ?_ (by assumption)))⟩
  · go_enter Try.func7, Try.ntmps7
    go_wp2_with fail
    go_ret
    exact ⟨rfl, Below.refl _ _⟩

end Go.Proofs.Ytndmidcilbghkaa
