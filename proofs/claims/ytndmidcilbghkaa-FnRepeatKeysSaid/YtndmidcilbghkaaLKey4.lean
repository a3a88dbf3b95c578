/- What is proved here: the walk of the law FnRepeatKeys. No condition. -/
import Derived.Test.YtndmidcilbghkaaPKey
import Derived.Test.YtndmidcilbghkaaDrawK3
import Derived.Test.YtndmidcilbghkaaAlive
import Derived.Deep.Cut
import Derived.Deep.CutRange
namespace Go.Proofs.Ytndmidcilbghkaa
open Go.RowKit

theorem putV_belowN {n : Nat} {w0 w : World} {b : Nat} (V : Array Value) (h : Below n w0 w) (hb : n ≤ b) : Below n w0 (putV w b V) := by
  obtain ⟨h1, h2, h3⟩ := setCells_rest b V.toList 0 w
  exact ⟨h1.trans h.os, h2.trans h.tape, h3.trans h.output, by rw [putV_size]; exact h.size, fun i hi => (setCells_other b (by omega) _ _ _).trans (h.block i hi)⟩
/-- what the loop keeps: the box of z, and all boxes before it. -/
def ZRel (w0 : World) (b : Nat) (z : Dk) (wr : World) : Prop := Below b w0 wr ∧ b < wr.heap.size ∧ Is wr b #[S z.body, .int .i64 z.place, .int .i64 z.want]
theorem zRel_step {w0 wr w2 : World} {b : Nat} {z : Dk} {b2 : List UInt8} {p2 x2 : Int} {ob : Obj} (h : ZRel w0 b z wr) (hb : Below wr.heap.size wr w2) :
    ZRel w0 b ⟨b2, p2, x2⟩ ((putV w2 b #[S b2, .int .i64 p2, .int .i64 x2]).alloc ob) := by
  have hz := h.2.1
  have h1 : Below b w0 (putV w2 b #[S b2, .int .i64 p2, .int .i64 x2]) := putV_belowN _ (h.1.trans (hb.mono (by omega))) (Nat.le_refl _)
  have hs := hb.size
  have h2 : Is (putV w2 b #[S b2, .int .i64 p2, .int .i64 x2]) b #[S b2, .int .i64 p2, .int .i64 x2] := put_is (h.2.2.up hz hb) rfl
  have h4 := putV_size w2 b #[S b2, .int .i64 p2, .int .i64 x2]
  generalize putV w2 b #[S b2, .int .i64 p2, .int .i64 x2] = w3 at h1 h2 h4 ⊢
  have hB := up_alloc (Below.refl w3.heap.size w3) ob
  exact ⟨h1.trans (hB.mono (by omega)), by have := hB.size; omega, h2.up (by omega) hB⟩

set_option maxRecDepth 100000 in
set_option maxHeartbeats 2000000 in
theorem repeatKeys_walk (v : Value) (n : Nat) (zs : List Int) (w : World) (h : Bytes w w.heap.size v n zs) :
    Calls Try.prog 9 #[v] w fun e w' => e = .returned (.bool true) ∧ Below w.heap.size w w' := by
  have h' := h
  obtain ⟨h1, h2, A, c, rfl, h3, h4, h5⟩ := h
  clear h5 h2 h1 h4
  by_cases hn : n ≤ 1048576
  · have hW := Below.refl w.heap.size w
    go_enter Try.func9, Try.ntmps9
    go_wp2_with fail
    refine (drawRepeatKeys_any _ n zs _ h').mono ?_
    rintro e w1 ⟨d, s, t, rfl, hd, hs, ht0, ht1, hb⟩
    have I := Lib.hid (fun w => implRepeatKeys_any d s t w (by unfold maxLen; omega) (by unfold maxLen; omega))
    have J := Lib.hid (fun w => specRepeatKeys_any d s t w (by unfold maxLen; omega) (by unfold maxLen; omega))
    have hB : Below w.heap.size w w1 := (by (repeat (first | exact Below.refl _ _ | assumption | refine Below.drew ?_ | refine up_drewN ?_ _ | refine up_alloc ?_ _ | refine up_set ?_ _ _ (by first | exact Nat.le_refl _ | (simp; done) | (simp; omega) | omega) | refine up_trans ?_ (by assumption)))); have sw1 := hB.size; replace hW := up_trans hW hB; clear hB
    clear hb h'
    by_cases hok : dkOk d = true ∧ s.length ≤ 60 ∧ inB t 0 20 = true
    · have he : repeatK d s t = ((repK s t.toNat d 0).1, (((repK s t.toNat d 0).2 : Nat) : Int)) := by unfold repeatK; rw [if_pos hok]
      rw [he] at I J
      obtain ⟨hdk, hlen, hti⟩ := hok
      have hti2 := inB_iff.1 hti
      obtain ⟨T, rfl⟩ : ∃ T : Nat, t = T := ⟨t.toNat, by omega⟩
      rw [Int.toNat_natCast] at I J
      have hT : T ≤ 20 := by omega
      clear he hti hti2 ht0 ht1
      obtain ⟨m, hm1, hm2, hm3, hm4⟩ := repK_iter s T d 0
      rw [Nat.zero_add] at hm1
      rw [hm1, hm4] at I J
      clear hm1 hm4
      have K1 := Lib.hid (fun w => implRepeatKeys_yes d s 1 w (by unfold maxLen; omega) hdk hlen (by omega))
      rw [repK_one] at K1
      have K2 := Lib.hid (fun w => implPressKeys_yes d s w (by unfold maxLen; omega) (by unfold maxLen; omega) hdk hlen)
      have K3 := Lib.hid (fun (z : Dk) (hz : dkOk z = true) (w : World) => implPressKeys_yes z s w (by have := (dkOk_out hz).2.2.2.2.2; unfold maxLen; omega) (by unfold maxLen; omega) hz hlen)
      have hxok := iterK_ok (l := s) hdk m
      have DV := Lib.hid (fun w => implDeskValid_any (iterK s m d) w (by have := (dkOk_out hxok).2.2.2.2.2; unfold maxLen; omega))
      rw [hxok] at DV
      have HI := Lib.hid (fun k => iterK_ok (l := s) hdk k)
      have HS : Hid (∀ k, iterK s (k + 1) d = (pressesK (iterK s k d) s).1) := Lib.hid (fun k => rfl)
      have HZ : Hid (iterK s 0 d = d) := Lib.hid rfl
      have HX : Hid (iterK s m d = iterK s m d) := Lib.hid rfl
      clear hxok hdk
      generalize hx : iterK s m d = x at I J DV
      replace HX : Hid (iterK s m d = x) := Lib.hid hx
      clear hx
      generalize pressesK d s = ra at K1 K2
      obtain ⟨⟨ab, ap, ax⟩, i⟩ := ra
      obtain ⟨xb, xp, xx⟩ := x
      obtain ⟨D, hD⟩ : ∃ D, D = d := ⟨_, rfl⟩
      rw [← hD] at HI HS HZ HX
      obtain ⟨db, dp, dx⟩ := d
      replace HZ : Hid (iterK s 0 D = ⟨db, dp, dx⟩) := Lib.hid (by rw [HZ.out, hD])
      clear hD
      unfold DnPost dkV at I J K1 K2
      unfold dkV at DV
      simp only at I J K1 K2 DV hd
      unfold dkV
      simp only
      have hm20 : m ≤ 20 := by omega
      have g1 : ((m : Nat) : Int) ≤ (T : Int) := by omega
      go_wp2_with fail
      refine (I.out _).mono ?_
      rintro e w2 ⟨rfl, hb⟩
      have hB : Below w1.heap.size w1 w2 := (by (repeat (first | exact Below.refl _ _ | assumption | refine Below.drew ?_ | refine up_drewN ?_ _ | refine up_alloc ?_ _ | refine up_set ?_ _ _ (by first | exact Nat.le_refl _ | (simp; done) | (simp; omega) | omega) | refine up_trans ?_ (by assumption)))); have sw2 := hB.size; replace hW := up_trans hW hB; clear hB
      have tc : ∀ o, w2.cell? ⟨w1.heap.size, o, none⟩ = #[S db, .int .i64 dp, .int .i64 dx][o]? := (fun o => (hb.cell (p := ⟨w1.heap.size, o, none⟩) (by simp <;> omega)).trans (by simp [go_sem])); have tf : ∀ o, w2.frozen? ⟨w1.heap.size, o, none⟩ = false := (fun o => (hb.frozen (p := ⟨w1.heap.size, o, none⟩) (by simp <;> omega)).trans (by simp [go_sem])); have tz : w1.heap.size < w2.heap.size := (by have := hb.size; (try simp at this); omega); have ty := tz
      clear hb I
      go_wp2_with fail
      refine (J.out _).mono ?_
      rintro e w3 ⟨rfl, hb⟩
      have hB : Below w2.heap.size w2 w3 := (by (repeat (first | exact Below.refl _ _ | assumption | refine Below.drew ?_ | refine up_drewN ?_ _ | refine up_alloc ?_ _ | refine up_set ?_ _ _ (by first | exact Nat.le_refl _ | (simp; done) | (simp; omega) | omega) | refine up_trans ?_ (by assumption)))); replace tc := up_c hB tz tc; replace tf := up_f hB tz tf; replace tz := Nat.lt_of_lt_of_le tz hB.size; have sw3 := hB.size; replace hW := up_trans hW hB; clear hB
      have xc : ∀ o, w3.cell? ⟨w2.heap.size, o, none⟩ = #[S xb, .int .i64 xp, .int .i64 xx][o]? := (fun o => (hb.cell (p := ⟨w2.heap.size, o, none⟩) (by simp <;> omega)).trans (by simp [go_sem])); have xf : ∀ o, w3.frozen? ⟨w2.heap.size, o, none⟩ = false := (fun o => (hb.frozen (p := ⟨w2.heap.size, o, none⟩) (by simp <;> omega)).trans (by simp [go_sem])); have xz : w2.heap.size < w3.heap.size := (by have := hb.size; (try simp at this); omega); have xy := xz
      clear hb J ty xy
      go_wp2_with fail
      refine (K1.out _).mono ?_
      rintro e w4 ⟨rfl, hb⟩
      have hB : Below w3.heap.size w3 w4 := (by (repeat (first | exact Below.refl _ _ | assumption | refine Below.drew ?_ | refine up_drewN ?_ _ | refine up_alloc ?_ _ | refine up_set ?_ _ _ (by first | exact Nat.le_refl _ | (simp; done) | (simp; omega) | omega) | refine up_trans ?_ (by assumption)))); replace tc := up_c hB tz tc; replace tf := up_f hB tz tf; replace tz := Nat.lt_of_lt_of_le tz hB.size; replace xc := up_c hB xz xc; replace xf := up_f hB xz xf; replace xz := Nat.lt_of_lt_of_le xz hB.size; have sw4 := hB.size; replace hW := up_trans hW hB; clear hB
      clear hb K1
      go_wp2_with fail
      refine (K2.out _).mono ?_
      rintro e w5 ⟨rfl, hb⟩
      have hB : Below w4.heap.size w4 w5 := (by (repeat (first | exact Below.refl _ _ | assumption | refine Below.drew ?_ | refine up_drewN ?_ _ | refine up_alloc ?_ _ | refine up_set ?_ _ _ (by first | exact Nat.le_refl _ | (simp; done) | (simp; omega) | omega) | refine up_trans ?_ (by assumption)))); replace tc := up_c hB tz tc; replace tf := up_f hB tz tf; replace tz := Nat.lt_of_lt_of_le tz hB.size; replace xc := up_c hB xz xc; replace xf := up_f hB xz xf; replace xz := Nat.lt_of_lt_of_le xz hB.size; have sw5 := hB.size; replace hW := up_trans hW hB; clear hB
      have ac : ∀ o, w5.cell? ⟨w4.heap.size, o, none⟩ = #[S ab, .int .i64 ap, .int .i64 ax][o]? := (fun o => (hb.cell (p := ⟨w4.heap.size, o, none⟩) (by simp <;> omega)).trans (by simp [go_sem])); have af : ∀ o, w5.frozen? ⟨w4.heap.size, o, none⟩ = false := (fun o => (hb.frozen (p := ⟨w4.heap.size, o, none⟩) (by simp <;> omega)).trans (by simp [go_sem])); have az : w4.heap.size < w5.heap.size := (by have := hb.size; (try simp at this); omega); have ay := az
      clear hb K2 ay
      go_upto_region 13 with (fail)
      generalize hw6 : (w5.alloc _).alloc _ = w6
      have hb : Below w5.heap.size w5 w6 := by rw [← hw6]; (repeat (first | exact Below.refl _ _ | assumption | refine Below.drew ?_ | refine up_drewN ?_ _ | refine up_alloc ?_ _ | refine up_set ?_ _ _ (by first | exact Nat.le_refl _ | (simp; done) | (simp; omega) | omega) | refine up_trans ?_ (by assumption)))
      have hB : Below w5.heap.size w5 w6 := (by (repeat (first | exact Below.refl _ _ | assumption | refine Below.drew ?_ | refine up_drewN ?_ _ | refine up_alloc ?_ _ | refine up_set ?_ _ _ (by first | exact Nat.le_refl _ | (simp; done) | (simp; omega) | omega) | refine up_trans ?_ (by assumption)))); replace xc := up_c hB xz xc; replace xf := up_f hB xz xf; replace xz := Nat.lt_of_lt_of_le xz hB.size; replace ac := up_c hB az ac; replace af := up_f hB az af; replace az := Nat.lt_of_lt_of_le az hB.size; have sw6 := hB.size; replace hW := up_trans hW hB; clear hB
      obtain ⟨bc, bz⟩ : (∀ o, w6.cell? ⟨w5.heap.size, o, none⟩ = #[S ab, .int .i64 ap, .int .i64 ax][o]?) ∧ w5.heap.size < w6.heap.size := by subst hw6; exact ⟨fun o => by simp [go_sem], by simp; omega⟩
      have R0 : Hid (ZRel w6 (w5.heap.size + 1) ⟨db, dp, dx⟩ w6) := Lib.hid ⟨Below.refl _ _, by subst hw6; simp, by subst hw6; have := new_is (w5.alloc (.cells #[S ab, .int .i64 ap, .int .i64 ax] 25)) #[S db, .int .i64 dp, .int .i64 dx] 25; simpa using this⟩
      clear hb hw6 tc tf tz
      obtain ⟨Z, hZ⟩ : ∃ Z, Z = w5.heap.size + 1 := ⟨_, rfl⟩
      rw [← hZ] at R0 ⊢
      have xZ : w2.heap.size < Z := by omega
      have aZ : w4.heap.size < Z := by omega
      have bZ : w5.heap.size < Z := by omega
      have wZ : w.heap.size ≤ Z := by omega
      clear hZ
      go_wp2_with fail
      go_loopw [15] (fun i wr => ∃ (k : Nat) (z : Dk), k ≤ m ∧ i = .int .i64 k ∧ Hid (iterK s k D = z) ∧ Hid (ZRel w6 Z z wr)) (fun i _ => m - (intOf i).toNat)
      case atStart => exact ⟨0, _, Nat.zero_le _, by first | rfl | go_num, HZ, R0⟩
      case round =>
        obtain ⟨k, z, hk, rfl, HK, HR0⟩ := hrel
        clear R0 HZ
        have hz : Z < wr.heap.size := HR0.out.2.1
        obtain ⟨c0, c1, c2, cf⟩ : wr.cell? ⟨Z, 0, none⟩ = some (S z.body) ∧ wr.cell? ⟨Z, 1, none⟩ = some (.int .i64 z.place) ∧ wr.cell? ⟨Z, 2, none⟩ = some (.int .i64 z.want) ∧ ∀ o, wr.frozen? ⟨Z, o, none⟩ = false := ⟨HR0.out.2.2.1 0, HR0.out.2.2.1 1, HR0.out.2.2.1 2, HR0.out.2.2.2⟩
        by_cases hlt : k < m
        · have hzok : dkOk z = true := by have := HI.out k; rwa [HK.out] at this
          have KZ := Lib.hid (fun w => K3.out z hzok w)
          have HN : Hid (iterK s (k + 1) D = (pressesK z s).1) := Lib.hid (by rw [HS.out, HK.out])
          clear hzok
          generalize pressesK z s = r at KZ HN
          obtain ⟨⟨b2, p2, x2⟩, q⟩ := r
          unfold DnPost dkV at KZ
          simp only at KZ
          go_wp2_with fail
          refine (KZ.out _).mono ?_
          rintro e w7 ⟨rfl, hb⟩
          have HZ := Lib.hid (fun ob => zRel_step (b2 := b2) (p2 := p2) (x2 := x2) (ob := ob) HR0.out hb)
          have z0 := (hb.cell (p := ⟨Z, 0, none⟩) hz).trans c0
          have z1 := (hb.cell (p := ⟨Z, 1, none⟩) hz).trans c1
          have z2 := (hb.cell (p := ⟨Z, 2, none⟩) hz).trans c2
          have zf : ∀ o, w7.frozen? ⟨Z, o, none⟩ = false := fun o => (hb.frozen (p := ⟨Z, o, none⟩) hz).trans (cf o)
          have hz7 : Z < w7.heap.size := Nat.lt_of_lt_of_le hz hb.size
          have ne1 : ¬ w7.heap.size = Z := by omega
          have ne2 : ¬ Z = w7.heap.size := by omega
          clear hb c0 c1 c2 cf HR0 KZ hz
          go_wp2_with fail
          go_roundw
          case rel => exact ⟨k + 1, ⟨b2, p2, x2⟩, by omega, by go_num, HN, HZ.out _⟩
          case measure => simp [intOf]; omega
        · obtain rfl : k = m := by omega
          have hzx : z = ⟨xb, xp, xx⟩ := by rw [← HK.out, HX.out]
          subst hzx
          simp only at c0 c1 c2
          have x0 := (HR0.out.1.cell (p := ⟨w2.heap.size, 0, none⟩) xZ).trans (xc 0)
          have x1 := (HR0.out.1.cell (p := ⟨w2.heap.size, 1, none⟩) xZ).trans (xc 1)
          have x2 := (HR0.out.1.cell (p := ⟨w2.heap.size, 2, none⟩) xZ).trans (xc 2)
          have a0 := (HR0.out.1.cell (p := ⟨w4.heap.size, 0, none⟩) aZ).trans (ac 0)
          have a1 := (HR0.out.1.cell (p := ⟨w4.heap.size, 1, none⟩) aZ).trans (ac 1)
          have a2 := (HR0.out.1.cell (p := ⟨w4.heap.size, 2, none⟩) aZ).trans (ac 2)
          have b0 := (HR0.out.1.cell (p := ⟨w5.heap.size, 0, none⟩) bZ).trans (bc 0)
          have b1 := (HR0.out.1.cell (p := ⟨w5.heap.size, 1, none⟩) bZ).trans (bc 1)
          have b2 := (HR0.out.1.cell (p := ⟨w5.heap.size, 2, none⟩) bZ).trans (bc 2)
          simp only [List.getElem?_toArray, List.getElem?_cons_zero, List.getElem?_cons_succ] at x0 x1 x2 a0 a1 a2 b0 b1 b2
          have HF := Lib.hid (hW.trans (HR0.out.1.mono wZ))
          clear HR0 xc ac bc xf af hW
          by_cases hT0 : T = 0
          · subst hT0
            go_wp2_with fail
            refine (DV.out _).mono ?_
            rintro e w7 ⟨rfl, hb⟩
            have hQ := up_trans HF.out hb
            clear hb
            go_wp2_with fail
            go_ret
            exact ⟨rfl, hQ⟩
          · have t1 : ((T : Int) == 0) = false := beq_eq_false_iff_ne.2 (by omega)
            have m1 : (1 : Int) ≤ (k : Int) := by have := hm3 (by omega); omega
            go_wp2_with fail
            refine (DV.out _).mono ?_
            rintro e w7 ⟨rfl, hb⟩
            have hQ := up_trans HF.out hb
            clear hb
            go_wp2_with fail
            go_ret
            exact ⟨rfl, hQ⟩
    · have he : repeatK d s t = (dk0, -1) := by unfold repeatK; rw [if_neg hok]
      rw [he] at I J
      clear he hok
      obtain ⟨db, dp, dx⟩ := d
      unfold DnPost dkV at I J
      simp only [dk0] at I J
      unfold dkV
      simp only
      go_wp2_with fail
      refine (I.out _).mono ?_
      rintro e w2 ⟨rfl, hb⟩
      have hB : Below w1.heap.size w1 w2 := (by (repeat (first | exact Below.refl _ _ | assumption | refine Below.drew ?_ | refine up_drewN ?_ _ | refine up_alloc ?_ _ | refine up_set ?_ _ _ (by first | exact Nat.le_refl _ | (simp; done) | (simp; omega) | omega) | refine up_trans ?_ (by assumption)))); have sw2 := hB.size; replace hW := up_trans hW hB; clear hB
      have tc : ∀ o, w2.cell? ⟨w1.heap.size, o, none⟩ = #[S db, .int .i64 dp, .int .i64 dx][o]? := (fun o => (hb.cell (p := ⟨w1.heap.size, o, none⟩) (by simp <;> omega)).trans (by simp [go_sem])); have tf : ∀ o, w2.frozen? ⟨w1.heap.size, o, none⟩ = false := (fun o => (hb.frozen (p := ⟨w1.heap.size, o, none⟩) (by simp <;> omega)).trans (by simp [go_sem])); have tz : w1.heap.size < w2.heap.size := (by have := hb.size; (try simp at this); omega); have ty := tz
      clear hb I
      go_wp2_with fail
      refine (J.out _).mono ?_
      rintro e w3 ⟨rfl, hb⟩
      have hB : Below w2.heap.size w2 w3 := (by (repeat (first | exact Below.refl _ _ | assumption | refine Below.drew ?_ | refine up_drewN ?_ _ | refine up_alloc ?_ _ | refine up_set ?_ _ _ (by first | exact Nat.le_refl _ | (simp; done) | (simp; omega) | omega) | refine up_trans ?_ (by assumption)))); replace tc := up_c hB tz tc; replace tf := up_f hB tz tf; replace tz := Nat.lt_of_lt_of_le tz hB.size; have sw3 := hB.size; replace hW := up_trans hW hB; clear hB
      have xc : ∀ o, w3.cell? ⟨w2.heap.size, o, none⟩ = #[S [], .int .i64 0, .int .i64 0][o]? := (fun o => (hb.cell (p := ⟨w2.heap.size, o, none⟩) (by simp <;> omega)).trans (by simp [go_sem])); have xf : ∀ o, w3.frozen? ⟨w2.heap.size, o, none⟩ = false := (fun o => (hb.frozen (p := ⟨w2.heap.size, o, none⟩) (by simp <;> omega)).trans (by simp [go_sem])); have xz : w2.heap.size < w3.heap.size := (by have := hb.size; (try simp at this); omega); have xy := xz
      clear hb J ty xy
      go_wp2_with fail
      refine (alive_any _).mono ?_
      rintro e w4 ⟨rfl, rfl⟩
      go_wp2_with fail
      go_ret
      exact ⟨rfl, by (repeat (first | exact Below.refl _ _ | assumption | refine Below.drew ?_ | refine up_drewN ?_ _ | refine up_alloc ?_ _ | refine up_set ?_ _ _ (by first | exact Nat.le_refl _ | (simp; done) | (simp; omega) | omega) | refine up_trans ?_ (by assumption)))⟩
  · go_enter Try.func9, Try.ntmps9
    go_wp2_with fail
    go_ret
    exact ⟨rfl, Below.refl _ _⟩

end Go.Proofs.Ytndmidcilbghkaa
