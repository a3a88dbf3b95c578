/- What is proved here: the walk of the law FnPressKeys. No condition. -/
import Derived.Test.YtndmidcilbghkaaPKey
import Derived.Test.YtndmidcilbghkaaDrawK3
import Derived.Test.YtndmidcilbghkaaAlive
import Derived.Deep.Cut
import Derived.Deep.CutRange
namespace Go.Proofs.Ytndmidcilbghkaa
open Go.RowKit

theorem dk_parts (d : Dk) : d = ⟨d.body, d.place, d.want⟩ := rfl

set_option maxRecDepth 100000 in
set_option maxHeartbeats 1000000 in
theorem pressKeys_walk (v : Value) (n : Nat) (zs : List Int) (w : World) (h : Bytes w w.heap.size v n zs) :
    Calls Try.prog 8 #[v] w fun e w' => e = .returned (.bool true) ∧ Below w.heap.size w w' := by
  have h' := h
  obtain ⟨h1, h2, A, c, rfl, h3, h4, h5⟩ := h
  clear h5 h2 h1 h4
  by_cases hn : n ≤ 1048576
  · have hW := Below.refl w.heap.size w
    go_enter Try.func8, Try.ntmps8
    go_wp2_with fail
    refine (drawPressKeys_any _ n zs _ h').mono ?_
    rintro e w1 ⟨d, s, rfl, hd, hs, hb⟩
    have I := Lib.hid (fun w => implPressKeys_any d s w (by unfold maxLen; omega) (by unfold maxLen; omega))
    have J := Lib.hid (fun w => specPressKeys_any d s w (by unfold maxLen; omega) (by unfold maxLen; omega))
    have hB : Below w.heap.size w w1 := (by (repeat (first | exact Below.refl _ _ | assumption | refine Below.drew ?_ | refine up_drewN ?_ _ | refine up_alloc ?_ _ | refine up_set ?_ _ _ (by first | exact Nat.le_refl _ | (simp; done) | (simp; omega) | omega) | refine up_trans ?_ (by assumption)))); have sw1 := hB.size; replace hW := up_trans hW hB; clear hB
    clear hb h'
    by_cases hok : dkOk d = true ∧ s.length ≤ 60
    · have he : pressKeysK d s = ((pressesK d s).1, (((pressesK d s).2 : Nat) : Int)) := by unfold pressKeysK; rw [if_pos hok]
      rw [he] at I J
      obtain ⟨hdk, hlen⟩ := hok
      have hA := pressesK_ok hdk (s.take (s.length / 2))
      have hmany := pressesK_many d s
      have hxok := Lib.hid (pressesK_ok hdk s)
      have hla := (dkOk_out hA).2.2.2.2.2
      have happ := pressesK_app d (s.take (s.length / 2)) (s.drop (s.length / 2))
      rw [List.take_append_drop] at happ
      have K1 := Lib.hid (fun w => implPressKeys_yes d (s.take (s.length / 2)) w (by unfold maxLen; omega) (by unfold maxLen; rw [List.length_take]; omega) hdk (by rw [List.length_take]; omega))
      have K2 := Lib.hid (fun w => implPressKeys_yes (pressesK d (s.take (s.length / 2))).1 (s.drop (s.length / 2)) w (by unfold maxLen; omega) (by unfold maxLen; rw [List.length_drop]; omega) hA (by rw [List.length_drop]; omega))
      have DV := Lib.hid (fun w => implDeskValid_any (pressesK d s).1 w (by unfold maxLen; have := (dkOk_out hxok.out).2.2.2.2.2; omega))
      rw [hxok.out] at DV
      clear hA hla hdk hxok he
      generalize pressesK d (s.take (s.length / 2)) = ra at *
      generalize pressesK ra.1 (s.drop (s.length / 2)) = rb at *
      rw [happ] at I J DV hmany
      clear happ
      obtain ⟨⟨ab, ap, ax⟩, i⟩ := ra
      obtain ⟨⟨xb, xp, xx⟩, j⟩ := rb
      obtain ⟨db, dp, dx⟩ := d
      unfold DnPost dkV at I J K1 K2
      unfold dkV at DV
      simp only at I J K1 K2 DV hmany hd
      unfold dkV
      simp only
      go_wp2_with fail
      refine (I.out _).mono ?_
      rintro e w2 ⟨rfl, hb⟩
      have hB : Below w1.heap.size w1 w2 := (by (repeat (first | exact Below.refl _ _ | assumption | refine Below.drew ?_ | refine up_drewN ?_ _ | refine up_alloc ?_ _ | refine up_set ?_ _ _ (by first | exact Nat.le_refl _ | (simp; done) | (simp; omega) | omega) | refine up_trans ?_ (by assumption)))); have sw2 := hB.size; replace hW := up_trans hW hB; clear hB
      have tc : ∀ o, w2.cell? ⟨w1.heap.size, o, none⟩ = #[S db, .int .i64 dp, .int .i64 dx][o]? := (fun o => (hb.cell (p := ⟨w1.heap.size, o, none⟩) (by simp <;> omega)).trans (by simp [go_sem])); have tf : ∀ o, w2.frozen? ⟨w1.heap.size, o, none⟩ = false := (fun o => (hb.frozen (p := ⟨w1.heap.size, o, none⟩) (by simp <;> omega)).trans (by simp [go_sem])); have tz : w1.heap.size < w2.heap.size := (by have := hb.size; (try simp at this); omega); have ty := tz
      clear hb I
      go_wp2_with fail
      refine (J.out _).mono ?_
      rintro e w3 ⟨rfl, hb⟩
      have hB : Below w2.heap.size w2 w3 := (by (repeat (first | exact Below.refl _ _ | assumption | refine Below.drew ?_ | refine up_drewN ?_ _ | refine up_alloc ?_ _ | refine up_set ?_ _ _ (by first | exact Nat.le_refl _ | (simp; done) | (simp; omega) | omega) | refine up_trans ?_ (by assumption)))); replace tc := up_c hB tz tc; replace tf := up_f hB tz tf; replace tz := Nat.lt_of_lt_of_le tz hB.size; have sw3 := hB.size; replace hW := up_trans hW hB; clear hB
      have xc : ∀ o, w3.cell? ⟨w2.heap.size, o, none⟩ = #[S xb, .int .i64 xp, .int .i64 xx][o]? := (fun o => (hb.cell (p := ⟨w2.heap.size, o, none⟩) (by simp <;> omega)).trans (by simp [go_sem])); have xf : ∀ o, w3.frozen? ⟨w2.heap.size, o, none⟩ = false := (fun o => (hb.frozen (p := ⟨w2.heap.size, o, none⟩) (by simp <;> omega)).trans (by simp [go_sem])); have xz : w2.heap.size < w3.heap.size := (by have := hb.size; (try simp at this); omega); have xy := xz
      clear hb J ty xy
      have hq1 : ((s.length : Int) / 2).toNat = s.length / 2 := by omega
      have hq2 : (0 : Int) ≤ (s.length : Int) / 2 := by omega
      have hq3 : (s.length : Int) / 2 ≤ (s.length : Int) := by omega
      go_upto_region 11 with (fail)
      generalize hw4 : w3.alloc _ = w4
      have hb : Below w3.heap.size w3 w4 := by rw [← hw4]; (repeat (first | exact Below.refl _ _ | assumption | refine Below.drew ?_ | refine up_drewN ?_ _ | refine up_alloc ?_ _ | refine up_set ?_ _ _ (by first | exact Nat.le_refl _ | (simp; done) | (simp; omega) | omega) | refine up_trans ?_ (by assumption)))
      have hB : Below w3.heap.size w3 w4 := (by (repeat (first | exact Below.refl _ _ | assumption | refine Below.drew ?_ | refine up_drewN ?_ _ | refine up_alloc ?_ _ | refine up_set ?_ _ _ (by first | exact Nat.le_refl _ | (simp; done) | (simp; omega) | omega) | refine up_trans ?_ (by assumption)))); replace tc := up_c hB tz tc; replace tf := up_f hB tz tf; replace tz := Nat.lt_of_lt_of_le tz hB.size; replace xc := up_c hB xz xc; replace xf := up_f hB xz xf; replace xz := Nat.lt_of_lt_of_le xz hB.size; have sw4 := hB.size; replace hW := up_trans hW hB; clear hB
      clear hb hw4
      --EVER{laws.FnPressKeys;11;lkeys11}
      refine wp_region_everL (R := RV w4.heap.size [] #[S ab, .int .i64 ap, .int .i64 ax]) (M := fun _ _ => True) 0 (fun _ => True) [(vEq _ _ _ (.agg #[S db, .int .i64 dp, .int .i64 dx])).l, (vEq _ _ _ (S s)).l, (vEq _ _ _ (.int .i64 ((s.length : Int) / 2))).l, (vEq _ _ _ (S (s.take (s.length / 2)))).l, (vEq _ _ _ (.tuple #[.agg #[S ab, .int .i64 ap, .int .i64 ax], .int .i64 ((i : Nat) : Int)])).l, (vEq _ _ _ (.tuple #[.agg #[S ab, .int .i64 ap, .int .i64 ax], .int .i64 ((i : Nat) : Int)])).l, (vEq _ _ _ (.agg #[S ab, .int .i64 ap, .int .i64 ax])).l, (vEq _ _ _ (.int .i64 ((i : Nat) : Int))).l, (vBox w4.heap.size [] #[S ab, .int .i64 ap, .int .i64 ax]).l, vPut w4.heap.size [] #[S ab, .int .i64 ap, .int .i64 ax] 10, (vEq _ _ _ (.int .i64 ((i : Nat) : Int))).l] (by kernel_rfl) (RV.refl _ _ _) (fun _ _ _ => RV.trans) (by kernel_rfl) (by kernel_rfl) (trivial) (trivial) ?_ ?_
      · refine ⟨?_, ?_, ?_, ?_, ?_, ?_, ?_, ?_, ?_, ?_, ?_, trivial⟩
        · intro k' w' ρ hk' hR hM hD hF
          replace hk' : k' < 11 := hk'
          obtain ⟨f0, -⟩ := hF
          replace f0 : ρ (.tmp 3) = .pointer (some ⟨w1.heap.size, 0, none⟩) := f0
          refine goodL_of (fun _ => trivial) fun K hK => ?_
          have z0 := (hR.of_drew.cell tz tz (by simp) 0).trans (tc 0); have z1 := (hR.of_drew.cell tz tz (by simp) 1).trans (tc 1); have z2 := (hR.of_drew.cell tz tz (by simp) 2).trans (tc 2); go_simp; exact hK _ _ (RV.refl _ _ _ _) (⟨trivial, fun _ h => h⟩) rfl
        · intro k' w' ρ hk' hR hM hD hF
          replace hk' : k' < 11 := hk'
          obtain ⟨f0, -⟩ := hF
          replace f0 : ρ (.tmp 4) = S s := f0
          exact ⟨RV.refl _ _ _ _, ⟨trivial, fun _ h => h⟩, f0, trivial⟩
        · intro k' w' ρ hk' hR hM hD hF
          replace hk' : k' < 11 := hk'
          obtain ⟨f0, -⟩ := hF
          replace f0 : ρ (.tmp 9) = .int .i64 ((s.length : Int) / 2) := f0
          exact ⟨RV.refl _ _ _ _, ⟨trivial, fun _ h => h⟩, f0, trivial⟩
        · intro k' w' ρ hk' hR hM hD hF
          replace hk' : k' < 11 := hk'
          obtain ⟨f0, f1, -⟩ := hF
          replace f0 : ρ (.tmp 59) = S s := f0
          replace f1 : ρ (.tmp 60) = .int .i64 ((s.length : Int) / 2) := f1
          refine goodL_of (fun _ => trivial) fun K hK => ?_
          go_simp; exact hK _ _ (RV.refl _ _ _ _) ⟨trivial, fun _ h => h⟩ rfl
        · intro k' w' ρ hk' hR hM hD hF
          replace hk' : k' < 11 := hk'
          obtain ⟨f0, f1, f2, -⟩ := hF
          replace f0 : ρ (.func _) = .func (.func _) #[] #[] := f0
          replace f1 : ρ (.tmp 58) = .agg #[S db, .int .i64 dp, .int .i64 dx] := f1
          replace f2 : ρ (.tmp 61) = S (s.take (s.length / 2)) := f2
          refine goodL_of (fun _ => trivial) fun K hK => ?_
          go_simp; refine (K1.out _).mono ?_; rintro e wc ⟨rfl, hb⟩; exact ⟨_, rfl, hK _ _ (RV.of_below hb) (⟨trivial, fun _ _ => trivial⟩) rfl⟩
        · intro k' w' ρ hk' hR hM hD hF
          replace hk' : k' < 11 := hk'
          obtain ⟨f0, -⟩ := hF
          replace f0 : ρ (.tmp 62) = .tuple #[.agg #[S ab, .int .i64 ap, .int .i64 ax], .int .i64 ((i : Nat) : Int)] := f0
          exact ⟨RV.refl _ _ _ _, ⟨trivial, fun _ h => h⟩, f0, trivial⟩
        · intro k' w' ρ hk' hR hM hD hF
          replace hk' : k' < 11 := hk'
          obtain ⟨f0, -⟩ := hF
          replace f0 : ρ (.tmp 57) = .tuple #[.agg #[S ab, .int .i64 ap, .int .i64 ax], .int .i64 ((i : Nat) : Int)] := f0
          refine goodL_of (fun _ => trivial) fun K hK => ?_
          go_simp
          exact hK _ _ (RV.refl _ _ _ _) (⟨trivial, fun _ h => h⟩) (rfl)
        · intro k' w' ρ hk' hR hM hD hF
          replace hk' : k' < 11 := hk'
          obtain ⟨f0, -⟩ := hF
          replace f0 : ρ (.tmp 57) = .tuple #[.agg #[S ab, .int .i64 ap, .int .i64 ax], .int .i64 ((i : Nat) : Int)] := f0
          refine goodL_of (fun _ => trivial) fun K hK => ?_
          go_simp
          exact hK _ _ (RV.refl _ _ _ _) (⟨trivial, fun _ h => h⟩) (rfl)
        · intro k' w' ρ hk' hR hM hD hF
          replace hk' : k' < 11 := hk'
          refine goodL_of (fun _ => trivial) fun K hK => ?_
          have hBz : _ ≤ w'.heap.size := hR.size
          go_simp
          exact hK _ _ (RV.alloc _ _) (⟨trivial, fun _ _ => trivial⟩) ⟨_, rfl, hBz, by simp, vbox_mk (by rfl)⟩
        · intro k' w' ρ hk' hR hM hD hF
          replace hk' : k' < 11 := hk'
          obtain ⟨f0, f1, -⟩ := hF
          replace f1 : ρ (.tmp 63) = .agg #[S ab, .int .i64 ap, .int .i64 ax] := f1
          refine goodL_ofs fun K hK => ?_
          obtain ⟨bi, f0, bB, bz, A, bA, bI⟩ := f0
          replace f0 : ρ (.tmp 10) = .pointer (some ⟨bi, 0, none⟩) := f0
          have bI2 := put_is (V := #[S ab, .int .i64 ap, .int .i64 ax]) bI bA
          have bG := put_rv (B := w4.heap.size) (L := []) bI bA (.inl bB)
          obtain ⟨a0, a1, a2, q0, q1, q2⟩ := bI.three bA; have qf := bI.2
          clear bI bA
          go_simp
          refine hK _ _ bG (⟨trivial, fun _ _ => trivial⟩) trivial ?_
          intro i hi; replace hi := hi.symm.trans f0; cases hi; exact ⟨by simpa [putV] using bz, bI2⟩
        · intro k' w' ρ hk' hR hM hD hF
          replace hk' : k' < 11 := hk'
          obtain ⟨f0, -⟩ := hF
          replace f0 : ρ (.tmp 64) = .int .i64 ((i : Nat) : Int) := f0
          exact ⟨RV.refl _ _ _ _, ⟨trivial, fun _ h => h⟩, f0, trivial⟩
      · intro w' hR hM
        rintro _ rfl -
        rintro _ rfl -
        rintro _ rfl -
        rintro _ rfl -
        rintro _ rfl -
        rintro _ rfl -
        rintro _ rfl -
        rintro _ rfl -
        rintro _ ⟨nb, rfl, nbB, nbz, -⟩ -
        rintro _ - nbS
        rintro _ rfl -
      --END
      --END
        dsimp only [EndAllL, Act.put]
        obtain ⟨w5, rfl⟩ : ∃ z, z = w' := ⟨_, rfl⟩
        have hb : Below w4.heap.size w4 w5 := hR.to_below
        obtain ⟨nz, nc, nf⟩ := nbS nb rfl
        have hB : Below w4.heap.size w4 w5 := (by (repeat (first | exact Below.refl _ _ | assumption | refine Below.drew ?_ | refine up_drewN ?_ _ | refine up_alloc ?_ _ | refine up_set ?_ _ _ (by first | exact Nat.le_refl _ | (simp; done) | (simp; omega) | omega) | refine up_trans ?_ (by assumption)))); replace xc := up_c hB xz xc; replace xf := up_f hB xz xf; replace xz := Nat.lt_of_lt_of_le xz hB.size; have sw5 := hB.size; replace hW := up_trans hW hB; clear hB
        clear hb hR nbS K1 tc tf
        simp only [List.setIfInBounds_toArray, List.set_cons_zero, List.set_cons_succ]
        go_upto_region 12 with (fail)
        --EVER{laws.FnPressKeys;12;lkeys12}
        refine wp_region_everL (R := RV w5.heap.size [] #[S xb, .int .i64 xp, .int .i64 xx]) (M := fun _ _ => True) 0 (fun _ => True) [(vEq _ _ _ (.agg #[S ab, .int .i64 ap, .int .i64 ax])).l, (vEq _ _ _ (S s)).l, (vEq _ _ _ (.int .i64 ((s.length : Int) / 2))).l, (vEq _ _ _ (S (s.drop (s.length / 2)))).l, (vEq _ _ _ (.tuple #[.agg #[S xb, .int .i64 xp, .int .i64 xx], .int .i64 ((j : Nat) : Int)])).l, (vEq _ _ _ (.tuple #[.agg #[S xb, .int .i64 xp, .int .i64 xx], .int .i64 ((j : Nat) : Int)])).l, (vEq _ _ _ (.agg #[S xb, .int .i64 xp, .int .i64 xx])).l, (vEq _ _ _ (.int .i64 ((j : Nat) : Int))).l, (vBox w5.heap.size [] #[S xb, .int .i64 xp, .int .i64 xx]).l, vPut w5.heap.size [] #[S xb, .int .i64 xp, .int .i64 xx] 12, (vEq _ _ _ (.int .i64 ((j : Nat) : Int))).l] (by kernel_rfl) (RV.refl _ _ _) (fun _ _ _ => RV.trans) (by kernel_rfl) (by kernel_rfl) (trivial) (trivial) ?_ ?_
        · refine ⟨?_, ?_, ?_, ?_, ?_, ?_, ?_, ?_, ?_, ?_, ?_, trivial⟩
          · intro k' w' ρ hk' hR hM hD hF
            replace hk' : k' < 11 := hk'
            obtain ⟨f0, -⟩ := hF
            replace f0 : ρ (.tmp 10) = .pointer (some ⟨nb, 0, none⟩) := f0
            refine goodL_of (fun _ => trivial) fun K hK => ?_
            have z0 := (hR.of_drew.cell nz nz (by simp) 0).trans (nc 0); have z1 := (hR.of_drew.cell nz nz (by simp) 1).trans (nc 1); have z2 := (hR.of_drew.cell nz nz (by simp) 2).trans (nc 2); go_simp; exact hK _ _ (RV.refl _ _ _ _) (⟨trivial, fun _ h => h⟩) rfl
          · intro k' w' ρ hk' hR hM hD hF
            replace hk' : k' < 11 := hk'
            obtain ⟨f0, -⟩ := hF
            replace f0 : ρ (.tmp 4) = S s := f0
            exact ⟨RV.refl _ _ _ _, ⟨trivial, fun _ h => h⟩, f0, trivial⟩
          · intro k' w' ρ hk' hR hM hD hF
            replace hk' : k' < 11 := hk'
            obtain ⟨f0, -⟩ := hF
            replace f0 : ρ (.tmp 9) = .int .i64 ((s.length : Int) / 2) := f0
            exact ⟨RV.refl _ _ _ _, ⟨trivial, fun _ h => h⟩, f0, trivial⟩
          · intro k' w' ρ hk' hR hM hD hF
            replace hk' : k' < 11 := hk'
            obtain ⟨f0, f1, -⟩ := hF
            replace f0 : ρ (.tmp 67) = S s := f0
            replace f1 : ρ (.tmp 68) = .int .i64 ((s.length : Int) / 2) := f1
            refine goodL_of (fun _ => trivial) fun K hK => ?_
            go_simp; exact hK _ _ (RV.refl _ _ _ _) ⟨trivial, fun _ h => h⟩ rfl
          · intro k' w' ρ hk' hR hM hD hF
            replace hk' : k' < 11 := hk'
            obtain ⟨f0, f1, f2, -⟩ := hF
            replace f0 : ρ (.func _) = .func (.func _) #[] #[] := f0
            replace f1 : ρ (.tmp 66) = .agg #[S ab, .int .i64 ap, .int .i64 ax] := f1
            replace f2 : ρ (.tmp 69) = S (s.drop (s.length / 2)) := f2
            refine goodL_of (fun _ => trivial) fun K hK => ?_
            go_simp; refine (K2.out _).mono ?_; rintro e wc ⟨rfl, hb⟩; exact ⟨_, rfl, hK _ _ (RV.of_below hb) (⟨trivial, fun _ _ => trivial⟩) rfl⟩
          · intro k' w' ρ hk' hR hM hD hF
            replace hk' : k' < 11 := hk'
            obtain ⟨f0, -⟩ := hF
            replace f0 : ρ (.tmp 70) = .tuple #[.agg #[S xb, .int .i64 xp, .int .i64 xx], .int .i64 ((j : Nat) : Int)] := f0
            exact ⟨RV.refl _ _ _ _, ⟨trivial, fun _ h => h⟩, f0, trivial⟩
          · intro k' w' ρ hk' hR hM hD hF
            replace hk' : k' < 11 := hk'
            obtain ⟨f0, -⟩ := hF
            replace f0 : ρ (.tmp 65) = .tuple #[.agg #[S xb, .int .i64 xp, .int .i64 xx], .int .i64 ((j : Nat) : Int)] := f0
            refine goodL_of (fun _ => trivial) fun K hK => ?_
            go_simp
            exact hK _ _ (RV.refl _ _ _ _) (⟨trivial, fun _ h => h⟩) (rfl)
          · intro k' w' ρ hk' hR hM hD hF
            replace hk' : k' < 11 := hk'
            obtain ⟨f0, -⟩ := hF
            replace f0 : ρ (.tmp 65) = .tuple #[.agg #[S xb, .int .i64 xp, .int .i64 xx], .int .i64 ((j : Nat) : Int)] := f0
            refine goodL_of (fun _ => trivial) fun K hK => ?_
            go_simp
            exact hK _ _ (RV.refl _ _ _ _) (⟨trivial, fun _ h => h⟩) (rfl)
          · intro k' w' ρ hk' hR hM hD hF
            replace hk' : k' < 11 := hk'
            refine goodL_of (fun _ => trivial) fun K hK => ?_
            have hBz : _ ≤ w'.heap.size := hR.size
            go_simp
            exact hK _ _ (RV.alloc _ _) (⟨trivial, fun _ _ => trivial⟩) ⟨_, rfl, hBz, by simp, vbox_mk (by rfl)⟩
          · intro k' w' ρ hk' hR hM hD hF
            replace hk' : k' < 11 := hk'
            obtain ⟨f0, f1, -⟩ := hF
            replace f1 : ρ (.tmp 71) = .agg #[S xb, .int .i64 xp, .int .i64 xx] := f1
            refine goodL_ofs fun K hK => ?_
            obtain ⟨bi, f0, bB, bz, A, bA, bI⟩ := f0
            replace f0 : ρ (.tmp 12) = .pointer (some ⟨bi, 0, none⟩) := f0
            have bI2 := put_is (V := #[S xb, .int .i64 xp, .int .i64 xx]) bI bA
            have bG := put_rv (B := w5.heap.size) (L := []) bI bA (.inl bB)
            obtain ⟨a0, a1, a2, q0, q1, q2⟩ := bI.three bA; have qf := bI.2
            clear bI bA
            go_simp
            refine hK _ _ bG (⟨trivial, fun _ _ => trivial⟩) trivial ?_
            intro i hi; replace hi := hi.symm.trans f0; cases hi; exact ⟨by simpa [putV] using bz, bI2⟩
          · intro k' w' ρ hk' hR hM hD hF
            replace hk' : k' < 11 := hk'
            obtain ⟨f0, -⟩ := hF
            replace f0 : ρ (.tmp 72) = .int .i64 ((j : Nat) : Int) := f0
            exact ⟨RV.refl _ _ _ _, ⟨trivial, fun _ h => h⟩, f0, trivial⟩
        · intro w' hR hM
          rintro _ rfl -
          rintro _ rfl -
          rintro _ rfl -
          rintro _ rfl -
          rintro _ rfl -
          rintro _ rfl -
          rintro _ rfl -
          rintro _ rfl -
          rintro _ ⟨mb, rfl, mbB, mbz, -⟩ -
          rintro _ - mbS
          rintro _ rfl -
        --END
        --END
          dsimp only [EndAllL, Act.put]
          obtain ⟨w6, rfl⟩ : ∃ z, z = w' := ⟨_, rfl⟩
          have hb : Below w5.heap.size w5 w6 := hR.to_below
          obtain ⟨mz, mc, mf⟩ := mbS mb rfl
          have hB : Below w5.heap.size w5 w6 := (by (repeat (first | exact Below.refl _ _ | assumption | refine Below.drew ?_ | refine up_drewN ?_ _ | refine up_alloc ?_ _ | refine up_set ?_ _ _ (by first | exact Nat.le_refl _ | (simp; done) | (simp; omega) | omega) | refine up_trans ?_ (by assumption)))); replace xc := up_c hB xz xc; replace xf := up_f hB xz xf; replace xz := Nat.lt_of_lt_of_le xz hB.size; have sw6 := hB.size; replace hW := up_trans hW hB; clear hB
          clear hb hR mbS K2 nc nf
          go_wp2_with fail
          refine (DV.out _).mono ?_
          rintro e w7 ⟨rfl, hb⟩
          have hB : Below w6.heap.size w6 w7 := (by (repeat (first | exact Below.refl _ _ | assumption | refine Below.drew ?_ | refine up_drewN ?_ _ | refine up_alloc ?_ _ | refine up_set ?_ _ _ (by first | exact Nat.le_refl _ | (simp; done) | (simp; omega) | omega) | refine up_trans ?_ (by assumption)))); have sw7 := hB.size; replace hW := up_trans hW hB; clear hB
          clear hb
          go_wp2_with fail
          go_ret
          exact ⟨rfl, hW⟩
    · have he : pressKeysK d s = (dk0, -1) := by unfold pressKeysK; rw [if_neg hok]
      rw [he] at I J
      clear he hok
      obtain ⟨db, dp, dx⟩ := d
      unfold DnPost dkV at I J
      simp only [dk0] at I J
      unfold dkV
      simp only
      go_wp2_with fail
      refine (I.out _).mono ?_
      rintro e w2 ⟨rfl, hb⟩
      have hB : Below w1.heap.size w1 w2 := (by (repeat (first | exact Below.refl _ _ | assumption | refine Below.drew ?_ | refine up_drewN ?_ _ | refine up_alloc ?_ _ | refine up_set ?_ _ _ (by first | exact Nat.le_refl _ | (simp; done) | (simp; omega) | omega) | refine up_trans ?_ (by assumption)))); have sw2 := hB.size; replace hW := up_trans hW hB; clear hB
      have tc : ∀ o, w2.cell? ⟨w1.heap.size, o, none⟩ = #[S db, .int .i64 dp, .int .i64 dx][o]? := (fun o => (hb.cell (p := ⟨w1.heap.size, o, none⟩) (by simp <;> omega)).trans (by simp [go_sem])); have tf : ∀ o, w2.frozen? ⟨w1.heap.size, o, none⟩ = false := (fun o => (hb.frozen (p := ⟨w1.heap.size, o, none⟩) (by simp <;> omega)).trans (by simp [go_sem])); have tz : w1.heap.size < w2.heap.size := (by have := hb.size; (try simp at this); omega); have ty := tz
      clear hb I
      go_wp2_with fail
      refine (J.out _).mono ?_
      rintro e w3 ⟨rfl, hb⟩
      have hB : Below w2.heap.size w2 w3 := (by (repeat (first | exact Below.refl _ _ | assumption | refine Below.drew ?_ | refine up_drewN ?_ _ | refine up_alloc ?_ _ | refine up_set ?_ _ _ (by first | exact Nat.le_refl _ | (simp; done) | (simp; omega) | omega) | refine up_trans ?_ (by assumption)))); replace tc := up_c hB tz tc; replace tf := up_f hB tz tf; replace tz := Nat.lt_of_lt_of_le tz hB.size; have sw3 := hB.size; replace hW := up_trans hW hB; clear hB
      have xc : ∀ o, w3.cell? ⟨w2.heap.size, o, none⟩ = #[S [], .int .i64 0, .int .i64 0][o]? := (fun o => (hb.cell (p := ⟨w2.heap.size, o, none⟩) (by simp <;> omega)).trans (by simp [go_sem])); have xf : ∀ o, w3.frozen? ⟨w2.heap.size, o, none⟩ = false := (fun o => (hb.frozen (p := ⟨w2.heap.size, o, none⟩) (by simp <;> omega)).trans (by simp [go_sem])); have xz : w2.heap.size < w3.heap.size := (by have := hb.size; (try simp at this); omega); have xy := xz
      clear hb J ty xy
      go_wp2_with fail
      refine (alive_any _).mono ?_
      rintro e w4 ⟨rfl, rfl⟩
      go_wp2_with fail
      go_ret
      exact ⟨rfl, by (repeat (first | exact Below.refl _ _ | assumption | refine Below.drew ?_ | refine up_drewN ?_ _ | refine up_alloc ?_ _ | refine up_set ?_ _ _ (by first | exact Nat.le_refl _ | (simp; done) | (simp; omega) | omega) | refine up_trans ?_ (by assumption)))⟩
  · go_enter Try.func8, Try.ntmps8
    go_wp2_with fail
    go_ret
    exact ⟨rfl, Below.refl _ _⟩

end Go.Proofs.Ytndmidcilbghkaa
