/- What is proved here: the walk of the law FnHistoryBack. No condition. -/
import Derived.Test.YtjcdklkdpcncgaaLH0
namespace Go.Proofs.Ytjcdklkdpcncgaa
open Go.RowKit
set_option linter.unusedVariables false

set_option maxRecDepth 100000 in
set_option maxHeartbeats 20000000 in
theorem historyBack_walk (v : Value) (n : Nat) (zs : List Int) (w : World) (h : Bytes w w.heap.size v n zs) :
    Calls Try.prog 9 #[v] w fun e w' => e = .returned (.bool true) ∧ Below w.heap.size w w' := by
  have h' := h
  obtain ⟨h1, h2, A0, c0, rfl, h3, h4, h5⟩ := h
  clear h5 h2 h1 h4
  by_cases hn : n ≤ 1048576
  · have hW := Below.refl w.heap.size w
    go_enter Try.func9, Try.ntmps9
    go_wp2_with fail
    refine (drawHistoryBack_any _ n zs _ (h'.to (by (repeat (first | exact Below.refl _ _ | assumption | refine Below.drew ?_ | refine up_drewN ?_ _ | refine up_alloc ?_ _ | refine up_set ?_ _ _ (by first | exact Nat.le_refl _ | (simp; done) | (simp; omega) | omega) | refine up_trans ?_ (by assumption)))))).mono ?_
    rintro e w1 ⟨hv, ms, a, s, rfl, H, hl, hs, hb⟩
    have hB : Below w.heap.size w w1 := (by (repeat (first | exact Below.refl _ _ | assumption | refine Below.drew ?_ | refine up_drewN ?_ _ | refine up_alloc ?_ _ | refine up_set ?_ _ _ (by first | exact Nat.le_refl _ | (simp; done) | (simp; omega) | omega) | refine up_trans ?_ (by assumption)))); have sw1 := hB.size; replace hW := up_trans hW hB; clear hB
    obtain ⟨A, c, rfl, -, -⟩ := H.1.form
    have HH := Lib.hid H
    clear hb h' H
    by_cases hg : ∃ o, HGood ms a s o
    · obtain ⟨o, hg⟩ := hg
      obtain ⟨a, rfl⟩ : ∃ k : Nat, a = k := ⟨a.toNat, by have := hg.a0; omega⟩
      have ha1 := hg.a1
      obtain ⟨a2, t2, ok, fI, fS, hg2, hcase⟩ := back_out ms a s o hg
      have FI := Lib.hid fI
      have FS := Lib.hid fS
      have G1 := Lib.hid hg
      have G2 := Lib.hid hg2
      have FT := Lib.hid (fun v w h => to_out ms a s o a2 t2 hg hg2 v w h)
      clear fI fS hg hg2
      go_wp2_with fail
      refine (FI.out _ _ (HH.out.up (by (repeat (first | exact Below.refl _ _ | assumption | refine Below.drew ?_ | refine up_drewN ?_ _ | refine up_alloc ?_ _ | refine up_set ?_ _ _ (by first | exact Nat.le_refl _ | (simp; done) | (simp; omega) | omega) | refine up_trans ?_ (by assumption)))))).mono ?_
      rintro e w2 ⟨xv, rfl, ho2, hb⟩
      have hc : ∀ o, w2.cell? ⟨w1.heap.size, o, none⟩ = #[.slice A ms.length c, .int .i64 a][o]? := (fun o => (hb.cell (p := ⟨w1.heap.size, o, none⟩) (by simp <;> omega)).trans (by simp [go_sem])); have hf : ∀ o, w2.frozen? ⟨w1.heap.size, o, none⟩ = false := (fun o => (hb.frozen (p := ⟨w1.heap.size, o, none⟩) (by simp <;> omega)).trans (by simp [go_sem])); have hz : w1.heap.size < w2.heap.size := (by have := hb.size; (try simp at this); omega); have hy := hz
      replace HH := RdM.hup HH (show Below w1.heap.size w1 w2 by (repeat (first | exact Below.refl _ _ | assumption | refine Below.drew ?_ | refine up_drewN ?_ _ | refine up_alloc ?_ _ | refine up_set ?_ _ _ (by first | exact Nat.le_refl _ | (simp; done) | (simp; omega) | omega) | refine up_trans ?_ (by assumption))))
      have hB : Below w1.heap.size w1 w2 := (by (repeat (first | exact Below.refl _ _ | assumption | refine Below.drew ?_ | refine up_drewN ?_ _ | refine up_alloc ?_ _ | refine up_set ?_ _ _ (by first | exact Nat.le_refl _ | (simp; done) | (simp; omega) | omega) | refine up_trans ?_ (by assumption)))); have sw2 := hB.size; replace hW := up_trans hW hB; clear hB
      have RX := Lib.hid (rdM_good ho2 G2.out)
      obtain ⟨XA, XC, rfl, -, -⟩ := (RdL.of_own (f := moC) (bs := ms) ho2).form
      clear hb ho2
      go_wp2_with fail
      refine (FS.out _ _ (HH.out.up (by (repeat (first | exact Below.refl _ _ | assumption | refine Below.drew ?_ | refine up_drewN ?_ _ | refine up_alloc ?_ _ | refine up_set ?_ _ _ (by first | exact Nat.le_refl _ | (simp; done) | (simp; omega) | omega) | refine up_trans ?_ (by assumption)))))).mono ?_
      rintro e w3 ⟨yv, rfl, ho3, hb⟩
      have xc : ∀ o, w3.cell? ⟨w2.heap.size, o, none⟩ = #[.slice XA ms.length XC, .int .i64 a2][o]? := (fun o => (hb.cell (p := ⟨w2.heap.size, o, none⟩) (by simp <;> omega)).trans (by simp [go_sem])); have xf : ∀ o, w3.frozen? ⟨w2.heap.size, o, none⟩ = false := (fun o => (hb.frozen (p := ⟨w2.heap.size, o, none⟩) (by simp <;> omega)).trans (by simp [go_sem])); have xz : w2.heap.size < w3.heap.size := (by have := hb.size; (try simp at this); omega); have xy := xz
      have hB3 : Below w2.heap.size w2 w3 := by (repeat (first | exact Below.refl _ _ | assumption | refine Below.drew ?_ | refine up_drewN ?_ _ | refine up_alloc ?_ _ | refine up_set ?_ _ _ (by first | exact Nat.le_refl _ | (simp; done) | (simp; omega) | omega) | refine up_trans ?_ (by assumption)))
      replace HH := RdM.hup HH hB3
      replace RX := RdM.hup RX hB3
      have hB : Below w2.heap.size w2 w3 := (by (repeat (first | exact Below.refl _ _ | assumption | refine Below.drew ?_ | refine up_drewN ?_ _ | refine up_alloc ?_ _ | refine up_set ?_ _ _ (by first | exact Nat.le_refl _ | (simp; done) | (simp; omega) | omega) | refine up_trans ?_ (by assumption)))); replace hc := up_c hB hz hc; replace hf := up_f hB hz hf; replace hz := Nat.lt_of_lt_of_le hz hB.size; have sw3 := hB.size; replace hW := up_trans hW hB; clear hB
      have RY := Lib.hid (rdM_good ho3 G2.out)
      obtain ⟨YA, YC, rfl, -, -⟩ := (RdL.of_own (f := moC) (bs := ms) ho3).form
      have sx : ¬ w3.heap.size = w2.heap.size := by omega
      have sx' : ¬ w2.heap.size = w3.heap.size := by omega
      clear hb ho3 hB3
      go_wp2_with fail
      refine (sameHistory_same _ _ ms a2 _ (RX.out.up (by (repeat (first | exact Below.refl _ _ | assumption | refine Below.drew ?_ | refine up_drewN ?_ _ | refine up_alloc ?_ _ | refine up_set ?_ _ _ (by first | exact Nat.le_refl _ | (simp; done) | (simp; omega) | omega) | refine up_trans ?_ (by assumption))))) (RY.out.up (by (repeat (first | exact Below.refl _ _ | assumption | refine Below.drew ?_ | refine up_drewN ?_ _ | refine up_alloc ?_ _ | refine up_set ?_ _ _ (by first | exact Nat.le_refl _ | (simp; done) | (simp; omega) | omega) | refine up_trans ?_ (by assumption)))))).mono ?_
      rintro e w4 ⟨rfl, hb⟩
      have hB4 : Below w3.heap.size w3 w4 := by (repeat (first | exact Below.refl _ _ | assumption | refine Below.drew ?_ | refine up_drewN ?_ _ | refine up_alloc ?_ _ | refine up_set ?_ _ _ (by first | exact Nat.le_refl _ | (simp; done) | (simp; omega) | omega) | refine up_trans ?_ (by assumption)))
      replace HH := RdM.hup HH hB4
      replace RX := RdM.hup RX hB4
      have hB : Below w3.heap.size w3 w4 := (by (repeat (first | exact Below.refl _ _ | assumption | refine Below.drew ?_ | refine up_drewN ?_ _ | refine up_alloc ?_ _ | refine up_set ?_ _ _ (by first | exact Nat.le_refl _ | (simp; done) | (simp; omega) | omega) | refine up_trans ?_ (by assumption)))); replace hc := up_c hB hz hc; replace hf := up_f hB hz hf; replace hz := Nat.lt_of_lt_of_le hz hB.size; replace xc := up_c hB xz xc; replace xf := up_f hB xz xf; replace xz := Nat.lt_of_lt_of_le xz hB.size; have sw4 := hB.size; replace hW := up_trans hW hB; clear hB
      clear hb RY hB4
      go_wp2_with fail
      refine (specValid_yes _ ms a s o _ HH.out G1.out).mono ?_
      rintro e w5 ⟨rfl, hb⟩
      replace HH := RdM.hup HH hb
      replace RX := RdM.hup RX hb
      have hB : Below w4.heap.size w4 w5 := (by (repeat (first | exact Below.refl _ _ | assumption | refine Below.drew ?_ | refine up_drewN ?_ _ | refine up_alloc ?_ _ | refine up_set ?_ _ _ (by first | exact Nat.le_refl _ | (simp; done) | (simp; omega) | omega) | refine up_trans ?_ (by assumption)))); replace hc := up_c hB hz hc; replace hf := up_f hB hz hf; replace hz := Nat.lt_of_lt_of_le hz hB.size; replace xc := up_c hB xz xc; replace xf := up_f hB xz xf; replace xz := Nat.lt_of_lt_of_le xz hB.size; have sw5 := hB.size; replace hW := up_trans hW hB; clear hB
      clear hb
      go_wp2_with fail
      refine (FT.out _ _ RX.out).mono ?_
      rintro e w6 ⟨bv, rfl, ho6, hb⟩
      obtain ⟨BA, BC, rfl, -, -⟩ := (RdL.of_own (f := moC) (bs := ms) ho6).form
      replace HH := RdM.hup HH hb
      replace RX := RdM.hup RX hb
      have hB : Below w5.heap.size w5 w6 := (by (repeat (first | exact Below.refl _ _ | assumption | refine Below.drew ?_ | refine up_drewN ?_ _ | refine up_alloc ?_ _ | refine up_set ?_ _ _ (by first | exact Nat.le_refl _ | (simp; done) | (simp; omega) | omega) | refine up_trans ?_ (by assumption)))); replace hc := up_c hB hz hc; replace hf := up_f hB hz hf; replace hz := Nat.lt_of_lt_of_le hz hB.size; replace xc := up_c hB xz xc; replace xf := up_f hB xz xf; replace xz := Nat.lt_of_lt_of_le xz hB.size; have sw6 := hB.size; replace hW := up_trans hW hB; clear hB
      clear hb ho6
      go_upto_region 11 with (fail)
      generalize hw7 : World.alloc _ _ = w7
      have hB7 : Below w6.heap.size w6 w7 := by rw [← hw7]; exact up_alloc (Below.refl _ _) _
      replace HH := RdM.hup HH hB7
      replace RX := RdM.hup RX hB7
      have hb := hB7
      have hB : Below w6.heap.size w6 w7 := (by (repeat (first | exact Below.refl _ _ | assumption | refine Below.drew ?_ | refine up_drewN ?_ _ | refine up_alloc ?_ _ | refine up_set ?_ _ _ (by first | exact Nat.le_refl _ | (simp; done) | (simp; omega) | omega) | refine up_trans ?_ (by assumption)))); replace hc := up_c hB hz hc; replace hf := up_f hB hz hf; replace hz := Nat.lt_of_lt_of_le hz hB.size; replace xc := up_c hB xz xc; replace xf := up_f hB xz xf; replace xz := Nat.lt_of_lt_of_le xz hB.size; have sw7 := hB.size; replace hW := up_trans hW hB; clear hB
      obtain ⟨b, o', rfl, hbz, cp, -⟩ := HH.out.cells (k := a) (by omega) rfl
      have j1 : (0 : Int) ≤ (a : Int) := by omega
      have j2 : (a : Int) < (ms.length : Int) := by omega
      clear hb hB7 hw7 HH FI FS FT
      rcases hcase with ⟨rfl, hpos, -, -⟩ | ⟨rfl, hpos, hpar, hp0, hp1⟩
      · have HP := Lib.hid hpos
        clear hpos
        --EVER{laws.FnHistoryBack;11;lhb11a}
        refine wp_region_ever (R := RS []) (M := fun _ _ => True) [tEq _ (.agg #[.slice XA ms.length XC, .int .i64 a2]), tEq _ (S t2), tEq _ (.bool true), tEq _ (.bool true), tEq _ (.bool false), tEq _ (.pointer (some ⟨w1.heap.size, 1, none⟩)), tEq _ (.int .i64 a), tEq _ (.bool false), tEq _ (.bool true), tEq _ (.bool true), tEq _ (.bool true), tEq _ (.bool false), tEq _ (.bool true), tEq _ (.bool true), tEq _ (undef), tEq _ (undef), tEq _ (undef), tEq _ (undef), tEq _ (undef), tEq _ (undef), tEq _ (undef), tEq _ (undef), tEq _ (undef), tEq _ (undef), tEq _ (.bool true), tEq _ (.bool true), tEq _ (.bool true), tEq _ (.bool true), tEq _ (.bool true), tEq _ (.bool true), tEq _ (S s), tEq _ (S s), tEq _ (.bool true), tEq _ (.bool true), tEq _ (.bool true), tEq _ (.pointer (some ⟨w2.heap.size, 0, none⟩)), tEq _ (.slice XA ms.length XC), tEq _ (.int .i64 ms.length), tEq _ (.pointer (some ⟨w1.heap.size, 0, none⟩)), tEq _ (.slice (some ⟨b, o', none⟩) ms.length c), tEq _ (.int .i64 ms.length), tEq _ (.bool true), tEq _ (.bool true), tEq _ (.bool true)] (by kernel_rfl) (RS.refl _) (fun _ _ _ => RS.trans) (by kernel_rfl) (trivial) ?_ ?_
        · refine ⟨?_, ?_, ?_, ?_, ?_, ?_, ?_, ?_, ?_, ?_, ?_, ?_, ?_, ?_, ?_, ?_, ?_, ?_, ?_, ?_, ?_, ?_, ?_, ?_, ?_, ?_, ?_, ?_, ?_, ?_, ?_, ?_, ?_, ?_, ?_, ?_, ?_, ?_, ?_, ?_, ?_, ?_, ?_, ?_, trivial⟩
          · intro k' w' ρ hk' hR hM hF
            replace hk' : k' < 44 := hk'
            obtain ⟨f0, -⟩ := hF
            replace f0 : ρ (.tmp 5) = .pointer (some ⟨w2.heap.size, 0, none⟩) := f0
            refine good_of fun K hK => ?_
            have z0 := (hR.of_drew.cell xz (by simp) 0).trans (xc 0); have z1 := (hR.of_drew.cell xz (by simp) 1).trans (xc 1); go_simp; exact hK _ _ (RS.refl _ _) (trivial) rfl
          · intro k' w' ρ hk' hR hM hF
            replace hk' : k' < 44 := hk'
            obtain ⟨f0, -⟩ := hF
            replace f0 : ρ (.tmp 6) = S t2 := f0
            exact ⟨RS.refl _ _, trivial, f0⟩
          · intro k' w' ρ hk' hR hM hF
            replace hk' : k' < 44 := hk'
            obtain ⟨f0, f1, f2, -⟩ := hF
            replace f0 : ρ (.func _) = .func (.func _) #[] #[] := f0
            replace f1 : ρ (.tmp 72) = .agg #[.slice XA ms.length XC, .int .i64 a2] := f1
            replace f2 : ρ (.tmp 73) = S t2 := f2
            refine good_of fun K hK => ?_
            go_simp; refine (implValid_yes _ ms a2 t2 o _ (RX.out.up hR.of_drew.to_below) G2.out).mono ?_; rintro e wc ⟨rfl, hb⟩; exact ⟨_, rfl, hK _ _ ((RS.refl _ _).below hb) (trivial) rfl⟩
          · intro k' w' ρ hk' hR hM hF
            replace hk' : k' < 44 := hk'
            obtain ⟨f0, -⟩ := hF
            replace f0 : ρ (.tmp 74) = .bool true := f0
            exact ⟨RS.refl _ _, trivial, f0⟩
          · intro k' w' ρ hk' hR hM hF
            replace hk' : k' < 44 := hk'
            obtain ⟨f0, -⟩ := hF
            replace f0 : ρ (.tmp 7) = .bool false := f0
            refine fun u hu => ⟨fun _ => ?_, fun hn => absurd hu hn⟩
            exact ⟨RS.refl _ _, trivial, f0⟩
          · intro k' w' ρ hk' hR hM hF
            replace hk' : k' < 44 := hk'
            obtain ⟨f0, -⟩ := hF
            replace f0 : ρ (.tmp 3) = .pointer (some ⟨w1.heap.size, 0, none⟩) := f0
            refine fun u hu => ⟨fun _ => ?_, fun hn => absurd hu hn⟩
            refine good_of fun K hK => ?_
            go_simp
            exact hK _ _ (RS.refl _ _) (trivial) (rfl)
          · intro k' w' ρ hk' hR hM hF
            replace hk' : k' < 44 := hk'
            obtain ⟨f0, -⟩ := hF
            replace f0 : ρ (.tmp 77) = .pointer (some ⟨w1.heap.size, 1, none⟩) := f0
            refine fun u hu => ⟨fun _ => ?_, fun hn => absurd hu hn⟩
            refine good_of fun K hK => ?_
            have z := (hR.of_drew.cell hz (by simp) 1).trans (hc 1); go_simp; exact hK _ _ (RS.refl _ _) trivial rfl
          · intro k' w' ρ hk' hR hM hF
            replace hk' : k' < 44 := hk'
            obtain ⟨f0, f1, -⟩ := hF
            replace f0 : ρ (.tmp 78) = .int .i64 a := f0
            replace f1 : ρ (.const (.int .i64 0)) = .int .i64 0 := f1
            refine fun u hu => ⟨fun _ => ?_, fun hn => absurd hu hn⟩
            refine good_of fun K hK => ?_
            have hpos := HP.out; have hd : decide ((0 : Int) < (a : Int)) = false := decide_eq_false (by omega); have hd2 : decide (0 < a) = false := decide_eq_false (by omega); clear hpos; go_simp; exact hK _ _ (RS.refl _ _) trivial rfl
          · intro k' w' ρ hk' hR hM hF
            replace hk' : k' < 44 := hk'
            obtain ⟨f0, f1, -⟩ := hF
            replace f0 : ρ (.tmp 76) = .bool false := f0
            replace f1 : ρ (.tmp 79) = .bool false := f1
            refine fun u hu => ⟨fun _ => ?_, fun hn => absurd hu hn⟩
            refine good_of fun K hK => ?_
            go_simp
            exact hK _ _ (RS.refl _ _) (trivial) (rfl)
          · intro k' w' ρ hk' hR hM hF
            replace hk' : k' < 44 := hk'
            obtain ⟨f0, f1, f2, -⟩ := hF
            replace f0 : ρ (.tmp 75) = .bool true := f0
            replace f1 : ρ (.tmp 80) = .bool true := f1
            replace f2 : ρ (.const (.bool false)) = .bool false := f2
            refine good_of fun K hK => ?_
            go_simp
            exact hK _ _ (RS.refl _ _) (trivial) (rfl)
          · intro k' w' ρ hk' hR hM hF
            replace hk' : k' < 44 := hk'
            obtain ⟨f0, -⟩ := hF
            replace f0 : ρ (.tmp 81) = .bool true := f0
            exact ⟨RS.refl _ _, trivial, f0⟩
          · intro k' w' ρ hk' hR hM hF
            replace hk' : k' < 44 := hk'
            obtain ⟨f0, -⟩ := hF
            replace f0 : ρ (.tmp 7) = .bool false := f0
            refine fun u hu => ⟨fun _ => ?_, fun hn => absurd hu hn⟩
            exact ⟨RS.refl _ _, trivial, f0⟩
          · intro k' w' ρ hk' hR hM hF
            replace hk' : k' < 44 := hk'
            obtain ⟨f0, -⟩ := hF
            replace f0 : ρ (.tmp 83) = .bool false := f0
            refine fun u hu => ⟨fun _ => ?_, fun hn => absurd hu hn⟩
            refine good_of fun K hK => ?_
            go_simp
            exact hK _ _ (RS.refl _ _) (trivial) (rfl)
          · intro k' w' ρ hk' hR hM hF
            replace hk' : k' < 44 := hk'
            obtain ⟨f0, -⟩ := hF
            replace f0 : ρ (.tmp 84) = .bool true := f0
            refine fun u hu => ⟨fun _ => ?_, fun hn => absurd hu hn⟩
            exact ⟨RS.refl _ _, trivial, f0⟩
          · intro k' w' ρ hk' hR hM hF
            replace hk' : k' < 44 := hk'
            obtain ⟨f0, -⟩ := hF
            replace f0 : ρ (.tmp 5) = .pointer (some ⟨w2.heap.size, 0, none⟩) := f0
            exact fun u hu => ⟨fun hn => (by rw [show u = _ from hu] at hn; cases hn), fun _ => ⟨trivial, rfl⟩⟩
          · intro k' w' ρ hk' hR hM hF
            replace hk' : k' < 44 := hk'
            obtain ⟨f0, -⟩ := hF
            replace f0 : ρ (.tmp 86) = undef := f0
            exact fun u hu => ⟨fun hn => (by rw [show u = _ from hu] at hn; cases hn), fun _ => ⟨trivial, rfl⟩⟩
          · intro k' w' ρ hk' hR hM hF
            replace hk' : k' < 44 := hk'
            obtain ⟨f0, -⟩ := hF
            replace f0 : ρ (.tmp 3) = .pointer (some ⟨w1.heap.size, 0, none⟩) := f0
            exact fun u hu => ⟨fun hn => (by rw [show u = _ from hu] at hn; cases hn), fun _ => ⟨trivial, rfl⟩⟩
          · intro k' w' ρ hk' hR hM hF
            replace hk' : k' < 44 := hk'
            obtain ⟨f0, -⟩ := hF
            replace f0 : ρ (.tmp 88) = undef := f0
            exact fun u hu => ⟨fun hn => (by rw [show u = _ from hu] at hn; cases hn), fun _ => ⟨trivial, rfl⟩⟩
          · intro k' w' ρ hk' hR hM hF
            replace hk' : k' < 44 := hk'
            obtain ⟨f0, -⟩ := hF
            replace f0 : ρ (.tmp 3) = .pointer (some ⟨w1.heap.size, 0, none⟩) := f0
            exact fun u hu => ⟨fun hn => (by rw [show u = _ from hu] at hn; cases hn), fun _ => ⟨trivial, rfl⟩⟩
          · intro k' w' ρ hk' hR hM hF
            replace hk' : k' < 44 := hk'
            obtain ⟨f0, -⟩ := hF
            replace f0 : ρ (.tmp 90) = undef := f0
            exact fun u hu => ⟨fun hn => (by rw [show u = _ from hu] at hn; cases hn), fun _ => ⟨trivial, rfl⟩⟩
          · intro k' w' ρ hk' hR hM hF
            replace hk' : k' < 44 := hk'
            obtain ⟨f0, f1, -⟩ := hF
            replace f0 : ρ (.tmp 89) = undef := f0
            replace f1 : ρ (.tmp 91) = undef := f1
            exact fun u hu => ⟨fun hn => (by rw [show u = _ from hu] at hn; cases hn), fun _ => ⟨trivial, rfl⟩⟩
          · intro k' w' ρ hk' hR hM hF
            replace hk' : k' < 44 := hk'
            obtain ⟨f0, -⟩ := hF
            replace f0 : ρ (.tmp 92) = undef := f0
            exact fun u hu => ⟨fun hn => (by rw [show u = _ from hu] at hn; cases hn), fun _ => ⟨trivial, rfl⟩⟩
          · intro k' w' ρ hk' hR hM hF
            replace hk' : k' < 44 := hk'
            obtain ⟨f0, -⟩ := hF
            replace f0 : ρ (.tmp 93) = undef := f0
            exact fun u hu => ⟨fun hn => (by rw [show u = _ from hu] at hn; cases hn), fun _ => ⟨trivial, rfl⟩⟩
          · intro k' w' ρ hk' hR hM hF
            replace hk' : k' < 44 := hk'
            obtain ⟨f0, f1, -⟩ := hF
            replace f0 : ρ (.tmp 87) = undef := f0
            replace f1 : ρ (.tmp 94) = undef := f1
            exact fun u hu => ⟨fun hn => (by rw [show u = _ from hu] at hn; cases hn), fun _ => ⟨trivial, rfl⟩⟩
          · intro k' w' ρ hk' hR hM hF
            replace hk' : k' < 44 := hk'
            obtain ⟨f0, f1, f2, -⟩ := hF
            replace f0 : ρ (.tmp 85) = .bool true := f0
            replace f1 : ρ (.const (.bool true)) = .bool true := f1
            replace f2 : ρ (.tmp 95) = undef := f2
            refine fun u hu => ⟨fun _ => ?_, fun hn => absurd hu hn⟩
            refine good_of fun K hK => ?_
            go_simp
            exact hK _ _ (RS.refl _ _) (trivial) (rfl)
          · intro k' w' ρ hk' hR hM hF
            replace hk' : k' < 44 := hk'
            obtain ⟨f0, f1, f2, -⟩ := hF
            replace f0 : ρ (.tmp 82) = .bool true := f0
            replace f1 : ρ (.tmp 96) = .bool true := f1
            replace f2 : ρ (.const (.bool false)) = .bool false := f2
            refine good_of fun K hK => ?_
            go_simp
            exact hK _ _ (RS.refl _ _) (trivial) (rfl)
          · intro k' w' ρ hk' hR hM hF
            replace hk' : k' < 44 := hk'
            obtain ⟨f0, -⟩ := hF
            replace f0 : ρ (.tmp 97) = .bool true := f0
            exact ⟨RS.refl _ _, trivial, f0⟩
          · intro k' w' ρ hk' hR hM hF
            replace hk' : k' < 44 := hk'
            obtain ⟨f0, -⟩ := hF
            replace f0 : ρ (.tmp 13) = .bool true := f0
            refine fun u hu => ⟨fun _ => ?_, fun hn => absurd hu hn⟩
            exact ⟨RS.refl _ _, trivial, f0⟩
          · intro k' w' ρ hk' hR hM hF
            replace hk' : k' < 44 := hk'
            obtain ⟨f0, f1, f2, -⟩ := hF
            replace f0 : ρ (.tmp 98) = .bool true := f0
            replace f1 : ρ (.tmp 99) = .bool true := f1
            replace f2 : ρ (.const (.bool false)) = .bool false := f2
            refine good_of fun K hK => ?_
            go_simp
            exact hK _ _ (RS.refl _ _) (trivial) (rfl)
          · intro k' w' ρ hk' hR hM hF
            replace hk' : k' < 44 := hk'
            obtain ⟨f0, -⟩ := hF
            replace f0 : ρ (.tmp 100) = .bool true := f0
            exact ⟨RS.refl _ _, trivial, f0⟩
          · intro k' w' ρ hk' hR hM hF
            replace hk' : k' < 44 := hk'
            obtain ⟨f0, -⟩ := hF
            replace f0 : ρ (.tmp 12) = S s := f0
            refine fun u hu => ⟨fun _ => ?_, fun hn => absurd hu hn⟩
            exact ⟨RS.refl _ _, trivial, f0⟩
          · intro k' w' ρ hk' hR hM hF
            replace hk' : k' < 44 := hk'
            obtain ⟨f0, -⟩ := hF
            replace f0 : ρ (.tmp 4) = S s := f0
            refine fun u hu => ⟨fun _ => ?_, fun hn => absurd hu hn⟩
            exact ⟨RS.refl _ _, trivial, f0⟩
          · intro k' w' ρ hk' hR hM hF
            replace hk' : k' < 44 := hk'
            obtain ⟨f0, f1, -⟩ := hF
            replace f0 : ρ (.tmp 102) = S s := f0
            replace f1 : ρ (.tmp 103) = S s := f1
            refine fun u hu => ⟨fun _ => ?_, fun hn => absurd hu hn⟩
            refine good_of fun K hK => ?_
            go_simp
            exact hK _ _ (RS.refl _ _) (trivial) (rfl)
          · intro k' w' ρ hk' hR hM hF
            replace hk' : k' < 44 := hk'
            obtain ⟨f0, f1, f2, -⟩ := hF
            replace f0 : ρ (.tmp 101) = .bool true := f0
            replace f1 : ρ (.tmp 104) = .bool true := f1
            replace f2 : ρ (.const (.bool false)) = .bool false := f2
            refine good_of fun K hK => ?_
            go_simp
            exact hK _ _ (RS.refl _ _) (trivial) (rfl)
          · intro k' w' ρ hk' hR hM hF
            replace hk' : k' < 44 := hk'
            obtain ⟨f0, -⟩ := hF
            replace f0 : ρ (.tmp 105) = .bool true := f0
            exact ⟨RS.refl _ _, trivial, f0⟩
          · intro k' w' ρ hk' hR hM hF
            replace hk' : k' < 44 := hk'
            obtain ⟨f0, -⟩ := hF
            replace f0 : ρ (.tmp 5) = .pointer (some ⟨w2.heap.size, 0, none⟩) := f0
            refine fun u hu => ⟨fun _ => ?_, fun hn => absurd hu hn⟩
            refine good_of fun K hK => ?_
            go_simp
            exact hK _ _ (RS.refl _ _) (trivial) (rfl)
          · intro k' w' ρ hk' hR hM hF
            replace hk' : k' < 44 := hk'
            obtain ⟨f0, -⟩ := hF
            replace f0 : ρ (.tmp 107) = .pointer (some ⟨w2.heap.size, 0, none⟩) := f0
            refine fun u hu => ⟨fun _ => ?_, fun hn => absurd hu hn⟩
            refine good_of fun K hK => ?_
            have z := (hR.of_drew.cell xz (by simp) 0).trans (xc 0); go_simp; exact hK _ _ (RS.refl _ _) trivial rfl
          · intro k' w' ρ hk' hR hM hF
            replace hk' : k' < 44 := hk'
            obtain ⟨f0, -⟩ := hF
            replace f0 : ρ (.tmp 108) = .slice XA ms.length XC := f0
            refine fun u hu => ⟨fun _ => ?_, fun hn => absurd hu hn⟩
            refine good_of fun K hK => ?_
            go_simp
            exact hK _ _ (RS.refl _ _) (trivial) (rfl)
          · intro k' w' ρ hk' hR hM hF
            replace hk' : k' < 44 := hk'
            obtain ⟨f0, -⟩ := hF
            replace f0 : ρ (.tmp 3) = .pointer (some ⟨w1.heap.size, 0, none⟩) := f0
            refine fun u hu => ⟨fun _ => ?_, fun hn => absurd hu hn⟩
            refine good_of fun K hK => ?_
            go_simp
            exact hK _ _ (RS.refl _ _) (trivial) (rfl)
          · intro k' w' ρ hk' hR hM hF
            replace hk' : k' < 44 := hk'
            obtain ⟨f0, -⟩ := hF
            replace f0 : ρ (.tmp 110) = .pointer (some ⟨w1.heap.size, 0, none⟩) := f0
            refine fun u hu => ⟨fun _ => ?_, fun hn => absurd hu hn⟩
            refine good_of fun K hK => ?_
            have z := (hR.of_drew.cell hz (by simp) 0).trans (hc 0); go_simp; exact hK _ _ (RS.refl _ _) trivial rfl
          · intro k' w' ρ hk' hR hM hF
            replace hk' : k' < 44 := hk'
            obtain ⟨f0, -⟩ := hF
            replace f0 : ρ (.tmp 111) = .slice (some ⟨b, o', none⟩) ms.length c := f0
            refine fun u hu => ⟨fun _ => ?_, fun hn => absurd hu hn⟩
            refine good_of fun K hK => ?_
            go_simp
            exact hK _ _ (RS.refl _ _) (trivial) (rfl)
          · intro k' w' ρ hk' hR hM hF
            replace hk' : k' < 44 := hk'
            obtain ⟨f0, f1, -⟩ := hF
            replace f0 : ρ (.tmp 109) = .int .i64 ms.length := f0
            replace f1 : ρ (.tmp 112) = .int .i64 ms.length := f1
            refine fun u hu => ⟨fun _ => ?_, fun hn => absurd hu hn⟩
            refine good_of fun K hK => ?_
            go_simp
            exact hK _ _ (RS.refl _ _) (trivial) (rfl)
          · intro k' w' ρ hk' hR hM hF
            replace hk' : k' < 44 := hk'
            obtain ⟨f0, f1, f2, -⟩ := hF
            replace f0 : ρ (.tmp 106) = .bool true := f0
            replace f1 : ρ (.tmp 113) = .bool true := f1
            replace f2 : ρ (.const (.bool false)) = .bool false := f2
            refine good_of fun K hK => ?_
            go_simp
            exact hK _ _ (RS.refl _ _) (trivial) (rfl)
          · intro k' w' ρ hk' hR hM hF
            replace hk' : k' < 44 := hk'
            obtain ⟨f0, -⟩ := hF
            replace f0 : ρ (.tmp 114) = .bool true := f0
            exact ⟨RS.refl _ _, trivial, f0⟩
        · intro w' hR hM
          rintro _ rfl
          rintro _ rfl
          rintro _ rfl
          rintro _ rfl
          rintro _ rfl
          rintro _ rfl
          rintro _ rfl
          rintro _ rfl
          rintro _ rfl
          rintro _ rfl
          rintro _ rfl
          rintro _ rfl
          rintro _ rfl
          rintro _ rfl
          rintro _ rfl
          rintro _ rfl
          rintro _ rfl
          rintro _ rfl
          rintro _ rfl
          rintro _ rfl
          rintro _ rfl
          rintro _ rfl
          rintro _ rfl
          rintro _ rfl
          rintro _ rfl
          rintro _ rfl
          rintro _ rfl
          rintro _ rfl
          rintro _ rfl
          rintro _ rfl
          rintro _ rfl
          rintro _ rfl
          rintro _ rfl
          rintro _ rfl
          rintro _ rfl
          rintro _ rfl
          rintro _ rfl
          rintro _ rfl
          rintro _ rfl
          rintro _ rfl
          rintro _ rfl
          rintro _ rfl
          rintro _ rfl
          rintro _ rfl
        --END
        --END
          dsimp only [EndAll, Act.put]
          simp only [List.setIfInBounds_toArray, List.set_cons_zero, List.set_cons_succ]
          obtain ⟨w8, rfl⟩ : ∃ z, z = w' := ⟨_, rfl⟩
          have hQ := up_trans hW (hR.of_drew.to_below)
          clear hR hM hW
          go_wp2_with fail
          go_ret
          exact ⟨rfl, hQ⟩
      · rw [← hpar] at cp
        have HP := Lib.hid hpos
        clear hpos hpar hp0 hp1
        --EVER{laws.FnHistoryBack;11;lhb11b}
        refine wp_region_ever (R := RS []) (M := fun _ _ => True) [tEq _ (.agg #[.slice XA ms.length XC, .int .i64 a2]), tEq _ (S t2), tEq _ (.bool true), tEq _ (.bool true), tEq _ (.bool true), tEq _ (.pointer (some ⟨w1.heap.size, 1, none⟩)), tEq _ (.int .i64 a), tEq _ (.bool true), tEq _ (.bool true), tEq _ (.bool true), tEq _ (.bool true), tEq _ (.bool true), tEq _ (.bool false), tEq _ (.bool false), tEq _ (.pointer (some ⟨w2.heap.size, 1, none⟩)), tEq _ (.int .i64 a2), tEq _ (.pointer (some ⟨w1.heap.size, 0, none⟩)), tEq _ (.slice (some ⟨b, o', none⟩) ms.length c), tEq _ (.pointer (some ⟨w1.heap.size, 1, none⟩)), tEq _ (.int .i64 a), tEq _ (.pointer (some ⟨b, o' + a * 7, none⟩)), tEq _ (.pointer (some ⟨b, o' + a * 7, none⟩)), tEq _ (.int .i64 a2), tEq _ (.bool true), tEq _ (.bool true), tEq _ (.bool true), tEq _ (.bool true), tEq _ (.bool true), tEq _ (.bool true), tEq _ (.bool true), tEq _ (S s), tEq _ (S s), tEq _ (.bool true), tEq _ (.bool true), tEq _ (.bool true), tEq _ (.pointer (some ⟨w2.heap.size, 0, none⟩)), tEq _ (.slice XA ms.length XC), tEq _ (.int .i64 ms.length), tEq _ (.pointer (some ⟨w1.heap.size, 0, none⟩)), tEq _ (.slice (some ⟨b, o', none⟩) ms.length c), tEq _ (.int .i64 ms.length), tEq _ (.bool true), tEq _ (.bool true), tEq _ (.bool true)] (by kernel_rfl) (RS.refl _) (fun _ _ _ => RS.trans) (by kernel_rfl) (trivial) ?_ ?_
        · refine ⟨?_, ?_, ?_, ?_, ?_, ?_, ?_, ?_, ?_, ?_, ?_, ?_, ?_, ?_, ?_, ?_, ?_, ?_, ?_, ?_, ?_, ?_, ?_, ?_, ?_, ?_, ?_, ?_, ?_, ?_, ?_, ?_, ?_, ?_, ?_, ?_, ?_, ?_, ?_, ?_, ?_, ?_, ?_, ?_, trivial⟩
          · intro k' w' ρ hk' hR hM hF
            replace hk' : k' < 44 := hk'
            obtain ⟨f0, -⟩ := hF
            replace f0 : ρ (.tmp 5) = .pointer (some ⟨w2.heap.size, 0, none⟩) := f0
            refine good_of fun K hK => ?_
            have z0 := (hR.of_drew.cell xz (by simp) 0).trans (xc 0); have z1 := (hR.of_drew.cell xz (by simp) 1).trans (xc 1); go_simp; exact hK _ _ (RS.refl _ _) (trivial) rfl
          · intro k' w' ρ hk' hR hM hF
            replace hk' : k' < 44 := hk'
            obtain ⟨f0, -⟩ := hF
            replace f0 : ρ (.tmp 6) = S t2 := f0
            exact ⟨RS.refl _ _, trivial, f0⟩
          · intro k' w' ρ hk' hR hM hF
            replace hk' : k' < 44 := hk'
            obtain ⟨f0, f1, f2, -⟩ := hF
            replace f0 : ρ (.func _) = .func (.func _) #[] #[] := f0
            replace f1 : ρ (.tmp 72) = .agg #[.slice XA ms.length XC, .int .i64 a2] := f1
            replace f2 : ρ (.tmp 73) = S t2 := f2
            refine good_of fun K hK => ?_
            go_simp; refine (implValid_yes _ ms a2 t2 o _ (RX.out.up hR.of_drew.to_below) G2.out).mono ?_; rintro e wc ⟨rfl, hb⟩; exact ⟨_, rfl, hK _ _ ((RS.refl _ _).below hb) (trivial) rfl⟩
          · intro k' w' ρ hk' hR hM hF
            replace hk' : k' < 44 := hk'
            obtain ⟨f0, -⟩ := hF
            replace f0 : ρ (.tmp 74) = .bool true := f0
            exact ⟨RS.refl _ _, trivial, f0⟩
          · intro k' w' ρ hk' hR hM hF
            replace hk' : k' < 44 := hk'
            obtain ⟨f0, -⟩ := hF
            replace f0 : ρ (.tmp 7) = .bool true := f0
            refine fun u hu => ⟨fun _ => ?_, fun hn => absurd hu hn⟩
            exact ⟨RS.refl _ _, trivial, f0⟩
          · intro k' w' ρ hk' hR hM hF
            replace hk' : k' < 44 := hk'
            obtain ⟨f0, -⟩ := hF
            replace f0 : ρ (.tmp 3) = .pointer (some ⟨w1.heap.size, 0, none⟩) := f0
            refine fun u hu => ⟨fun _ => ?_, fun hn => absurd hu hn⟩
            refine good_of fun K hK => ?_
            go_simp
            exact hK _ _ (RS.refl _ _) (trivial) (rfl)
          · intro k' w' ρ hk' hR hM hF
            replace hk' : k' < 44 := hk'
            obtain ⟨f0, -⟩ := hF
            replace f0 : ρ (.tmp 77) = .pointer (some ⟨w1.heap.size, 1, none⟩) := f0
            refine fun u hu => ⟨fun _ => ?_, fun hn => absurd hu hn⟩
            refine good_of fun K hK => ?_
            have z := (hR.of_drew.cell hz (by simp) 1).trans (hc 1); go_simp; exact hK _ _ (RS.refl _ _) trivial rfl
          · intro k' w' ρ hk' hR hM hF
            replace hk' : k' < 44 := hk'
            obtain ⟨f0, f1, -⟩ := hF
            replace f0 : ρ (.tmp 78) = .int .i64 a := f0
            replace f1 : ρ (.const (.int .i64 0)) = .int .i64 0 := f1
            refine fun u hu => ⟨fun _ => ?_, fun hn => absurd hu hn⟩
            refine good_of fun K hK => ?_
            have hpos := HP.out; have hd : decide ((0 : Int) < (a : Int)) = true := decide_eq_true (by omega); have hd2 : decide (0 < a) = true := decide_eq_true (by omega); clear hpos; go_simp; exact hK _ _ (RS.refl _ _) trivial rfl
          · intro k' w' ρ hk' hR hM hF
            replace hk' : k' < 44 := hk'
            obtain ⟨f0, f1, -⟩ := hF
            replace f0 : ρ (.tmp 76) = .bool true := f0
            replace f1 : ρ (.tmp 79) = .bool true := f1
            refine fun u hu => ⟨fun _ => ?_, fun hn => absurd hu hn⟩
            refine good_of fun K hK => ?_
            go_simp
            exact hK _ _ (RS.refl _ _) (trivial) (rfl)
          · intro k' w' ρ hk' hR hM hF
            replace hk' : k' < 44 := hk'
            obtain ⟨f0, f1, f2, -⟩ := hF
            replace f0 : ρ (.tmp 75) = .bool true := f0
            replace f1 : ρ (.tmp 80) = .bool true := f1
            replace f2 : ρ (.const (.bool false)) = .bool false := f2
            refine good_of fun K hK => ?_
            go_simp
            exact hK _ _ (RS.refl _ _) (trivial) (rfl)
          · intro k' w' ρ hk' hR hM hF
            replace hk' : k' < 44 := hk'
            obtain ⟨f0, -⟩ := hF
            replace f0 : ρ (.tmp 81) = .bool true := f0
            exact ⟨RS.refl _ _, trivial, f0⟩
          · intro k' w' ρ hk' hR hM hF
            replace hk' : k' < 44 := hk'
            obtain ⟨f0, -⟩ := hF
            replace f0 : ρ (.tmp 7) = .bool true := f0
            refine fun u hu => ⟨fun _ => ?_, fun hn => absurd hu hn⟩
            exact ⟨RS.refl _ _, trivial, f0⟩
          · intro k' w' ρ hk' hR hM hF
            replace hk' : k' < 44 := hk'
            obtain ⟨f0, -⟩ := hF
            replace f0 : ρ (.tmp 83) = .bool true := f0
            refine fun u hu => ⟨fun _ => ?_, fun hn => absurd hu hn⟩
            refine good_of fun K hK => ?_
            go_simp
            exact hK _ _ (RS.refl _ _) (trivial) (rfl)
          · intro k' w' ρ hk' hR hM hF
            replace hk' : k' < 44 := hk'
            obtain ⟨f0, -⟩ := hF
            replace f0 : ρ (.tmp 84) = .bool false := f0
            refine fun u hu => ⟨fun _ => ?_, fun hn => absurd hu hn⟩
            exact ⟨RS.refl _ _, trivial, f0⟩
          · intro k' w' ρ hk' hR hM hF
            replace hk' : k' < 44 := hk'
            obtain ⟨f0, -⟩ := hF
            replace f0 : ρ (.tmp 5) = .pointer (some ⟨w2.heap.size, 0, none⟩) := f0
            refine fun u hu => ⟨fun _ => ?_, fun hn => absurd hu hn⟩
            refine good_of fun K hK => ?_
            go_simp
            exact hK _ _ (RS.refl _ _) (trivial) (rfl)
          · intro k' w' ρ hk' hR hM hF
            replace hk' : k' < 44 := hk'
            obtain ⟨f0, -⟩ := hF
            replace f0 : ρ (.tmp 86) = .pointer (some ⟨w2.heap.size, 1, none⟩) := f0
            refine fun u hu => ⟨fun _ => ?_, fun hn => absurd hu hn⟩
            refine good_of fun K hK => ?_
            have z := (hR.of_drew.cell xz (by simp) 1).trans (xc 1); go_simp; exact hK _ _ (RS.refl _ _) trivial rfl
          · intro k' w' ρ hk' hR hM hF
            replace hk' : k' < 44 := hk'
            obtain ⟨f0, -⟩ := hF
            replace f0 : ρ (.tmp 3) = .pointer (some ⟨w1.heap.size, 0, none⟩) := f0
            refine fun u hu => ⟨fun _ => ?_, fun hn => absurd hu hn⟩
            refine good_of fun K hK => ?_
            go_simp
            exact hK _ _ (RS.refl _ _) (trivial) (rfl)
          · intro k' w' ρ hk' hR hM hF
            replace hk' : k' < 44 := hk'
            obtain ⟨f0, -⟩ := hF
            replace f0 : ρ (.tmp 88) = .pointer (some ⟨w1.heap.size, 0, none⟩) := f0
            refine fun u hu => ⟨fun _ => ?_, fun hn => absurd hu hn⟩
            refine good_of fun K hK => ?_
            have z := (hR.of_drew.cell hz (by simp) 0).trans (hc 0); go_simp; exact hK _ _ (RS.refl _ _) trivial rfl
          · intro k' w' ρ hk' hR hM hF
            replace hk' : k' < 44 := hk'
            obtain ⟨f0, -⟩ := hF
            replace f0 : ρ (.tmp 3) = .pointer (some ⟨w1.heap.size, 0, none⟩) := f0
            refine fun u hu => ⟨fun _ => ?_, fun hn => absurd hu hn⟩
            refine good_of fun K hK => ?_
            go_simp
            exact hK _ _ (RS.refl _ _) (trivial) (rfl)
          · intro k' w' ρ hk' hR hM hF
            replace hk' : k' < 44 := hk'
            obtain ⟨f0, -⟩ := hF
            replace f0 : ρ (.tmp 90) = .pointer (some ⟨w1.heap.size, 1, none⟩) := f0
            refine fun u hu => ⟨fun _ => ?_, fun hn => absurd hu hn⟩
            refine good_of fun K hK => ?_
            have z := (hR.of_drew.cell hz (by simp) 1).trans (hc 1); go_simp; exact hK _ _ (RS.refl _ _) trivial rfl
          · intro k' w' ρ hk' hR hM hF
            replace hk' : k' < 44 := hk'
            obtain ⟨f0, f1, -⟩ := hF
            replace f0 : ρ (.tmp 89) = .slice (some ⟨b, o', none⟩) ms.length c := f0
            replace f1 : ρ (.tmp 91) = .int .i64 a := f1
            refine fun u hu => ⟨fun _ => ?_, fun hn => absurd hu hn⟩
            refine good_of fun K hK => ?_
            go_simp
            exact hK _ _ (RS.refl _ _) (trivial) (rfl)
          · intro k' w' ρ hk' hR hM hF
            replace hk' : k' < 44 := hk'
            obtain ⟨f0, -⟩ := hF
            replace f0 : ρ (.tmp 92) = .pointer (some ⟨b, o' + a * 7, none⟩) := f0
            refine fun u hu => ⟨fun _ => ?_, fun hn => absurd hu hn⟩
            refine good_of fun K hK => ?_
            go_simp
            exact hK _ _ (RS.refl _ _) (trivial) (rfl)
          · intro k' w' ρ hk' hR hM hF
            replace hk' : k' < 44 := hk'
            obtain ⟨f0, -⟩ := hF
            replace f0 : ρ (.tmp 93) = .pointer (some ⟨b, o' + a * 7, none⟩) := f0
            refine fun u hu => ⟨fun _ => ?_, fun hn => absurd hu hn⟩
            refine good_of fun K hK => ?_
            have z := (hR.of_drew.cell hbz (by simp) (o' + a * 7)).trans cp; go_simp; exact hK _ _ (RS.refl _ _) trivial rfl
          · intro k' w' ρ hk' hR hM hF
            replace hk' : k' < 44 := hk'
            obtain ⟨f0, f1, -⟩ := hF
            replace f0 : ρ (.tmp 87) = .int .i64 a2 := f0
            replace f1 : ρ (.tmp 94) = .int .i64 a2 := f1
            refine fun u hu => ⟨fun _ => ?_, fun hn => absurd hu hn⟩
            refine good_of fun K hK => ?_
            go_simp
            exact hK _ _ (RS.refl _ _) (trivial) (rfl)
          · intro k' w' ρ hk' hR hM hF
            replace hk' : k' < 44 := hk'
            obtain ⟨f0, f1, f2, -⟩ := hF
            replace f0 : ρ (.tmp 85) = .bool false := f0
            replace f1 : ρ (.const (.bool true)) = .bool true := f1
            replace f2 : ρ (.tmp 95) = .bool true := f2
            refine fun u hu => ⟨fun _ => ?_, fun hn => absurd hu hn⟩
            refine good_of fun K hK => ?_
            go_simp
            exact hK _ _ (RS.refl _ _) (trivial) (rfl)
          · intro k' w' ρ hk' hR hM hF
            replace hk' : k' < 44 := hk'
            obtain ⟨f0, f1, f2, -⟩ := hF
            replace f0 : ρ (.tmp 82) = .bool true := f0
            replace f1 : ρ (.tmp 96) = .bool true := f1
            replace f2 : ρ (.const (.bool false)) = .bool false := f2
            refine good_of fun K hK => ?_
            go_simp
            exact hK _ _ (RS.refl _ _) (trivial) (rfl)
          · intro k' w' ρ hk' hR hM hF
            replace hk' : k' < 44 := hk'
            obtain ⟨f0, -⟩ := hF
            replace f0 : ρ (.tmp 97) = .bool true := f0
            exact ⟨RS.refl _ _, trivial, f0⟩
          · intro k' w' ρ hk' hR hM hF
            replace hk' : k' < 44 := hk'
            obtain ⟨f0, -⟩ := hF
            replace f0 : ρ (.tmp 13) = .bool true := f0
            refine fun u hu => ⟨fun _ => ?_, fun hn => absurd hu hn⟩
            exact ⟨RS.refl _ _, trivial, f0⟩
          · intro k' w' ρ hk' hR hM hF
            replace hk' : k' < 44 := hk'
            obtain ⟨f0, f1, f2, -⟩ := hF
            replace f0 : ρ (.tmp 98) = .bool true := f0
            replace f1 : ρ (.tmp 99) = .bool true := f1
            replace f2 : ρ (.const (.bool false)) = .bool false := f2
            refine good_of fun K hK => ?_
            go_simp
            exact hK _ _ (RS.refl _ _) (trivial) (rfl)
          · intro k' w' ρ hk' hR hM hF
            replace hk' : k' < 44 := hk'
            obtain ⟨f0, -⟩ := hF
            replace f0 : ρ (.tmp 100) = .bool true := f0
            exact ⟨RS.refl _ _, trivial, f0⟩
          · intro k' w' ρ hk' hR hM hF
            replace hk' : k' < 44 := hk'
            obtain ⟨f0, -⟩ := hF
            replace f0 : ρ (.tmp 12) = S s := f0
            refine fun u hu => ⟨fun _ => ?_, fun hn => absurd hu hn⟩
            exact ⟨RS.refl _ _, trivial, f0⟩
          · intro k' w' ρ hk' hR hM hF
            replace hk' : k' < 44 := hk'
            obtain ⟨f0, -⟩ := hF
            replace f0 : ρ (.tmp 4) = S s := f0
            refine fun u hu => ⟨fun _ => ?_, fun hn => absurd hu hn⟩
            exact ⟨RS.refl _ _, trivial, f0⟩
          · intro k' w' ρ hk' hR hM hF
            replace hk' : k' < 44 := hk'
            obtain ⟨f0, f1, -⟩ := hF
            replace f0 : ρ (.tmp 102) = S s := f0
            replace f1 : ρ (.tmp 103) = S s := f1
            refine fun u hu => ⟨fun _ => ?_, fun hn => absurd hu hn⟩
            refine good_of fun K hK => ?_
            go_simp
            exact hK _ _ (RS.refl _ _) (trivial) (rfl)
          · intro k' w' ρ hk' hR hM hF
            replace hk' : k' < 44 := hk'
            obtain ⟨f0, f1, f2, -⟩ := hF
            replace f0 : ρ (.tmp 101) = .bool true := f0
            replace f1 : ρ (.tmp 104) = .bool true := f1
            replace f2 : ρ (.const (.bool false)) = .bool false := f2
            refine good_of fun K hK => ?_
            go_simp
            exact hK _ _ (RS.refl _ _) (trivial) (rfl)
          · intro k' w' ρ hk' hR hM hF
            replace hk' : k' < 44 := hk'
            obtain ⟨f0, -⟩ := hF
            replace f0 : ρ (.tmp 105) = .bool true := f0
            exact ⟨RS.refl _ _, trivial, f0⟩
          · intro k' w' ρ hk' hR hM hF
            replace hk' : k' < 44 := hk'
            obtain ⟨f0, -⟩ := hF
            replace f0 : ρ (.tmp 5) = .pointer (some ⟨w2.heap.size, 0, none⟩) := f0
            refine fun u hu => ⟨fun _ => ?_, fun hn => absurd hu hn⟩
            refine good_of fun K hK => ?_
            go_simp
            exact hK _ _ (RS.refl _ _) (trivial) (rfl)
          · intro k' w' ρ hk' hR hM hF
            replace hk' : k' < 44 := hk'
            obtain ⟨f0, -⟩ := hF
            replace f0 : ρ (.tmp 107) = .pointer (some ⟨w2.heap.size, 0, none⟩) := f0
            refine fun u hu => ⟨fun _ => ?_, fun hn => absurd hu hn⟩
            refine good_of fun K hK => ?_
            have z := (hR.of_drew.cell xz (by simp) 0).trans (xc 0); go_simp; exact hK _ _ (RS.refl _ _) trivial rfl
          · intro k' w' ρ hk' hR hM hF
            replace hk' : k' < 44 := hk'
            obtain ⟨f0, -⟩ := hF
            replace f0 : ρ (.tmp 108) = .slice XA ms.length XC := f0
            refine fun u hu => ⟨fun _ => ?_, fun hn => absurd hu hn⟩
            refine good_of fun K hK => ?_
            go_simp
            exact hK _ _ (RS.refl _ _) (trivial) (rfl)
          · intro k' w' ρ hk' hR hM hF
            replace hk' : k' < 44 := hk'
            obtain ⟨f0, -⟩ := hF
            replace f0 : ρ (.tmp 3) = .pointer (some ⟨w1.heap.size, 0, none⟩) := f0
            refine fun u hu => ⟨fun _ => ?_, fun hn => absurd hu hn⟩
            refine good_of fun K hK => ?_
            go_simp
            exact hK _ _ (RS.refl _ _) (trivial) (rfl)
          · intro k' w' ρ hk' hR hM hF
            replace hk' : k' < 44 := hk'
            obtain ⟨f0, -⟩ := hF
            replace f0 : ρ (.tmp 110) = .pointer (some ⟨w1.heap.size, 0, none⟩) := f0
            refine fun u hu => ⟨fun _ => ?_, fun hn => absurd hu hn⟩
            refine good_of fun K hK => ?_
            have z := (hR.of_drew.cell hz (by simp) 0).trans (hc 0); go_simp; exact hK _ _ (RS.refl _ _) trivial rfl
          · intro k' w' ρ hk' hR hM hF
            replace hk' : k' < 44 := hk'
            obtain ⟨f0, -⟩ := hF
            replace f0 : ρ (.tmp 111) = .slice (some ⟨b, o', none⟩) ms.length c := f0
            refine fun u hu => ⟨fun _ => ?_, fun hn => absurd hu hn⟩
            refine good_of fun K hK => ?_
            go_simp
            exact hK _ _ (RS.refl _ _) (trivial) (rfl)
          · intro k' w' ρ hk' hR hM hF
            replace hk' : k' < 44 := hk'
            obtain ⟨f0, f1, -⟩ := hF
            replace f0 : ρ (.tmp 109) = .int .i64 ms.length := f0
            replace f1 : ρ (.tmp 112) = .int .i64 ms.length := f1
            refine fun u hu => ⟨fun _ => ?_, fun hn => absurd hu hn⟩
            refine good_of fun K hK => ?_
            go_simp
            exact hK _ _ (RS.refl _ _) (trivial) (rfl)
          · intro k' w' ρ hk' hR hM hF
            replace hk' : k' < 44 := hk'
            obtain ⟨f0, f1, f2, -⟩ := hF
            replace f0 : ρ (.tmp 106) = .bool true := f0
            replace f1 : ρ (.tmp 113) = .bool true := f1
            replace f2 : ρ (.const (.bool false)) = .bool false := f2
            refine good_of fun K hK => ?_
            go_simp
            exact hK _ _ (RS.refl _ _) (trivial) (rfl)
          · intro k' w' ρ hk' hR hM hF
            replace hk' : k' < 44 := hk'
            obtain ⟨f0, -⟩ := hF
            replace f0 : ρ (.tmp 114) = .bool true := f0
            exact ⟨RS.refl _ _, trivial, f0⟩
        · intro w' hR hM
          rintro _ rfl
          rintro _ rfl
          rintro _ rfl
          rintro _ rfl
          rintro _ rfl
          rintro _ rfl
          rintro _ rfl
          rintro _ rfl
          rintro _ rfl
          rintro _ rfl
          rintro _ rfl
          rintro _ rfl
          rintro _ rfl
          rintro _ rfl
          rintro _ rfl
          rintro _ rfl
          rintro _ rfl
          rintro _ rfl
          rintro _ rfl
          rintro _ rfl
          rintro _ rfl
          rintro _ rfl
          rintro _ rfl
          rintro _ rfl
          rintro _ rfl
          rintro _ rfl
          rintro _ rfl
          rintro _ rfl
          rintro _ rfl
          rintro _ rfl
          rintro _ rfl
          rintro _ rfl
          rintro _ rfl
          rintro _ rfl
          rintro _ rfl
          rintro _ rfl
          rintro _ rfl
          rintro _ rfl
          rintro _ rfl
          rintro _ rfl
          rintro _ rfl
          rintro _ rfl
          rintro _ rfl
          rintro _ rfl
        --END
        --END
          dsimp only [EndAll, Act.put]
          simp only [List.setIfInBounds_toArray, List.set_cons_zero, List.set_cons_succ]
          obtain ⟨w8, rfl⟩ : ∃ z, z = w' := ⟨_, rfl⟩
          have hQ := up_trans hW (hR.of_drew.to_below)
          clear hR hM hW
          go_wp2_with fail
          go_ret
          exact ⟨rfl, hQ⟩
    · have NO := Lib.hid hg
      clear hg
      go_wp2_with fail
      refine (implHistoryBack_no _ ms a s _ (HH.out.up (by (repeat (first | exact Below.refl _ _ | assumption | refine Below.drew ?_ | refine up_drewN ?_ _ | refine up_alloc ?_ _ | refine up_set ?_ _ _ (by first | exact Nat.le_refl _ | (simp; done) | (simp; omega) | omega) | refine up_trans ?_ (by assumption))))) (by omega) (by unfold maxLen; omega) NO.out).mono ?_
      rintro e w2 ⟨xv, rfl, ho2, hb⟩
      have hc : ∀ o, w2.cell? ⟨w1.heap.size, o, none⟩ = #[.slice A ms.length c, .int .i64 a][o]? := (fun o => (hb.cell (p := ⟨w1.heap.size, o, none⟩) (by simp <;> omega)).trans (by simp [go_sem])); have hf : ∀ o, w2.frozen? ⟨w1.heap.size, o, none⟩ = false := (fun o => (hb.frozen (p := ⟨w1.heap.size, o, none⟩) (by simp <;> omega)).trans (by simp [go_sem])); have hz : w1.heap.size < w2.heap.size := (by have := hb.size; (try simp at this); omega); have hy := hz
      replace HH := RdM.hup HH (show Below w1.heap.size w1 w2 by (repeat (first | exact Below.refl _ _ | assumption | refine Below.drew ?_ | refine up_drewN ?_ _ | refine up_alloc ?_ _ | refine up_set ?_ _ _ (by first | exact Nat.le_refl _ | (simp; done) | (simp; omega) | omega) | refine up_trans ?_ (by assumption))))
      have hB : Below w1.heap.size w1 w2 := (by (repeat (first | exact Below.refl _ _ | assumption | refine Below.drew ?_ | refine up_drewN ?_ _ | refine up_alloc ?_ _ | refine up_set ?_ _ _ (by first | exact Nat.le_refl _ | (simp; done) | (simp; omega) | omega) | refine up_trans ?_ (by assumption)))); have sw2 := hB.size; replace hW := up_trans hW hB; clear hB
      have RX := Lib.hid (show RdM w2 xv [] from ⟨RdL.of_own ho2, fun m hm => by cases hm⟩)
      obtain ⟨XA, XC, rfl, -, -⟩ := (RdL.of_own (f := moC) (bs := []) ho2).form
      simp only [List.length_nil] at RX ⊢
      clear hb ho2
      go_wp2_with fail
      refine (specHistoryBack_no _ ms a s _ (HH.out.up (by (repeat (first | exact Below.refl _ _ | assumption | refine Below.drew ?_ | refine up_drewN ?_ _ | refine up_alloc ?_ _ | refine up_set ?_ _ _ (by first | exact Nat.le_refl _ | (simp; done) | (simp; omega) | omega) | refine up_trans ?_ (by assumption))))) (by omega) (by unfold maxLen; omega) NO.out).mono ?_
      rintro e w3 ⟨yv, rfl, ho3, hb⟩
      have xc : ∀ o, w3.cell? ⟨w2.heap.size, o, none⟩ = #[.slice XA 0 XC, .int .i64 0][o]? := (fun o => (hb.cell (p := ⟨w2.heap.size, o, none⟩) (by simp <;> omega)).trans (by simp [go_sem])); have xf : ∀ o, w3.frozen? ⟨w2.heap.size, o, none⟩ = false := (fun o => (hb.frozen (p := ⟨w2.heap.size, o, none⟩) (by simp <;> omega)).trans (by simp [go_sem])); have xz : w2.heap.size < w3.heap.size := (by have := hb.size; (try simp at this); omega); have xy := xz
      have hB3 : Below w2.heap.size w2 w3 := by (repeat (first | exact Below.refl _ _ | assumption | refine Below.drew ?_ | refine up_drewN ?_ _ | refine up_alloc ?_ _ | refine up_set ?_ _ _ (by first | exact Nat.le_refl _ | (simp; done) | (simp; omega) | omega) | refine up_trans ?_ (by assumption)))
      replace HH := RdM.hup HH hB3
      replace RX := RdM.hup RX hB3
      have hB : Below w2.heap.size w2 w3 := (by (repeat (first | exact Below.refl _ _ | assumption | refine Below.drew ?_ | refine up_drewN ?_ _ | refine up_alloc ?_ _ | refine up_set ?_ _ _ (by first | exact Nat.le_refl _ | (simp; done) | (simp; omega) | omega) | refine up_trans ?_ (by assumption)))); replace hc := up_c hB hz hc; replace hf := up_f hB hz hf; replace hz := Nat.lt_of_lt_of_le hz hB.size; have sw3 := hB.size; replace hW := up_trans hW hB; clear hB
      have RY := Lib.hid (show RdM w3 yv [] from ⟨RdL.of_own ho3, fun m hm => by cases hm⟩)
      obtain ⟨YA, YC, rfl, -, -⟩ := (RdL.of_own (f := moC) (bs := []) ho3).form
      simp only [List.length_nil] at RY ⊢
      have sx : ¬ w3.heap.size = w2.heap.size := by omega
      have sx' : ¬ w2.heap.size = w3.heap.size := by omega
      clear hb ho3 hB3
      go_wp2_with fail
      refine (sameHistory_same _ _ [] 0 _ (RX.out.up (by (repeat (first | exact Below.refl _ _ | assumption | refine Below.drew ?_ | refine up_drewN ?_ _ | refine up_alloc ?_ _ | refine up_set ?_ _ _ (by first | exact Nat.le_refl _ | (simp; done) | (simp; omega) | omega) | refine up_trans ?_ (by assumption))))) (RY.out.up (by (repeat (first | exact Below.refl _ _ | assumption | refine Below.drew ?_ | refine up_drewN ?_ _ | refine up_alloc ?_ _ | refine up_set ?_ _ _ (by first | exact Nat.le_refl _ | (simp; done) | (simp; omega) | omega) | refine up_trans ?_ (by assumption)))))).mono ?_
      rintro e w4 ⟨rfl, hb⟩
      have hB4 : Below w3.heap.size w3 w4 := by (repeat (first | exact Below.refl _ _ | assumption | refine Below.drew ?_ | refine up_drewN ?_ _ | refine up_alloc ?_ _ | refine up_set ?_ _ _ (by first | exact Nat.le_refl _ | (simp; done) | (simp; omega) | omega) | refine up_trans ?_ (by assumption)))
      replace HH := RdM.hup HH hB4
      have hB : Below w3.heap.size w3 w4 := (by (repeat (first | exact Below.refl _ _ | assumption | refine Below.drew ?_ | refine up_drewN ?_ _ | refine up_alloc ?_ _ | refine up_set ?_ _ _ (by first | exact Nat.le_refl _ | (simp; done) | (simp; omega) | omega) | refine up_trans ?_ (by assumption)))); replace hc := up_c hB hz hc; replace hf := up_f hB hz hf; replace hz := Nat.lt_of_lt_of_le hz hB.size; replace xc := up_c hB xz xc; replace xf := up_f hB xz xf; replace xz := Nat.lt_of_lt_of_le xz hB.size; have sw4 := hB.size; replace hW := up_trans hW hB; clear hB
      clear hb RY hB4 RX
      go_wp2_with fail
      refine (specValid_no _ ms a s _ HH.out hl hs NO.out).mono ?_
      rintro e w5 ⟨rfl, hb⟩
      have hB : Below w4.heap.size w4 w5 := (by (repeat (first | exact Below.refl _ _ | assumption | refine Below.drew ?_ | refine up_drewN ?_ _ | refine up_alloc ?_ _ | refine up_set ?_ _ _ (by first | exact Nat.le_refl _ | (simp; done) | (simp; omega) | omega) | refine up_trans ?_ (by assumption)))); replace hc := up_c hB hz hc; replace hf := up_f hB hz hf; replace hz := Nat.lt_of_lt_of_le hz hB.size; replace xc := up_c hB xz xc; replace xf := up_f hB xz xf; replace xz := Nat.lt_of_lt_of_le xz hB.size; have sw5 := hB.size; replace hW := up_trans hW hB; clear hB
      clear hb HH
      go_wp2_with fail
      refine (alive_any _).mono ?_
      rintro e w6 ⟨rfl, rfl⟩
      go_wp2_with fail
      go_ret
      exact ⟨rfl, hW⟩
  · go_enter Try.func9, Try.ntmps9
    go_wp2_with fail
    go_ret
    exact ⟨rfl, Below.refl _ _⟩

end Go.Proofs.Ytjcdklkdpcncgaa
