/- What is proved here: the walk of the law FnUndoAll. No condition. -/
import Derived.Test.YtjcdklkdpcncgaaLH1
import Derived.Test.YtjcdklkdpcncgaaEd0
namespace Go.Proofs.Ytjcdklkdpcncgaa
open Go.RowKit
set_option linter.unusedVariables false

/-- in the loop of FnUndoAll: box d holds the history at state b, with its text. -/
def HUndo (ms : List Mo) (o : List (List UInt8)) (d B : Nat) (w : World) (j b : Nat) (tt : List UInt8) (ok : Bool) (wr : World) : Prop :=
  ∃ v, HGood ms b tt o ∧ Is wr d #[v, .int .i64 b] ∧ OwnM wr B v ms ∧ v.ownBlock ≠ some d ∧ d < wr.heap.size ∧ B ≤ wr.heap.size ∧ Below w.heap.size w wr ∧ (ok = true → b + j ≤ 28) ∧ (ok = false → b = 0)
theorem hundo_put {ms : List Mo} {o : List (List UInt8)} {d B j b : Nat} {w wr : World} {tt : List UInt8} {ok : Bool} {v A0 A1 : Value} (hg : HGood ms b tt o) (hi : Is wr d #[A0, A1]) (ho : OwnM wr B v ms) (hn : v.ownBlock ≠ some d) (hd : d < wr.heap.size) (hB : B ≤ wr.heap.size) (hW : Below w.heap.size w wr) (hwd : w.heap.size ≤ d) (h1 : ok = true → b + j ≤ 28) (h2 : ok = false → b = 0) :
    HUndo ms o d B w j b tt ok ((wr.setCell ⟨d, 0, none⟩ v).setCell ⟨d, 1, none⟩ (.int .i64 b)) :=
  ⟨v, hg, put_is (V := #[v, .int .i64 b]) hi rfl, own_setn (own_setn ho ⟨d, 0, none⟩ v fun x hx e => hn (by rw [hx]; exact congrArg some e)) ⟨d, 1, none⟩ _ fun x hx e => hn (by rw [hx]; exact congrArg some e), hn,
    by simpa [World.setCell] using hd, by simpa [World.setCell] using hB, up_set (up_set hW ⟨d, 0, none⟩ _ hwd) ⟨d, 1, none⟩ _ hwd, h1, h2⟩
theorem hundo_alloc {ms : List Mo} {o : List (List UInt8)} {d B j b : Nat} {w wr : World} {tt : List UInt8} {ok : Bool} (h : HUndo ms o d B w j b tt ok wr) (ob : Obj) : HUndo ms o d B w j b tt ok (wr.alloc ob) := by
  obtain ⟨v, h1, h2, h3, h4, h5, h6, h7, h8, h9⟩ := h
  exact ⟨v, h1, h2.up h5 (up_alloc (Below.refl _ _) _), own_up h3 (up_alloc (Below.refl _ _) _), h4, by simp; omega, by simp; omega, up_alloc h7 _, h8, h9⟩

set_option maxRecDepth 100000 in
set_option maxHeartbeats 4000000 in
theorem undoAll_walk (v : Value) (n : Nat) (zs : List Int) (w : World) (h : Bytes w w.heap.size v n zs) :
    Calls Try.prog 10 #[v] w fun e w' => e = .returned (.bool true) ∧ Below w.heap.size w w' := by
  have h' := h
  obtain ⟨h1, h2, A0, c0, rfl, h3, h4, h5⟩ := h
  clear h5 h2 h1 h4
  by_cases hn : n ≤ 1048576
  · have hW := Below.refl w.heap.size w
    go_enter Try.func10, Try.ntmps10
    go_wp2_with fail
    refine (drawHistoryBack_any _ n zs _ (h'.to (by (repeat (first | exact Below.refl _ _ | assumption | refine Below.drew ?_ | refine up_drewN ?_ _ | refine up_alloc ?_ _ | refine up_set ?_ _ _ (by first | exact Nat.le_refl _ | (simp; done) | (simp; omega) | omega) | refine up_trans ?_ (by assumption)))))).mono ?_
    rintro e w1 ⟨hv, ms, a, s, rfl, H, hl, hs, hb⟩
    have hB : Below w.heap.size w w1 := (by (repeat (first | exact Below.refl _ _ | assumption | refine Below.drew ?_ | refine up_drewN ?_ _ | refine up_alloc ?_ _ | refine up_set ?_ _ _ (by first | exact Nat.le_refl _ | (simp; done) | (simp; omega) | omega) | refine up_trans ?_ (by assumption)))); have sw1 := hB.size; replace hW := up_trans hW hB; clear hB
    obtain ⟨A, c, rfl, -, -⟩ := H.1.form
    have HH := Lib.hid H
    clear hb h' H
    by_cases hg : ∃ o, HGood ms a s o
    · obtain ⟨o, hg⟩ := hg
      obtain ⟨a, rfl⟩ : ∃ k : Nat, a = k := ⟨a.toNat, by have := hg.a0; omega⟩
      have ha1 := hg.a1
      obtain ⟨a2, t2, ok, fI, fS, hg2, hcase⟩ := back_out ms a s o hg
      have FI := Lib.hid fI
      have FS := Lib.hid fS
      have G1 := Lib.hid hg
      have G2 := Lib.hid hg2
      have FT := Lib.hid (fun v w h => implHistoryTo_yes v ms a s 0 w o h hg)
      have T0 := Lib.hid (toText0 hg)
      have hlen := hg.n30
      clear fI fS hg hg2
      go_wp2_with fail
      refine (FI.out _ _ (HH.out.up (by (repeat (first | exact Below.refl _ _ | assumption | refine Below.drew ?_ | refine up_drewN ?_ _ | refine up_alloc ?_ _ | refine up_set ?_ _ _ (by first | exact Nat.le_refl _ | (simp; done) | (simp; omega) | omega) | refine up_trans ?_ (by assumption)))))).mono ?_
      rintro e w2 ⟨xv, rfl, ho2, hb⟩
      have hc : ∀ o, w2.cell? ⟨w1.heap.size, o, none⟩ = #[.slice A ms.length c, .int .i64 a][o]? := (fun o => (hb.cell (p := ⟨w1.heap.size, o, none⟩) (by simp <;> omega)).trans (by simp [go_sem])); have hf : ∀ o, w2.frozen? ⟨w1.heap.size, o, none⟩ = false := (fun o => (hb.frozen (p := ⟨w1.heap.size, o, none⟩) (by simp <;> omega)).trans (by simp [go_sem])); have hz : w1.heap.size < w2.heap.size := (by have := hb.size; (try simp at this); omega); have hy := hz
      replace HH := RdM.hup HH (show Below w1.heap.size w1 w2 by (repeat (first | exact Below.refl _ _ | assumption | refine Below.drew ?_ | refine up_drewN ?_ _ | refine up_alloc ?_ _ | refine up_set ?_ _ _ (by first | exact Nat.le_refl _ | (simp; done) | (simp; omega) | omega) | refine up_trans ?_ (by assumption))))
      have hB : Below w1.heap.size w1 w2 := (by (repeat (first | exact Below.refl _ _ | assumption | refine Below.drew ?_ | refine up_drewN ?_ _ | refine up_alloc ?_ _ | refine up_set ?_ _ _ (by first | exact Nat.le_refl _ | (simp; done) | (simp; omega) | omega) | refine up_trans ?_ (by assumption)))); have sw2 := hB.size; replace hW := up_trans hW hB; clear hB
      have RX := Lib.hid (rdM_good ho2 G2.out)
      have OX := Lib.hid (own_base ho2 (show w1.heap.size ≤ _ by first | omega | (simp; done) | (simp; omega)))
      have OXN := Lib.hid ho2
      obtain ⟨XA, XC, rfl, -, -⟩ := (RdL.of_own (f := moC) (bs := ms) ho2).form
      clear hb ho2
      go_wp2_with fail
      refine (FS.out _ _ (HH.out.up (by (repeat (first | exact Below.refl _ _ | assumption | refine Below.drew ?_ | refine up_drewN ?_ _ | refine up_alloc ?_ _ | refine up_set ?_ _ _ (by first | exact Nat.le_refl _ | (simp; done) | (simp; omega) | omega) | refine up_trans ?_ (by assumption)))))).mono ?_
      rintro e w3 ⟨yv, rfl, ho3, hb⟩
      have xc : ∀ o, w3.cell? ⟨w2.heap.size, o, none⟩ = #[.slice XA ms.length XC, .int .i64 a2][o]? := (fun o => (hb.cell (p := ⟨w2.heap.size, o, none⟩) (by simp <;> omega)).trans (by simp [go_sem])); have xf : ∀ o, w3.frozen? ⟨w2.heap.size, o, none⟩ = false := (fun o => (hb.frozen (p := ⟨w2.heap.size, o, none⟩) (by simp <;> omega)).trans (by simp [go_sem])); have xz : w2.heap.size < w3.heap.size := (by have := hb.size; (try simp at this); omega); have xy := xz
      have hB3 : Below w2.heap.size w2 w3 := by (repeat (first | exact Below.refl _ _ | assumption | refine Below.drew ?_ | refine up_drewN ?_ _ | refine up_alloc ?_ _ | refine up_set ?_ _ _ (by first | exact Nat.le_refl _ | (simp; done) | (simp; omega) | omega) | refine up_trans ?_ (by assumption)))
      replace HH := RdM.hup HH hB3
      replace RX := RdM.hup RX hB3
      replace OX := Lib.hid (own_up OX.out hB3)
      have hB : Below w2.heap.size w2 w3 := (by (repeat (first | exact Below.refl _ _ | assumption | refine Below.drew ?_ | refine up_drewN ?_ _ | refine up_alloc ?_ _ | refine up_set ?_ _ _ (by first | exact Nat.le_refl _ | (simp; done) | (simp; omega) | omega) | refine up_trans ?_ (by assumption)))); replace hc := up_c hB hz hc; replace hf := up_f hB hz hf; replace hz := Nat.lt_of_lt_of_le hz hB.size; have sw3 := hB.size; replace hW := up_trans hW hB; clear hB
      have RY := Lib.hid (rdM_good ho3 G2.out)
      obtain ⟨YA, YC, rfl, -, -⟩ := (RdL.of_own (f := moC) (bs := ms) ho3).form
      have sx : ¬ w3.heap.size = w2.heap.size := by omega
      have sx' : ¬ w2.heap.size = w3.heap.size := by omega
      clear hb ho3 hB3
      go_wp2_with fail
      refine (sameHistory_same _ _ ms a2 _ (RX.out.up (by (repeat (first | exact Below.refl _ _ | assumption | refine Below.drew ?_ | refine up_drewN ?_ _ | refine up_alloc ?_ _ | refine up_set ?_ _ _ (by first | exact Nat.le_refl _ | (simp; done) | (simp; omega) | omega) | refine up_trans ?_ (by assumption))))) (RY.out.up (by (repeat (first | exact Below.refl _ _ | assumption | refine Below.drew ?_ | refine up_drewN ?_ _ | refine up_alloc ?_ _ | refine up_set ?_ _ _ (by first | exact Nat.le_refl _ | (simp; done) | (simp; omega) | omega) | refine up_trans ?_ (by assumption)))))).mono ?_
      rintro e w4 ⟨rfl, hb⟩
      have hB4 : Below w3.heap.size w3 w4 := by (repeat (first | exact Below.refl _ _ | assumption | refine Below.drew ?_ | refine up_drewN ?_ _ | refine up_alloc ?_ _ | refine up_set ?_ _ _ (by first | exact Nat.le_refl _ | (simp; done) | (simp; omega) | omega) | refine up_trans ?_ (by assumption)))
      replace HH := RdM.hup HH hB4
      replace RX := RdM.hup RX hB4
      replace OX := Lib.hid (own_up OX.out hB4)
      have hB : Below w3.heap.size w3 w4 := (by (repeat (first | exact Below.refl _ _ | assumption | refine Below.drew ?_ | refine up_drewN ?_ _ | refine up_alloc ?_ _ | refine up_set ?_ _ _ (by first | exact Nat.le_refl _ | (simp; done) | (simp; omega) | omega) | refine up_trans ?_ (by assumption)))); replace hc := up_c hB hz hc; replace hf := up_f hB hz hf; replace hz := Nat.lt_of_lt_of_le hz hB.size; replace xc := up_c hB xz xc; replace xf := up_f hB xz xf; replace xz := Nat.lt_of_lt_of_le xz hB.size; have sw4 := hB.size; replace hW := up_trans hW hB; clear hB
      clear hb RY hB4
      go_wp2_with fail
      refine (specValid_yes _ ms a s o _ HH.out G1.out).mono ?_
      rintro e w5 ⟨rfl, hb⟩
      replace HH := RdM.hup HH hb
      replace RX := RdM.hup RX hb
      replace OX := Lib.hid (own_up OX.out hb)
      have hB : Below w4.heap.size w4 w5 := (by (repeat (first | exact Below.refl _ _ | assumption | refine Below.drew ?_ | refine up_drewN ?_ _ | refine up_alloc ?_ _ | refine up_set ?_ _ _ (by first | exact Nat.le_refl _ | (simp; done) | (simp; omega) | omega) | refine up_trans ?_ (by assumption)))); replace hc := up_c hB hz hc; replace hf := up_f hB hz hf; replace hz := Nat.lt_of_lt_of_le hz hB.size; replace xc := up_c hB xz xc; replace xf := up_f hB xz xf; replace xz := Nat.lt_of_lt_of_le xz hB.size; have sw5 := hB.size; replace hW := up_trans hW hB; clear hB
      clear hb
      go_wp2_with fail
      refine (FT.out _ _ HH.out).mono ?_
      rintro e w6 ⟨bv, rfl, ho6, hb⟩
      obtain ⟨BA, BC, rfl, -, -⟩ := (RdL.of_own (f := moC) (bs := ms) ho6).form
      rw [T0.out]
      obtain ⟨t0, ht0⟩ : ∃ t0, t0 = o.getD 0 [] := ⟨_, rfl⟩
      rw [← ht0]
      have HT0 := Lib.hid ht0
      clear ht0
      replace OX := Lib.hid (own_up OX.out hb)
      have hB : Below w5.heap.size w5 w6 := (by (repeat (first | exact Below.refl _ _ | assumption | refine Below.drew ?_ | refine up_drewN ?_ _ | refine up_alloc ?_ _ | refine up_set ?_ _ _ (by first | exact Nat.le_refl _ | (simp; done) | (simp; omega) | omega) | refine up_trans ?_ (by assumption)))); replace xc := up_c hB xz xc; replace xf := up_f hB xz xf; replace xz := Nat.lt_of_lt_of_le xz hB.size; have sw6 := hB.size; replace hW := up_trans hW hB; clear hB
      obtain ⟨b, rfl⟩ : ∃ b : Nat, a2 = b := ⟨a2.toNat, by have := G2.out.a0; omega⟩
      have hx6 : w2.heap.size < w6.heap.size := by omega
      have hxo : (Value.slice XA ms.length XC).ownBlock ≠ some w2.heap.size := own_near OXN.out (Nat.le_refl _)
      have hwx : w.heap.size ≤ w2.heap.size := by omega
      have HL : Hid (∀ ob : Obj, HUndo ms o w2.heap.size w1.heap.size w 0 b t2 ok (w6.alloc ob)) := Lib.hid (fun ob =>
        ⟨_, G2.out, Is.up ⟨xc, xf⟩ xz (up_alloc (Below.refl _ _) _), (own_up OX.out (up_alloc (Below.refl _ _) _)), hxo, by simp; omega, by simp; omega, up_alloc hW _, fun h => by
          rcases hcase with ⟨rfl, _⟩ | ⟨_, _, _, _, h5⟩
          · cases h
          · omega, fun h => by
          rcases hcase with ⟨_, _, h3, _⟩ | ⟨rfl, _⟩
          · omega
          · cases h⟩)
      clear hb ho6 hcase FI FS FT T0 HH OX OXN RX hxo hc hf hz hy xc xf xz xy hW
      generalize toAt ms.length (a : Int) 0 = p6
      generalize inB 0 0 ((ms.length : Int) - 1) = ok6
      go_upto_region 11 with (fail)
      obtain ⟨w7, hw7⟩ : ∃ z, z = w6.alloc (.cells #[.slice BA ms.length BC, .int .i64 p6] 28) := ⟨_, rfl⟩
      rw [← hw7]
      have HL7 : Hid (HUndo ms o w2.heap.size w1.heap.size w 0 b t2 ok w7) := Lib.hid (by rw [hw7]; exact HL.out _)
      clear hw7 HL
      generalize w2.heap.size = d at *
      generalize w1.heap.size = B1 at *
      go_wp2_with fail
      go_loopw [6, 7, 14] (fun t okv i wr => ∃ (j b' : Nat) (tt : List UInt8) (ok' : Bool), j ≤ 30 ∧ i = .int .i64 j ∧ t = S tt ∧ okv = .bool ok' ∧ Hid (HUndo ms o d B1 w j b' tt ok' wr)) (fun _ _ i _ => 30 - (intOf i).toNat)
      case atStart => exact ⟨0, b, t2, ok, by omega, rfl, rfl, rfl, HL7⟩
      case round =>
        obtain ⟨j, b', tt, ok', hj, rfl, rfl, rfl, HU⟩ := hrel
        obtain ⟨v', hg', hi', ho', hn', hd', hB', hW', hk1, hk2⟩ := HU.out
        clear HU HL7
        obtain ⟨VA, VC, rfl, -, -⟩ := (RdL.of_own (f := moC) (bs := ms) ho').form
        by_cases hgo : j < 30 ∧ ok' = true
        · obtain ⟨hj30, rfl⟩ := hgo
          have hk := hk1 rfl
          have i1 : (j : Int) < 30 := by omega
          obtain ⟨a3, t3, ok3, fI, -, hg3, hcase⟩ := back_out ms b' tt o hg'
          obtain ⟨b3, rfl⟩ : ∃ b3 : Nat, a3 = b3 := ⟨a3.toNat, by have := hg3.a0; omega⟩
          have FI := Lib.hid fI
          have G3 := Lib.hid hg3
          have HI := Lib.hid hi'
          have RV := Lib.hid (rdM_good ho' hg')
          have dc := hi'.1
          have df := hi'.2
          have hq1 : ok3 = true → b3 + (j + 1) ≤ 28 := fun h => by
            rcases hcase with ⟨rfl, _⟩ | ⟨_, _, _, _, h5⟩
            · cases h
            · omega
          have hq2 : ok3 = false → b3 = 0 := fun h => by
            rcases hcase with ⟨_, _, h3, _⟩ | ⟨rfl, _⟩
            · omega
            · cases h
          clear fI hg3 hg' hi' ho' hcase hk1 hk2
          go_wp2_with fail
          refine (FI.out _ _ RV.out).mono ?_
          rintro e w8 ⟨u3, rfl, ho8, hb⟩
          obtain ⟨UA, UC, rfl, -, -⟩ := (RdL.of_own (f := moC) (bs := ms) ho8).form
          have dc8 := up_c hb hd' dc
          have df8 := up_f hb hd' df
          have sw8 := hb.size
          have hne : ¬ w8.heap.size = d := by omega
          have hd8 : d < w8.heap.size := by omega
          have hne2 : ¬ d = w8.heap.size := by omega
          have HU : Hid (HUndo ms o d B1 w (j + 1) b3 t3 ok3 (((w8.setCell ⟨d, 0, none⟩ (.slice UA ms.length UC)).setCell ⟨d, 1, none⟩ (.int .i64 b3)).alloc (.cells #[.slice UA ms.length UC, .int .i64 b3] 28))) :=
            Lib.hid (hundo_alloc (hundo_put G3.out (HI.out.up hd' hb) (own_base ho8 (by omega)) (own_far ho8 hd') hd8 (by omega) (up_trans hW' hb) hwx hq1 hq2) _)
          clear hb ho8 FI G3 HI RV dc df hW' hq1 hq2
          go_wp2_with fail
          go_roundw
          case rel => exact ⟨j + 1, b3, t3, ok3, by omega, by go_num, rfl, rfl, HU⟩
          case measure => simp [intOf]; omega
        · have hb0 : b' = 0 := by
            rcases ok' with _ | _
            · exact hk2 rfl
            · have := hk1 rfl
              have : ¬ j < 30 := fun h => hgo ⟨h, rfl⟩
              omega
          subst hb0
          obtain rfl : t0 = tt := HT0.out.trans hg'.at_
          have dc := hi'.1
          have df := hi'.2
          clear hg' hi' ho' hk1 hk2
          by_cases hj30 : j < 30
          · obtain rfl : ok' = false := by
              rcases ok' with _ | _
              · rfl
              · exact absurd ⟨hj30, rfl⟩ hgo
            have i1 : (j : Int) < 30 := by omega
            clear hgo
            go_wp2_with fail
            go_ret
            exact ⟨rfl, hW'⟩
          · clear hgo
            go_wp2_with fail
            go_ret
            exact ⟨rfl, hW'⟩
    · have NO := Lib.hid hg
      clear hg
      go_wp2_with fail
      refine (implHistoryBack_no _ ms a s _ (HH.out.up (by (repeat (first | exact Below.refl _ _ | assumption | refine Below.drew ?_ | refine up_drewN ?_ _ | refine up_alloc ?_ _ | refine up_set ?_ _ _ (by first | exact Nat.le_refl _ | (simp; done) | (simp; omega) | omega) | refine up_trans ?_ (by assumption))))) (by omega) (by unfold maxLen; omega) NO.out).mono ?_
      rintro e w2 ⟨xv, rfl, ho2, hb⟩
      have hc : ∀ o, w2.cell? ⟨w1.heap.size, o, none⟩ = #[.slice A ms.length c, .int .i64 a][o]? := (fun o => (hb.cell (p := ⟨w1.heap.size, o, none⟩) (by simp <;> omega)).trans (by simp [go_sem])); have hf : ∀ o, w2.frozen? ⟨w1.heap.size, o, none⟩ = false := (fun o => (hb.frozen (p := ⟨w1.heap.size, o, none⟩) (by simp <;> omega)).trans (by simp [go_sem])); have hz : w1.heap.size < w2.heap.size := (by have := hb.size; (try simp at this); omega); have hy := hz
      replace HH := RdM.hup HH (show Below w1.heap.size w1 w2 by (repeat (first | exact Below.refl _ _ | assumption | refine Below.drew ?_ | refine up_drewN ?_ _ | refine up_alloc ?_ _ | refine up_set ?_ _ _ (by first | exact Nat.le_refl _ | (simp; done) | (simp; omega) | omega) | refine up_trans ?_ (by assumption))))
      have hB : Below w1.heap.size w1 w2 := (by (repeat (first | exact Below.refl _ _ | assumption | refine Below.drew ?_ | refine up_drewN ?_ _ | refine up_alloc ?_ _ | refine up_set ?_ _ _ (by first | exact Nat.le_refl _ | (simp; done) | (simp; omega) | omega) | refine up_trans ?_ (by assumption)))); have sw2 := hB.size; replace hW := up_trans hW hB; clear hB
      have RX := Lib.hid (show RdM w2 xv [] from ⟨RdL.of_own ho2, fun m hm => by cases hm⟩)
      obtain ⟨XA, XC, rfl, -, -⟩ := (RdL.of_own (f := moC) (bs := []) ho2).form
      simp only [List.length_nil] at RX ⊢
      clear hb ho2
      go_wp2_with fail
      refine (specHistoryBack_no _ ms a s _ (HH.out.up (by (repeat (first | exact Below.refl _ _ | assumption | refine Below.drew ?_ | refine up_drewN ?_ _ | refine up_alloc ?_ _ | refine up_set ?_ _ _ (by first | exact Nat.le_refl _ | (simp; done) | (simp; omega) | omega) | refine up_trans ?_ (by assumption))))) (by omega) (by unfold maxLen; omega) NO.out).mono ?_
      rintro e w3 ⟨yv, rfl, ho3, hb⟩
      have xc : ∀ o, w3.cell? ⟨w2.heap.size, o, none⟩ = #[.slice XA 0 XC, .int .i64 0][o]? := (fun o => (hb.cell (p := ⟨w2.heap.size, o, none⟩) (by simp <;> omega)).trans (by simp [go_sem])); have xf : ∀ o, w3.frozen? ⟨w2.heap.size, o, none⟩ = false := (fun o => (hb.frozen (p := ⟨w2.heap.size, o, none⟩) (by simp <;> omega)).trans (by simp [go_sem])); have xz : w2.heap.size < w3.heap.size := (by have := hb.size; (try simp at this); omega); have xy := xz
      have hB3 : Below w2.heap.size w2 w3 := by (repeat (first | exact Below.refl _ _ | assumption | refine Below.drew ?_ | refine up_drewN ?_ _ | refine up_alloc ?_ _ | refine up_set ?_ _ _ (by first | exact Nat.le_refl _ | (simp; done) | (simp; omega) | omega) | refine up_trans ?_ (by assumption)))
      replace HH := RdM.hup HH hB3
      replace RX := RdM.hup RX hB3
      have hB : Below w2.heap.size w2 w3 := (by (repeat (first | exact Below.refl _ _ | assumption | refine Below.drew ?_ | refine up_drewN ?_ _ | refine up_alloc ?_ _ | refine up_set ?_ _ _ (by first | exact Nat.le_refl _ | (simp; done) | (simp; omega) | omega) | refine up_trans ?_ (by assumption)))); replace hc := up_c hB hz hc; replace hf := up_f hB hz hf; replace hz := Nat.lt_of_lt_of_le hz hB.size; have sw3 := hB.size; replace hW := up_trans hW hB; clear hB
      have RY := Lib.hid (show RdM w3 yv [] from ⟨RdL.of_own ho3, fun m hm => by cases hm⟩)
      obtain ⟨YA, YC, rfl, -, -⟩ := (RdL.of_own (f := moC) (bs := []) ho3).form
      simp only [List.length_nil] at RY ⊢
      have sx : ¬ w3.heap.size = w2.heap.size := by omega
      have sx' : ¬ w2.heap.size = w3.heap.size := by omega
      clear hb ho3 hB3
      go_wp2_with fail
      refine (sameHistory_same _ _ [] 0 _ (RX.out.up (by (repeat (first | exact Below.refl _ _ | assumption | refine Below.drew ?_ | refine up_drewN ?_ _ | refine up_alloc ?_ _ | refine up_set ?_ _ _ (by first | exact Nat.le_refl _ | (simp; done) | (simp; omega) | omega) | refine up_trans ?_ (by assumption))))) (RY.out.up (by (repeat (first | exact Below.refl _ _ | assumption | refine Below.drew ?_ | refine up_drewN ?_ _ | refine up_alloc ?_ _ | refine up_set ?_ _ _ (by first | exact Nat.le_refl _ | (simp; done) | (simp; omega) | omega) | refine up_trans ?_ (by assumption)))))).mono ?_
      rintro e w4 ⟨rfl, hb⟩
      have hB4 : Below w3.heap.size w3 w4 := by (repeat (first | exact Below.refl _ _ | assumption | refine Below.drew ?_ | refine up_drewN ?_ _ | refine up_alloc ?_ _ | refine up_set ?_ _ _ (by first | exact Nat.le_refl _ | (simp; done) | (simp; omega) | omega) | refine up_trans ?_ (by assumption)))
      replace HH := RdM.hup HH hB4
      have hB : Below w3.heap.size w3 w4 := (by (repeat (first | exact Below.refl _ _ | assumption | refine Below.drew ?_ | refine up_drewN ?_ _ | refine up_alloc ?_ _ | refine up_set ?_ _ _ (by first | exact Nat.le_refl _ | (simp; done) | (simp; omega) | omega) | refine up_trans ?_ (by assumption)))); replace hc := up_c hB hz hc; replace hf := up_f hB hz hf; replace hz := Nat.lt_of_lt_of_le hz hB.size; replace xc := up_c hB xz xc; replace xf := up_f hB xz xf; replace xz := Nat.lt_of_lt_of_le xz hB.size; have sw4 := hB.size; replace hW := up_trans hW hB; clear hB
      clear hb RY hB4 RX
      go_wp2_with fail
      refine (specValid_no _ ms a s _ HH.out hl hs NO.out).mono ?_
      rintro e w5 ⟨rfl, hb⟩
      have hB : Below w4.heap.size w4 w5 := (by (repeat (first | exact Below.refl _ _ | assumption | refine Below.drew ?_ | refine up_drewN ?_ _ | refine up_alloc ?_ _ | refine up_set ?_ _ _ (by first | exact Nat.le_refl _ | (simp; done) | (simp; omega) | omega) | refine up_trans ?_ (by assumption)))); replace hc := up_c hB hz hc; replace hf := up_f hB hz hf; replace hz := Nat.lt_of_lt_of_le hz hB.size; replace xc := up_c hB xz xc; replace xf := up_f hB xz xf; replace xz := Nat.lt_of_lt_of_le xz hB.size; have sw5 := hB.size; replace hW := up_trans hW hB; clear hB
      clear hb HH
      go_wp2_with fail
      refine (alive_any _).mono ?_
      rintro e w6 ⟨rfl, rfl⟩
      go_wp2_with fail
      go_ret
      exact ⟨rfl, hW⟩
  · go_enter Try.func10, Try.ntmps10
    go_wp2_with fail
    go_ret
    exact ⟨rfl, Below.refl _ _⟩

end Go.Proofs.Ytjcdklkdpcncgaa
