/- What is proved here: contracts of the reference's l3Text, TableText and l1OwnTable. No condition. -/
import Derived.Test.YtlejfmngpbcdhaaTab6
import Derived.Test.YtlejfmngpbcdhaaReg
import Derived.Test.YtlejfmngpbcdhaaEver2
namespace Go.Proofs.Ytlejfmngpbcdhaa
open Go.RowKit
set_option linter.unusedVariables false

set_option maxRecDepth 100000 in
set_option maxHeartbeats 1000000 in
theorem specText_any (f m : List UInt8) (v : Value) (p : Pc) (w : World) (hp : pcOk f m p = true) (hf : f.length ≤ 1048576) (hm : m.length ≤ 1048576) :
    Calls Try.prog 88 #[tbAgg f m v, .agg #[.bool p.ad, .int .i64 p.st, .int .i64 p.sz]] w fun e w' => e = .returned (S (pcT f m p)) ∧ Below w.heap.size w w' := by
  have hin := pcOk_in hp
  obtain ⟨ad, st, sz⟩ := p
  unfold rmT at hin
  unfold tbAgg
  simp only at hin ⊢
  obtain ⟨a, rfl⟩ : ∃ a : Nat, st = a := ⟨st.toNat, by omega⟩
  obtain ⟨n, rfl⟩ : ∃ n : Nat, sz = n := ⟨sz.toNat, by omega⟩
  rcases ad with _ | _
  · simp only [Bool.false_eq_true, if_false] at hin
    have hadd : IntKind.i64.wrap ((a : Int) + (n : Int)) = ((a + n : Nat) : Int) := by rw [IntWalk.i64_in _ (by omega)]; omega
    have hT := Lib.hid (show pcT f m ⟨false, (a : Int), (n : Int)⟩ = (f.take (a + n)).drop a from (cut_cut f a n).symm)
    have i1 : (a : Int) ≤ ((a + n : Nat) : Int) := by omega
    have i2 : ((a + n : Nat) : Int) ≤ (f.length : Int) := by omega
    have i3 : (0 : Int) ≤ (a : Int) := by omega
    rw [hT.out]
    go_enter Try.func88, Try.ntmps88
    go_wp2_with fail
    go_ret
    exact ⟨rfl, by (repeat (first | exact Below.refl _ _ | assumption | refine Below.drew ?_ | refine up_drewN ?_ _ | refine up_alloc ?_ _ | refine up_set ?_ _ _ (by first | exact Nat.le_refl _ | (simp; done) | (simp; omega) | omega) | refine up_trans ?_ (by assumption)))⟩
  · simp only [if_true] at hin
    have hadd : IntKind.i64.wrap ((a : Int) + (n : Int)) = ((a + n : Nat) : Int) := by rw [IntWalk.i64_in _ (by omega)]; omega
    have hT := Lib.hid (show pcT f m ⟨true, (a : Int), (n : Int)⟩ = (m.take (a + n)).drop a from (cut_cut m a n).symm)
    have i1 : (a : Int) ≤ ((a + n : Nat) : Int) := by omega
    have i2 : ((a + n : Nat) : Int) ≤ (m.length : Int) := by omega
    have i3 : (0 : Int) ≤ (a : Int) := by omega
    rw [hT.out]
    go_enter Try.func88, Try.ntmps88
    go_wp2_with fail
    go_ret
    exact ⟨rfl, by (repeat (first | exact Below.refl _ _ | assumption | refine Below.drew ?_ | refine up_drewN ?_ _ | refine up_alloc ?_ _ | refine up_set ?_ _ _ (by first | exact Nat.le_refl _ | (simp; done) | (simp; omega) | omega) | refine up_trans ?_ (by assumption)))⟩


set_option maxRecDepth 100000 in
set_option maxHeartbeats 2000000 in
theorem specTableText_yes (f m : List UInt8) (v : Value) (ps : List Pc) (w : World) (h : RdP w v ps) (hv : tbB f m ps = true) (hf : f.length ≤ 1048576) (hm : m.length ≤ 1048576) :
    Calls Try.prog 54 #[tbAgg f m v] w fun e w' => e = .returned (S (tbT f m ps)) ∧ Below w.heap.size w w' := by
  obtain ⟨A, c, rfl, hpl, _⟩ := h.form
  unfold maxLen at hpl
  have hok : psOk f m 0 ps = true := by unfold tbB at hv; simp only [Bool.and_eq_true] at hv; exact hv.2
  have PS := Lib.hid (psOk_all ps 0 hok)
  have HS := Lib.hid (show psSum ps ≤ 120 by have := psOk_sum ps 0 (by omega) hok; omega)
  have H := Lib.hid h
  have VV := Lib.hid (fun (w' : World) (hb : Below w.heap.size w w') => specTableValid_any f m (.slice A ps.length c) ps w' (h.up hb) hf hm)
  rw [hv] at VV
  have X := Lib.hid (fun p w hp => specText_any f m (.slice A ps.length c) p w hp hf hm)
  unfold tbAgg at VV X ⊢
  clear h hv hok
  go_enter Try.func54, Try.ntmps54
  go_upto_region 1 with (fail)
  obtain ⟨w1, hw1⟩ : ∃ z, z = w.alloc (.cells #[S f, S m, .slice A ps.length c] 48) := ⟨_, rfl⟩
  have hb : Below (w.alloc (.cells #[S f, S m, .slice A ps.length c] 48)).heap.size (w.alloc (.cells #[S f, S m, .slice A ps.length c] 48)) w1 := by rw [hw1]; exact Below.refl _ _
  rw [← hw1]
  have tc : ∀ o, w1.cell? ⟨w.heap.size, o, none⟩ = #[S f, S m, .slice A ps.length c][o]? := (fun o => (hb.cell (p := ⟨w.heap.size, o, none⟩) (by simp <;> omega)).trans (by simp [go_sem])); have tf : ∀ o, w1.frozen? ⟨w.heap.size, o, none⟩ = false := (fun o => (hb.frozen (p := ⟨w.heap.size, o, none⟩) (by simp <;> omega)).trans (by simp [go_sem])); have tz : w.heap.size < w1.heap.size := (by have := hb.size; (try simp at this); omega); have ty := tz
  have hW : Below w.heap.size w w1 := by (repeat (first | exact Below.refl _ _ | assumption | refine Below.drew ?_ | refine up_drewN ?_ _ | refine up_alloc ?_ _ | refine up_set ?_ _ _ (by first | exact Nat.le_refl _ | (simp; done) | (simp; omega) | omega) | refine up_trans ?_ (by assumption)))
  clear hb hw1
  go_wp2_with fail
  go_loopw [3, 4] (fun s i wr => ∃ (k : Nat) (acc : List UInt8), k ≤ ps.length ∧ i = .int .i64 k ∧ s = S acc ∧ Hid (acc = tbT f m (ps.take k)) ∧ Hid (Below w1.heap.size w1 wr)) (fun _ i _ => ps.length - (intOf i).toNat)
  case atStart => exact ⟨0, [], Nat.zero_le _, rfl, rfl, Lib.hid rfl, Lib.hid (Below.refl _ _)⟩
  case round =>
    obtain ⟨k, acc, hk, rfl, rfl, HA, HW⟩ := hrel
    have tc2 := up_c HW.out tz tc
    have swr := HW.out.size
    have hW2 := up_trans hW HW.out
    by_cases hlt : k < ps.length
    · have i1 : (0 : Int) ≤ (k : Int) := by omega
      have i2 : (k : Int) < (ps.length : Int) := by omega
      have hts := Lib.hid (show tbT f m (ps.take (k + 1)) = tbT f m (ps.take k) ++ pcT f m ps[k] by unfold tbT; rw [List.take_succ_eq_append_getElem hlt, List.flatMap_append]; simp)
      have hpk := PS.out _ (List.getElem_mem hlt)
      have hk1 : ((tbT f m (ps.take (k + 1))).length : Int) ≤ 120 := by
        have h1 := tbT_len (ps.take (k + 1)) (fun q hq => PS.out q (List.mem_of_mem_take hq))
        have h2 := psSum_take (fun q hq => (pcOk_in (PS.out q hq)).2.1) (k + 1)
        have := HS.out
        omega
      rw [hts.out, List.length_append, ← HA.out] at hk1
      go_wp2_with fail
      refine (VV.out _ hW2).mono ?_
      rintro e w2 ⟨rfl, hb⟩
      have tz2 : w.heap.size < wr.heap.size := by omega
      have tc3 := up_c hb tz2 tc2
      have tz3 := Nat.lt_of_lt_of_le tz2 hb.size
      have HW2 := Lib.hid (up_trans HW.out hb)
      have hW3 := up_trans hW2 hb
      obtain ⟨b, o, rfl, hbz, c0, c1, c2⟩ := rdP_cells (H.out.up hW3) hlt
      obtain ⟨x, hx⟩ : ∃ x, x = ps[k] := ⟨_, rfl⟩
      rw [← hx] at c0 c1 c2 hts hpk hk1
      clear hx hb tc2
      have X1 := Lib.hid (fun w => X.out x w hpk)
      obtain ⟨ad, st, sz⟩ := x
      simp only at c0 c1 c2 X1
      generalize pcT f m ⟨ad, st, sz⟩ = y at *
      go_upto_region 5 with (fail)
      --EVER{spec.TableText;5;tbtx5}
      refine wp_region_ever (R := RS []) (M := fun _ _ => True) [tEq _ (S acc), tEq _ (.agg #[S f, S m, .slice (some ⟨b, o, none⟩) ps.length c]), tEq _ (.pointer (some ⟨w.heap.size, 2, none⟩)), tEq _ (.slice (some ⟨b, o, none⟩) ps.length c), tEq _ (.int .i64 k), tEq _ (.pointer (some ⟨b, o + k * 3, none⟩)), tEq _ (.agg #[.bool ad, .int .i64 st, .int .i64 sz]), tEq _ (S y), tEq _ (S (acc ++ y)), tEq _ (S (acc ++ y))] (by kernel_rfl) (RS.refl _) (fun _ _ _ => RS.trans) (by kernel_rfl) (trivial) ?_ ?_
      · refine ⟨?_, ?_, ?_, ?_, ?_, ?_, ?_, ?_, ?_, ?_, trivial⟩
        · intro k' w' ρ hk' hR hM hF
          replace hk' : k' < 10 := hk'
          obtain ⟨f0, -⟩ := hF
          replace f0 : ρ (.tmp 3) = S acc := f0
          exact ⟨RS.refl _ _, trivial, f0⟩
        · intro k' w' ρ hk' hR hM hF
          replace hk' : k' < 10 := hk'
          obtain ⟨f0, -⟩ := hF
          replace f0 : ρ (.tmp 1) = .pointer (some ⟨w.heap.size, 0, none⟩) := f0
          refine good_of fun K hK => ?_
          have z0 := (hR.of_drew.cell tz3 (by simp) 0).trans (tc3 0); have z1 := (hR.of_drew.cell tz3 (by simp) 1).trans (tc3 1); have z2 := (hR.of_drew.cell tz3 (by simp) 2).trans (tc3 2); go_simp; exact hK _ _ (RS.refl _ _) (trivial) rfl
        · intro k' w' ρ hk' hR hM hF
          replace hk' : k' < 10 := hk'
          obtain ⟨f0, -⟩ := hF
          replace f0 : ρ (.tmp 1) = .pointer (some ⟨w.heap.size, 0, none⟩) := f0
          refine good_of fun K hK => ?_
          go_simp
          exact hK _ _ (RS.refl _ _) (trivial) (rfl)
        · intro k' w' ρ hk' hR hM hF
          replace hk' : k' < 10 := hk'
          obtain ⟨f0, -⟩ := hF
          replace f0 : ρ (.tmp 18) = .pointer (some ⟨w.heap.size, 2, none⟩) := f0
          refine good_of fun K hK => ?_
          have z := (hR.of_drew.cell tz3 (by simp) 2).trans (tc3 2); go_simp; exact hK _ _ (RS.refl _ _) trivial rfl
        · intro k' w' ρ hk' hR hM hF
          replace hk' : k' < 10 := hk'
          obtain ⟨f0, -⟩ := hF
          replace f0 : ρ (.tmp 4) = .int .i64 k := f0
          exact ⟨RS.refl _ _, trivial, f0⟩
        · intro k' w' ρ hk' hR hM hF
          replace hk' : k' < 10 := hk'
          obtain ⟨f0, f1, -⟩ := hF
          replace f0 : ρ (.tmp 19) = .slice (some ⟨b, o, none⟩) ps.length c := f0
          replace f1 : ρ (.tmp 20) = .int .i64 k := f1
          refine good_of fun K hK => ?_
          go_simp; exact hK _ _ (RS.refl _ _) trivial rfl
        · intro k' w' ρ hk' hR hM hF
          replace hk' : k' < 10 := hk'
          obtain ⟨f0, -⟩ := hF
          replace f0 : ρ (.tmp 21) = .pointer (some ⟨b, o + k * 3, none⟩) := f0
          refine good_of fun K hK => ?_
          have z0 := (hR.of_drew.cell hbz (by simp) (o + k * 3)).trans c0; have z1 := (hR.of_drew.cell hbz (by simp) (o + k * 3 + 1)).trans c1; have z2 := (hR.of_drew.cell hbz (by simp) (o + k * 3 + 2)).trans c2; go_simp; exact hK _ _ (RS.refl _ _) trivial rfl
        · intro k' w' ρ hk' hR hM hF
          replace hk' : k' < 10 := hk'
          obtain ⟨f0, f1, f2, -⟩ := hF
          replace f0 : ρ (.func _) = .func (.func _) #[] #[] := f0
          replace f1 : ρ (.tmp 17) = .agg #[S f, S m, .slice (some ⟨b, o, none⟩) ps.length c] := f1
          replace f2 : ρ (.tmp 22) = .agg #[.bool ad, .int .i64 st, .int .i64 sz] := f2
          refine good_of fun K hK => ?_
          go_simp; refine (X1.out _).mono ?_; rintro e wc ⟨rfl, hb⟩; exact ⟨_, rfl, hK _ _ ((RS.refl _ _).below hb) (trivial) rfl⟩
        · intro k' w' ρ hk' hR hM hF
          replace hk' : k' < 10 := hk'
          obtain ⟨f0, f1, -⟩ := hF
          replace f0 : ρ (.tmp 16) = S acc := f0
          replace f1 : ρ (.tmp 23) = S y := f1
          refine good_of fun K hK => ?_
          have hcl : ¬ 9223372036854775807 < acc.length + y.length := (by omega); go_simp; exact hK _ _ (RS.refl _ _) trivial rfl
        · intro k' w' ρ hk' hR hM hF
          replace hk' : k' < 10 := hk'
          obtain ⟨f0, -⟩ := hF
          replace f0 : ρ (.tmp 24) = S (acc ++ y) := f0
          exact ⟨RS.refl _ _, trivial, f0⟩
      · intro w' hR hM
        rintro _ rfl
        rintro _ rfl
        rintro _ rfl
        rintro _ rfl
        rintro _ rfl
        rintro _ rfl
        rintro _ rfl
        rintro _ rfl
        rintro _ rfl
        rintro _ rfl
      --END
      --END
        dsimp only [EndAll, Act.put]
        obtain ⟨w4, rfl⟩ : ∃ z, z = w' := ⟨_, rfl⟩
        have HW4 := Lib.hid (up_trans HW2.out hR.of_drew.to_below)
        clear hR hM c0 c1 c2 tc3 X1
        go_wp2_with fail
        go_roundw
        case rel => exact ⟨k + 1, acc ++ y, by omega, by go_num, rfl, Lib.hid (by rw [hts.out, HA.out]), HW4⟩
        case measure => simp [intOf]; omega
    · obtain rfl : k = ps.length := by omega
      have hfin : acc = tbT f m ps := by have := HA.out; rwa [List.take_length] at this
      have HF := Lib.hid hfin
      clear hfin HA
      go_wp2_with fail
      go_ret
      exact ⟨(show _ = Ending.returned (S acc) from rfl).trans (by rw [HF.out]), hW2⟩

end Go.Proofs.Ytlejfmngpbcdhaa
