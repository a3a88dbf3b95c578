/- What is proved here: the contract of the program's RecordText. No condition. -/
import Derived.Test.YtdngdlcibaiekaaGreatDoorRp5
import Derived.Test.YtdngdlcibaiekaaGreatDoorLaidW
import Derived.Test.YtdngdlcibaiekaaGreatDoorReg
namespace Go.Proofs.YtdngdlcibaiekaaGreatDoor
open Go.RowKit
set_option linter.unusedVariables false

theorem itoa_any (n : Nat) (w : World) (hn : n < 1000) (h : LT w) :
    Calls Tryz.prog 48 #[.int .i64 n] w fun e w' => e = .returned (S (nm n)) ∧ Below w.heap.size w w' :=
  (Tryz.strconv_Itoa n (by omega) (by omega) w h).mono fun e w' ⟨he, k, os, hw⟩ => by
    subst hw
    refine ⟨?_, Lib.below_grow _ _ (Nat.le_refl _) _ _⟩
    rw [he, Lib.itoa_nonneg]
    rfl
/-- the four texts as an argument. -/
theorem old_arg (W : World) : RdL (W.alloc (.cells #[S [10], S [92, 110], S [92], S [92, 92]] 9)) 1 strC (.slice (some ⟨W.heap.size, 0, none⟩) 4 4) oldL := by
  refine ⟨rfl, by unfold maxLen; decide, _, _, rfl, Nat.le_refl _, fun _ => ⟨_, _, rfl, by simp, fun j u hu => ?_⟩⟩
  have h := cells_new W [S [10], S [92, 110], S [92], S [92, 92]] 9 j u hu
  have hadd : (⟨W.heap.size, 0, none⟩ : Addr).add j = ⟨W.heap.size, 0 + j, none⟩ := by unfold Addr.add; split <;> simp_all
  rwa [hadd] at h

theorem newRep_at (W : World) : Calls Tryz.prog 46 #[.slice (some ⟨W.heap.size, 0, none⟩) 4 4] (W.alloc (.cells #[.string ⟨#[10]⟩, .string ⟨#[92, 110]⟩, .string ⟨#[92]⟩, .string ⟨#[92, 92]⟩] 9)).drew (NewRp (W.alloc (.cells #[.string ⟨#[10]⟩, .string ⟨#[92, 110]⟩, .string ⟨#[92]⟩, .string ⟨#[92, 92]⟩] 9)).drew) :=
  newReplacer_any _ _ ((old_arg W).up (Below.refl _ _).drew)

theorem rep_below {W w2 w3 : World} {q R : Nat} {o : Obj} (h : Below (W.alloc o).drew.heap.size (W.alloc o).drew w2) (h1 : (W.alloc o).drew.heap.size ≤ q) (h2 : q < R) (h3 : ∀ n, n ≤ R → Below n w2 w3) : Below W.heap.size W w3 :=
  (up_trans (Below.drew (up_alloc (Below.refl _ _) o)) h).trans (h3 _ (by simp at h1; omega))

set_option maxRecDepth 100000 in
set_option maxHeartbeats 400000 in
theorem implRecordText_any (x : Ch) (w : World) (hp : x.p.length ≤ 1048576) (hL : LT w) :
    Calls Tryz.prog 14 #[chAgg x] w fun e w' => e = .returned (S (recT x.a x.c x.p)) ∧ Below w.heap.size w w' := by
  obtain ⟨a, c, p⟩ := x
  simp only at hp
  have HLT := Lib.hid hL
  clear hL
  unfold chAgg
  simp only
  rcases ha : inB a 0 120 with _ | _
  · have HR := Lib.hid (show recT a c p = [] by unfold recT recOk; rw [ha]; rfl)
    generalize recT a c p = r at *
    go_enter Tryz.func14, Tryz.ntmps14
    go_wp2_with (go_at_call 45; refine (in_any _ _ _ _).mono ?_; rintro e w1 ⟨rfl, rfl⟩)
    go_ret
    rw [HR.out]
    exact ⟨rfl, by (repeat (first | exact Below.refl _ _ | assumption | refine Below.drew ?_ | refine up_drewN ?_ _ | refine up_alloc ?_ _ | refine up_set ?_ _ _ (by first | exact Nat.le_refl _ | (simp; done) | (simp; omega) | omega) | refine up_trans ?_ (by assumption)))⟩
  rcases hc : inB c 0 120 with _ | _
  · have HR := Lib.hid (show recT a c p = [] by unfold recT recOk; rw [ha, hc]; rfl)
    generalize recT a c p = r at *
    go_enter Tryz.func14, Tryz.ntmps14
    go_wp2_with (go_at_call 45; refine (in_any _ _ _ _).mono ?_; rintro e w1 ⟨rfl, rfl⟩)
    go_ret
    rw [HR.out]
    exact ⟨rfl, by (repeat (first | exact Below.refl _ _ | assumption | refine Below.drew ?_ | refine up_drewN ?_ _ | refine up_alloc ?_ _ | refine up_set ?_ _ _ (by first | exact Nat.le_refl _ | (simp; done) | (simp; omega) | omega) | refine up_trans ?_ (by assumption)))⟩
  have hml : p.length ≤ maxLen := by unfold maxLen; omega
  rcases ht : tv p with _ | _
  · have HR := Lib.hid (show recT a c p = [] by unfold recT recOk; rw [ha, hc, ht]; rfl)
    generalize recT a c p = r at *
    go_enter Tryz.func14, Tryz.ntmps14
    go_wp2_with (first | (go_at_call 45; refine (in_any _ _ _ _).mono ?_; rintro e w1 ⟨rfl, rfl⟩) | (go_at_call 24; refine (implTextValid_any p _ hml).mono ?_; rintro e w1 ⟨rfl, rfl⟩))
    go_ret
    rw [HR.out]
    exact ⟨rfl, by (repeat (first | exact Below.refl _ _ | assumption | refine Below.drew ?_ | refine up_drewN ?_ _ | refine up_alloc ?_ _ | refine up_set ?_ _ _ (by first | exact Nat.le_refl _ | (simp; done) | (simp; omega) | omega) | refine up_trans ?_ (by assumption)))⟩
  have hR : recT a c p = recX a.toNat c.toNat p := by unfold recT recOk; rw [ha, hc, ht]; rfl
  have HAI := Lib.hid ha
  have HCI := Lib.hid hc
  have ha2 := inB_iff.1 ha
  have hc2 := inB_iff.1 hc
  have hl := tv_len ht
  obtain ⟨a, rfl⟩ := Int.eq_ofNat_of_zero_le ha2.1
  obtain ⟨c, rfl⟩ := Int.eq_ofNat_of_zero_le hc2.1
  rw [Int.toNat_natCast, Int.toNat_natCast] at hR
  have ha3 : a ≤ 120 := by omega
  have hc3 : c ≤ 120 := by omega
  have la := nm_len (n := a) (by omega)
  have lc := nm_len (n := c) (by omega)
  have HX := Lib.hid (show recB a c p = nm a ++ 32 :: (nm c ++ 32 :: esc p) from rfl)
  have HR := Lib.hid (show recT (a : Int) (c : Int) p = (recB a c p ++ [32]) ++ nm (smS 0 (recB a c p)) by rw [hR]; simp [recX])
  generalize recT (a : Int) (c : Int) p = r at *
  clear hR ha2 hc2
  go_enter Tryz.func14, Tryz.ntmps14
  go_upto_region 3 with (first | (go_at_call 45; refine (in_any _ _ _ _).mono ?_; rintro e w1 ⟨rfl, rfl⟩) | (go_at_call 24; refine (implTextValid_any p _ hml).mono ?_; rintro e w1 ⟨rfl, rfl⟩))
  obtain ⟨w1, hw1⟩ : ∃ z, z = w.alloc (.cells #[.int .i64 (a : Int), .int .i64 (c : Int), S p] 23) := ⟨_, rfl⟩
  have hb : Below w.heap.size w w1 := by rw [hw1]; (repeat (first | exact Below.refl _ _ | assumption | refine Below.drew ?_ | refine up_drewN ?_ _ | refine up_alloc ?_ _ | refine up_set ?_ _ _ (by first | exact Nat.le_refl _ | (simp; done) | (simp; omega) | omega) | refine up_trans ?_ (by assumption)))
  have xc : ∀ o, w1.cell? ⟨w.heap.size, o, none⟩ = #[.int .i64 (a : Int), .int .i64 (c : Int), S p][o]? := fun o => by rw [hw1]; simp [go_sem]
  have xz : w.heap.size < w1.heap.size := by rw [hw1]; simp
  rw [← hw1]
  clear hw1 ha hc ht
  have HLT1 := Lib.hid (HLT.out.up hb)
  have HB := Lib.hid hb
  have lp := esc_len p
  have le : (esc p).length ≤ 240 := by omega
  clear hb HLT lp
  go_region_with (first
    | (go_at_call 46; go_loud ((with_reducible refine (newRep_at _).mono ?_); rintro e w2 ⟨R, q, o, cc, rfl, hq1, hq2, hq3, hR, hO, hb⟩; have x2 := (hb.cell (p := ⟨w.heap.size, 2, none⟩) (by simp; omega)).trans (by simp [go_sem, xc, xz] : _ = some (S p)); have HR2 := Lib.hid hR; have HO2 := Lib.hid hO; have HB2 := Lib.hid hb; clear hR hO hb))
    | (go_at_call 47; go_loud ((with_reducible refine (replace_any R q o cc p w2 HR2.out HO2.out (by omega) hl).mono ?_); rintro e w3 ⟨rfl, hb3⟩; have HB3 := Lib.hid (rep_below HB2.out hq1 hq2 hb3); clear hb3)))
  all_goals
    replace xc := up_c HB3.out xz xc
    replace xz := Nat.lt_of_lt_of_le xz HB3.out.size
    have HLT3 := Lib.hid (HLT1.out.up HB3.out)
    have hW := up_trans HB.out HB3.out
    have HW := Lib.hid hW
    clear x2 HR2 HO2 HB2 HB3 HLT1 hq1 hq2 hq3 HB hW
    have CA := Lib.hid (fun y : UpW w3 => calls_up (itoa_any a (y.at w3) (by omega) (HLT3.out.up y.2)))
    have CC := Lib.hid (fun y : UpW w3 => calls_up (itoa_any c (y.at w3) (by omega) (HLT3.out.up y.2)))
    have hne := UpW.nonempty w3
    go_simp
    go_wp2_with fail
    refine wp_region_up_lit (by kernel_rfl) (by kernel_rfl) ?_
    repeat (go_big_quiet_step ((go_at_call 48; first | (with_reducible exact CA.out _) | (with_reducible exact CC.out _))))
    refine wpQuiet_nil ?_
    intro w4 hb4
    replace hb4 := UpW.out hb4
    replace xc := up_c hb4 xz xc
    have HLT4 := Lib.hid (HLT3.out.up hb4)
    have HW4 := Lib.hid (up_trans HW.out hb4)
    rw [← HX.out]
    have hlen : (recB a c p).length ≤ 250 := by rw [HX.out]; simp; omega
    clear hb4 CA CC hne HX HLT3 HW xc xz la lc le
    generalize recB a c p = s at *
    have hsm := smS_lt s 0 (by omega)
    have hns := nm_len (n := smS 0 s) (by omega)
    have N1 := Lib.hid (itoa_any (smS 0 s) w4 (by omega) HLT4.out)
    go_wp2_with fail
    refine (sumOf_any s _ (by unfold maxLen; omega)).mono ?_
    rintro e w5 ⟨rfl, rfl⟩
    generalize smS 0 s = m at *
    go_wp2_with fail
    refine N1.out.mono ?_
    rintro e w5 ⟨rfl, hb5⟩
    have hW5 := up_trans HW4.out hb5
    clear hb5
    go_wp2_with fail
    go_ret
    rw [HR.out]
    exact ⟨by simp, hW5⟩

end Go.Proofs.YtdngdlcibaiekaaGreatDoor
