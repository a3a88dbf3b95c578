/- What is proved here: the reference's TableChange where the table is changed. No condition. -/
import Derived.Test.YtlejfmngpbcdhaaTabD
namespace Go.Proofs.Ytlejfmngpbcdhaa
open Go.RowKit
set_option linter.unusedVariables false
set_option linter.unusedSimpArgs false
attribute [local go_sem ↓] Go.wp_at_zero Go.wp_at_succ

theorem ne_or {a b : Value} (h : a.ownBlock = none ∨ a.ownBlock ≠ b.ownBlock) : b.ownBlock = none ∨ b.ownBlock ≠ a.ownBlock := by
  cases hb : b.ownBlock with
  | none => exact .inl rfl
  | some g =>
    refine .inr fun e => ?_
    rcases h with h | h
    · rw [h] at e; cases e
    · exact h (by rw [hb, ← e])

set_option maxRecDepth 100000 in
set_option maxHeartbeats 4000000 in
theorem specTableChange_yes (f m : List UInt8) (v : Value) (ps : List Pc) (x : Ch) (w : World) (h : RdP w v ps) (hv : tbB f m ps = true) (hok : okF (tbT f m ps) x = true) (hm4 : m.length + x.p.length ≤ 400) :
    Calls Try.prog 20 #[tbAgg f m v, chAgg x] w (TcPost f (m ++ x.p) (tcP m ps x) true w) := by
  obtain ⟨-, hf, hm, -, hall, hsum⟩ := tbB_out hv
  have h1s : ∀ p ∈ ps, 1 ≤ p.sz := fun p hp' => (pcOk_in (hall p hp')).2.1
  have hcount : (ps.length : Int) ≤ 120 := by have := len_sum h1s; omega
  obtain ⟨A, c, rfl, hpl, _⟩ := h.form
  have O := Lib.hid (fun (w' : World) (hb : Below w.heap.size w w') => l1OwnTable_any f m (.slice A ps.length c) ps w' (h.up hb) (by omega))
  have T := Lib.hid (fun (u : Value) (w' : World) (h : RdP w' u ps) => specTableValid_any f m u ps w' h (by omega) (by omega))
  have W := Lib.hid (fun (u : Value) (w' : World) (h : RdP w' u ps) => specTableText_yes f m u ps w' h hv (by omega) (by omega))
  have F := Lib.hid (fun w' => specFits_any (tbT f m ps) x w' (tbT_tv hv) (by omega))
  obtain ⟨i0, hi0, hz0, hz1, hz2⟩ := info_parts piece_info
  have hin := okF_in hok
  have hsl : (tbT f m ps).length ≤ 120 := by have := tbT_len ps hall; omega
  have hpB : ∀ p ∈ ps, PcB p := fun p hp' => pcB_of (hall p hp') hf hm
  have L1 := Lib.hid (fun (u : Value) (w' : World) (h : RdP w' u ps) => l3Cut_any u ps x.a w' h hpB hsum (by omega))
  have L2 := Lib.hid (fun (u : Value) (w' : World) (h : RdP w' u (cutB x.a ps)) => l3Cut_any u (cutB x.a ps) x.c w' h (cutB_pcB x.a ps hpB) (by have := cutB_sum x.a ps h1s; omega) (by omega))
  rw [cutB_cutB x.c (by omega) ps x.a (by omega) h1s, Int.add_comm x.c x.a] at L2
  rw [hv] at T
  rw [hok] at F
  have hla := cutA_len x.a ps
  have hlb := cutB_len (x.a + x.c) ps
  have hlp := putP_len m x.p
  unfold TcPost tcP
  have EP := Lib.hid (show putP m x.p = if x.p = [] then [] else [⟨true, m.length, x.p.length⟩] from rfl)
  generalize cutA x.c (cutB x.a ps) = qs at *
  generalize cutB x.a ps = ms at *
  generalize cutA x.a ps = xs at *
  generalize cutB (x.a + x.c) ps = ys at *
  generalize putP m x.p = pp at *
  generalize tbT f m ps = s at *
  obtain ⟨zs, hzs⟩ : ∃ z, z = xs ++ pp := ⟨_, rfl⟩
  obtain ⟨rs, hrs⟩ : ∃ z, z = zs ++ ys := ⟨_, rfl⟩
  rw [← hzs, ← hrs]
  have hlz : zs.length ≤ 121 := by rw [hzs, List.length_append]; omega
  have EZ := Lib.hid hzs
  have ER := Lib.hid hrs
  have hlx : xs.length ≤ 120 := by omega
  have hly : ys.length ≤ 120 := by omega
  have hcl : ¬ 9223372036854775807 < m.length + x.p.length := by omega
  clear hzs hrs hpB hla
  obtain ⟨fa, fc, fp⟩ := x
  clear h hv hok hall h1s
  unfold TbPost CutPost chAgg tbAgg at *
  simp only at *
  have hadd : IntKind.i64.wrap ((m.length : Int) + (fp.length : Int)) = (m.length : Int) + (fp.length : Int) := IntWalk.i64_in _ (by omega)
  have hle : ¬ (400 : Int) < (m.length : Int) + (fp.length : Int) := by omega
  go_enter Try.func20, Try.ntmps20
  go_wp2_with fail
  refine (O.out _ (by (repeat (first | exact Below.refl _ _ | assumption | refine Below.drew ?_ | refine up_drewN ?_ _ | refine up_alloc ?_ _ | refine up_set ?_ _ _ (by first | exact Nat.le_refl _ | (simp; done) | (simp; omega) | omega) | refine up_trans ?_ (by assumption))))).mono ?_
  rintro e w1 ⟨u, rfl, ho, hb⟩
  have HO := Lib.hid (own_base ho (show w.heap.size + 3 ≤ _ by simp))
  obtain ⟨A1, c1, rfl, -, -⟩ := (RdL.of_own (f := pcC) (bs := ps) ho).form
  have CS := Lib.hid (TS.up (TS.new #[S f, S m, .slice A ps.length c] #[.int .i64 fa, .int .i64 fc, S fp] #[S [], S [], .slice none 0 0] w) hb)
  have HO1 := Lib.hid (own_set (own_set (own_set HO.out ⟨w.heap.size, 0, none⟩ (S f) (by simp)) ⟨w.heap.size, 1, none⟩ (S m) (by simp)) ⟨w.heap.size, 2, none⟩ (.slice A1 ps.length c1) (by simp))
  have CS1 := Lib.hid (show TS w (((w1.setCell ⟨w.heap.size, 0, none⟩ (S f)).setCell ⟨w.heap.size, 1, none⟩ (S m)).setCell ⟨w.heap.size, 2, none⟩ (.slice A1 ps.length c1)) #[S f, S m, .slice A1 ps.length c1] #[.int .i64 fa, .int .i64 fc, S fp] #[S [], S [], .slice none 0 0] from ((CS.out.put (k := 0) (by simp) (S f)).put (k := 1) (by simp) (S m)).put (k := 2) (by simp) (.slice A1 ps.length c1))
  obtain ⟨⟨xc, xf⟩, -⟩ := CS.out
  clear hb ho O HO
  go_upto_region 2 with (fail)
  obtain ⟨w2, hw2⟩ : ∃ z, z = (((w1.setCell ⟨w.heap.size, 0, none⟩ (S f)).setCell ⟨w.heap.size, 1, none⟩ (S m)).setCell ⟨w.heap.size, 2, none⟩ (.slice A1 ps.length c1)) := ⟨_, rfl⟩
  rw [← hw2] at CS1 HO1 ⊢
  clear hw2 CS xc xf
  obtain ⟨⟨xc, xf⟩, ⟨dc, df⟩, ⟨yc, yf⟩, -⟩ := CS1.out
  go_wp2_with fail
  refine (T.out _ _ (RdL.of_own HO1.out)).mono ?_
  rintro e w3 ⟨rfl, hb⟩
  have CS3 := Lib.hid (CS1.out.up hb)
  have HO3 := Lib.hid (own_up HO1.out hb)
  clear hb T CS1 HO1 xc xf dc df yc yf
  obtain ⟨⟨xc, xf⟩, ⟨dc, df⟩, ⟨yc, yf⟩, -⟩ := CS3.out
  have hs3 : w.heap.size + 3 ≤ w3.heap.size := CS3.out.2.2.2.1
  have SZ3 := Lib.hid hs3
  go_upto_region 4 with (fail)
  go_cut [6] from 17 to 25 (fun t6 wx => ∃ (q : Nat) (A4 : Option Addr) (C4 : Nat), t6 = .pointer (some ⟨q, 0, none⟩) ∧ w.heap.size + 3 ≤ q ∧ q < wx.heap.size ∧ Hid (OwnP wx (w.heap.size + 3) (.slice A4 ps.length C4) ps) ∧ Hid (Is wx q #[S f, S m, .slice A4 ps.length C4]) ∧ Hid (TS w wx #[S f, S m, .slice A1 ps.length c1] #[.int .i64 fa, .int .i64 fc, S fp] #[S [], S [], .slice none 0 0]) ∧ Hid (OwnP wx (w.heap.size + 3) (.slice A1 ps.length c1) ps))
  case first =>
    go_region_held3 (fun w' => w'.cell? ⟨w.heap.size, 0, none⟩ = some (.string ⟨f.toArray⟩) ∧ w'.cell? ⟨w.heap.size, 1, none⟩ = some (.string ⟨m.toArray⟩) ∧ w'.cell? ⟨w.heap.size, 2, none⟩ = some (.slice A1 ps.length c1))
      (first
        | exact ⟨FN.out.2.2.1.1.1 0, FN.out.2.2.1.1.1 1, FN.out.2.2.1.1.1 2⟩
        | exact ⟨TS8.out.1.1 0, TS8.out.1.1 1, TS8.out.1.1 2⟩
        | exact ⟨(TS8.out.alloc _).1.1 0, (TS8.out.alloc _).1.1 1, (TS8.out.alloc _).1.1 2⟩
        | go_keep)
      (first
        | (
           have hN : Own (w3.drew.alloc (.cells #[] 79)) (w.heap.size + 3) 79 3 (.slice (some ⟨w3.heap.size, 0, none⟩) 0 0) 0 [] := own_nil_at (heap_alloc_new _ _) SZ3.out
           have hB3 : Below w3.heap.size w3 (w3.drew.alloc (.cells #[] 79)) := by (repeat (first | exact Below.refl _ _ | assumption | refine Below.drew ?_ | refine up_drewN ?_ _ | refine up_alloc ?_ _ | refine up_set ?_ _ _ (by first | exact Nat.le_refl _ | (simp; done) | (simp; omega) | omega) | refine up_trans ?_ (by assumption)))
           refine step_append_any (w3.drew.alloc (.cells #[] 79)) (by rfl) _ _ 46 (by rfl) (w.heap.size + 3) 79 i0 _ 3 24 Try.underlying46 hi0 hz0 hz1 hz2 rfl (by decide) (.slice (some ⟨w3.heap.size, 0, none⟩) 0 0) 0 [] (by rfl) hN (.slice A1 ps.length c1) ps.length _ (by rfl) (RdL.of_own (f := pcC) (own_up HO3.out hB3)) (pc_oneCell ps) (by unfold maxLen; omega) (by omega) (by simp; omega) ?_
           intro v8 w8 how hgr
           have HO8 := Lib.hid (show OwnP w8 (w.heap.size + 3) v8 ps by simpa using how)
           obtain ⟨A8, c8, rfl, -, -⟩ := (RdL.of_own (f := pcC) (bs := ps) HO8.out).form
           have TS8 := Lib.hid ((CS3.out.up hB3).grown hN (Nat.le_refl _) hgr)
           have H18 := Lib.hid ((own_up HO3.out hB3).kept hgr (.inr (fun e => by have : w3.heap.size < w3.heap.size := (HO3.out.lt _ e).2; omega)))
           have tc8 := TS8.out.1.1
           have FN := Lib.hid (show w8.heap.size < (w8.alloc (.cells #[S f, S m, .slice A8 ps.length c8] 48)).heap.size ∧ Is (w8.alloc (.cells #[S f, S m, .slice A8 ps.length c8] 48)) w8.heap.size #[S f, S m, .slice A8 ps.length c8] ∧ TS w (w8.alloc (.cells #[S f, S m, .slice A8 ps.length c8] 48)) #[S f, S m, .slice A1 ps.length c1] #[.int .i64 fa, .int .i64 fc, S fp] #[S [], S [], .slice none 0 0] ∧ OwnP (w8.alloc (.cells #[S f, S m, .slice A8 ps.length c8] 48)) (w.heap.size + 3) (.slice A8 ps.length c8) ps ∧ OwnP (w8.alloc (.cells #[S f, S m, .slice A8 ps.length c8] 48)) (w.heap.size + 3) (.slice A1 ps.length c1) ps from ⟨by simp, new_is w8 _ _, TS8.out.alloc _, HO8.out.alloc _, H18.out.alloc _⟩)
           have hne8 : ¬ w8.heap.size = w.heap.size := (by have := TS8.out.2.2.2.1; omega)
           clear how hgr hN hB3)
        | (
           have hN : Own ((w3.drew.alloc (.cells #[] 79)).alloc (.cells #[S [], S [], .slice none 0 0] 48)) (w.heap.size + 3) 79 3 (.slice (some ⟨w3.heap.size, 0, none⟩) 0 0) 0 [] := own_nil_at ((heap_old _ _ (by simp)).trans (heap_alloc_new w3.drew _)) SZ3.out
           have hB3 : Below w3.heap.size w3 ((w3.drew.alloc (.cells #[] 79)).alloc (.cells #[S [], S [], .slice none 0 0] 48)) := by (repeat (first | exact Below.refl _ _ | assumption | refine Below.drew ?_ | refine up_drewN ?_ _ | refine up_alloc ?_ _ | refine up_set ?_ _ _ (by first | exact Nat.le_refl _ | (simp; done) | (simp; omega) | omega) | refine up_trans ?_ (by assumption)))
           refine step_append_any ((w3.drew.alloc (.cells #[] 79)).alloc (.cells #[S [], S [], .slice none 0 0] 48)) (by rfl) _ _ 46 (by rfl) (w.heap.size + 3) 79 i0 _ 3 24 Try.underlying46 hi0 hz0 hz1 hz2 rfl (by decide) (.slice (some ⟨w3.heap.size, 0, none⟩) 0 0) 0 [] (by rfl) hN (.slice A1 ps.length c1) ps.length _ (by rfl) (RdL.of_own (f := pcC) (own_up HO3.out hB3)) (pc_oneCell ps) (by unfold maxLen; omega) (by omega) (by simp; omega) ?_
           intro v8 w8 how hgr
           have HO8 := Lib.hid (show OwnP w8 (w.heap.size + 3) v8 ps by simpa using how)
           obtain ⟨A8, c8, rfl, -, -⟩ := (RdL.of_own (f := pcC) (bs := ps) HO8.out).form
           have TS8 := Lib.hid ((CS3.out.up hB3).grown hN (Nat.le_refl _) hgr)
           have H18 := Lib.hid ((own_up HO3.out hB3).kept hgr (.inr (fun e => by have : w3.heap.size < w3.heap.size := (HO3.out.lt _ e).2; omega)))
           have tc8 := TS8.out.1.1
           have QI := Lib.hid (show Is w8 (w3.heap.size + 1) #[S [], S [], .slice none 0 0] from is_grown (by have := new_is (w3.drew.alloc (.cells #[] 79)) #[S [], S [], .slice none 0 0] 48; rw [show (w3.drew.alloc (.cells #[] 79)).heap.size = w3.heap.size + 1 by simp] at this; exact this) hgr (by simp) (by simp [Value.ownBlock]))
           have QC := Lib.hid (show w8.heap[(w3.heap.size + 1)]? = some (.cells #[S [], S [], .slice none 0 0] 48 (0, 0)) from (heap_kept hgr (by simp) (by simp [Value.ownBlock])).trans (by have := heap_alloc_new (w3.drew.alloc (.cells #[] 79)) (.cells #[S [], S [], .slice none 0 0] 48); rw [show (w3.drew.alloc (.cells #[] 79)).heap.size = w3.heap.size + 1 by simp] at this; exact this))
           obtain ⟨qc, qf⟩ := QI.out
           have hqz : (w3.heap.size + 1) < w8.heap.size := (by have := hgr.size; simp at this; omega)
           have FN := Lib.hid (same_fin (b0 := S f) (b1 := S m) (b2 := .slice A8 ps.length c8) TS8.out (show w.heap.size + 3 ≤ (w3.heap.size + 1) by omega) hqz QC.out QI.out rfl HO8.out H18.out)
           clear how hgr hN hB3)
        | (
           have hN : Own ((w3.drew.alloc (.cells #[S [], S [], .slice none 0 0] 48)).alloc (.cells #[] 79)) (w.heap.size + 3) 79 3 (.slice (some ⟨(w3.heap.size + 1), 0, none⟩) 0 0) 0 [] := own_nil_at (by have := heap_alloc_new (w3.drew.alloc (.cells #[S [], S [], .slice none 0 0] 48)) (.cells #[] 79); rw [show (w3.drew.alloc (.cells #[S [], S [], .slice none 0 0] 48)).heap.size = w3.heap.size + 1 by simp] at this; exact this) (by omega)
           have hB3 : Below w3.heap.size w3 ((w3.drew.alloc (.cells #[S [], S [], .slice none 0 0] 48)).alloc (.cells #[] 79)) := by (repeat (first | exact Below.refl _ _ | assumption | refine Below.drew ?_ | refine up_drewN ?_ _ | refine up_alloc ?_ _ | refine up_set ?_ _ _ (by first | exact Nat.le_refl _ | (simp; done) | (simp; omega) | omega) | refine up_trans ?_ (by assumption)))
           refine step_append_any ((w3.drew.alloc (.cells #[S [], S [], .slice none 0 0] 48)).alloc (.cells #[] 79)) (by rfl) _ _ 46 (by rfl) (w.heap.size + 3) 79 i0 _ 3 24 Try.underlying46 hi0 hz0 hz1 hz2 rfl (by decide) (.slice (some ⟨(w3.heap.size + 1), 0, none⟩) 0 0) 0 [] (by rfl) hN (.slice A1 ps.length c1) ps.length _ (by rfl) (RdL.of_own (f := pcC) (own_up HO3.out hB3)) (pc_oneCell ps) (by unfold maxLen; omega) (by omega) (by simp; omega) ?_
           intro v8 w8 how hgr
           have HO8 := Lib.hid (show OwnP w8 (w.heap.size + 3) v8 ps by simpa using how)
           obtain ⟨A8, c8, rfl, -, -⟩ := (RdL.of_own (f := pcC) (bs := ps) HO8.out).form
           have TS8 := Lib.hid ((CS3.out.up hB3).grown hN (Nat.le_refl _) hgr)
           have H18 := Lib.hid ((own_up HO3.out hB3).kept hgr (.inr (fun e => by have : w3.heap.size + 1 < w3.heap.size := (HO3.out.lt _ e).2; omega)))
           have tc8 := TS8.out.1.1
           have QI := Lib.hid (show Is w8 w3.heap.size #[S [], S [], .slice none 0 0] from is_grown (is_alloc (new_is w3.drew #[S [], S [], .slice none 0 0] 48) (by simp) _) hgr (by simp; omega) (by simp [Value.ownBlock]))
           have QC := Lib.hid (show w8.heap[w3.heap.size]? = some (.cells #[S [], S [], .slice none 0 0] 48 (0, 0)) from (heap_kept hgr (by simp; omega) (by simp [Value.ownBlock])).trans ((heap_old _ _ (by simp)).trans (heap_alloc_new w3.drew _)))
           obtain ⟨qc, qf⟩ := QI.out
           have hqz : w3.heap.size < w8.heap.size := (by have := hgr.size; simp at this; omega)
           have FN := Lib.hid (same_fin (b0 := S f) (b1 := S m) (b2 := .slice A8 ps.length c8) TS8.out (show w.heap.size + 3 ≤ w3.heap.size by omega) hqz QC.out QI.out rfl HO8.out H18.out)
           clear how hgr hN hB3))
    all_goals
      go_wp2_with fail
      go_meet
      obtain ⟨f1, f2, f3, f4, f5⟩ := FN.out
      exact ⟨_, A8, c8, rfl, by first | omega | (have := TS8.out.2.2.2.1; omega), f1, Lib.hid f4, Lib.hid f2, Lib.hid f3, Lib.hid f5⟩
  case rest =>
  clear CS3 HO3 hs3 SZ3 xc xf dc df yc yf
  obtain ⟨q, A4, C4, rfl, hq, hqz, HO4, QI, CS4, HO1⟩ := hcut
  obtain ⟨w5, rfl⟩ : ∃ z, z = wc := ⟨_, rfl⟩
  obtain ⟨⟨xc, xf⟩, ⟨dc, df⟩, -⟩ := CS4.out
  have hs5 := CS4.out.2.2.2.1
  have xz : w.heap.size < w5.heap.size := by omega
  have dz : w.heap.size + 1 < w5.heap.size := by omega
  have hne := UpW.nonempty w5
  have C1 := Lib.hid (fun y : UpW w5 => calls_up (W.out (.slice A1 ps.length c1) (y.at w5) (RdL.of_own (own_up HO1.out y.2))))
  have C2 := Lib.hid (fun y : UpW w5 => calls_up (F.out (y.at w5)))
  clear W F
  go_upto_region 5 with (fail)
  refine wp_region_up_lit (by kernel_rfl) (by kernel_rfl) ?_
  repeat (go_big_quiet_step (first | (go_at_call 54; exact C1.out _) | (go_at_call 53; exact C2.out _)))
  refine wpQuiet_nil ?_
  intro w6 hb1
  replace hb1 := UpW.out hb1
  have CS6 := Lib.hid (CS4.out.up hb1)
  have HU6 := Lib.hid (RdL.of_own (f := pcC) (bs := ps) (own_up HO1.out hb1))
  clear hne C1 C2 hb1 xc xf dc df CS4 HO1 HO4 QI hq hqz xz dz hs5
  obtain ⟨⟨xc, xf⟩, ⟨dc, df⟩, -, hs6, -⟩ := CS6.out
  go_wp2_with fail
  refine (L1.out _ _ HU6.out).mono ?_
  rintro e w7 ⟨u, z, rfl, hu, hz, hdj, hb⟩
  have CS7 := Lib.hid (CS6.out.up hb)
  have HU7 := Lib.hid hu
  have HZ7 := Lib.hid (RdL.of_own (f := pcC) (bs := ms) hz)
  obtain ⟨A7, c7, rfl, -, -⟩ := (RdL.of_own (f := pcC) (bs := xs) hu).form
  obtain ⟨Z7, z7, rfl, -, -⟩ := HZ7.out.form
  clear hb hu hz hdj CS6 HU6 L1 xc xf dc df
  obtain ⟨⟨xc, xf⟩, ⟨dc, df⟩, -, hs7, -⟩ := CS7.out
  go_wp2_with fail
  refine (L2.out _ _ HZ7.out).mono ?_
  rintro e w8 ⟨u, z, rfl, hu, hz, -, hb⟩
  have CS8 := Lib.hid (CS7.out.up hb)
  have HA8 := Lib.hid (own_base (own_up HU7.out hb) (show w.heap.size + 3 ≤ _ by omega))
  have HY8 := Lib.hid hz
  have hdis := own_ne HU7.out hz (Nat.le_refl _)
  obtain ⟨Q8, q8, rfl, -, -⟩ := (RdL.of_own (f := pcC) (bs := qs) hu).form
  obtain ⟨Y8, y8, rfl, -, -⟩ := (RdL.of_own (f := pcC) (bs := ys) hz).form
  have HD := Lib.hid (ne_or hdis)
  clear hb hu hz hdis CS7 HU7 HZ7 L2 xc xf dc df
  obtain ⟨⟨xc, xf⟩, ⟨dc, df⟩, -, hs8, -⟩ := CS8.out
  go_upto_if 59 with (fail)
  go_cut [7] from 59 to 69 (fun t7 wx => ∃ (A5 : Option Addr) (C5 : Nat), t7 = .slice A5 zs.length C5 ∧ Hid (OwnP wx (w.heap.size + 3) (.slice A5 zs.length C5) zs) ∧ Hid (RdP wx (.slice Y8 ys.length y8) ys) ∧ Hid (TS w wx #[S f, S m, .slice A1 ps.length c1] #[.int .i64 fa, .int .i64 fc, S fp] #[S [], S [], .slice none 0 0]))
  case first =>
    by_cases hfp : fp = []
    · have hpp : pp = [] := by rw [EP.out, if_pos hfp]
      have he : fp.isEmpty = true := by rw [hfp]; rfl
      have hz : zs = xs := by rw [EZ.out, hpp, List.append_nil]
      clear hfp hpp
      rw [show (!fp.isEmpty) = false by rw [he]; rfl]
      go_wp2_with fail
      go_meet
      refine ⟨A7, c7, by rw [hz], ?_, Lib.hid (RdL.of_own HY8.out), CS8⟩
      rw [hz]; exact HA8
    · have hpp : pp = [⟨true, m.length, fp.length⟩] := by rw [EP.out, if_neg hfp]
      have he : fp.isEmpty = false := by rw [← Bool.not_eq_true, List.isEmpty_iff]; exact hfp
      clear hfp
      have HPP := Lib.hid hpp
      clear hpp
      rw [show (!fp.isEmpty) = true by rw [he]; rfl]
      go_wp2_with (at_builtin; go_loud (
                   refine wpList_append_own_at _ rfl _ _ 46 rfl (w.heap.size + 3) 79 i0 (.agg #[.bool false, .int .i64 0, .int .i64 0]) 3 24 Try.underlying46 hi0 hz0 hz1 hz2 rfl (by decide) _ _ _ rfl (HA8.out.alloc _) ⟨w8.heap.size, 0, none⟩ 1 1 [.bool true, .int .i64 m.length, .int .i64 fp.length] rfl rfl (cells_new _ _ _) (by intro u hu; simp at hu; rcases hu with rfl | rfl | rfl <;> rfl) (by unfold maxLen; omega) (by omega) (by simp; omega) ?_
                   intro v6 w6 how hgr _ hob
                   have HO6 := Lib.hid (show OwnP w6 (w.heap.size + 3) v6 zs from EZ.out ▸ own_pieces (by rw [HPP.out]; simpa [pcC] using how) (by rw [HPP.out]; simp))
                   obtain ⟨A6, c6, rfl, -, -⟩ := (RdL.of_own (f := pcC) (bs := zs) HO6.out).form
                   have CS9 := Lib.hid ((CS8.out.alloc _).grown (HA8.out.alloc _) (Nat.le_refl _) hgr)
                   have HY9 := Lib.hid (RdL.of_own (f := pcC) (bs := ys) ((HY8.out.alloc _).kept hgr HD.out))
                   clear how hgr hob))
      go_meet
      exact ⟨A6, c6, rfl, HO6, HY9, CS9⟩
  case rest =>
  clear CS8 HA8 HY8 HD xc xf dc df hs8
  obtain ⟨A5, C5, rfl, HO9, HY9, CS9⟩ := hcut
  obtain ⟨w9, rfl⟩ : ∃ z, z = wc := ⟨_, rfl⟩
  obtain ⟨⟨xc, xf⟩, ⟨dc, df⟩, -, hs9, -⟩ := CS9.out
  go_upto_region 11 with (fail)
  have x0 := CS9.out.1.1 0
  have x1 := CS9.out.1.1 1
  have x2 := CS9.out.2.1.1 2
  go_region_held3 (fun w' => w'.cell? ⟨w.heap.size, 0, none⟩ = some (.string ⟨f.toArray⟩) ∧ w'.cell? ⟨w.heap.size, 1, none⟩ = some (.string ⟨m.toArray⟩) ∧ w'.cell? ⟨w.heap.size + 1, 2, none⟩ = some (.string ⟨fp.toArray⟩))
    (first
      | exact ⟨CSA.out.1.1 0, CSA.out.1.1 1, CSA.out.2.1.1 2⟩
      | exact ⟨x0, x1, x2⟩
      | exact ⟨(is_far (is_far (is_far CSA.out.1 (by omega) _) (by omega) _) (by omega) _).1 0, (is_far (is_far (is_far CSA.out.1 (by omega) _) (by omega) _) (by omega) _).1 1, (is_far (is_far (is_far CSA.out.2.1 (by omega) _) (by omega) _) (by omega) _).1 2⟩
      | go_keep)
    (first
      | (refine step_append_any w9.drew (by rfl) _ _ 46 (by rfl) (w.heap.size + 3) 79 i0 _ 3 24 Try.underlying46 hi0 hz0 hz1 hz2 rfl (by decide) (.slice A5 zs.length C5) zs.length _ (by rfl) (own_up HO9.out (Below.drew (Below.refl _ _))) (.slice Y8 ys.length y8) ys.length _ (by rfl) (HY9.out.up (Below.drew (Below.refl _ _))) (pc_oneCell ys) (by unfold maxLen; omega) (by omega) (show _ ≤ w9.heap.size from hs9) ?_
         intro vA wA how hgr
         have HOA := Lib.hid (show OwnP wA (w.heap.size + 3) vA rs from ER.out ▸ own_pieces how (by simp))
         obtain ⟨AA, cA, rfl, -, -⟩ := (RdL.of_own (f := pcC) (bs := rs) HOA.out).form
         have CSA := Lib.hid ((CS9.out.up (Below.drew (Below.refl _ _))).grown (own_up HO9.out (Below.drew (Below.refl _ _))) (Nat.le_refl _) hgr)
         obtain ⟨-, -, ⟨yc, yf⟩, hsA, -⟩ := CSA.out
         clear how hgr))
  all_goals
    go_wp2_with fail
    refine bodyPost_ret (v := .tuple #[.agg #[S f, S (m ++ fp), .slice AA rs.length cA], .bool true]) (by simp [results, Try.results20, go_sem, yc]) rfl ⟨_, rfl, ?_, by (repeat refine up_set ?_ _ _ (by first | exact Nat.le_refl _ | (simp; done) | (simp; omega))); exact CSA.out.2.2.2.2⟩
    exact own_base (own_set (own_set (own_set HOA.out _ _ (by simp)) _ _ (by simp)) _ _ (by simp)) (by omega)

end Go.Proofs.Ytlejfmngpbcdhaa
