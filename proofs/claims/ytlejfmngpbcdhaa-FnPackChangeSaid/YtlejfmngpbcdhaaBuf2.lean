/- What is proved here: the contract of the reference's BuffersValid. No condition. -/
import Derived.Test.YtlejfmngpbcdhaaBuf1
import Derived.Deep.RegionWith
namespace Go.Proofs.Ytlejfmngpbcdhaa
open Go.RowKit

theorem bfAt_early (bs : List Bf) (nm : List UInt8) : ∀ k, bfAt (bs.take k) nm ≠ -1 → bfAt bs nm = bfAt (bs.take k) nm := by
  induction bs with
  | nil => intro k _; simp
  | cons b bs ih =>
    intro k h
    cases k with
    | zero => simp [bfAt] at h
    | succ k =>
      rw [List.take_succ_cons] at h ⊢
      unfold bfAt at h ⊢
      by_cases hn : (b.name == nm) = true
      · rw [if_pos hn, if_pos hn]
      · rw [if_neg hn] at h ⊢
        rw [if_neg hn]
        have h3 : bfAt (bs.take k) nm ≠ -1 := by intro e; rw [e] at h; simp at h
        rw [ih k h3]
theorem RdB.take {w : World} {A : Option Addr} {n c k : Nat} {bs : List Bf} (h : RdB w (.slice A n c) bs) (hk : k ≤ bs.length) : RdB w (.slice A k c) (bs.take k) := by
  obtain ⟨⟨h1, h2, A', c', he, hnc, hA⟩, h3⟩ := h
  injection he with e1 e2 e3
  subst e1 e3
  have hl : (bs.take k).length = k := by rw [List.length_take]; omega
  refine ⟨⟨by rw [flat_len bfC 3 bfC_len], by rw [hl]; omega, A, c, by rw [hl], by rw [hl]; omega, fun hn => ?_⟩, fun b hb => h3 b (List.mem_of_mem_take hb)⟩
  obtain ⟨b, o, rfl, hb, hc⟩ := hA (by omega)
  refine ⟨b, o, rfl, hb, fun j u hu => hc j u ?_⟩
  rw [flat_take bfC 3 bfC_len, List.getElem?_take] at hu
  split at hu
  · exact hu
  · cases hu

set_option maxHeartbeats 800000 in
theorem specBuffersValid_any (v : Value) (bs : List Bf) (w : World) (h : RdB w v bs) :
    Calls Try.prog 16 #[v] w fun e w' => e = .returned (.bool (bvB bs)) ∧ Below w.heap.size w w' := by
  obtain ⟨A, c, rfl, hm, hcap⟩ := h.1.form
  unfold maxLen at hm
  go_enter Try.func16, Try.ntmps16
  go_wp2_with fail
  go_loopw [3] (fun i wr => ∃ q : Nat, q ≤ bs.length ∧ i = .int .i64 q ∧ Hid (okFrom bs 0 bs = okFrom bs q (bs.drop q)) ∧ Below w.heap.size w wr) (fun i _ => bs.length - (intOf i).toNat)
  case atStart => exact ⟨0, Nat.zero_le _, rfl, Lib.hid (by simp), Below.refl _ _⟩
  case round =>
    obtain ⟨q, hq, rfl, heq, hW⟩ := hrel
    by_cases hlt : q < bs.length
    · have i1 : (0 : Int) ≤ (q : Int) := by omega
      have i2 : (q : Int) < (bs.length : Int) := by omega
      have i3 : (q : Int) ≤ (bs.length : Int) := by omega
      have hmem := h.2 _ (List.getElem_mem hlt)
      have ht := (h.up hW).take (Nat.le_of_lt hlt)
      obtain ⟨b, o, rfl, hb, c0, c1, c2⟩ := (h.up hW).cells hlt
      have hstep := Lib.hid (okFrom_drop bs q hlt)
      obtain ⟨x, hx⟩ : ∃ x, x = bs[q] := ⟨_, rfl⟩
      have hhit := bfAt_hit bs bs[q].name q hlt
      rw [← hx] at c0 c1 c2 hmem hhit
      have HX := Lib.hid hx
      clear hx
      have hne := UpW.nonempty wr
      have C1 := Lib.hid (fun y : UpW wr => calls_up_same (l24Name_any x.name (y.at wr) hmem.1))
      have C2 := Lib.hid (fun y : UpW wr => calls_up_same (specTextValid_any x.body (y.at wr) hmem.2.1))
      have C3 := Lib.hid (fun y : UpW wr => calls_up_same (specTextValid_any x.saved (y.at wr) hmem.2.2))
      have C4 := Lib.hid (fun y : UpW wr => calls_up_same (l24Find_any _ (bs.take q) x.name (y.at wr) (ht.up y.below)))
      have HF : Hid ((bfAt bs x.name == (q : Int)) = decide (bfAt (bs.take q) x.name = -1)) := Lib.hid (by
        by_cases hf : bfAt (bs.take q) x.name = -1
        · rw [hhit hf rfl, hf]; simp
        · have := bfAt_early bs x.name q hf
          have hl := bfAt_ge (bs.take q) x.name
          rw [List.length_take] at hl
          rw [this, Bool.eq_iff_iff]; simp; omega)
      have hge := bfAt_ge (bs.take q) x.name
      clear hhit ht hmem
      have hcl : (q : Int) ≤ (c : Int) := by omega
      rcases hok : okAt bs q x with _ | _
      · have hfin := Lib.hid (show bvB bs = false by unfold bvB; rw [heq.out, hstep.out, ← HX.out, hok]; rfl)
        simp only [okAt] at hok
        rw [HF.out] at hok
        have HK := Lib.hid hok
        clear hok
        rcases hn : nv x.name with _ | _
        · have hbo := hn
          have hsv := hn
          go_wp2_with fail
          refine wp_region_up_lit (by kernel_rfl) (by kernel_rfl) ?_
          repeat (go_big_quiet_step ((first | (go_at_call 48; have hh := C1.out; rw [hn] at hh; exact hh _) | (go_at_call 49; have hh := C4.out; exact hh _) | (go_at_call 37; first | (have hh := C2.out; rw [hbo] at hh; with_reducible exact hh _) | (have hh := C3.out; rw [hsv] at hh; with_reducible exact hh _)))))
          refine wpQuiet_nil ?_
          intro w2 hb2
          replace hb2 := UpW.out hb2
          go_wp2_with fail
          go_ret
          exact ⟨ret_bool hfin.out.symm, by (repeat (first | exact Below.refl _ _ | assumption | refine Below.drew ?_ | refine up_drewN ?_ _ | refine up_alloc ?_ _ | refine up_set ?_ _ _ (by first | exact Nat.le_refl _ | (simp; done) | (simp; omega) | omega) | refine up_trans ?_ (by assumption)))⟩
        · rcases hbo : tv x.body with _ | _
          · have hsv := hn
            go_wp2_with fail
            refine wp_region_up_lit (by kernel_rfl) (by kernel_rfl) ?_
            repeat (go_big_quiet_step ((first | (go_at_call 48; have hh := C1.out; rw [hn] at hh; exact hh _) | (go_at_call 49; have hh := C4.out; exact hh _) | (go_at_call 37; first | (have hh := C2.out; rw [hbo] at hh; with_reducible exact hh _) | (have hh := C3.out; rw [hsv] at hh; with_reducible exact hh _)))))
            refine wpQuiet_nil ?_
            intro w2 hb2
            replace hb2 := UpW.out hb2
            go_wp2_with fail
            go_ret
            exact ⟨ret_bool hfin.out.symm, by (repeat (first | exact Below.refl _ _ | assumption | refine Below.drew ?_ | refine up_drewN ?_ _ | refine up_alloc ?_ _ | refine up_set ?_ _ _ (by first | exact Nat.le_refl _ | (simp; done) | (simp; omega) | omega) | refine up_trans ?_ (by assumption)))⟩
          · rcases hsv : tv x.saved with _ | _
            · go_wp2_with fail
              refine wp_region_up_lit (by kernel_rfl) (by kernel_rfl) ?_
              repeat (go_big_quiet_step ((first | (go_at_call 48; have hh := C1.out; rw [hn] at hh; exact hh _) | (go_at_call 49; have hh := C4.out; exact hh _) | (go_at_call 37; first | (have hh := C2.out; rw [hbo] at hh; with_reducible exact hh _) | (have hh := C3.out; rw [hsv] at hh; with_reducible exact hh _)))))
              refine wpQuiet_nil ?_
              intro w2 hb2
              replace hb2 := UpW.out hb2
              go_wp2_with fail
              go_ret
              exact ⟨ret_bool hfin.out.symm, by (repeat (first | exact Below.refl _ _ | assumption | refine Below.drew ?_ | refine up_drewN ?_ _ | refine up_alloc ?_ _ | refine up_set ?_ _ _ (by first | exact Nat.le_refl _ | (simp; done) | (simp; omega) | omega) | refine up_trans ?_ (by assumption)))⟩
            · have hf : ¬ bfAt (bs.take q) x.name = -1 := by
                intro e
                have := HK.out
                rw [hn, hbo, hsv, e] at this
                simp at this
              have hf2 : (0 : Int) ≤ bfAt (bs.take q) x.name := by omega
              have hf3 : decide (0 ≤ bfAt (bs.take q) x.name) = true := decide_eq_true hf2
              clear hf
              go_wp2_with fail
              refine wp_region_up_lit (by kernel_rfl) (by kernel_rfl) ?_
              repeat (go_big_quiet_step ((first | (go_at_call 48; have hh := C1.out; rw [hn] at hh; exact hh _) | (go_at_call 49; have hh := C4.out; exact hh _) | (go_at_call 37; first | (have hh := C2.out; rw [hbo] at hh; with_reducible exact hh _) | (have hh := C3.out; rw [hsv] at hh; with_reducible exact hh _)))))
              refine wpQuiet_nil ?_
              intro w2 hb2
              replace hb2 := UpW.out hb2
              go_wp2_with fail
              go_ret
              exact ⟨ret_bool hfin.out.symm, by (repeat (first | exact Below.refl _ _ | assumption | refine Below.drew ?_ | refine up_drewN ?_ _ | refine up_alloc ?_ _ | refine up_set ?_ _ _ (by first | exact Nat.le_refl _ | (simp; done) | (simp; omega) | omega) | refine up_trans ?_ (by assumption)))⟩
      · have hfin := Lib.hid (show okFrom bs 0 bs = okFrom bs (q + 1) (bs.drop (q + 1)) by rw [heq.out, hstep.out, ← HX.out, hok]; rfl)
        simp only [okAt] at hok
        rw [HF.out] at hok
        simp only [Bool.and_eq_true, decide_eq_true_iff] at hok
        obtain ⟨⟨⟨hn, ha⟩, hbo⟩, hsv⟩ := hok
        have hf3 : decide (0 ≤ bfAt (bs.take q) x.name) = false := decide_eq_false (by omega)
        have hf4 : bfAt (bs.take q) x.name < 0 := by omega
        clear ha
        go_wp2_with fail
        refine wp_region_up_lit (by kernel_rfl) (by kernel_rfl) ?_
        repeat (go_big_quiet_step ((first | (go_at_call 48; have hh := C1.out; rw [hn] at hh; exact hh _) | (go_at_call 49; have hh := C4.out; exact hh _) | (go_at_call 37; first | (have hh := C2.out; rw [hbo] at hh; with_reducible exact hh _) | (have hh := C3.out; rw [hsv] at hh; with_reducible exact hh _)))))
        refine wpQuiet_nil ?_
        intro w2 hb2
        replace hb2 := UpW.out hb2
        go_wp2_with fail
        go_roundw
        case rel => exact ⟨q + 1, by omega, by go_num, hfin, by (repeat (first | exact Below.refl _ _ | assumption | refine Below.drew ?_ | refine up_drewN ?_ _ | refine up_alloc ?_ _ | refine up_set ?_ _ _ (by first | exact Nat.le_refl _ | (simp; done) | (simp; omega) | omega) | refine up_trans ?_ (by assumption)))⟩
        case measure => simp [intOf]; omega
    · obtain rfl : q = bs.length := by omega
      have hst := Lib.hid (show okFrom bs 0 bs = true by have := heq.out; rwa [List.drop_length] at this)
      go_wp2_with fail
      go_ret
      refine ⟨ret_bool ?_, hW⟩
      unfold bvB
      rw [hst.out]
      simp
      try omega

end Go.Proofs.Ytlejfmngpbcdhaa
