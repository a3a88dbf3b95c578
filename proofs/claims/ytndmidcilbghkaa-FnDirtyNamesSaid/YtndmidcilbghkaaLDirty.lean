/- What is proved here: the walk of the law FnDirtyNames. No condition. -/
import Derived.Test.YtndmidcilbghkaaDirty2
import Derived.Test.YtndmidcilbghkaaDrawB2
import Derived.Test.YtndmidcilbghkaaPBuf
import Derived.Test.YtndmidcilbghkaaSav1
import Derived.Test.YtndmidcilbghkaaAlive
namespace Go.Proofs.Ytndmidcilbghkaa
open Go.RowKit
set_option linter.unusedVariables false

theorem split_first {α : Type} (p : α → Bool) : ∀ (xs : List α) (b : α) (fs : List α), xs.filter p = b :: fs → ∃ l1 l2, xs = l1 ++ b :: l2 ∧ l1.filter p = [] ∧ p b = true ∧ l2.filter p = fs
  | [], b, fs, h => by simp at h
  | x :: xs, b, fs, h => by
    rw [List.filter_cons] at h
    split at h
    · rename_i hp
      injection h with h1 h2
      subst h1
      exact ⟨[], xs, rfl, rfl, hp, h2⟩
    · rename_i hp
      obtain ⟨l1, l2, h1, h2, h3, h4⟩ := split_first p xs b fs h
      exact ⟨x :: l1, l2, by rw [h1]; rfl, by rw [List.filter_cons, if_neg hp]; exact h2, h3, h4⟩
theorem dirty_head {xs : List Bf} {nm : List UInt8} {rest : List (List UInt8)} (hv : bvB xs = true) (h : dn xs = nm :: rest) (hs : Sm 8 xs) :
    svOk xs nm = true ∧ bvB (svOut xs nm) = true ∧ dn (svOut xs nm) = rest ∧ Sm 8 (svOut xs nm) := by
  unfold dn at h
  obtain ⟨b, fs, hf, hb, hr⟩ : ∃ b fs, (xs.filter fun b => b.body != b.saved) = b :: fs ∧ b.name = nm ∧ fs.map Bf.name = rest := by
    cases hx : (xs.filter fun b => b.body != b.saved) with
    | nil => rw [hx] at h; simp at h
    | cons b fs => rw [hx] at h; simp at h; exact ⟨b, fs, rfl, h.1, h.2⟩
  obtain ⟨l1, l2, rfl, h1, h2, h3⟩ := split_first _ xs b fs hf
  subst hb
  have hV := bvB_iff.1 hv
  have hk : l1.length < (l1 ++ b :: l2).length := by simp
  have hat : (l1 ++ b :: l2)[l1.length] = b := by simp
  have hfind := bfAt_nodup hV.2.1 l1.length hk
  rw [hat] at hfind
  have hok : svOk (l1 ++ b :: l2) b.name = true := by
    unfold svOk
    rw [hv, hfind]
    simp
  have hout : svOut (l1 ++ b :: l2) b.name = (l1 ++ b :: l2).set l1.length ⟨b.name, b.body, b.body⟩ := by
    unfold svOut
    rw [if_pos hv, if_pos (by rw [hfind]; omega), hfind, Int.toNat_natCast, svOne_at _ _ hk, hat]
  have hbm : b ∈ l1 ++ b :: l2 := by simp
  rw [hout]
  refine ⟨hok, ?_, ?_, ?_⟩
  · have := hV.set l1.length hk (t := b.body) (u := b.body) (hV.2.2 b hbm).2.1 (hV.2.2 b hbm).2.1
    rw [hat] at this
    exact bvB_iff.2 this
  · rw [List.set_append_right _ _ (Nat.le_refl _), Nat.sub_self, List.set_cons_zero]
    unfold dn
    rw [List.filter_append, h1, List.nil_append, List.filter_cons]
    simp only [bne_self_eq_false, Bool.false_eq_true, if_false]
    rw [h3, hr]
  · refine ⟨by rw [List.length_set]; exact hs.1, fun x hx => ?_⟩
    rcases List.mem_or_eq_of_mem_set hx with hx | rfl
    · exact hs.2 x hx
    · exact ⟨(hs.2 b hbm).1, (hs.2 b hbm).2.1, (hs.2 b hbm).2.1⟩

theorem sameTexts_same (u v : Value) (xs : List (List UInt8)) (w : World) (hu : RdL w 1 strC u xs) (hv : RdL w 1 strC v xs) :
    Calls Try.prog 27 #[u, v] w fun e w' => e = .returned (.bool true) ∧ Below w.heap.size w w' := by
  obtain ⟨A, c, rfl, hm, _⟩ := hu.form
  obtain ⟨B, d, rfl, _, _⟩ := hv.form
  unfold maxLen at hm
  go_enter Try.func27, Try.ntmps27
  go_wp2_with fail
  go_loopw [5] (fun i wr => ∃ k : Nat, k ≤ xs.length ∧ i = .int .i64 k ∧ Below w.heap.size w wr) (fun i _ => xs.length - (intOf i).toNat)
  case atStart => exact ⟨0, Nat.zero_le _, rfl, Below.refl _ _⟩
  case round =>
    obtain ⟨k, hk, rfl, hW⟩ := hrel
    by_cases hlt : k < xs.length
    · have i1 : (0 : Int) ≤ (k : Int) := by omega
      have i2 : (k : Int) < (xs.length : Int) := by omega
      obtain ⟨b, o, rfl, hb, hc⟩ := (hu.up hW).cells strC_len hlt
      obtain ⟨b', o', rfl, hb', hc'⟩ := (hv.up hW).cells strC_len hlt
      have c0 := hc 0 _ rfl
      have d0 := hc' 0 _ rfl
      simp only [Nat.mul_one, Nat.add_zero] at c0 d0
      clear hc hc'
      obtain ⟨x, hx⟩ : ∃ x, x = xs[k] := ⟨_, rfl⟩
      rw [← hx] at c0 d0
      clear hx
      go_wp2_with fail
      go_quiet (fail)
      go_wp2_with fail
      go_roundw
      case rel => exact ⟨k + 1, by omega, by go_num, by (repeat (first | exact Below.refl _ _ | assumption | refine Below.drew ?_ | refine up_drewN ?_ _ | refine up_alloc ?_ _ | refine up_set ?_ _ _ (by first | exact Nat.le_refl _ | (simp; done) | (simp; omega) | omega) | refine up_trans ?_ (by assumption)))⟩
      case measure => simp [intOf]; omega
    · go_wp2_with fail
      go_ret
      exact ⟨rfl, hW⟩

/-- what is left to be saved. -/
def DLeft (bs xs : List Bf) (k : Nat) : Prop := dnOut xs = (dnOut bs).drop k ∧ (k < (dnOut bs).length → bvB xs = true) ∧ Sm 8 xs
theorem dLeft_start {bs : List Bf} (hs : Sm 8 bs) : DLeft bs bs 0 := ⟨by simp, fun h => by
  unfold dnOut at h
  split at h
  · assumption
  · simp at h, hs⟩
theorem dnOut_of {xs : List Bf} (h : bvB xs = true) : dnOut xs = dn xs := by unfold dnOut; rw [if_pos h]
theorem dLeft_step {bs xs : List Bf} {k : Nat} (h : DLeft bs xs k) (hk : k < (dnOut bs).length) : svOk xs (dnOut bs)[k] = true ∧ DLeft bs (svOut xs (dnOut bs)[k]) (k + 1) := by
  obtain ⟨h1, h2, h3⟩ := h
  have hv := h2 hk
  have h4 : dn xs = (dnOut bs)[k] :: (dnOut bs).drop (k + 1) := by
    rw [← List.drop_eq_getElem_cons hk, ← h1]
    unfold dnOut
    rw [if_pos hv]
  obtain ⟨a, b, c, d⟩ := dirty_head hv h4 h3
  exact ⟨a, (dnOut_of b).trans c, fun _ => b, d⟩

set_option maxRecDepth 100000 in
set_option maxHeartbeats 2000000 in
theorem dirtyNames_walk (v : Value) (n : Nat) (zs : List Int) (w : World) (h : Bytes w w.heap.size v n zs) :
    Calls Try.prog 10 #[v] w fun e w' => e = .returned (.bool true) ∧ Below w.heap.size w w' := by
  have h' := h
  obtain ⟨h1, h2, A, c, rfl, h3, h4, h5⟩ := h
  clear h5 h2 h1 h4
  by_cases hn : n ≤ 1048576
  · have hW := Below.refl w.heap.size w
    go_enter Try.func10, Try.ntmps10
    go_wp2_with fail
    refine (drawDirtyNames_any _ n zs _ h').mono ?_
    rintro e w1 ⟨v, bs, rfl, h1, hs, hb⟩
    have H := Lib.hid h1
    have hB : Below w.heap.size w w1 := (by (repeat (first | exact Below.refl _ _ | assumption | refine Below.drew ?_ | refine up_drewN ?_ _ | refine up_alloc ?_ _ | refine up_set ?_ _ _ (by first | exact Nat.le_refl _ | (simp; done) | (simp; omega) | omega) | refine up_trans ?_ (by assumption)))); have sw1 := hB.size; replace hW := up_trans hW hB; clear hB
    clear hb h1 h'
    go_wp2_with fail
    refine (implDirtyNames_any v bs _ H.out).mono ?_
    rintro e w2 ⟨nv, rfl, hno, hb⟩
    have N := Lib.hid (RdL.of_own (f := strC) hno)
    replace H : Hid (RdB w2 v bs) := Lib.hid (H.out.up hb)
    have hB : Below w1.heap.size w1 w2 := (by (repeat (first | exact Below.refl _ _ | assumption | refine Below.drew ?_ | refine up_drewN ?_ _ | refine up_alloc ?_ _ | refine up_set ?_ _ _ (by first | exact Nat.le_refl _ | (simp; done) | (simp; omega) | omega) | refine up_trans ?_ (by assumption)))); have sw2 := hB.size; replace hW := up_trans hW hB; clear hB
    clear hb hno
    go_wp2_with fail
    refine (specDirtyNames_any v bs _ H.out).mono ?_
    rintro e w3 ⟨mv, rfl, hmo, hb⟩
    have M := Lib.hid (RdL.of_own (f := strC) hmo)
    replace H : Hid (RdB w3 v bs) := Lib.hid (H.out.up hb)
    replace N : Hid (RdL w3 1 strC nv (dnOut bs)) := Lib.hid (N.out.up hb)
    have hB : Below w2.heap.size w2 w3 := (by (repeat (first | exact Below.refl _ _ | assumption | refine Below.drew ?_ | refine up_drewN ?_ _ | refine up_alloc ?_ _ | refine up_set ?_ _ _ (by first | exact Nat.le_refl _ | (simp; done) | (simp; omega) | omega) | refine up_trans ?_ (by assumption)))); have sw3 := hB.size; replace hW := up_trans hW hB; clear hB
    clear hb hmo
    go_wp2_with fail
    refine (sameTexts_same _ _ (dnOut bs) _ N.out M.out).mono ?_
    rintro e w4 ⟨rfl, hb⟩
    replace H : Hid (RdB w4 v bs) := Lib.hid (H.out.up hb)
    replace N : Hid (RdL w4 1 strC nv (dnOut bs)) := Lib.hid (N.out.up hb)
    have hB : Below w3.heap.size w3 w4 := (by (repeat (first | exact Below.refl _ _ | assumption | refine Below.drew ?_ | refine up_drewN ?_ _ | refine up_alloc ?_ _ | refine up_set ?_ _ _ (by first | exact Nat.le_refl _ | (simp; done) | (simp; omega) | omega) | refine up_trans ?_ (by assumption)))); have sw4 := hB.size; replace hW := up_trans hW hB; clear hB
    clear hb M
    have D0 := Lib.hid (dLeft_start hs)
    have hnl := dnOut_len bs
    have hll : (dnOut bs).length ≤ bs.length := by
      unfold dnOut
      split
      · exact dn_len bs
      · simp
    obtain ⟨NA, nc, rfl, _, _⟩ := N.out.form
    obtain ⟨LA, lc, hLv, _, _⟩ := H.out.1.form
    have HW := Lib.hid hW
    clear hW
    generalize hns : dnOut bs = ns at *
    have hle : (ns.length : Int) ≤ (bs.length : Int) := by omega
    have HNS := Lib.hid hns
    clear hns
    go_wp2_with fail
    go_loopw [5, 6] (fun x i wr => ∃ (k : Nat) (xs : List Bf), k ≤ ns.length ∧ i = .int .i64 k ∧ Hid (RdB wr x xs) ∧ Hid (DLeft bs xs k) ∧ Hid (Below w.heap.size w wr) ∧ Hid (RdL wr 1 strC (.slice NA ns.length nc) ns)) (fun _ i _ => ns.length - (intOf i).toNat)
    case atStart => exact ⟨0, bs, Nat.zero_le _, by first | rfl | go_num, (by rw [← hLv]; exact H), D0, HW, N⟩
    case round =>
      obtain ⟨k, xs, hk, rfl, HX, HD, HWr, HN⟩ := hrel
      clear H D0 HW N
      by_cases hlt : k < ns.length
      · have i1 : (0 : Int) ≤ (k : Int) := by omega
        have i2 : (k : Int) < (ns.length : Int) := by omega
        obtain ⟨b, o, rfl, hb, hc⟩ := HN.out.cells strC_len hlt
        have c0 := hc 0 _ rfl
        simp only [Nat.mul_one, Nat.add_zero] at c0
        have hST := dLeft_step HD.out (by rw [HNS.out]; exact hlt)
        have hnk : (dnOut bs)[k]'(by rw [HNS.out]; exact hlt) = ns[k] := by simp only [HNS.out]
        rw [hnk] at hST
        have SV := Lib.hid (fun w x h => implSaveBuffer_any x xs ns[k] w h)
        rw [hST.1] at SV
        have HD2 := Lib.hid hST.2
        clear hST hnk hc HD
        generalize ns[k] = nm at *
        go_wp2_with fail
        refine (SV.out _ _ HX.out).mono ?_
        rintro e w5 ⟨y, rfl, hy, hb5⟩
        have HY := Lib.hid (rdB_own hy HD2.out.2.2)
        have HN5 := Lib.hid (HN.out.up hb5)
        have HW5 := Lib.hid (up_trans HWr.out hb5)
        clear hb5 hy HX SV HN HWr c0
        go_wp2_with fail
        go_roundw
        case rel => exact ⟨k + 1, _, by omega, by go_num, HY, HD2, HW5, HN5⟩
        case measure => simp [intOf]; omega
      · obtain rfl : k = ns.length := by omega
        have hdn : dnOut xs = [] := by rw [HD.out.1, HNS.out, List.drop_length]
        go_wp2_with fail
        refine (implDirtyNames_any _ xs _ HX.out).mono ?_
        rw [hdn]
        rintro e w5 ⟨ev, rfl, heo, hb⟩
        have hW5 := up_trans HWr.out hb
        obtain ⟨EA, ec, rfl, _, _⟩ := (RdL.of_own (f := strC) heo).form
        subst hLv
        clear hb heo
        go_wp2_with fail
        refine (alive_any _).mono ?_
        rintro e w6 ⟨rfl, rfl⟩
        go_wp2_with fail
        go_ret
        exact ⟨rfl, hW5⟩
  · go_enter Try.func10, Try.ntmps10
    go_wp2_with fail
    go_ret
    exact ⟨rfl, Below.refl _ _⟩

end Go.Proofs.Ytndmidcilbghkaa
