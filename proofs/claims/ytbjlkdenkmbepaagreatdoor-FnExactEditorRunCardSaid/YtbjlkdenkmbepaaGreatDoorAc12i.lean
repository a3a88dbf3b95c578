/- What is proved here: What is proved here: contracts of FindNext in the program and in the reference. Condition: the cell of the library's MaxLen holds an int. What is proved here: the contract of the program's FindPlaces. Condition: the cell of the library's MaxLen holds an int. What is proved here: strings.Builder's WriteString keeps all blocks but the builder and rows of bytes. What is proved here: the contract of the program's ReplacePlaces. Condition: the cell of the library's MaxLen holds an int. No condition. -/
import Derived.Test.YtbjlkdenkmbepaaGreatDoorAc0
import Derived.Test.YtbjlkdenkmbepaaGreatDoorBase
import Derived.Test.YtbjlkdenkmbepaaGreatDoorLaidW
import Derived.Test.YtbjlkdenkmbepaaGreatDoorShelf
import Derived.Test.YtbjlkdenkmbepaaGreatDoorAc12
import Derived.Test.YtbjlkdenkmbepaaGreatDoorRcC
import Derived.Lib.FrozenHead
namespace Go.Proofs.YtbjlkdenkmbepaaGreatDoor
open Go.RowKit
set_option linter.unusedVariables false

set_option maxRecDepth 100000 in
theorem implFindNext_any (s t : List UInt8) (p : Nat) (w : World) (hs : tv s = true) (hp : p ≤ 1048576) (ht : t.length ≤ maxLen) (hm : MX w) :
    Calls Tryz.prog 116 #[S s, S t, .int .i64 p] w fun e w' => e = .returned (.int .i64 (fnx s t p)) ∧ w = w' := by
  have hl := tv_len hs
  unfold maxLen at ht
  have I := Lib.hid (fun w => isPlace_any s p w hs)
  by_cases hps : p ≤ s.length
  · rw [inB_iff.2 (show (0 : Int) ≤ p ∧ (p : Int) ≤ s.length by omega)] at I
    cases t with
    | nil =>
      have HF := Lib.hid (show fnx s [] p = -1 from fnx_out (fun h => h.2 rfl))
      clear hs hm
      go_enter Tryz.func116, Tryz.ntmps116
      go_wp2_with fail
      refine (I.out _).mono ?_
      rintro e w1 ⟨rfl, rfl⟩
      go_wp2_with fail
      go_ret
      exact ⟨ret_int HF.out.symm, rfl⟩
    | cons c r =>
      obtain ⟨m, hm⟩ := hm
      have HI := Lib.hid (fun w (hm : w.cell? ⟨0, 0, none⟩ = some (.int .i64 m)) => (show Calls Tryz.prog 134 #[S (s.drop p), S (c :: r)] w fun e w' => e = .returned (.int .i64 (Lib.index (s.drop p) (c :: r))) ∧ w' = w from Tryz.strings_Index ⟨(s.drop p).toArray⟩ ⟨(c :: r).toArray⟩ m w (show (s.drop p).length < _ by rw [List.length_drop]; omega) hm))
      have HM := Lib.hid hm
      have hfi := fnx_in (s := s) (t := c :: r) (p := p) hps (by simp)
      have hge := Lib.index_ge (s.drop p) (c :: r)
      have hro := fnx_room (s.length - p) p s (c :: r) (Nat.le_refl _)
      have HF := Lib.hid hfi
      have i1 : (p : Int) ≤ (s.length : Int) := by omega
      have i2 : (0 : Int) ≤ (p : Int) := by omega
      have hup : Lib.index (s.drop p) (c :: r) ≤ 120 := by
        by_cases e : Lib.index (s.drop p) (c :: r) = -1
        · omega
        · rw [if_neg e] at hfi
          rcases hro with h | ⟨k, h, h1, h2, h3⟩ <;> omega
      generalize Lib.index (s.drop p) (c :: r) = n at *
      clear hs hm hfi hro
      go_enter Tryz.func116, Tryz.ntmps116
      go_wp2_with fail
      refine (I.out _).mono ?_
      rintro e w1 ⟨rfl, rfl⟩
      go_wp2_with fail
      refine (HI.out _ HM.out).mono ?_
      rintro e w1 ⟨rfl, rfl⟩
      by_cases hn : n < 0
      · have hn1 : n = -1 := by omega
        have HN := Lib.hid hn1
        clear hn1
        go_wp2_with fail
        go_ret
        exact ⟨ret_int (by rw [HF.out, if_pos HN.out]), rfl⟩
      · have hn1 : ¬ n = -1 := by omega
        have HN := Lib.hid hn1
        clear hn1
        go_wp2_with fail
        go_ret
        exact ⟨ret_int (by rw [HF.out, if_neg HN.out]), rfl⟩
  · have hb : inB (p : Int) 0 s.length = false := by
      rw [Bool.eq_false_iff]
      intro h
      rw [inB_iff] at h
      omega
    rw [hb] at I
    have HF := Lib.hid (show fnx s t p = -1 from fnx_out (fun h => hps h.1))
    clear hs hm hb
    go_enter Tryz.func116, Tryz.ntmps116
    go_wp2_with fail
    refine (I.out _).mono ?_
    rintro e w1 ⟨rfl, rfl⟩
    go_wp2_with fail
    go_ret
    exact ⟨ret_int HF.out.symm, rfl⟩

end Go.Proofs.YtbjlkdenkmbepaaGreatDoor

namespace Go.Proofs.YtbjlkdenkmbepaaGreatDoor
open Go.RowKit
set_option linter.unusedVariables false

set_option maxRecDepth 100000 in
set_option maxHeartbeats 1000000 in
theorem implFindPlaces_any (s t : List UInt8) (w : World) (hs : tv s = true) (hne : t ≠ []) (ht : t.length ≤ 1048576) (hm : MX w) :
    Calls Tryz.prog 197 #[S s, S t] w (IntsPost (fpl s t) w) := by
  have FN := Lib.hid (fun p w (hp : p ≤ 1048576) (hm : MX w) => implFindNext_any s t p w hs hp (by unfold maxLen; omega) hm)
  have HM := Lib.hid hm
  have HO0 : Hid (Own w w.heap.size 3 1 (.slice none 0 0) ([] : List Nat).length (([] : List Nat).map natC)) := Lib.hid (World.ownsRow_nil _ _ _ _)
  have HW0 := Lib.hid (Below.refl w.heap.size w)
  have hl := tv_len hs
  have htl : 0 < t.length := by cases t <;> simp_all
  obtain ⟨i0, hi, hz0, hz1, hz2⟩ := info_parts i64_info
  have hfl := fpl_len s t
  have F0 := Lib.hid (show fpl s t = fps s t (s.length + 1) 0 from rfl)
  unfold IntsPost
  clear hs hne
  generalize hP : fpl s t = PS at *
  clear hP
  go_enter Tryz.func197, Tryz.ntmps197
  go_wp2_with fail
  refine (FN.out 0 _ (by omega) (by exact HM.out)).mono ?_
  rintro e w1 ⟨rfl, rfl⟩
  go_wp2_with fail
  go_loopw [5, 6] (fun v i wr => ∃ (v0 : Value) (acc : List Nat) (n p : Nat), v0 = v ∧ i = .int .i64 (fnx s t p) ∧ acc.length ≤ s.length ∧ s.length < n + p ∧ Hid (PS = acc ++ fps s t n p) ∧ Hid (Own wr w.heap.size 3 1 v acc.length (acc.map natC)) ∧ Hid (Below w.heap.size w wr)) (fun _ i _ => nxM s.length (intOf i))
  case atStart => exact ⟨_, [], s.length + 1, 0, rfl, rfl, Nat.zero_le _, by omega, F0, HO0, HW0⟩
  case round =>
    obtain ⟨v0, acc, n, p, rfl, rfl, hac, hn, HP, HO, HW⟩ := hrel
    clear HO0 HW0 F0
    rcases fnx_room (s.length - p) p s t (Nat.le_refl _) with hr | ⟨k, hr, hr1, hr2, hr3⟩
    · have HE := Lib.hid (show PS = acc by rw [HP.out, fps_no hr, List.append_nil])
      rw [hr]
      clear hr
      go_wp2_with fail
      go_ret
      rw [HE.out]
      exact ⟨_, rfl, HO.out, HW.out⟩
    · obtain ⟨m, rfl⟩ : ∃ m, n = m + 1 := ⟨n - 1, by omega⟩
      have HS := Lib.hid (show PS = (acc ++ [k]) ++ fps s t m (k + t.length) by rw [HP.out, fps_yes hr, List.append_assoc]; rfl)
      rw [hr]
      have HR := Lib.hid hr
      have k0 : (0 : Int) ≤ (k : Int) := by omega
      have hac2 : acc.length + 1 ≤ s.length := by
        have := congrArg List.length HS.out
        rw [List.length_append, List.length_append, List.length_singleton] at this
        omega
      have hsz := HW.out.size
      have E1 := Lib.hid (show (k : Int) + (t.length : Int) = ((k + t.length : Nat) : Int) by omega)
      clear hr HP
      go_wp2_with (at_builtin; refine wpList_append_own _ rfl _ _ 100 rfl w.heap.size 3 i0 _ 1 8 Tryz.underlying100 hi hz0 hz1 hz2 rfl (by decide) _ _ _ rfl (HO.out.alloc _) ⟨wr.heap.size, 0, none⟩ 1 1 [.int .i64 (k : Int)] rfl rfl (cells_new _ _ _) (by intro u hu; simp at hu; subst hu; rfl) (by unfold maxLen; omega) (by omega) (by simp; omega) ?_; intro v5 w5 how5 hgr5 _)
      have HW5 := Lib.hid (up_grown (up_alloc HW.out _) hgr5 (own_lt HO.out (Nat.le_refl _)))
      have HO5 := Lib.hid (show Own w5 w.heap.size 3 1 v5 (acc ++ [k]).length ((acc ++ [k]).map natC) by rw [List.length_append, List.map_append]; exact how5)
      clear how5 hgr5
      go_wp2_with fail
      rw [E1.out]
      refine (FN.out (k + t.length) _ (by omega) (by exact HM.out.up HW5.out)).mono ?_
      rintro e w6 ⟨rfl, rfl⟩
      go_wp2_with fail
      go_roundw
      case rel => exact ⟨_, acc ++ [k], m, k + t.length, rfl, rfl, by rw [List.length_append, List.length_singleton]; omega, by omega, HS, HO5, HW5⟩
      case measure =>
        rcases fnx_room (s.length - (k + t.length)) (k + t.length) s t (Nat.le_refl _) with h1 | ⟨j, h1, h2, h3, h4⟩
        · rw [h1]
          show nxM s.length (-1) < nxM s.length (k : Int)
          rw [nxM_no, nxM_nat]
          omega
        · rw [h1]
          show nxM s.length (j : Int) < nxM s.length (k : Int)
          rw [nxM_nat, nxM_nat]
          omega

end Go.Proofs.YtbjlkdenkmbepaaGreatDoor

namespace Go.Proofs.YtbjlkdenkmbepaaGreatDoor
open Go.RowKit Go.Shelf
set_option linter.unusedVariables false

/-- all blocks but b and rows of bytes are as they were. -/
def KeptB (b : Nat) (w w' : World) : Prop := ∀ i, i ≠ b → i < w.heap.size → (∀ cs sh, w.heap[i]? ≠ some (.cells cs 5 sh)) → w'.heap[i]? = w.heap[i]?
theorem copyCheck_kept (B b : Nat) (bs : List Value) (w : World) (h : Lib.IsBuilder 154 5 B b bs w) :
    Calls Tryz.prog 182 #[.pointer (some ⟨b, 0, none⟩)] w fun e w' => e = .returned (.tuple #[]) ∧ (Lib.BuilderAt 154 5 B b (.pointer (some ⟨b, 0, none⟩)) bs w' ∧ Below B w w') ∧ ∀ i, i ≠ b → w'.heap[i]? = w.heap[i]? := by
  rcases h with h | h
  · refine (copyCheck_fresh b w h.cell0 h.shape h.frozen0).mono ?_
    rintro e w' ⟨rfl, rfl⟩
    exact ⟨rfl, ⟨h.used _, (Below.refl B w).setCell (p := ⟨b, 0, none⟩) h.1 _⟩, fun i hi => Below.heap_setCell w ⟨b, 0, none⟩ _ i hi⟩
  · refine (copyCheck_used b w h.cell0).mono ?_
    rintro e w' ⟨rfl, rfl⟩
    exact ⟨rfl, ⟨h, Below.refl B _⟩, fun _ _ => rfl⟩

set_option maxHeartbeats 2000000 in
set_option maxRecDepth 100000 in
theorem writeString_kept (B b : Nat) (bs : List Value) (s : ByteArray) (w : World) (h : Lib.IsBuilder 154 5 B b bs w) (hlen : bs.length + s.size ≤ 140737488355328) (hBw : B ≤ w.heap.size) :
    Calls Tryz.prog 198 #[.pointer (some ⟨b, 0, none⟩), .string s] w fun e w' => e = .returned (.tuple #[.int .i64 s.size, .nilIface]) ∧ (Lib.BuilderAt 154 5 B b (.pointer (some ⟨b, 0, none⟩)) (bs ++ Lib.strCells s) w' ∧ Below B w w') ∧ KeptB b w w' := by
  obtain ⟨i0, hi, hz0, hz1, hz2⟩ := info_parts byte_info
  go_enter Tryz.func198, Tryz.ntmps198
  go_wp2_with fail
  refine (copyCheck_kept B b bs _ h).mono ?_
  rintro e w1 ⟨rfl, ⟨h1, hb1⟩, hk1⟩
  obtain ⟨hB, v, hbk, hown, hne⟩ := h1
  have c0 : w1.cell? ⟨b, 0, none⟩ = some (.pointer (some ⟨b, 0, none⟩)) := by rw [Lib.cell_of_heap hbk]; rfl
  have c1 : w1.cell? ⟨b, 1, none⟩ = some v := by rw [Lib.cell_of_heap hbk]; rfl
  have HK1 := Lib.hid hk1
  clear hk1
  go_wp2_with (at_builtin; refine Lib.wpList_append_own_string _ rfl _ _ 22 9 rfl B 5 i0 Tryz.underlying22 Tryz.underlying9 hi hz0 hz1 hz2 _ _ _ rfl hown s rfl ?c3 ?c4 ?c5 ?_)
  case c3 => unfold maxLen; omega
  case c4 => omega
  case c5 => have := hb1.size; omega
  intro v' w2 hown' hgrow _
  have hlt : b < w1.heap.size := by
    rcases Nat.lt_or_ge b w1.heap.size with h' | h'
    · exact h'
    · simp [Array.getElem?_eq_none h'] at hbk
  have hb2 : w2.heap[b]? = some (.cells #[.pointer (some ⟨b, 0, none⟩), v] 154 (0, 0)) := by
    rw [hgrow.block b hlt (fun e => hne e.symm)]
    exact hbk
  have HK2 := Lib.hid (show KeptB b w w2 from fun i hib hiw hty => by
    have hsz := hb1.size
    have h1 := HK1.out i hib
    refine (hgrow.block i (by omega) fun e => ?_).trans h1
    rcases hown.2 with ⟨hv, _⟩ | ⟨g, cap, cur, hv, _, hh, _⟩
    · rw [hv] at e; simp [Value.ownBlock] at e
    · rw [hv] at e
      simp [Value.ownBlock] at e
      subst e
      rw [h1] at hh
      exact hty _ _ hh)
  have d0 : w2.cell? ⟨b, 0, none⟩ = some (.pointer (some ⟨b, 0, none⟩)) := by rw [Lib.cell_of_heap hb2]; rfl
  have d1 : w2.cell? ⟨b, 1, none⟩ = some v := by rw [Lib.cell_of_heap hb2]; rfl
  have f1 : w2.frozen? ⟨b, 1, none⟩ = false := Lib.frozen_of_heap hb2 1
  obtain ⟨ao, n', cap, rfl⟩ : ∃ ao n' cap, v' = .slice ao n' cap := by
    rcases hown'.2 with ⟨hv, _⟩ | ⟨g, cap, cur, hv, _⟩
    · exact ⟨_, _, _, hv⟩
    · exact ⟨_, _, _, hv⟩
  go_wp2_with fail
  go_ret2
  refine ⟨rfl, ⟨?_, ?_⟩, fun i hib hiw hty => (Below.heap_setCell _ ⟨b, 1, none⟩ _ i hib).trans (HK2.out i hib hiw hty)⟩
  · exact Lib.BuilderAt.put (T := 154) (e := 5) hB hb2 (bs' := bs ++ Lib.strCells s) (by simpa [Lib.strCells_length] using hown') (by decide)
  · exact (hb1.grown hgrow (by have := hb1.size; omega) (fun k hk => (hown.lt k hk).1)).setCell (p := ⟨b, 1, none⟩) hB _

end Go.Proofs.YtbjlkdenkmbepaaGreatDoor

namespace Go.Proofs.YtbjlkdenkmbepaaGreatDoor
open Go.RowKit
set_option linter.unusedVariables false

theorem byte_app2 (l x : List UInt8) : Lib.byteCells l ++ Lib.strCells ⟨x.toArray⟩ = Lib.byteCells (l ++ x) := by
  unfold Lib.byteCells Lib.strCells
  simp
theorem bld_up3 {B b : Nat} {bs : List Value} {w w' : World} (h : Lib.IsBuilder 154 5 B b bs w) (hb : Below w.heap.size w w') : Lib.IsBuilder 154 5 B b bs w' := by
  have key : ∀ p, Lib.BuilderAt 154 5 B b p bs w → Lib.BuilderAt 154 5 B b p bs w' := fun p h => by
    obtain ⟨hB, v, hbk, hown, hne⟩ := h
    exact ⟨hB, v, by rw [hb.block b (Array.getElem?_eq_some_iff.1 hbk).1]; exact hbk, own_up hown hb, hne⟩
  rcases h with h | h
  · exact .inl (key _ h)
  · exact .inr (key _ h)
theorem bld_new3 (w : World) : Lib.IsBuilder 154 5 w.heap.size w.heap.size (Lib.byteCells []) (w.alloc (.cells #[.pointer none, .slice none 0 0] 154)) :=
  .inl ⟨Nat.le_refl _, .slice none 0 0, heap_alloc_new w _, World.ownsRow_nil _ _ _ _, by simp [Value.ownBlock]⟩
/-- a row's block that no builder writes. -/
def GI (b : Nat) (w1 : World) (A : Option Addr) : Prop := ∀ g o, A = some ⟨g, o, none⟩ → g ≠ b ∧ g < w1.heap.size ∧ ∃ cur sh, w1.heap[g]? = some (.cells cur 3 sh)
theorem GI.of_own {w : World} {B b n c : Nat} {A : Option Addr} {xs : List Value} (h : Own w B 3 1 (.slice A n c) n xs) (hb : b < B) : GI b w A := by
  intro g o e
  subst e
  rcases h.2 with ⟨hv, _⟩ | ⟨g', cap, cur, hv, hB, hh, _⟩
  · cases hv
  · injection hv with e1 _ _
    injection e1 with e1
    injection e1 with e1 _ _
    subst e1
    exact ⟨by omega, (Array.getElem?_eq_some_iff.1 hh).1, _, _, hh⟩
def KW (w1 wr : World) (A : Option Addr) : Prop := w1.heap.size ≤ wr.heap.size ∧ ∀ g o, A = some ⟨g, o, none⟩ → wr.heap[g]? = w1.heap[g]?
theorem KW.step {b : Nat} {w1 wr w' : World} {A : Option Addr} (h : KW w1 wr A) (hg : GI b w1 A) (hk : KeptB b wr w') (hs : wr.heap.size ≤ w'.heap.size) : KW w1 w' A := by
  refine ⟨Nat.le_trans h.1 hs, fun g o e => ?_⟩
  obtain ⟨h1, h2, cur, sh, h3⟩ := hg g o e
  have h4 := h.2 g o e
  refine (hk g h1 (Nat.lt_of_lt_of_le h2 h.1) fun cs sh2 e2 => ?_).trans h4
  rw [h4, h3] at e2
  injection e2 with e2
  injection e2 with _ e2 _
  exact absurd e2 (by decide)
set_option maxRecDepth 100000 in
set_option maxHeartbeats 2000000 in
theorem implReplacePlaces_any (s t u : List UInt8) (w : World) (hs : tv s = true) (hne : t ≠ []) (ht : t.length ≤ 1048576) (hu : u.length ≤ 1048576) (hm : MX w) (z : List UInt8) (ok : Bool) (hz : RpIs t u s z ok) :
    Calls Tryz.prog 176 #[S s, S t, S u] w fun e w' => e = .returned (.tuple #[S z, .bool ok]) ∧ Below w.heap.size w w' := by
  have hl := tv_len hs
  have T := Lib.hid (fun w => implTextValid_any s w (by unfold maxLen; omega))
  rw [hs] at T
  have FP := Lib.hid (fun w hm => implFindPlaces_any s t w hs hne ht hm)
  have HMX := Lib.hid hm
  have hRl := rpT_len t u s hl hu
  have htl : 0 < t.length := by cases t <;> simp_all
  have TR := Lib.hid (fun w => implTextValid_any (rpT t u s) w (by unfold maxLen; omega))
  have HF := Lib.hid (show rpT t u s = [] ++ rpl s t u 0 ((fpl s t).drop 0) from rfl)
  have HP := Lib.hid (show Fp s t 0 ((fpl s t).drop 0) from fps_fp s t _ 0)
  have hfl := fpl_len s t
  have HZ := Lib.hid hz
  have b1 : (t == []) = false := by simpa using hne
  have b2 : t.isEmpty = false := by simpa using hne
  unfold IntsPost at FP
  unfold RpIs at HZ
  clear hs hne hz hm
  generalize rpT t u s = R at *
  generalize fpl s t = ps at *
  go_enter Tryz.func176, Tryz.ntmps176
  go_wp2_with fail
  refine (T.out _).mono ?_
  rintro e w1 ⟨rfl, rfl⟩
  go_wp2_with fail
  refine (FP.out _ (HMX.out.up (up_alloc (Below.refl _ _) _))).mono ?_
  rintro e w1 ⟨v, rfl, ho, hb⟩
  have sz0 : (w.alloc (.cells #[.pointer none, .slice none 0 0] 154)).heap.size = w.heap.size + 1 := by simp
  have HR := Lib.hid (ints_rd ho)
  obtain ⟨A, c, rfl, _, _⟩ := (ints_rd ho).form
  have HG := Lib.hid (GI.of_own (b := w.heap.size) ho (by rw [sz0]; omega))
  have HB1 := Lib.hid (bld_up3 (bld_new3 w) hb)
  have HW1 := Lib.hid (up_trans (up_alloc (Below.refl w.heap.size w) _) hb)
  have bz : w.heap.size < w1.heap.size := by have := hb.size; omega
  clear ho hb T FP HMX sz0
  obtain ⟨B, hB⟩ : ∃ B, B = w.heap.size := ⟨_, rfl⟩
  rw [← hB] at HB1 bz HG ⊢
  have HBw := Lib.hid hB
  clear hB
  go_wp2_with fail
  go_loopw [9, 11, 23] (fun at_ pl i wr => ∃ (k a : Nat) (q : List UInt8) (pv : Value), pl = pv ∧ k ≤ ps.length ∧ a ≤ s.length ∧ i = .int .i64 k ∧ at_ = .int .i64 a ∧ Hid (R = q ++ rpl s t u a (ps.drop k)) ∧ Hid (Fp s t a (ps.drop k)) ∧ Hid (KW w1 wr A) ∧ Hid (Lib.IsBuilder 154 5 B B (Lib.byteCells q) wr) ∧ Hid (Below B w1 wr)) (fun _ _ i _ => ps.length - (intOf i).toNat)
  case atStart => exact ⟨0, 0, [], _, rfl, Nat.zero_le _, Nat.zero_le _, rfl, rfl, HF, HP, Lib.hid ⟨Nat.le_refl _, fun _ _ _ => rfl⟩, HB1, Lib.hid (Below.refl _ _)⟩
  case round =>
    obtain ⟨k, a, q, pv, rfl, hk, ha, rfl, rfl, HQ, HFp, HKW, HB, HWr⟩ := hrel
    clear HF HP HB1
    have swr := HWr.out.size
    have hql : q.length ≤ 130000000 := by
      have := congrArg List.length HQ.out
      rw [List.length_append] at this
      omega
    have a0 : (0 : Int) ≤ (a : Int) := by omega
    have a1 : (a : Int) ≤ (s.length : Int) := by omega
    by_cases hlt : k < ps.length
    · have i1 : (0 : Int) ≤ (k : Int) := by omega
      have i2 : (k : Int) < (ps.length : Int) := by omega
      obtain ⟨b, o, rfl, _, hc⟩ := HR.out.cells intC_len hlt
      have c0 := hc 0 _ rfl
      simp only [Nat.mul_one, Nat.add_zero] at c0
      replace c0 := (World.cell?_of_block (a := ⟨b, o + k, none⟩) (HKW.out.2 b o rfl)).trans c0
      have hd := List.drop_eq_getElem_cons hlt
      obtain ⟨p, hp⟩ : ∃ p, p = ps[k] := ⟨_, rfl⟩
      rw [← hp] at c0 hd
      have hfp := HFp.out
      rw [hd] at hfp
      obtain ⟨f1, f2, f3⟩ := hfp
      have HQ2 := Lib.hid (show R = (q ++ ((s.take p).drop a ++ u)) ++ rpl s t u (p + t.length) (ps.drop (k + 1)) by rw [HQ.out, hd, rpl, app3])
      have HF2 := Lib.hid f3
      have hxl : ((s.take p).drop a).length ≤ 120 := by rw [List.length_drop, List.length_take]; omega
      obtain ⟨x, hx⟩ : ∃ x, x = (s.take p).drop a := ⟨_, rfl⟩
      have HX := Lib.hid hx
      rw [← hx] at HQ2 hxl
      have p1 : (a : Int) ≤ (p : Int) := by omega
      have p2 : (p : Int) ≤ (s.length : Int) := by omega
      clear hc hd hp f3 HQ HFp hx
      unfold natC at c0
      go_wp2_with fail
      rw [← HX.out]
      refine (writeString_kept _ _ _ ⟨x.toArray⟩ _ HB.out (by rw [Lib.byteCells_length]; show _ + x.length ≤ _; omega) (by omega)).mono ?_
      rintro e w2 ⟨rfl, ⟨hA, hb2⟩, hk2⟩
      rw [byte_app2] at hA
      have HK2 := Lib.hid (HKW.out.step HG.out hk2 hb2.size)
      have HA2 := Lib.hid hA
      have HW2 := Lib.hid (HWr.out.trans hb2)
      have sw2 := hb2.size
      clear hA hb2 hk2 HKW HB HX c0
      go_wp2_with fail
      refine (writeString_kept _ _ _ ⟨u.toArray⟩ _ (.inr HA2.out) (by rw [Lib.byteCells_length, List.length_append]; show _ + u.length ≤ _; omega) (by omega)).mono ?_
      rintro e w3 ⟨rfl, ⟨hA, hb3⟩, hk3⟩
      rw [byte_app2, List.append_assoc] at hA
      have HK3 := Lib.hid (HK2.out.step HG.out hk3 hb3.size)
      have HB3 : Hid (Lib.IsBuilder 154 5 B B (Lib.byteCells (q ++ (x ++ u))) w3) := Lib.hid (.inr hA)
      have HW3 := Lib.hid (HW2.out.trans hb3)
      clear hA hb3 hk3 HA2 HK2
      go_wp2_with fail
      go_roundw
      case rel => exact ⟨k + 1, p + t.length, _, _, rfl, by omega, by omega, by go_num, by go_num, HQ2, HF2, HK3, HB3, HW3⟩
      case measure => simp [intOf]; omega
    · obtain rfl : k = ps.length := by omega
      have HE := Lib.hid (show q ++ s.drop a = R by rw [HQ.out, List.drop_of_length_le (Nat.le_refl _), rpl])
      obtain ⟨x, hx⟩ : ∃ x, x = s.drop a := ⟨_, rfl⟩
      have hdl : x.length ≤ 120 := by rw [hx, List.length_drop]; omega
      rw [← hx] at HE
      have HX := Lib.hid hx
      clear HQ HFp HR HKW HG hx
      go_wp2_with fail
      rw [← HX.out]
      refine (writeString_kept _ _ _ ⟨x.toArray⟩ _ HB.out (by rw [Lib.byteCells_length]; show _ + x.length ≤ _; omega) (by omega)).mono ?_
      rintro e w2 ⟨rfl, ⟨hA, hb2⟩, -⟩
      rw [byte_app2, HE.out] at hA
      have HA2 := Lib.hid (Lib.IsBuilderF.of (.inr hA))
      have HW2 := Lib.hid (HWr.out.trans hb2)
      have sw2 := hb2.size
      clear hA hb2 HB HX
      go_wp2_with fail
      refine (Tryz.Builder_String_any_f _ _ _ _ HA2.out (by omega)).mono ?_
      rintro e w3 ⟨rfl, hA, hb3⟩
      have HA3 := Lib.hid hA
      have HW3 := Lib.hid (HW2.out.trans hb3)
      have sw3 := hb3.size
      clear hA hb3 HA2
      go_wp2_with fail
      refine (TR.out _).mono ?_
      rintro e w4 ⟨rfl, rfl⟩
      rcases hb : tv R with _ | _
      · obtain ⟨hz1, hz2⟩ := HZ.out.2 hb
        subst hz1 hz2
        clear hb TR HZ
        go_wp2_with fail
        go_ret2
        exact ⟨rfl, by rw [← HBw.out]; exact (by rw [HBw.out]; exact HW1.out : Below B w w1).trans HW3.out⟩
      · obtain ⟨hz1, hz2⟩ := HZ.out.1 hb
        subst hz1 hz2
        clear hb TR HZ
        go_wp2_with fail
        refine (Tryz.Builder_String_any_f _ _ _ _ HA3.out (by omega)).mono ?_
        rintro e w5 ⟨rfl, -, hb5⟩
        have HW5 := Lib.hid (HW3.out.trans hb5)
        clear hb5
        go_wp2_with fail
        go_ret2
        exact ⟨rfl, by rw [← HBw.out]; exact (by rw [HBw.out]; exact HW1.out : Below B w w1).trans HW5.out⟩

end Go.Proofs.YtbjlkdenkmbepaaGreatDoor
