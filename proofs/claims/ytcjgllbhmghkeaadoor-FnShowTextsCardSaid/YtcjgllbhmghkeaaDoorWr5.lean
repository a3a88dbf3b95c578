/- What is proved here: contracts of RowOf and RowTexts in the program and in the reference. Condition (the program's): the cell of the library's MaxLen holds an int. -/
import Derived.Test.YtcjgllbhmghkeaaDoorWr4
import Derived.Test.YtcjgllbhmghkeaaDoorStrC
import Derived.Test.YtcjgllbhmghkeaaDoorAppG
namespace Go.Proofs.YtcjgllbhmghkeaaDoor
open Go.RowKit
set_option linter.unusedVariables false

/-- the last row that begins at a place or before it. -/
def rIxR (p init : Int) : List (Nat × Nat) → Int
  | [] => init
  | r :: l => if (r.1 : Int) ≤ p then (l.length : Int) else rIxR p init l
def rIx (p init : Int) (l : List (Nat × Nat)) : Int := rIxR p init l.reverse
theorem rIx_snoc (p init : Int) (l : List (Nat × Nat)) (r : Nat × Nat) : rIx p init (l ++ [r]) = if (r.1 : Int) ≤ p then (l.length : Int) else rIx p init l := by
  unfold rIx
  rw [List.reverse_append]
  simp [rIxR]
theorem rIxR_same (p a b : Int) : ∀ l : List (Nat × Nat), (∃ r ∈ l, (r.1 : Int) ≤ p) → rIxR p a l = rIxR p b l ∧ 0 ≤ rIxR p a l ∧ rIxR p a l < l.length
  | [], h => by obtain ⟨r, hr, _⟩ := h; cases hr
  | x :: l, h => by
    unfold rIxR
    by_cases hx : (x.1 : Int) ≤ p
    · rw [if_pos hx, if_pos hx, List.length_cons]
      omega
    · rw [if_neg hx, if_neg hx, List.length_cons]
      obtain ⟨r, hr, hp⟩ := h
      rcases List.mem_cons.1 hr with rfl | hr
      · exact absurd hp hx
      · have := rIxR_same p a b l ⟨r, hr, hp⟩
        omega
theorem rIx_same (p a b : Int) (l : List (Nat × Nat)) (h : ∃ r ∈ l, (r.1 : Int) ≤ p) : rIx p a l = rIx p b l ∧ 0 ≤ rIx p a l ∧ rIx p a l < l.length := by
  obtain ⟨r, hr, hp⟩ := h
  have := rIxR_same p a b l.reverse ⟨r, by simpa using hr, hp⟩
  rw [List.length_reverse] at this
  exact this
theorem rIx_take (p init : Int) (l : List (Nat × Nat)) (k : Nat) (hk : k < l.length) : rIx p init (l.take (k + 1)) = if ((l[k]).1 : Int) ≤ p then (k : Int) else rIx p init (l.take k) := by
  rw [List.take_succ_eq_append_getElem hk, rIx_snoc, List.length_take, Nat.min_eq_left (by omega)]
theorem rowsOf_first (s : List UInt8) {wd : Nat} (hw : 1 ≤ wd) : ∃ r ∈ rowsOf s wd, r.1 = 0 := by
  have h0 : lst s 0 = 0 := lst_eq (Nat.zero_le _) ⟨rfl, .inl rfl⟩
  obtain ⟨_, h1, h2⟩ := rwL_len s hw _ (lst s 0) (lend s 0) (Nat.le_refl _) (lend_le s 0 (Nat.zero_le _)).1
  cases hr : rwL s wd (lst s 0) (lend s 0) with
  | nil => rw [hr] at h1; simp at h1
  | cons r l =>
    refine ⟨r, ?_, ?_⟩
    · unfold rowsOf
      rw [List.mem_flatMap]
      exact ⟨0, by simp, by rw [hr]; simp⟩
    · rw [hr] at h2
      simp at h2
      omega
theorem rowsTo_len (s : List UInt8) {wd : Nat} (hw : 1 ≤ wd) : ∀ q, q ≤ nl s → (rowsTo s wd q).length ≤ lst s q
  | 0, _ => by simp [rowsTo]
  | q + 1, h => by
    have ih := rowsTo_len s hw q (by omega)
    have hle := lend_le s q (by omega)
    obtain ⟨h1, _, _⟩ := rwL_len s hw _ (lst s q) (lend s q) (Nat.le_refl _) hle.1
    have := (lst_next s q (by omega)).2
    rw [rowsTo_succ, List.length_append]
    omega
theorem rowsOf_len (s : List UInt8) {wd : Nat} (hw : 1 ≤ wd) : (rowsOf s wd).length ≤ s.length + 1 := by
  have h := rowsTo_len s hw (nl s) (Nat.le_refl _)
  have hle := lend_le s (nl s) (Nat.le_refl _)
  obtain ⟨h1, _, _⟩ := rwL_len s hw _ (lst s (nl s)) (lend s (nl s)) (Nat.le_refl _) hle.1
  have e : rowsOf s wd = rowsTo s wd (nl s + 1) := rfl
  rw [e, rowsTo_succ, List.length_append]
  omega
theorem rowsOf_in (s : List UInt8) {wd : Nat} (hw : 1 ≤ wd) : ∀ r ∈ rowsOf s wd, r.1 ≤ r.2 ∧ r.2 ≤ s.length ∧ r.2 - r.1 ≤ wd := by
  intro r hr
  unfold rowsOf at hr
  rw [List.mem_flatMap] at hr
  obtain ⟨q, hq, hr⟩ := hr
  rw [List.mem_range] at hq
  have hle := lend_le s q (by omega)
  have := rwL_in s hw _ (lst s q) (lend s q) (Nat.le_refl _) hle.1 r hr
  omega
/-- the row in which a place is shown, or -1. -/
def roN (s : List UInt8) (wd p : Int) : Int := if tv s = true ∧ inB wd 4 40 = true ∧ inB p 0 s.length = true then rIx p 0 (rowsOf s wd.toNat) else -1
theorem wrR_len (s : List UInt8) (wd : Int) : (wrR s wd).length ≤ 121 := by
  unfold wrR
  split
  · rename_i h
    have := inB_iff.1 h.2
    have h1 := rowsOf_len s (wd := wd.toNat) (by omega)
    have h2 := tv_len h.1
    omega
  · simp
theorem wrR_in (s : List UInt8) (wd : Int) : ∀ r ∈ wrR s wd, r.1 ≤ r.2 ∧ r.2 ≤ s.length ∧ ((r.2 : Int) - (r.1 : Int) ≤ wd) := by
  intro r hr
  unfold wrR at hr
  split at hr
  · rename_i h
    have := inB_iff.1 h.2
    have := rowsOf_in s (wd := wd.toNat) (by omega) r hr
    omega
  · cases hr
/-- the texts of the rows. -/
def wtT (s : List UInt8) (wd : Int) : List (List UInt8) := (wrR s wd).map fun r => (s.take r.2).drop r.1
theorem row_cells {w : World} {A : Option Addr} {n c : Nat} {rs : List (Nat × Nat)} (h : RdL w 2 rowC (.slice A n c) rs) {k : Nat} (hk : k < rs.length) :
    ∃ b o, A = some ⟨b, o, none⟩ ∧ b < w.heap.size ∧ w.cell? ⟨b, o + k * 2, none⟩ = some (.int .i64 (rs[k].1 : Int)) ∧ w.cell? ⟨b, o + k * 2 + 1, none⟩ = some (.int .i64 (rs[k].2 : Int)) := by
  obtain ⟨b, o, hA, hb, hc⟩ := h.cells rowC_len hk
  exact ⟨b, o, hA, hb, hc 0 _ rfl, hc 1 _ rfl⟩

set_option maxRecDepth 100000 in
set_option maxHeartbeats 2000000 in
theorem implRowOf_any (s : List UInt8) (wd p : Int) (w : World) (hs : s.length ≤ maxLen) (hm : MX w) :
    Calls Tryd.prog 15 #[S s, .int .i64 wd, .int .i64 p] w fun e w' => e = .returned (.int .i64 (roN s wd p)) ∧ Below w.heap.size w w' := by
  have P := Lib.hid (fun w' => isPlaceB_any s p w' hs)
  have I := Lib.hid (fun w' => isWidth_any wd w')
  obtain ⟨b1, hb1⟩ : ∃ b, b = (tv s && inB p 0 s.length) := ⟨_, rfl⟩
  obtain ⟨b2, hb2⟩ : ∃ b, b = inB wd 4 40 := ⟨_, rfl⟩
  rw [← hb1] at P
  rw [← hb2] at I
  obtain ⟨z, hz⟩ : ∃ z, z = roN s wd p := ⟨_, rfl⟩
  rw [← hz]
  rcases b1 with _ | _
  · have : z = -1 := by
      rw [hz]
      unfold roN
      rw [if_neg]
      rintro ⟨h1, _, h3⟩
      rw [h1, h3] at hb1
      cases hb1
    subst this
    clear hz hb1 hb2
    go_enter Tryd.func15, Tryd.ntmps15
    go_wp2_with fail
    refine (P.out _).mono ?_
    rintro e w1 ⟨rfl, rfl⟩
    go_wp2_with fail
    go_ret
    exact ⟨rfl, Below.refl _ _⟩
  rcases b2 with _ | _
  · have : z = -1 := by
      rw [hz]
      unfold roN
      rw [if_neg]
      rintro ⟨_, h2, _⟩
      rw [h2] at hb2
      cases hb2
    subst this
    clear hz hb1 hb2
    go_enter Tryd.func15, Tryd.ntmps15
    go_wp2_with fail
    refine (P.out _).mono ?_
    rintro e w1 ⟨rfl, rfl⟩
    go_wp2_with fail
    refine (I.out _).mono ?_
    rintro e w1 ⟨rfl, rfl⟩
    go_wp2_with fail
    go_ret
    exact ⟨rfl, Below.refl _ _⟩
  · have hb := hb1.symm
    rw [Bool.and_eq_true] at hb
    have HZ := Lib.hid (show z = rIx p 0 (wrR s wd) by
      rw [hz]
      unfold roN wrR
      rw [if_pos ⟨hb.1, hb2.symm, hb.2⟩, if_pos ⟨hb.1, hb2.symm⟩])
    have R := Lib.hid (fun w' (hb : Below w.heap.size w w') => implWrapRows_any s wd w' hs (hm.up hb))
    have hn := wrR_len s wd
    have HIN := Lib.hid (wrR_in s wd)
    have hs' : s.length ≤ 120 := tv_len hb.1
    generalize wrR s wd = rs at *
    unfold WrPost at R
    clear hz hb hb1 hb2 hm
    go_enter Tryd.func15, Tryd.ntmps15
    go_wp2_with fail
    refine (P.out _).mono ?_
    rintro e w1 ⟨rfl, rfl⟩
    go_wp2_with fail
    refine (I.out _).mono ?_
    rintro e w1 ⟨rfl, rfl⟩
    go_wp2_with fail
    refine (R.out _ (by (repeat (first | exact Below.refl _ _ | assumption | refine Below.drew ?_ | refine up_drewN ?_ _ | refine up_alloc ?_ _ | refine up_set ?_ _ _ (by first | exact Nat.le_refl _ | (simp; done) | (simp; omega) | omega) | refine up_trans ?_ (by assumption))))).mono ?_
    rintro e w1 ⟨v, rfl, ho, hb⟩
    have HW := Lib.hid (show Below w.heap.size w w1 by (repeat (first | exact Below.refl _ _ | assumption | refine Below.drew ?_ | refine up_drewN ?_ _ | refine up_alloc ?_ _ | refine up_set ?_ _ _ (by first | exact Nat.le_refl _ | (simp; done) | (simp; omega) | omega) | refine up_trans ?_ (by assumption))))
    have HR := Lib.hid (RdL.of_own (f := rowC) (bs := rs) ho)
    obtain ⟨A, c, rfl, -, -⟩ := HR.out.form
    clear hb ho P I R
    go_wp2_with fail
    go_loopw [7, 8, 9, 23] (fun row r bx i wr => ∃ (k : Nat) (y : Int), k ≤ rs.length ∧ i = .int .i64 k ∧ row = .int .i64 y ∧ Hid (y = rIx p 0 (rs.take k)) ∧ Hid (Below w1.heap.size w1 wr)) (fun _ _ _ i _ => rs.length - (intOf i).toNat)
    case atStart => exact ⟨0, 0, Nat.zero_le _, rfl, rfl, Lib.hid rfl, Lib.hid (Below.refl _ _)⟩
    case round =>
      obtain ⟨k, y, hk, rfl, rfl, HY, HB⟩ := hrel
      by_cases hlt : k < rs.length
      · have i1 : (0 : Int) ≤ (k : Int) := by omega
        have i2 : (k : Int) < (rs.length : Int) := by omega
        obtain ⟨b, o, rfl, hbz, c0, c1⟩ := row_cells (HR.out.up HB.out) hlt
        have HT := Lib.hid (rIx_take p 0 rs k hlt)
        have hin := HIN.out _ (List.getElem_mem hlt)
        obtain ⟨r, hr⟩ : ∃ r, r = rs[k] := ⟨_, rfl⟩
        rw [← hr] at c0 c1 HT hin
        clear hr
        obtain ⟨ra, rb⟩ := r
        simp only at c0 c1 HT hin
        by_cases hle : (ra : Int) ≤ p
        · rw [if_pos hle] at HT
          go_wp2_with fail
          go_roundw
          case rel => exact ⟨k + 1, k, by omega, by go_num, rfl, Lib.hid HT.out.symm, Lib.hid (by have := HB.out; (repeat (first | exact Below.refl _ _ | assumption | refine Below.drew ?_ | refine up_drewN ?_ _ | refine up_alloc ?_ _ | refine up_set ?_ _ _ (by first | exact Nat.le_refl _ | (simp; done) | (simp; omega) | omega) | refine up_trans ?_ (by assumption))))⟩
          case measure => simp [intOf]; omega
        · rw [if_neg hle, ← HY.out] at HT
          go_wp2_with fail
          go_roundw
          case rel => exact ⟨k + 1, y, by omega, by go_num, rfl, Lib.hid HT.out.symm, Lib.hid (by have := HB.out; (repeat (first | exact Below.refl _ _ | assumption | refine Below.drew ?_ | refine up_drewN ?_ _ | refine up_alloc ?_ _ | refine up_set ?_ _ _ (by first | exact Nat.le_refl _ | (simp; done) | (simp; omega) | omega) | refine up_trans ?_ (by assumption))))⟩
          case measure => simp [intOf]; omega
      · obtain rfl : k = rs.length := by omega
        have HF := Lib.hid (show z = y by rw [HZ.out, HY.out, List.take_length])
        go_wp2_with fail
        go_ret
        exact ⟨ret_int HF.out.symm, up_trans HW.out HB.out⟩

set_option maxRecDepth 100000 in
set_option maxHeartbeats 2000000 in
theorem specRowOf_any (s : List UInt8) (wd p : Int) (w : World) (hs : s.length ≤ maxLen) :
    Calls Tryd.prog 22 #[S s, .int .i64 wd, .int .i64 p] w fun e w' => e = .returned (.int .i64 (roN s wd p)) ∧ Below w.heap.size w w' := by
  have I := Lib.hid (fun w' => l1In_any p 0 s.length w')
  have R := Lib.hid (fun w' => specWrapRows_any s wd w' hs)
  obtain ⟨z, hz⟩ : ∃ z, z = roN s wd p := ⟨_, rfl⟩
  rw [← hz]
  obtain ⟨b1, hb1⟩ : ∃ b, b = inB p 0 s.length := ⟨_, rfl⟩
  rw [← hb1] at I
  have hn := wrR_len s wd
  have HIN := Lib.hid (wrR_in s wd)
  have HZ0 := Lib.hid (show wrR s wd = [] ∨ b1 = false → z = -1 by
    intro h
    rw [hz]
    unfold roN
    rw [if_neg]
    rintro ⟨h1, h2, h3⟩
    rcases h with h | h
    · unfold wrR at h
      rw [if_pos ⟨h1, h2⟩] at h
      obtain ⟨r, hr, _⟩ := rowsOf_first s (wd := wd.toNat) (by have := inB_iff.1 h2; omega)
      rw [h] at hr
      cases hr
    · rw [h, h3] at hb1
      cases hb1)
  have HZ1 := Lib.hid (show wrR s wd ≠ [] → b1 = true → z = rIx p (-1) (wrR s wd) by
    intro h hb
    rw [hz]
    unfold wrR at h ⊢
    split at h
    · rename_i hv
      rw [if_pos hv]
      have hp : inB p 0 s.length = true := by rw [← hb1, hb]
      unfold roN
      rw [if_pos ⟨hv.1, hv.2, hp⟩]
      obtain ⟨r, hr, h0⟩ := rowsOf_first s (wd := wd.toNat) (by have := inB_iff.1 hv.2; omega)
      exact (rIx_same p 0 (-1) _ ⟨r, hr, by have := inB_iff.1 hp; omega⟩).1
    · exact absurd rfl h)
  generalize wrR s wd = rs at *
  unfold WrPost at R
  have hs' : s.length ≤ 9223372036854775807 := by unfold maxLen at hs; omega
  clear hz hb1
  go_enter Tryd.func22, Tryd.ntmps22
  go_wp2_with fail
  refine (R.out _).mono ?_
  rintro e w1 ⟨v, rfl, ho, hb⟩
  have HW := Lib.hid hb
  have HR := Lib.hid (RdL.of_own (f := rowC) (bs := rs) ho)
  obtain ⟨A, c, rfl, -, -⟩ := HR.out.form
  clear hb ho R
  by_cases hr0 : rs = []
  · have := HZ0.out (.inl hr0)
    subst this
    subst hr0
    simp only [List.length_nil] at *
    go_wp2_with fail
    refine wp_loop_rounds 1 ?_
    rw [rounds_succ]
    go_wp2_with fail
    go_ret
    exact ⟨rfl, HW.out⟩
  have hpos : 0 < rs.length := List.length_pos_iff.2 hr0
  rcases b1 with _ | _
  · have := HZ0.out (.inr rfl)
    subst this
    have i2 : (0 : Int) < (rs.length : Int) := by omega
    go_wp2_with fail
    refine wp_loop_rounds 1 ?_
    rw [rounds_succ]
    go_wp2_with fail
    refine (I.out _).mono ?_
    rintro e w2 ⟨rfl, rfl⟩
    go_wp2_with fail
    go_ret
    exact ⟨rfl, HW.out⟩
  · have HZ := Lib.hid (HZ1.out hr0 rfl)
    clear HZ0 HZ1 hr0 hpos
    go_wp2_with fail
    go_loopw [7, 9] (fun row i wr => ∃ (k : Nat) (y : Int), k ≤ rs.length ∧ i = .int .i64 k ∧ row = .int .i64 y ∧ Hid (y = rIx p (-1) (rs.take k)) ∧ Hid (Below w1.heap.size w1 wr)) (fun _ i _ => rs.length - (intOf i).toNat)
    case atStart => exact ⟨0, -1, Nat.zero_le _, rfl, rfl, Lib.hid rfl, Lib.hid (Below.refl _ _)⟩
    case round =>
      obtain ⟨k, y, hk, rfl, rfl, HY, HB⟩ := hrel
      by_cases hlt : k < rs.length
      · have i1 : (0 : Int) ≤ (k : Int) := by omega
        have i2 : (k : Int) < (rs.length : Int) := by omega
        obtain ⟨b, o, rfl, hbz, c0, c1⟩ := row_cells (HR.out.up HB.out) hlt
        have HT := Lib.hid (rIx_take p (-1) rs k hlt)
        have hin := HIN.out _ (List.getElem_mem hlt)
        obtain ⟨r, hr⟩ : ∃ r, r = rs[k] := ⟨_, rfl⟩
        rw [← hr] at c0 c1 HT hin
        clear hr
        obtain ⟨ra, rb⟩ := r
        simp only at c0 c1 HT hin
        by_cases hle : (ra : Int) ≤ p
        · rw [if_pos hle] at HT
          go_wp2_with fail
          refine (I.out _).mono ?_
          rintro e w3 ⟨rfl, rfl⟩
          go_wp2_with fail
          go_roundw
          case rel => exact ⟨k + 1, k, by omega, by go_num, rfl, Lib.hid HT.out.symm, Lib.hid (by have := HB.out; (repeat (first | exact Below.refl _ _ | assumption | refine Below.drew ?_ | refine up_drewN ?_ _ | refine up_alloc ?_ _ | refine up_set ?_ _ _ (by first | exact Nat.le_refl _ | (simp; done) | (simp; omega) | omega) | refine up_trans ?_ (by assumption))))⟩
          case measure => simp [intOf]; omega
        · rw [if_neg hle, ← HY.out] at HT
          go_wp2_with fail
          refine (I.out _).mono ?_
          rintro e w3 ⟨rfl, rfl⟩
          go_wp2_with fail
          go_roundw
          case rel => exact ⟨k + 1, y, by omega, by go_num, rfl, Lib.hid HT.out.symm, Lib.hid (by have := HB.out; (repeat (first | exact Below.refl _ _ | assumption | refine Below.drew ?_ | refine up_drewN ?_ _ | refine up_alloc ?_ _ | refine up_set ?_ _ _ (by first | exact Nat.le_refl _ | (simp; done) | (simp; omega) | omega) | refine up_trans ?_ (by assumption))))⟩
          case measure => simp [intOf]; omega
      · obtain rfl : k = rs.length := by omega
        have HF := Lib.hid (show z = y by rw [HZ.out, HY.out, List.take_length])
        go_wp2_with fail
        go_ret
        exact ⟨ret_int HF.out.symm, up_trans HW.out HB.out⟩

end Go.Proofs.YtcjgllbhmghkeaaDoor
