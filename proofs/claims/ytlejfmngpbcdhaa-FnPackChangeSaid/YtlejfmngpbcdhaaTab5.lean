/- What is proved here: contracts of the program's text and whole. No condition. -/
import Derived.Test.YtlejfmngpbcdhaaTab4
import Derived.Test.YtlejfmngpbcdhaaStrB
import Derived.Test.YtlejfmngpbcdhaaChg1
namespace Go.Proofs.Ytlejfmngpbcdhaa
open Go.RowKit
set_option linter.unusedVariables false

theorem cut_cut (f : List UInt8) (a n : Nat) : (f.take (a + n)).drop a = (f.drop a).take n := by rw [List.drop_take, Nat.add_sub_cancel_left]
set_option maxRecDepth 100000 in
set_option maxHeartbeats 1000000 in
theorem implText_any (f m : List UInt8) (v : Value) (p : Pc) (w : World) (hp : pcOk f m p = true) (hf : f.length ≤ 1048576) (hm : m.length ≤ 1048576) :
    Calls Try.prog 91 #[tbAgg f m v, .agg #[.bool p.ad, .int .i64 p.st, .int .i64 p.sz]] w fun e w' => e = .returned (S (pcT f m p)) ∧ Below w.heap.size w w' := by
  have hin := pcOk_in hp
  obtain ⟨ad, st, sz⟩ := p
  unfold rmT at hin
  unfold tbAgg
  simp only at hin ⊢
  obtain ⟨a, rfl⟩ : ∃ a : Nat, st = a := ⟨st.toNat, by omega⟩
  obtain ⟨n, rfl⟩ : ∃ n : Nat, sz = n := ⟨sz.toNat, by omega⟩
  rcases ad with _ | _
  · simp only [Bool.false_eq_true, if_false] at hin
    have hadd : IntKind.i64.wrap ((a : Int) + (n : Int)) = ((a + n : Nat) : Int) := by rw [IntWalk.i64_in _ (by omega)]; omega
    have hT := Lib.hid (show pcT f m ⟨false, (a : Int), (n : Int)⟩ = (f.take (a + n)).drop a from (cut_cut f a n).symm)
    have i1 : (a : Int) ≤ ((a + n : Nat) : Int) := by omega
    have i2 : ((a + n : Nat) : Int) ≤ (f.length : Int) := by omega
    have i3 : (0 : Int) ≤ (a : Int) := by omega
    rw [hT.out]
    go_enter Try.func91, Try.ntmps91
    go_wp2_with fail
    go_ret
    exact ⟨rfl, by (repeat (first | exact Below.refl _ _ | assumption | refine Below.drew ?_ | refine up_drewN ?_ _ | refine up_alloc ?_ _ | refine up_set ?_ _ _ (by first | exact Nat.le_refl _ | (simp; done) | (simp; omega) | omega) | refine up_trans ?_ (by assumption)))⟩
  · simp only [if_true] at hin
    have hadd : IntKind.i64.wrap ((a : Int) + (n : Int)) = ((a + n : Nat) : Int) := by rw [IntWalk.i64_in _ (by omega)]; omega
    have hT := Lib.hid (show pcT f m ⟨true, (a : Int), (n : Int)⟩ = (m.take (a + n)).drop a from (cut_cut m a n).symm)
    have i1 : (a : Int) ≤ ((a + n : Nat) : Int) := by omega
    have i2 : ((a + n : Nat) : Int) ≤ (m.length : Int) := by omega
    have i3 : (0 : Int) ≤ (a : Int) := by omega
    rw [hT.out]
    go_enter Try.func91, Try.ntmps91
    go_wp2_with fail
    go_ret
    exact ⟨rfl, by (repeat (first | exact Below.refl _ _ | assumption | refine Below.drew ?_ | refine up_drewN ?_ _ | refine up_alloc ?_ _ | refine up_set ?_ _ _ (by first | exact Nat.le_refl _ | (simp; done) | (simp; omega) | omega) | refine up_trans ?_ (by assumption)))⟩

theorem psSum_take {ps : List Pc} (h : ∀ p ∈ ps, 1 ≤ p.sz) (j : Nat) : psSum (ps.take j) ≤ psSum ps := by
  induction ps generalizing j with
  | nil => simp
  | cons p l ih =>
    cases j with
    | zero => exact psSum_nn h
    | succ j =>
      have := ih (fun q hq => h q (List.mem_cons_of_mem _ hq)) j
      rw [List.take_succ_cons]
      unfold psSum
      omega
theorem bld_up {B b : Nat} {bs : List Value} {w w' : World} (h : Lib.IsBuilder 117 5 B b bs w) (hb : Below w.heap.size w w') : Lib.IsBuilder 117 5 B b bs w' := by
  have key : ∀ p, Lib.BuilderAt 117 5 B b p bs w → Lib.BuilderAt 117 5 B b p bs w' := fun p h => by
    have hlt := h.lt
    obtain ⟨hB, v, hk, ho, hn⟩ := h
    exact ⟨hB, v, (hb.block b hlt).trans hk, own_up ho hb, hn⟩
  rcases h with h | h
  · exact .inl (key _ h)
  · exact .inr (key _ h)
theorem byte_app (l x : List UInt8) : Lib.byteCells l ++ Lib.strCells ⟨x.toArray⟩ = Lib.byteCells (l ++ x) := by
  simp [Lib.byteCells, Lib.strCells]

set_option maxRecDepth 100000 in
set_option maxHeartbeats 2000000 in
theorem implWhole_any (f m : List UInt8) (v : Value) (ps : List Pc) (w : World) (h : RdP w v ps) (hp : ∀ p ∈ ps, pcOk f m p = true) (hs : psSum ps ≤ 120) (hf : f.length ≤ 1048576) (hm : m.length ≤ 1048576) :
    Calls Try.prog 57 #[tbAgg f m v] w fun e w' => e = .returned (S (tbT f m ps)) ∧ Below w.heap.size w w' := by
  obtain ⟨A, c, rfl, hpl, _⟩ := h.form
  unfold maxLen at hpl
  have H := Lib.hid h
  have X := Lib.hid (fun p w hp => implText_any f m (.slice A ps.length c) p w hp hf hm)
  unfold tbAgg at X ⊢
  clear h
  go_enter Try.func57, Try.ntmps57
  go_upto_region 2 with (fail)
  obtain ⟨w1, hw1⟩ : ∃ z, z = (w.alloc (.cells #[S f, S m, .slice A ps.length c] 48)).alloc (.cells #[.pointer none, .slice none 0 0] 117) := ⟨_, rfl⟩
  have hb : Below ((w.alloc (.cells #[S f, S m, .slice A ps.length c] 48)).alloc (.cells #[.pointer none, .slice none 0 0] 117)).heap.size ((w.alloc (.cells #[S f, S m, .slice A ps.length c] 48)).alloc (.cells #[.pointer none, .slice none 0 0] 117)) w1 := by rw [hw1]; exact Below.refl _ _
  have HB1 : Hid (Lib.IsBuilder 117 5 (w.heap.size + 1) (w.heap.size + 1) (Lib.byteCells []) w1) := Lib.hid (.inl ⟨Nat.le_refl _, .slice none 0 0, by rw [hw1]; have := heap_alloc_new (w.alloc (.cells #[S f, S m, .slice A ps.length c] 48)) (.cells #[.pointer none, .slice none 0 0] 117); simpa using this, World.ownsRow_nil _ _ _ _, by simp [Value.ownBlock]⟩)
  have sz1 : w1.heap.size = w.heap.size + 2 := by rw [hw1]; simp
  rw [← hw1]
  have tc : ∀ o, w1.cell? ⟨w.heap.size, o, none⟩ = #[S f, S m, .slice A ps.length c][o]? := (fun o => (hb.cell (p := ⟨w.heap.size, o, none⟩) (by simp <;> omega)).trans (by simp [go_sem])); have tf : ∀ o, w1.frozen? ⟨w.heap.size, o, none⟩ = false := (fun o => (hb.frozen (p := ⟨w.heap.size, o, none⟩) (by simp <;> omega)).trans (by simp [go_sem])); have tz : w.heap.size < w1.heap.size := (by have := hb.size; (try simp at this); omega); have ty := tz
  have hW : Below w.heap.size w w1 := by (repeat (first | exact Below.refl _ _ | assumption | refine Below.drew ?_ | refine up_drewN ?_ _ | refine up_alloc ?_ _ | refine up_set ?_ _ _ (by first | exact Nat.le_refl _ | (simp; done) | (simp; omega) | omega) | refine up_trans ?_ (by assumption)))
  have SZ := Lib.hid sz1
  have PS := Lib.hid hp
  clear hb hw1 hp
  have hsz2 : w.heap.size + 2 ≤ w1.heap.size := by omega
  clear sz1
  go_wp2_with fail
  go_loopw [5, 9] (fun p i wr => ∃ k : Nat, k ≤ ps.length ∧ i = .int .i64 k ∧ Hid (Lib.IsBuilder 117 5 (w.heap.size + 1) (w.heap.size + 1) (Lib.byteCells (tbT f m (ps.take k))) wr) ∧ Hid (Below (w.heap.size + 1) w1 wr)) (fun _ i _ => ps.length - (intOf i).toNat)
  case atStart => exact ⟨0, Nat.zero_le _, rfl, HB1, Lib.hid (Below.refl _ _)⟩
  case round =>
    obtain ⟨k, hk, rfl, HBk, HW⟩ := hrel
    clear HB1
    have hWr := HW.out
    have swr := hWr.size
    have tc2 : ∀ o, wr.cell? ⟨w.heap.size, o, none⟩ = #[S f, S m, .slice A ps.length c][o]? := fun o => (hWr.cell (p := ⟨w.heap.size, o, none⟩) (by show w.heap.size < w.heap.size + 1; omega)).trans (tc o)
    have hW2 : Below w.heap.size w wr := ⟨hWr.os.trans hW.os, hWr.tape.trans hW.tape, hWr.output.trans hW.output, Nat.le_trans hW.size hWr.size, fun i hi => (hWr.block i (by omega)).trans (hW.block i hi)⟩
    have hlen : ∀ j, ((tbT f m (ps.take j)).length : Int) ≤ 120 := fun j => by
      have h1 := tbT_len (ps.take j) (fun q hq => PS.out q (List.mem_of_mem_take hq))
      have h2 : psSum (ps.take j) ≤ psSum ps := psSum_take (fun q hq => (pcOk_in (PS.out q hq)).2.1) j
      omega
    clear hWr
    by_cases hlt : k < ps.length
    · have i1 : (0 : Int) ≤ (k : Int) := by omega
      have i2 : (k : Int) < (ps.length : Int) := by omega
      have hts := Lib.hid (show tbT f m (ps.take (k + 1)) = tbT f m (ps.take k) ++ pcT f m ps[k] by unfold tbT; rw [List.take_succ_eq_append_getElem hlt, List.flatMap_append]; simp)
      obtain ⟨b, o, rfl, hbz, c0, c1, c2⟩ := rdP_cells (H.out.up hW2) hlt
      have hpk := PS.out _ (List.getElem_mem hlt)
      have hpl2 := pcT_len hpk
      have hpin := pcOk_in hpk
      obtain ⟨x, hx⟩ : ∃ x, x = ps[k] := ⟨_, rfl⟩
      rw [← hx] at c0 c1 c2 hts hpk hpl2
      have hk1 := hlen (k + 1)
      have hk0 := hlen k
      rw [hts.out, List.length_append] at hk1
      clear hx hpin hlen
      have X1 := Lib.hid (fun w => X.out x w hpk)
      obtain ⟨ad, st, sz⟩ := x
      simp only at c0 c1 c2 X1
      have tz2 : w.heap.size < wr.heap.size := by omega
      have tn1 : ¬ wr.heap.size = w.heap.size := by omega
      have tn2 : ¬ w.heap.size = wr.heap.size := by omega
      generalize pcT f m ⟨ad, st, sz⟩ = y at *
      go_wp2_with fail
      refine (X1.out _).mono ?_
      rintro e w2 ⟨rfl, hb⟩
      have hB2 : Below wr.heap.size wr w2 := by (repeat (first | exact Below.refl _ _ | assumption | refine Below.drew ?_ | refine up_drewN ?_ _ | refine up_alloc ?_ _ | refine up_set ?_ _ _ (by first | exact Nat.le_refl _ | (simp; done) | (simp; omega) | omega) | refine up_trans ?_ (by assumption)))
      have HB2 := Lib.hid (bld_up HBk.out hB2)
      have HW2 := Lib.hid (show Below (w.heap.size + 1) w1 w2 from ⟨hB2.os.trans HW.out.os, hB2.tape.trans HW.out.tape, hB2.output.trans HW.out.output, Nat.le_trans HW.out.size hB2.size, fun i hi => (hB2.block i (by omega)).trans (HW.out.block i hi)⟩)
      have sw2 := hB2.size
      clear hb hB2 c0 c1 c2 tc2 HBk X1
      go_wp2_with fail
      refine (writeString_any _ _ _ ⟨y.toArray⟩ _ HB2.out (by rw [Lib.byteCells_length]; show _ + y.length ≤ _; omega) (by omega)).mono ?_
      rintro e w3 ⟨rfl, hA, hb3⟩
      rw [byte_app] at hA
      have HB3 : Hid (Lib.IsBuilder 117 5 (w.heap.size + 1) (w.heap.size + 1) (Lib.byteCells (tbT f m (ps.take (k + 1)))) w3) := Lib.hid (.inr (by rw [hts.out]; exact hA))
      have HW3 := Lib.hid (show Below (w.heap.size + 1) w1 w3 from ⟨hb3.os.trans HW2.out.os, hb3.tape.trans HW2.out.tape, hb3.output.trans HW2.out.output, Nat.le_trans HW2.out.size hb3.size, fun i hi => (hb3.block i hi).trans (HW2.out.block i hi)⟩)
      clear hA hb3 HB2
      go_wp2_with fail
      go_roundw
      case rel => exact ⟨k + 1, by omega, by go_num, HB3, HW3⟩
      case measure => simp [intOf]; omega
    · obtain rfl : k = ps.length := by omega
      rw [List.take_length] at HBk
      clear hlen
      go_wp2_with fail
      refine (Try.Builder_String_any _ _ _ _ HBk.out (by omega)).mono ?_
      rintro e w2 ⟨rfl, hb⟩
      go_wp2_with fail
      go_ret
      exact ⟨rfl, ⟨hb.os.trans hW2.os, hb.tape.trans hW2.tape, hb.output.trans hW2.output, Nat.le_trans hW2.size hb.size, fun i hi => (hb.block i (by omega)).trans (hW2.block i hi)⟩⟩

end Go.Proofs.Ytlejfmngpbcdhaa
