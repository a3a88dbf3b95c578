/- What is proved here: contracts of the program's functions on lines and places of valid texts. No condition. -/
import Derived.Test.YtcjgllbhmghkeaaDoorLin0
import Derived.Test.YtcjgllbhmghkeaaDoorText1
import Derived.Test.YtcjgllbhmghkeaaDoorStr
import Derived.Test.YtcjgllbhmghkeaaDoorAlive
import Derived.Test.YtcjgllbhmghkeaaDoorMem
namespace Go.Proofs.YtcjgllbhmghkeaaDoor
open Go.RowKit

theorem i64_info : (Tryd.prog.info? 3).map (fun i => (i.zero, i.size, i.bytes)) = some (some (.int .i64 0), 1, 8) := by kernel_rfl
theorem b10 (c : UInt8) : c = 10 ↔ ((c.toNat : Nat) : Int) = 10 := by
  constructor
  · rintro rfl; rfl
  · intro h
    have : c.toNat = 10 := by omega
    exact UInt8.toNat_inj.1 this
theorem b10n {c : UInt8} (h : c ≠ 10) : ¬ ((c.toNat : Nat) : Int) = 10 := fun e => h ((b10 c).2 e)

theorem isPlaceB_any (s : List UInt8) (a : Int) (w : World) (hs : s.length ≤ maxLen) :
    Calls Tryd.prog 24 #[S s, .int .i64 a] w fun e w' => e = .returned (.bool (tv s && inB a 0 s.length)) ∧ w = w' := by
  rcases ht : tv s with _ | _
  · go_enter Tryd.func24, Tryd.ntmps24
    go_wp2_with fail
    refine (implTextValid_any _ _ hs).mono ?_
    rw [ht]
    rintro e w1 ⟨rfl, rfl⟩
    go_wp2_with fail
    go_ret
    exact ⟨rfl, rfl⟩
  · have hl := tv_len ht
    generalize hr : inB a 0 s.length = r
    have HR := Lib.hid hr
    clear hr
    go_enter Tryd.func24, Tryd.ntmps24
    go_wp2_with fail
    refine (implTextValid_any _ _ hs).mono ?_
    rw [ht]
    rintro e w1 ⟨rfl, rfl⟩
    clear ht
    go_wp2_with fail
    refine (in_any _ _ _ _).mono ?_
    rw [HR.out]
    rintro e w1 ⟨rfl, rfl⟩
    go_wp2_with fail
    go_ret
    exact ⟨rfl, rfl⟩

/-- the last line end of a text, or -1. -/
def LastIs (l : List UInt8) (r : Int) : Prop := (∃ i : Nat, r = i ∧ i < l.length ∧ l[i]? = some 10 ∧ ∀ j : Nat, i < j → l[j]? ≠ some 10) ∨ (r = -1 ∧ ∀ j : Nat, l[j]? ≠ some 10)
def LastPost (l : List UInt8) (w : World) (e : Ending) (w' : World) : Prop := ∃ r, e = .returned (.int .i64 r) ∧ LastIs l r ∧ w = w'

theorem lastByte_any (l : List UInt8) (w : World) (hs : l.length ≤ maxLen) :
    Calls Tryd.prog 63 #[S l, .int .u8 10] w (LastPost l w) := by
  have hs' : l.length ≤ 9223372036854775807 := by unfold maxLen at hs; omega
  go_enter Tryd.func63, Tryd.ntmps63
  go_wp2_with fail
  go_loop [5] (fun i => ∃ k : Nat, k ≤ l.length ∧ i = .int .i64 ((k : Int) - 1) ∧ Hid (∀ j, k ≤ j → l[j]? ≠ some 10)) (fun i => (intOf i + 1).toNat)
  case atStart => exact ⟨l.length, Nat.le_refl _, rfl, Lib.hid fun j hj => by rw [List.getElem?_eq_none (by omega)]; simp⟩
  case round =>
    obtain ⟨k, hk, rfl, hn⟩ := hrel
    by_cases h0 : 0 < k
    · obtain ⟨j, rfl⟩ : ∃ j, k = j + 1 := ⟨k - 1, by omega⟩
      rw [show ((j + 1 : Nat) : Int) - 1 = (j : Int) by omega]
      have hj : j < l.length := by omega
      have i1 : (0 : Int) ≤ (j : Int) := by omega
      have i2 : (j : Int) < (l.length : Int) := by omega
      by_cases hc : l[j] = 10
      · have h10 := (b10 _).1 hc
        have HC := Lib.hid hc
        clear hc
        go_wp2_with fail
        go_ret
        exact ⟨(j : Int), rfl, .inl ⟨j, rfl, hj, by rw [List.getElem?_eq_getElem hj, HC.out], fun i hi => hn.out i (by omega)⟩, rfl⟩
      · have h10 := b10n hc
        have HC := Lib.hid hc
        clear hc
        go_wp2_with fail
        go_round
        case rel =>
          refine ⟨j, by omega, rfl, Lib.hid fun i hi => ?_⟩
          rcases Nat.eq_or_lt_of_le hi with rfl | hi
          · rw [List.getElem?_eq_getElem hj]
            exact fun e => HC.out (by injection e)
          · exact hn.out i (by omega)
        case measure => simp [intOf]
    · obtain rfl : k = 0 := by omega
      go_wp2_with fail
      go_ret
      exact ⟨-1, rfl, .inr ⟨rfl, fun j => hn.out j (by omega)⟩, rfl⟩
theorem lastIndexByte_any (l : List UInt8) (w : World) (hs : l.length ≤ maxLen) :
    Calls Tryd.prog 50 #[S l, .int .u8 10] w (LastPost l w) := by
  go_enter Tryd.func50, Tryd.ntmps50
  go_wp2_with fail
  refine (lastByte_any l _ hs).mono ?_
  rintro e w1 ⟨r, rfl, hr, rfl⟩
  have HR := Lib.hid hr
  clear hr
  go_wp2_with fail
  go_ret
  exact ⟨r, rfl, HR.out, rfl⟩

theorem col_of_last (s : List UInt8) (p : Nat) (hp : p ≤ s.length) (r : Int) (h : LastIs (s.take p) r) : (p : Int) - 1 - r = colOf s p := by
  unfold colOf
  rcases h with ⟨i, rfl, hi, hc, hn⟩ | ⟨rfl, hn⟩
  · rw [List.length_take] at hi
    have e := last_nl s p hp i (by omega) (by rw [List.getElem?_take] at hc; rwa [if_pos (by omega)] at hc) (fun j h1 h2 => by have := hn j h1; rw [List.getElem?_take, if_pos h2] at this; exact this)
    rw [e]; omega
  · have e := no_nl s p hp (fun j h => by have := hn j; rw [List.getElem?_take, if_pos h] at this; exact this)
    rw [e]; omega

theorem implLineOf_any (s : List UInt8) (p : Nat) (w : World) (hs : tv s = true) (hp : p ≤ s.length) :
    Calls Tryd.prog 86 #[S s, .int .i64 p] w fun e w' => e = .returned (.int .i64 (nl (s.take p))) ∧ w = w' := by
  have hl := tv_len hs
  have hi : inB (p : Int) 0 s.length = true := inB_iff.2 ⟨by omega, by omega⟩
  have hpi : (p : Int) ≤ s.length := by omega
  go_enter Tryd.func86, Tryd.ntmps86
  go_wp2_with fail
  refine (isPlaceB_any _ _ _ (by unfold maxLen; omega)).mono ?_
  rw [hs, hi]
  rintro e w1 ⟨rfl, rfl⟩
  clear hs hi
  go_wp2_with fail
  refine (Tryd.strings_Count_one _ _ _).mono ?_
  rintro e w1 ⟨rfl, rfl⟩
  go_wp2_with fail
  go_ret
  exact ⟨ret_int (by simp [Lib.countByte, nl]), rfl⟩

theorem implColumnOf_any (s : List UInt8) (p : Nat) (w : World) (hs : tv s = true) (hp : p ≤ s.length) :
    Calls Tryd.prog 94 #[S s, .int .i64 p] w fun e w' => e = .returned (.int .i64 (colOf s p)) ∧ w = w' := by
  have hl := tv_len hs
  have hi : inB (p : Int) 0 s.length = true := inB_iff.2 ⟨by omega, by omega⟩
  have hpi : (p : Int) ≤ s.length := by omega
  have hq := col_of_last s p hp
  have HQ := Lib.hid hq
  clear hq
  go_enter Tryd.func94, Tryd.ntmps94
  go_wp2_with fail
  refine (isPlaceB_any _ _ _ (by unfold maxLen; omega)).mono ?_
  rw [hs, hi]
  rintro e w1 ⟨rfl, rfl⟩
  clear hs hi
  go_wp2_with fail
  refine (lastIndexByte_any (s.take p) _ (by unfold maxLen; rw [List.length_take]; omega)).mono ?_
  rintro e w1 ⟨r, rfl, hr, rfl⟩
  have hr2 : -1 ≤ r ∧ r < 121 := by
    rcases hr with ⟨i, rfl, hi, _⟩ | ⟨rfl, _⟩
    · rw [List.length_take] at hi; omega
    · omega
  have HR := Lib.hid (HQ.out r hr)
  clear hr HQ
  go_wp2_with fail
  go_ret
  exact ⟨ret_int HR.out, rfl⟩

def natC (k : Nat) : Value := .int .i64 (k : Int)
def StartsPost (s : List UInt8) (w : World) (e : Ending) (w' : World) : Prop :=
  ∃ v, e = .returned v ∧ Own w' w.heap.size 3 1 v (sts s).length ((sts s).map natC) ∧ Below w.heap.size w w'
set_option maxRecDepth 100000 in
set_option maxHeartbeats 1000000 in
theorem starts_any (s : List UInt8) (w : World) (hl : s.length ≤ 120) :
    Calls Tryd.prog 101 #[S s] w (StartsPost s w) := by
  obtain ⟨i0, hi, hz0, hz1, hz2⟩ := info_parts i64_info
  go_enter Tryd.func101, Tryd.ntmps101
  go_wp2_with fail
  have ho : Own (w.alloc (.cells #[.int .i64 0] 3)) w.heap.size 3 1 (.slice (some ⟨w.heap.size, 0, none⟩) 1 1) 1 [Value.int .i64 0] :=
    World.ownsRow_lit (base := w.heap.size) (e := 3) (size := 1) w #[.int .i64 0] 1 (Nat.le_refl _) (by unfold maxLen; omega) rfl
  have HO : Hid (Own (w.alloc (.cells #[.int .i64 0] 3)) w.heap.size 3 1 (.slice (some ⟨w.heap.size, 0, none⟩) 1 1) (sts (s.take 0)).length ((sts (s.take 0)).map natC)) := Lib.hid (by simpa [sts, natC] using ho)
  clear ho
  go_loopw [3, 8] (fun v i wr => ∃ (v0 : Value) (k : Nat), k ≤ s.length ∧ i = .int .i64 k ∧ v0 = v ∧ Hid (Own wr w.heap.size 3 1 v (sts (s.take k)).length ((sts (s.take k)).map natC)) ∧ Hid (Below w.heap.size w wr)) (fun _ i _ => s.length - (intOf i).toNat)
  case atStart => exact ⟨_, 0, Nat.zero_le _, rfl, rfl, HO, Lib.hid (by (repeat (first | exact Below.refl _ _ | assumption | refine Below.drew ?_ | refine up_drewN ?_ _ | refine up_alloc ?_ _ | refine up_set ?_ _ _ (by first | exact Nat.le_refl _ | (simp; done) | (simp; omega) | omega) | refine up_trans ?_ (by assumption))))⟩
  case round =>
    obtain ⟨v0, k, hk, rfl, rfl, HOr, HWr⟩ := hrel
    clear HO
    by_cases hlt : k < s.length
    · have i1 : (0 : Int) ≤ (k : Int) := by omega
      have i2 : (k : Int) < (s.length : Int) := by omega
      have HT := Lib.hid (sts_take s k hlt)
      have hsl : (sts (s.take k)).length ≤ 121 := by rw [sts_len s k hk]; have := nl_le (s.take k); rw [List.length_take] at this; omega
      have hsz := HWr.out.size
      by_cases hc : s[k] = 10
      · have h10 := (b10 _).1 hc
        have HC := Lib.hid hc
        clear hc
        go_wp2_with (at_builtin; refine wpList_append_own _ rfl _ _ 44 rfl w.heap.size 3 i0 _ 1 8 Tryd.underlying44 hi hz0 hz1 hz2 rfl (by decide) _ _ _ rfl (HOr.out.alloc _) ⟨wr.heap.size, 0, none⟩ 1 1 [.int .i64 ((k : Int) + 1)] rfl rfl (cells_new _ _ _) (by intro u hu; simp at hu; subst hu; rfl) (by unfold maxLen; omega) (by omega) (by simp; omega) ?_; intro v5 w5 how5 hgr5 _)
        have HW5 := Lib.hid (up_grown (up_alloc HWr.out _) hgr5 (own_lt HOr.out (Nat.le_refl _)))
        have HO5 := Lib.hid how5
        clear how5 hgr5
        go_wp2_with fail
        go_roundw
        case rel =>
          refine ⟨_, k + 1, by omega, by go_num, rfl, Lib.hid ?_, HW5⟩
          rw [HT.out, if_pos HC.out, List.length_append, List.map_append]
          exact HO5.out
        case measure => simp [intOf]; omega
      · have h10 := b10n hc
        have HC := Lib.hid hc
        clear hc
        go_wp2_with fail
        go_roundw
        case rel =>
          refine ⟨_, k + 1, by omega, by go_num, rfl, Lib.hid ?_, HWr⟩
          rw [HT.out, if_neg HC.out, List.append_nil]
          exact HOr.out
        case measure => simp [intOf]; omega
    · obtain rfl : k = s.length := by omega
      go_wp2_with fail
      go_ret
      have := HOr.out
      rw [List.take_length] at this
      exact ⟨_, rfl, this, HWr.out⟩

theorem isLine_any (s : List UInt8) (q : Int) (w : World) (hs : tv s = true) :
    Calls Tryd.prog 85 #[S s, .int .i64 q] w fun e w' => e = .returned (.bool (inB q 0 (nl s))) ∧ w = w' := by
  have hl := tv_len hs
  have hn := nl_le s
  generalize hr : inB q 0 (nl s) = r
  have HR := Lib.hid hr
  clear hr
  go_enter Tryd.func85, Tryd.ntmps85
  go_wp2_with fail
  refine (implTextValid_any _ _ (by unfold maxLen; omega)).mono ?_
  rw [hs]
  rintro e w1 ⟨rfl, rfl⟩
  go_wp2_with fail
  refine (implLineMany_any _ _ (by unfold maxLen; omega)).mono ?_
  rw [hs, show Lib.countByte s 10 = nl s from rfl, if_pos rfl]
  rintro e w1 ⟨rfl, rfl⟩
  clear hs
  go_wp2_with fail
  refine (in_any _ _ _ _).mono ?_
  rw [show (1 + (nl s : Int) - 1) = (nl s : Int) by omega, HR.out]
  rintro e w1 ⟨rfl, rfl⟩
  go_wp2_with fail
  go_ret
  exact ⟨rfl, rfl⟩

theorem sts_cell {w : World} {base : Nat} {s : List UInt8} {v : Value} {q : Nat} (h : Own w base 3 1 v (sts s).length ((sts s).map natC)) (hq : q ≤ nl s) :
    ∃ b cap, v = .slice (some ⟨b, 0, none⟩) (nl s + 1) cap ∧ w.cell? ⟨b, q, none⟩ = some (.int .i64 (lst s q)) := by
  have hl := sts_len s s.length (Nat.le_refl _)
  rw [List.take_length] at hl
  rcases h.2 with ⟨_, h0⟩ | ⟨g, cap, cur, hv, _⟩
  · omega
  · refine ⟨g, cap, by rw [← hl]; exact hv, ?_⟩
    subst hv
    rw [h.cellAt q (by omega), List.getElem?_map, (lst_spec s q hq).2.2]
    rfl

set_option maxRecDepth 100000 in
set_option maxHeartbeats 1000000 in
theorem implLineStart_any (s : List UInt8) (q : Nat) (w : World) (hs : tv s = true) (hq : q ≤ nl s) :
    Calls Tryd.prog 99 #[S s, .int .i64 q] w fun e w' => e = .returned (.int .i64 (lst s q)) ∧ Below w.heap.size w w' := by
  have hl := tv_len hs
  have hi : inB (q : Int) 0 (nl s) = true := inB_iff.2 ⟨by omega, by omega⟩
  go_enter Tryd.func99, Tryd.ntmps99
  go_wp2_with fail
  refine (isLine_any _ _ _ hs).mono ?_
  rw [hi]
  rintro e w1 ⟨rfl, rfl⟩
  clear hs hi
  go_wp2_with fail
  refine (starts_any s _ hl).mono ?_
  rintro e w1 ⟨v, rfl, ho, hb⟩
  obtain ⟨b, cap, rfl, hc⟩ := sts_cell ho hq
  have i1 : (0 : Int) ≤ (q : Int) := by omega
  have i2 : (q : Int) < (nl s : Int) + 1 := by omega
  clear ho
  go_wp2_with fail
  go_ret
  exact ⟨rfl, hb⟩

set_option maxRecDepth 100000 in
set_option maxHeartbeats 1000000 in
theorem implLineEnd_any (s : List UInt8) (q : Nat) (w : World) (hs : tv s = true) (hq : q ≤ nl s) :
    Calls Tryd.prog 100 #[S s, .int .i64 q] w fun e w' => e = .returned (.int .i64 (lend s q)) ∧ Below w.heap.size w w' := by
  have hl := tv_len hs
  have hi : inB (q : Int) 0 (nl s) = true := inB_iff.2 ⟨by omega, by omega⟩
  have h1 := (lst_spec s q hq).1
  have h2 := run10_le (s.drop (lst s q))
  rw [List.length_drop] at h2
  have HI := Lib.hid (run10_index (s.drop (lst s q)))
  have HE := Lib.hid (show lend s q = lst s q + run10 (s.drop (lst s q)) from rfl)
  obtain ⟨a, ha⟩ : ∃ a, a = lst s q := ⟨_, rfl⟩
  obtain ⟨r, hr⟩ : ∃ r, r = run10 (s.drop (lst s q)) := ⟨_, rfl⟩
  rw [← hr] at HI HE h2
  rw [← ha] at HI HE h1 h2
  rw [List.length_drop] at HI
  have HA := Lib.hid ha
  clear hr ha
  go_enter Tryd.func100, Tryd.ntmps100
  go_wp2_with fail
  refine (isLine_any _ _ _ hs).mono ?_
  rw [hi]
  rintro e w1 ⟨rfl, rfl⟩
  clear hs hi
  go_wp2_with fail
  refine (starts_any s _ hl).mono ?_
  rintro e w1 ⟨v, rfl, ho, hb⟩
  obtain ⟨b, cap, rfl, hc⟩ := sts_cell ho hq
  rw [← HA.out] at hc
  have i1 : (0 : Int) ≤ (q : Int) := by omega
  have i2 : (q : Int) < (nl s : Int) + 1 := by omega
  have i3 : (a : Int) ≤ (s.length : Int) := by omega
  clear ho
  by_cases hlt : r < s.length - a
  · have HJ := Lib.hid (show Lib.indexByte (s.drop a) 10 = (r : Int) by rw [HI.out, if_pos hlt])
    go_wp2_with fail
    refine (Tryd.strings_IndexByte _ 10 _).mono ?_
    rintro e w2 ⟨rfl, rfl⟩
    rw [show Lib.indexByte _ (Int.toNat 10).toUInt8 = (r : Int) by first | exact HJ.out | (simp; exact HJ.out)]
    go_wp2_with fail
    go_ret
    exact ⟨ret_int (by rw [HE.out]; omega), hb⟩
  · have HJ := Lib.hid (show Lib.indexByte (s.drop a) 10 = -1 by rw [HI.out, if_neg hlt])
    go_wp2_with fail
    refine (Tryd.strings_IndexByte _ 10 _).mono ?_
    rintro e w2 ⟨rfl, rfl⟩
    rw [show Lib.indexByte _ (Int.toNat 10).toUInt8 = -1 by first | exact HJ.out | (simp; exact HJ.out)]
    go_wp2_with fail
    go_ret
    exact ⟨ret_int (by rw [HE.out]; omega), hb⟩

/-- the place of a line and a column. -/
def pAt (s : List UInt8) (q : Nat) (c : Int) : Int := (lst s q : Int) + min c ((lend s q : Int) - lst s q)
set_option maxRecDepth 100000 in
set_option maxHeartbeats 1000000 in
theorem implPlaceAt_any (s : List UInt8) (q : Nat) (c : Int) (w : World) (hs : tv s = true) (hq : q ≤ nl s) (hc : 0 ≤ c) (hc2 : c ≤ 120) :
    Calls Tryd.prog 95 #[S s, .int .i64 q, .int .i64 c] w fun e w' => e = .returned (.int .i64 (pAt s q c)) ∧ Below w.heap.size w w' := by
  have hW := Below.refl w.heap.size w
  have hl := tv_len hs
  have hi : inB (q : Int) 0 (nl s) = true := inB_iff.2 ⟨by omega, by omega⟩
  have h1 := lend_le s q hq
  have h2 : pAt s q c = (lst s q : Int) + min c ((lend s q : Int) - lst s q) := rfl
  have H2 := Lib.hid h2
  clear h2
  go_enter Tryd.func95, Tryd.ntmps95
  go_wp2_with fail
  refine (isLine_any _ _ _ hs).mono ?_
  rw [hi]
  rintro e w1 ⟨rfl, rfl⟩
  clear hi
  go_wp2_with fail
  refine (implLineStart_any _ _ _ hs hq).mono ?_
  rintro e w1 ⟨rfl, hb⟩
  have hB : Below w.heap.size w w1 := (by (repeat (first | exact Below.refl _ _ | assumption | refine Below.drew ?_ | refine up_drewN ?_ _ | refine up_alloc ?_ _ | refine up_set ?_ _ _ (by first | exact Nat.le_refl _ | (simp; done) | (simp; omega) | omega) | refine up_trans ?_ (by assumption)))); have sw1 := hB.size; replace hW := up_trans hW hB; clear hB
  clear hb
  go_wp2_with fail
  refine (implLineEnd_any _ _ _ hs hq).mono ?_
  rintro e w2 ⟨rfl, hb⟩
  have hB : Below w1.heap.size w1 w2 := (by (repeat (first | exact Below.refl _ _ | assumption | refine Below.drew ?_ | refine up_drewN ?_ _ | refine up_alloc ?_ _ | refine up_set ?_ _ _ (by first | exact Nat.le_refl _ | (simp; done) | (simp; omega) | omega) | refine up_trans ?_ (by assumption)))); have sw2 := hB.size; replace hW := up_trans hW hB; clear hB
  clear hb
  generalize lst s q = a at *
  generalize lend s q = b at *
  by_cases hlt : (b : Int) - a < c
  all_goals
    go_wp2_with fail
    go_ret
    exact ⟨ret_int (by rw [H2.out]; omega), hW⟩

end Go.Proofs.YtcjgllbhmghkeaaDoor
