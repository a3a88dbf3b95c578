/- What is proved here: What is proved here: contracts of the functions that the program's run hands to each. Condition: the cell of the library's MaxLen holds an int. What is proved here: contracts of the program's each for its three functions. Condition: the cell of the library's MaxLen holds an int. What is proved here: the contract of the program's copied. Condition: what the library's variables hold. What is proved here: contracts of the program's run and RunLine. Condition: what the library's variables hold. No condition. -/
import Derived.Test.YtbjlkdenkmbepaaGreatDoorRn0
import Derived.Test.YtbjlkdenkmbepaaGreatDoorAc12i
import Derived.Test.YtbjlkdenkmbepaaGreatDoorBase
import Derived.BigQuiet
import Derived.Test.YtbjlkdenkmbepaaGreatDoorAc19
import Derived.Test.YtbjlkdenkmbepaaGreatDoorDo4
import Derived.Test.YtbjlkdenkmbepaaGreatDoorAc2
import Derived.Test.YtbjlkdenkmbepaaGreatDoorAc14
namespace Go.Proofs.YtbjlkdenkmbepaaGreatDoor
open Go.RowKit
set_option linter.unusedVariables false

/-- what a function of each gives for a line: the changed line, or nothing if that is not valid. -/
def ClPost (F : List UInt8 → List UInt8) (x : List UInt8) (w : World) (e : Ending) (w' : World) : Prop :=
  ∃ (z : List UInt8) (ok : Bool), e = .returned (.tuple #[S z, .bool ok]) ∧ (ok = true → z = F x) ∧ (ok = false → tv (F x) = false) ∧ Below w.heap.size w w'
theorem run1_any (x : List UInt8) (w : World) (hx : x.length ≤ 1048576) :
    Calls Tryz.prog 172 #[S x] w (ClPost (fun l => 32 :: l) x w) := by
  unfold ClPost
  go_enter Tryz.func172, Tryz.ntmps172
  go_wp2_with fail
  go_ret2
  exact ⟨32 :: x, true, (by simp), fun _ => rfl, (fun h => by cases h), Below.refl _ _⟩
theorem run2_any (x : List UInt8) (w : World) (hx : x.length ≤ 1048576) :
    Calls Tryz.prog 173 #[S x] w (ClPost trm x w) := by
  have H := Lib.hid (Tryz.strings_TrimPrefix ⟨x.toArray⟩ ⟨[32].toArray⟩ w)
  rw [trm_eq] at H
  unfold ClPost
  generalize hz : trm x = z at *
  clear hz
  go_enter Tryz.func173, Tryz.ntmps173
  go_wp2_with fail
  refine H.out.mono ?_
  rintro e w1 ⟨rfl, hw⟩
  rw [hw]
  clear hw
  go_wp2_with fail
  go_ret2
  exact ⟨z, true, rfl, fun _ => rfl, (fun h => by cases h), Below.refl _ _⟩
set_option maxRecDepth 100000 in
set_option maxHeartbeats 1000000 in
theorem run3_any (x t u : List UInt8) (q g c : Nat) (w : World) (hx : tv x = true) (hne : t ≠ []) (ht : t.length ≤ 1048576) (hu : u.length ≤ 1048576) (hm : MX w) (hq : q < w.heap.size) (hg : g < w.heap.size)
    (c0 : w.cell? ⟨q, 0, none⟩ = some (.slice (some ⟨g, 0, none⟩) 4 c)) (c1 : w.cell? ⟨g, 1, none⟩ = some (S t)) (c2 : w.cell? ⟨g, 2, none⟩ = some (S u)) :
    Calls Tryz.prog 175 #[S x, .pointer (some ⟨q, 0, none⟩)] w (ClPost (rpT t u) x w) := by
  have hnu := UpW.nonempty w
  obtain ⟨z, ok, hz⟩ : ∃ (z : List UInt8) (ok : Bool), RpIs t u x z ok := by
    rcases hb : tv (rpT t u x) with _ | _
    · exact ⟨x, false, (fun h => by rw [hb] at h; cases h), fun _ => ⟨rfl, rfl⟩⟩
    · exact ⟨rpT t u x, true, fun _ => ⟨rfl, rfl⟩, (fun h => by rw [hb] at h; cases h)⟩
  have C1 := Lib.hid (fun y : UpW w => calls_up (implReplacePlaces_any x t u (y.at w) hx hne ht hu (hm.up y.below) z ok hz))
  have HZ := Lib.hid (show (ok = true → z = rpT t u x) ∧ (ok = false → tv (rpT t u x) = false) by
    rcases hb : tv (rpT t u x) with _ | _
    · obtain ⟨_, h2⟩ := hz.2 hb
      exact ⟨(fun h => by rw [h2] at h; cases h), fun _ => rfl⟩
    · obtain ⟨h1, h2⟩ := hz.1 hb
      exact ⟨fun _ => h1, (fun h => by rw [h2] at h; cases h)⟩)
  unfold ClPost
  generalize rpT t u x = R at *
  clear hz hx hne hm
  go_enter Tryz.func175, Tryz.ntmps175
  go_wp2_with fail
  refine wp_region_up_lit (by kernel_rfl) (by kernel_rfl) ?_
  repeat (go_big_quiet_step ((go_at_call 176; exact C1.out _)))
  refine wpQuiet_nil ?_
  intro w1 hb1
  have HB := Lib.hid (UpW.out hb1)
  clear hb1 C1 c0 c1 c2 hnu
  go_wp2_with fail
  go_ret2
  exact ⟨z, ok, rfl, HZ.out.1, HZ.out.2, HB.out⟩

end Go.Proofs.YtbjlkdenkmbepaaGreatDoor

namespace Go.Proofs.YtbjlkdenkmbepaaGreatDoor
open Go.RowKit
set_option linter.unusedVariables false

/-- what each gives. -/
def EachPost (M : List (List UInt8)) (w : World) (e : Ending) (w' : World) : Prop :=
  ∃ (z : List UInt8) (ok : Bool), e = .returned (.tuple #[S z, .bool ok]) ∧ (tv (jn M) = true → z = jn M ∧ ok = true) ∧ (tv (jn M) = false → ok = false) ∧ Below w.heap.size w w'
set_option maxRecDepth 100000 in
set_option maxHeartbeats 2000000 in
theorem each1_any (s : List UInt8) (f t : Nat) (w : World) (hs : tv s = true) (hft : f ≤ t) (ht : t ≤ nl s) (hmx : MX w) :
    Calls Tryz.prog 171 #[.agg #[S s, .int .i64 f, .int .i64 t], .func (.func 172) #[] #[]] w (EachPost (mapTo (fun l => 32 :: l) f (t + 1) (lns s)) w) := by
  obtain ⟨F, hF0⟩ : ∃ F : List UInt8 → List UInt8, F = fun l => 32 :: l := ⟨_, rfl⟩
  have hF : ∀ x ∈ lns s, (F x).length ≤ 130000000 := fun x hx => by
    have := tv_len ((lns_mem hx).2 hs)
    rw [hF0, List.length_cons]
    omega
  have hcl : ∀ (x : List UInt8) (wr : World), x ∈ lns s → Below w.heap.size w wr → ∀ {k m : Nat} {V V2 : Array Value}, Hid (Is wr k V) → Hid (Is wr m V2) → ∀ {b : Nat}, b ≤ wr.heap.size → Calls Tryz.prog 172 #[S x] wr (ClPost F x wr) := fun x wr hx hb _ _ _ _ _ _ _ _ => by
    rw [hF0]
    exact run1_any x wr (by have := tv_len ((lns_mem hx).2 hs); omega)
  rw [← hF0]
  clear hF0
  have hl := tv_len hs
  have hnl := nl_le s
  have LO := Lib.hid (fun w hm => linesOf_any s w hl hm)
  unfold LnPost at LO
  rw [lnsV_flat] at LO
  have hll := lns_len s
  have HMX := Lib.hid hmx
  have HJL := Lib.hid (mapTo_jn_len F f (t + 1) s hs (by omega) (by rw [lns_len]; omega) hF)
  have HTV := Lib.hid (fun (i : Nat) (hi : i < (lns s).length) (h1 : f ≤ i) (h2 : i ≤ t) (h3 : tv (F (lns s)[i]) = false) => (show tv (jn (mapTo F f (t + 1) (lns s))) = false by
    rw [Bool.eq_false_iff]
    intro h4
    have h5 := jn_mem_tv h4 (mapTo_mem (f := F) (a := f) (i := t + 1) (k := i) (xs := lns s) h1 (by omega) (by rw [lns_len]; omega))
    rw [h3] at h5
    cases h5))
  have TV := Lib.hid (fun w => implTextValid_any (jn (mapTo F f (t + 1) (lns s))) w (by have := HJL.out; unfold maxLen; omega))
  unfold EachPost
  generalize lns s = L at *
  generalize hn : nl s + 1 = n at *
  generalize hJ : jn (mapTo F f (t + 1) L) = J at *
  have HJ := Lib.hid hJ
  have CL := Lib.hid hcl
  clear hs hF hmx hJ hcl
  go_enter Tryz.func171, Tryz.ntmps171
  go_wp2_with fail
  refine (LO.out _ (HMX.out.up (by exact bBel))).mono ?_
  rintro e w1 ⟨g, rfl, ho, hb⟩
  have xc : ∀ o, w1.cell? ⟨w.heap.size, o, none⟩ = #[S s, .int .i64 f, .int .i64 t][o]? := (fun o => (hb.cell (p := ⟨w.heap.size, o, none⟩) (by simp <;> omega)).trans (by simp [go_sem])); have xf : ∀ o, w1.frozen? ⟨w.heap.size, o, none⟩ = false := (fun o => (hb.frozen (p := ⟨w.heap.size, o, none⟩) (by simp <;> omega)).trans (by simp [go_sem])); have xz : w.heap.size < w1.heap.size := (by have := hb.size; (try simp at this); omega); have xy := xz
  have hW : Below w.heap.size w w1 := by exact bBel
  have HIs := Lib.hid (own_row_is ho)
  obtain ⟨_, _, _, -, hg1, _⟩ := row_form ho (by omega)
  have hgo := ho.lt g rfl
  have hgx : w.heap.size < g := by have := hgo.1; simp at this; omega
  have hg2 : g < w1.heap.size := hgo.2
  have HX := Lib.hid (show Is w1 w.heap.size #[S s, .int .i64 f, .int .i64 t] from ⟨xc, xf⟩)
  have HW1 := Lib.hid hW
  have s1 := hW.size
  clear ho hb LO HMX hgo hg1 xy hW
  go_wp2_with fail
  go_loopw [7, 8, 9] (fun i nx o wr => ∃ (k : Nat) (v8 v9 : Value), nx = v8 ∧ o = v9 ∧ f ≤ k ∧ k ≤ t + 1 ∧ i = .int .i64 k ∧ Hid (Is wr g ((mapTo F f k L).flatMap strC).toArray) ∧ Hid (Is wr w.heap.size #[S s, .int .i64 f, .int .i64 t]) ∧ Hid (Below w.heap.size w wr) ∧ w1.heap.size ≤ wr.heap.size) (fun i _ _ _ => t + 1 - (intOf i).toNat)
  case atStart => exact ⟨f, _, _, rfl, rfl, Nat.le_refl _, by omega, rfl, Lib.hid (by rw [mapTo_start]; exact HIs.out), HX, HW1, Nat.le_refl _⟩
  case round =>
    obtain ⟨k, v8, v9, rfl, rfl, hk0, hk, rfl, HIr, HXr, HWr, swr⟩ := hrel
    clear HIs HX HW1 xc xf
    have xc := HXr.out.1
    have xf := HXr.out.2
    have i0 : (0 : Int) ≤ (k : Int) := by omega
    by_cases hlt : k ≤ t
    · have hkl : k < L.length := by omega
      have i1 : (k : Int) ≤ (t : Int) := by omega
      have i2 : (k : Int) < (n : Int) := by omega
      have gc : wr.cell? ⟨g, k, none⟩ = some (S L[k]) := by
        rw [HIr.out.1, List.getElem?_toArray]
        exact flat_at1 _ _ _ (mapTo_at hk0 hkl)
      have HST := Lib.hid (mapTo_step (f := F) hk0 hkl)
      have HM := Lib.hid (mapTo_len (f := F) hk0 (Nat.le_of_lt hkl))
      have HCL := Lib.hid (CL.out L[k] wr (List.getElem_mem hkl) HWr.out HIr HXr swr)
      have HT := Lib.hid (HTV.out k hkl hk0 hlt)
      unfold ClPost at HCL
      obtain ⟨y, hy⟩ : ∃ y, y = L[k] := ⟨_, rfl⟩
      rw [← hy] at gc HST HCL HT
      generalize F y = Fy at *
      clear hy
      go_wp2_with fail
      refine HCL.out.mono ?_
      rintro e w2 ⟨z, ok, rfl, hz1, hz2, hb2⟩
      have HI2 := Lib.hid (HIr.out.up (by omega) hb2)
      have HX2 := Lib.hid (HXr.out.up (by omega) hb2)
      have HW2 := Lib.hid (up_trans HWr.out hb2)
      have s2 := hb2.size
      clear hb2 HCL xc xf gc
      rcases ok with _ | _
      · have HF := Lib.hid (HT.out (hz2 rfl))
        clear hz1 hz2 HT
        go_wp2_with fail
        go_ret2
        exact ⟨[], false, rfl, (fun h => by rw [HF.out] at h; cases h), fun _ => rfl, HW2.out⟩
      · have hz := hz1 rfl
        subst hz
        clear hz1 hz2 HT
        have gf := HI2.out.2
        have hsz : k < ((mapTo F f k L).flatMap strC).toArray.size := by rw [List.size_toArray, flat_len1, HM.out]; exact hkl
        have gc2 := (HI2.out.1 k).trans (Array.getElem?_eq_getElem hsz)
        have HI3 := Lib.hid (show Is (w2.setCell ⟨g, k, none⟩ (S z)) g ((mapTo F f (k + 1) L).flatMap strC).toArray by
          have h1 := HI2.out.set hsz (S z)
          rw [List.setIfInBounds_toArray, ← flat_set1, HST.out] at h1
          exact h1)
        have HX3 := Lib.hid (show Is (w2.setCell ⟨g, k, none⟩ (S z)) w.heap.size #[S s, .int .i64 f, .int .i64 t] from HX2.out.of_block (Below.heap_setCell _ _ _ _ (by show w.heap.size ≠ g; omega)))
        have HW3 := Lib.hid (up_set HW2.out ⟨g, k, none⟩ (S z) (by show w.heap.size ≤ g; omega))
        clear HI2 HX2 HW2
        go_wp2_with fail
        go_roundw
        case rel => exact ⟨k + 1, _, _, rfl, rfl, by omega, by omega, by go_num, HI3, HX3, HW3, by simpa using Nat.le_trans swr s2⟩
        case measure => simp [intOf]; omega
    · obtain rfl : k = t + 1 := by omega
      have i1 : ¬ ((t + 1 : Nat) : Int) ≤ (t : Int) := by omega
      have hML := mapTo_len (f := F) hk0 (show t + 1 ≤ L.length by omega)
      have HR := Lib.hid (is_rd (n := n) (c := n) (C := mapTo F f (t + 1) L) HIr.out (by omega) (by omega) (Nat.le_refl _) (by omega) (fun j u hu => hu))
      have HMn := Lib.hid (show (mapTo F f (t + 1) L).length = n by omega)
      clear HIr HXr HTV CL hML
      go_wp2_with fail
      refine (joinS_any g 0 n n (mapTo F f (t + 1) L) wr HR.out HMn.out (by omega) (by rw [HJ.out]; exact HJL.out) (by omega)).mono ?_
      rw [HJ.out]
      rintro e w2 ⟨rfl, hb2⟩
      have HW2 := Lib.hid (up_trans HWr.out hb2)
      clear hb2 xc xf
      go_wp2_with fail
      refine (TV.out _).mono ?_
      rintro e w3 ⟨rfl, rfl⟩
      go_wp2_with fail
      go_ret2
      exact ⟨J, tv J, rfl, fun h => ⟨rfl, h⟩, fun h => h, HW2.out⟩
set_option maxRecDepth 100000 in
set_option maxHeartbeats 2000000 in
theorem each2_any (s : List UInt8) (f t : Nat) (w : World) (hs : tv s = true) (hft : f ≤ t) (ht : t ≤ nl s) (hmx : MX w) :
    Calls Tryz.prog 171 #[.agg #[S s, .int .i64 f, .int .i64 t], .func (.func 173) #[] #[]] w (EachPost (mapTo trm f (t + 1) (lns s)) w) := by
  obtain ⟨F, hF0⟩ : ∃ F : List UInt8 → List UInt8, F = trm := ⟨_, rfl⟩
  have hF : ∀ x ∈ lns s, (F x).length ≤ 130000000 := fun x hx => by
    have h1 := tv_len ((lns_mem hx).2 hs)
    have h2 : (trm x).length ≤ x.length := by unfold trm; split <;> simp
    rw [hF0]
    omega
  have hcl : ∀ (x : List UInt8) (wr : World), x ∈ lns s → Below w.heap.size w wr → ∀ {k m : Nat} {V V2 : Array Value}, Hid (Is wr k V) → Hid (Is wr m V2) → ∀ {b : Nat}, b ≤ wr.heap.size → Calls Tryz.prog 173 #[S x] wr (ClPost F x wr) := fun x wr hx hb _ _ _ _ _ _ _ _ => by
    rw [hF0]
    exact run2_any x wr (by have := tv_len ((lns_mem hx).2 hs); omega)
  rw [← hF0]
  clear hF0
  have hl := tv_len hs
  have hnl := nl_le s
  have LO := Lib.hid (fun w hm => linesOf_any s w hl hm)
  unfold LnPost at LO
  rw [lnsV_flat] at LO
  have hll := lns_len s
  have HMX := Lib.hid hmx
  have HJL := Lib.hid (mapTo_jn_len F f (t + 1) s hs (by omega) (by rw [lns_len]; omega) hF)
  have HTV := Lib.hid (fun (i : Nat) (hi : i < (lns s).length) (h1 : f ≤ i) (h2 : i ≤ t) (h3 : tv (F (lns s)[i]) = false) => (show tv (jn (mapTo F f (t + 1) (lns s))) = false by
    rw [Bool.eq_false_iff]
    intro h4
    have h5 := jn_mem_tv h4 (mapTo_mem (f := F) (a := f) (i := t + 1) (k := i) (xs := lns s) h1 (by omega) (by rw [lns_len]; omega))
    rw [h3] at h5
    cases h5))
  have TV := Lib.hid (fun w => implTextValid_any (jn (mapTo F f (t + 1) (lns s))) w (by have := HJL.out; unfold maxLen; omega))
  unfold EachPost
  generalize lns s = L at *
  generalize hn : nl s + 1 = n at *
  generalize hJ : jn (mapTo F f (t + 1) L) = J at *
  have HJ := Lib.hid hJ
  have CL := Lib.hid hcl
  clear hs hF hmx hJ hcl
  go_enter Tryz.func171, Tryz.ntmps171
  go_wp2_with fail
  refine (LO.out _ (HMX.out.up (by exact bBel))).mono ?_
  rintro e w1 ⟨g, rfl, ho, hb⟩
  have xc : ∀ o, w1.cell? ⟨w.heap.size, o, none⟩ = #[S s, .int .i64 f, .int .i64 t][o]? := (fun o => (hb.cell (p := ⟨w.heap.size, o, none⟩) (by simp <;> omega)).trans (by simp [go_sem])); have xf : ∀ o, w1.frozen? ⟨w.heap.size, o, none⟩ = false := (fun o => (hb.frozen (p := ⟨w.heap.size, o, none⟩) (by simp <;> omega)).trans (by simp [go_sem])); have xz : w.heap.size < w1.heap.size := (by have := hb.size; (try simp at this); omega); have xy := xz
  have hW : Below w.heap.size w w1 := by exact bBel
  have HIs := Lib.hid (own_row_is ho)
  obtain ⟨_, _, _, -, hg1, _⟩ := row_form ho (by omega)
  have hgo := ho.lt g rfl
  have hgx : w.heap.size < g := by have := hgo.1; simp at this; omega
  have hg2 : g < w1.heap.size := hgo.2
  have HX := Lib.hid (show Is w1 w.heap.size #[S s, .int .i64 f, .int .i64 t] from ⟨xc, xf⟩)
  have HW1 := Lib.hid hW
  have s1 := hW.size
  clear ho hb LO HMX hgo hg1 xy hW
  go_wp2_with fail
  go_loopw [7, 8, 9] (fun i nx o wr => ∃ (k : Nat) (v8 v9 : Value), nx = v8 ∧ o = v9 ∧ f ≤ k ∧ k ≤ t + 1 ∧ i = .int .i64 k ∧ Hid (Is wr g ((mapTo F f k L).flatMap strC).toArray) ∧ Hid (Is wr w.heap.size #[S s, .int .i64 f, .int .i64 t]) ∧ Hid (Below w.heap.size w wr) ∧ w1.heap.size ≤ wr.heap.size) (fun i _ _ _ => t + 1 - (intOf i).toNat)
  case atStart => exact ⟨f, _, _, rfl, rfl, Nat.le_refl _, by omega, rfl, Lib.hid (by rw [mapTo_start]; exact HIs.out), HX, HW1, Nat.le_refl _⟩
  case round =>
    obtain ⟨k, v8, v9, rfl, rfl, hk0, hk, rfl, HIr, HXr, HWr, swr⟩ := hrel
    clear HIs HX HW1 xc xf
    have xc := HXr.out.1
    have xf := HXr.out.2
    have i0 : (0 : Int) ≤ (k : Int) := by omega
    by_cases hlt : k ≤ t
    · have hkl : k < L.length := by omega
      have i1 : (k : Int) ≤ (t : Int) := by omega
      have i2 : (k : Int) < (n : Int) := by omega
      have gc : wr.cell? ⟨g, k, none⟩ = some (S L[k]) := by
        rw [HIr.out.1, List.getElem?_toArray]
        exact flat_at1 _ _ _ (mapTo_at hk0 hkl)
      have HST := Lib.hid (mapTo_step (f := F) hk0 hkl)
      have HM := Lib.hid (mapTo_len (f := F) hk0 (Nat.le_of_lt hkl))
      have HCL := Lib.hid (CL.out L[k] wr (List.getElem_mem hkl) HWr.out HIr HXr swr)
      have HT := Lib.hid (HTV.out k hkl hk0 hlt)
      unfold ClPost at HCL
      obtain ⟨y, hy⟩ : ∃ y, y = L[k] := ⟨_, rfl⟩
      rw [← hy] at gc HST HCL HT
      generalize F y = Fy at *
      clear hy
      go_wp2_with fail
      refine HCL.out.mono ?_
      rintro e w2 ⟨z, ok, rfl, hz1, hz2, hb2⟩
      have HI2 := Lib.hid (HIr.out.up (by omega) hb2)
      have HX2 := Lib.hid (HXr.out.up (by omega) hb2)
      have HW2 := Lib.hid (up_trans HWr.out hb2)
      have s2 := hb2.size
      clear hb2 HCL xc xf gc
      rcases ok with _ | _
      · have HF := Lib.hid (HT.out (hz2 rfl))
        clear hz1 hz2 HT
        go_wp2_with fail
        go_ret2
        exact ⟨[], false, rfl, (fun h => by rw [HF.out] at h; cases h), fun _ => rfl, HW2.out⟩
      · have hz := hz1 rfl
        subst hz
        clear hz1 hz2 HT
        have gf := HI2.out.2
        have hsz : k < ((mapTo F f k L).flatMap strC).toArray.size := by rw [List.size_toArray, flat_len1, HM.out]; exact hkl
        have gc2 := (HI2.out.1 k).trans (Array.getElem?_eq_getElem hsz)
        have HI3 := Lib.hid (show Is (w2.setCell ⟨g, k, none⟩ (S z)) g ((mapTo F f (k + 1) L).flatMap strC).toArray by
          have h1 := HI2.out.set hsz (S z)
          rw [List.setIfInBounds_toArray, ← flat_set1, HST.out] at h1
          exact h1)
        have HX3 := Lib.hid (show Is (w2.setCell ⟨g, k, none⟩ (S z)) w.heap.size #[S s, .int .i64 f, .int .i64 t] from HX2.out.of_block (Below.heap_setCell _ _ _ _ (by show w.heap.size ≠ g; omega)))
        have HW3 := Lib.hid (up_set HW2.out ⟨g, k, none⟩ (S z) (by show w.heap.size ≤ g; omega))
        clear HI2 HX2 HW2
        go_wp2_with fail
        go_roundw
        case rel => exact ⟨k + 1, _, _, rfl, rfl, by omega, by omega, by go_num, HI3, HX3, HW3, by simpa using Nat.le_trans swr s2⟩
        case measure => simp [intOf]; omega
    · obtain rfl : k = t + 1 := by omega
      have i1 : ¬ ((t + 1 : Nat) : Int) ≤ (t : Int) := by omega
      have hML := mapTo_len (f := F) hk0 (show t + 1 ≤ L.length by omega)
      have HR := Lib.hid (is_rd (n := n) (c := n) (C := mapTo F f (t + 1) L) HIr.out (by omega) (by omega) (Nat.le_refl _) (by omega) (fun j u hu => hu))
      have HMn := Lib.hid (show (mapTo F f (t + 1) L).length = n by omega)
      clear HIr HXr HTV CL hML
      go_wp2_with fail
      refine (joinS_any g 0 n n (mapTo F f (t + 1) L) wr HR.out HMn.out (by omega) (by rw [HJ.out]; exact HJL.out) (by omega)).mono ?_
      rw [HJ.out]
      rintro e w2 ⟨rfl, hb2⟩
      have HW2 := Lib.hid (up_trans HWr.out hb2)
      clear hb2 xc xf
      go_wp2_with fail
      refine (TV.out _).mono ?_
      rintro e w3 ⟨rfl, rfl⟩
      go_wp2_with fail
      go_ret2
      exact ⟨J, tv J, rfl, fun h => ⟨rfl, h⟩, fun h => h, HW2.out⟩
set_option maxRecDepth 100000 in
set_option maxHeartbeats 2000000 in
theorem each3_any (s a u : List UInt8) (f t q g0 c : Nat) (w : World) (hs : tv s = true) (hft : f ≤ t) (ht : t ≤ nl s) (hmx : MX w) (hne : a ≠ []) (hal : a.length ≤ 1048576) (hul : u.length ≤ 1048576) (hq : q < w.heap.size) (hg : g0 < w.heap.size)
    (c0 : w.cell? ⟨q, 0, none⟩ = some (.slice (some ⟨g0, 0, none⟩) 4 c)) (c1 : w.cell? ⟨g0, 1, none⟩ = some (S a)) (c2 : w.cell? ⟨g0, 2, none⟩ = some (S u)) :
    Calls Tryz.prog 171 #[.agg #[S s, .int .i64 f, .int .i64 t], .func (.func 175) #[] #[.pointer (some ⟨q, 0, none⟩)]] w (EachPost (mapTo (rpT a u) f (t + 1) (lns s)) w) := by
  obtain ⟨F, hF0⟩ : ∃ F : List UInt8 → List UInt8, F = rpT a u := ⟨_, rfl⟩
  have hF : ∀ x ∈ lns s, (F x).length ≤ 130000000 := fun x hx => by
    rw [hF0]
    exact rpT_len a u x (tv_len ((lns_mem hx).2 hs)) hul
  have hcl : ∀ (x : List UInt8) (wr : World), x ∈ lns s → Below w.heap.size w wr → ∀ {k m : Nat} {V V2 : Array Value}, Hid (Is wr k V) → Hid (Is wr m V2) → ∀ {b : Nat}, b ≤ wr.heap.size → Calls Tryz.prog 175 #[S x, .pointer (some ⟨q, 0, none⟩)] wr (ClPost F x wr) := fun x wr hx hb _ _ _ _ _ _ _ _ => by
    rw [hF0]
    exact run3_any x a u q g0 c wr ((lns_mem hx).2 hs) hne hal hul (hmx.up hb) (Nat.lt_of_lt_of_le hq hb.size) (Nat.lt_of_lt_of_le hg hb.size) ((hb.cell (p := ⟨q, 0, none⟩) hq).trans c0) ((hb.cell (p := ⟨g0, 1, none⟩) hg).trans c1) ((hb.cell (p := ⟨g0, 2, none⟩) hg).trans c2)
  rw [← hF0]
  clear hF0 c0 c1 c2 hne hal hul hq hg
  have hl := tv_len hs
  have hnl := nl_le s
  have LO := Lib.hid (fun w hm => linesOf_any s w hl hm)
  unfold LnPost at LO
  rw [lnsV_flat] at LO
  have hll := lns_len s
  have HMX := Lib.hid hmx
  have HJL := Lib.hid (mapTo_jn_len F f (t + 1) s hs (by omega) (by rw [lns_len]; omega) hF)
  have HTV := Lib.hid (fun (i : Nat) (hi : i < (lns s).length) (h1 : f ≤ i) (h2 : i ≤ t) (h3 : tv (F (lns s)[i]) = false) => (show tv (jn (mapTo F f (t + 1) (lns s))) = false by
    rw [Bool.eq_false_iff]
    intro h4
    have h5 := jn_mem_tv h4 (mapTo_mem (f := F) (a := f) (i := t + 1) (k := i) (xs := lns s) h1 (by omega) (by rw [lns_len]; omega))
    rw [h3] at h5
    cases h5))
  have TV := Lib.hid (fun w => implTextValid_any (jn (mapTo F f (t + 1) (lns s))) w (by have := HJL.out; unfold maxLen; omega))
  unfold EachPost
  generalize lns s = L at *
  generalize hn : nl s + 1 = n at *
  generalize hJ : jn (mapTo F f (t + 1) L) = J at *
  have HJ := Lib.hid hJ
  have CL := Lib.hid hcl
  clear hs hF hmx hJ hcl
  go_enter Tryz.func171, Tryz.ntmps171
  go_wp2_with fail
  refine (LO.out _ (HMX.out.up (by exact bBel))).mono ?_
  rintro e w1 ⟨g, rfl, ho, hb⟩
  have xc : ∀ o, w1.cell? ⟨w.heap.size, o, none⟩ = #[S s, .int .i64 f, .int .i64 t][o]? := (fun o => (hb.cell (p := ⟨w.heap.size, o, none⟩) (by simp <;> omega)).trans (by simp [go_sem])); have xf : ∀ o, w1.frozen? ⟨w.heap.size, o, none⟩ = false := (fun o => (hb.frozen (p := ⟨w.heap.size, o, none⟩) (by simp <;> omega)).trans (by simp [go_sem])); have xz : w.heap.size < w1.heap.size := (by have := hb.size; (try simp at this); omega); have xy := xz
  have hW : Below w.heap.size w w1 := by exact bBel
  have HIs := Lib.hid (own_row_is ho)
  obtain ⟨_, _, _, -, hg1, _⟩ := row_form ho (by omega)
  have hgo := ho.lt g rfl
  have hgx : w.heap.size < g := by have := hgo.1; simp at this; omega
  have hg2 : g < w1.heap.size := hgo.2
  have HX := Lib.hid (show Is w1 w.heap.size #[S s, .int .i64 f, .int .i64 t] from ⟨xc, xf⟩)
  have HW1 := Lib.hid hW
  have s1 := hW.size
  clear ho hb LO HMX hgo hg1 xy hW
  go_wp2_with fail
  go_loopw [7, 8, 9] (fun i nx o wr => ∃ (k : Nat) (v8 v9 : Value), nx = v8 ∧ o = v9 ∧ f ≤ k ∧ k ≤ t + 1 ∧ i = .int .i64 k ∧ Hid (Is wr g ((mapTo F f k L).flatMap strC).toArray) ∧ Hid (Is wr w.heap.size #[S s, .int .i64 f, .int .i64 t]) ∧ Hid (Below w.heap.size w wr) ∧ w1.heap.size ≤ wr.heap.size) (fun i _ _ _ => t + 1 - (intOf i).toNat)
  case atStart => exact ⟨f, _, _, rfl, rfl, Nat.le_refl _, by omega, rfl, Lib.hid (by rw [mapTo_start]; exact HIs.out), HX, HW1, Nat.le_refl _⟩
  case round =>
    obtain ⟨k, v8, v9, rfl, rfl, hk0, hk, rfl, HIr, HXr, HWr, swr⟩ := hrel
    clear HIs HX HW1 xc xf
    have xc := HXr.out.1
    have xf := HXr.out.2
    have i0 : (0 : Int) ≤ (k : Int) := by omega
    by_cases hlt : k ≤ t
    · have hkl : k < L.length := by omega
      have i1 : (k : Int) ≤ (t : Int) := by omega
      have i2 : (k : Int) < (n : Int) := by omega
      have gc : wr.cell? ⟨g, k, none⟩ = some (S L[k]) := by
        rw [HIr.out.1, List.getElem?_toArray]
        exact flat_at1 _ _ _ (mapTo_at hk0 hkl)
      have HST := Lib.hid (mapTo_step (f := F) hk0 hkl)
      have HM := Lib.hid (mapTo_len (f := F) hk0 (Nat.le_of_lt hkl))
      have HCL := Lib.hid (CL.out L[k] wr (List.getElem_mem hkl) HWr.out HIr HXr swr)
      have HT := Lib.hid (HTV.out k hkl hk0 hlt)
      unfold ClPost at HCL
      obtain ⟨y, hy⟩ : ∃ y, y = L[k] := ⟨_, rfl⟩
      rw [← hy] at gc HST HCL HT
      generalize F y = Fy at *
      clear hy
      go_wp2_with fail
      refine HCL.out.mono ?_
      rintro e w2 ⟨z, ok, rfl, hz1, hz2, hb2⟩
      have HI2 := Lib.hid (HIr.out.up (by omega) hb2)
      have HX2 := Lib.hid (HXr.out.up (by omega) hb2)
      have HW2 := Lib.hid (up_trans HWr.out hb2)
      have s2 := hb2.size
      clear hb2 HCL xc xf gc
      rcases ok with _ | _
      · have HF := Lib.hid (HT.out (hz2 rfl))
        clear hz1 hz2 HT
        go_wp2_with fail
        go_ret2
        exact ⟨[], false, rfl, (fun h => by rw [HF.out] at h; cases h), fun _ => rfl, HW2.out⟩
      · have hz := hz1 rfl
        subst hz
        clear hz1 hz2 HT
        have gf := HI2.out.2
        have hsz : k < ((mapTo F f k L).flatMap strC).toArray.size := by rw [List.size_toArray, flat_len1, HM.out]; exact hkl
        have gc2 := (HI2.out.1 k).trans (Array.getElem?_eq_getElem hsz)
        have HI3 := Lib.hid (show Is (w2.setCell ⟨g, k, none⟩ (S z)) g ((mapTo F f (k + 1) L).flatMap strC).toArray by
          have h1 := HI2.out.set hsz (S z)
          rw [List.setIfInBounds_toArray, ← flat_set1, HST.out] at h1
          exact h1)
        have HX3 := Lib.hid (show Is (w2.setCell ⟨g, k, none⟩ (S z)) w.heap.size #[S s, .int .i64 f, .int .i64 t] from HX2.out.of_block (Below.heap_setCell _ _ _ _ (by show w.heap.size ≠ g; omega)))
        have HW3 := Lib.hid (up_set HW2.out ⟨g, k, none⟩ (S z) (by show w.heap.size ≤ g; omega))
        clear HI2 HX2 HW2
        go_wp2_with fail
        go_roundw
        case rel => exact ⟨k + 1, _, _, rfl, rfl, by omega, by omega, by go_num, HI3, HX3, HW3, by simpa using Nat.le_trans swr s2⟩
        case measure => simp [intOf]; omega
    · obtain rfl : k = t + 1 := by omega
      have i1 : ¬ ((t + 1 : Nat) : Int) ≤ (t : Int) := by omega
      have hML := mapTo_len (f := F) hk0 (show t + 1 ≤ L.length by omega)
      have HR := Lib.hid (is_rd (n := n) (c := n) (C := mapTo F f (t + 1) L) HIr.out (by omega) (by omega) (Nat.le_refl _) (by omega) (fun j u hu => hu))
      have HMn := Lib.hid (show (mapTo F f (t + 1) L).length = n by omega)
      clear HIr HXr HTV CL hML
      go_wp2_with fail
      refine (joinS_any g 0 n n (mapTo F f (t + 1) L) wr HR.out HMn.out (by omega) (by rw [HJ.out]; exact HJL.out) (by omega)).mono ?_
      rw [HJ.out]
      rintro e w2 ⟨rfl, hb2⟩
      have HW2 := Lib.hid (up_trans HWr.out hb2)
      clear hb2 xc xf
      go_wp2_with fail
      refine (TV.out _).mono ?_
      rintro e w3 ⟨rfl, rfl⟩
      go_wp2_with fail
      go_ret2
      exact ⟨J, tv J, rfl, fun h => ⟨rfl, h⟩, fun h => h, HW2.out⟩

end Go.Proofs.YtbjlkdenkmbepaaGreatDoor

namespace Go.Proofs.YtbjlkdenkmbepaaGreatDoor
open Go.RowKit
set_option linter.unusedVariables false

theorem implPutLines_out (s : List UInt8) (x : Int) (t : List UInt8) (w : World) (hs : tv s = true) (ht : tv t = true) (hx : (nl s : Int) + 1 < x) (hmx : MX w) :
    Calls Tryz.prog 195 #[S s, .int .i64 x, S t] w fun e w' => e = .returned (.tuple #[S s, .bool false]) ∧ Below w.heap.size w w' := by
  have hl := tv_len hs
  have htl := tv_len ht
  have T := Lib.hid (fun w => implTextValid_any s w (by unfold maxLen; omega))
  rw [hs] at T
  have T2 := Lib.hid (fun w => implTextValid_any t w (by unfold maxLen; omega))
  rw [ht] at T2
  have LO := Lib.hid (fun w hm => linesOf_any s w hl hm)
  unfold LnPost at LO
  have I1 := Lib.hid (inB_no (a := x) (lo := 0) (hi := ((nl s + 1 : Nat) : Int)) (by omega))
  generalize nl s + 1 = n at *
  clear hs ht hx
  go_enter Tryz.func195, Tryz.ntmps195
  go_wp2_with fail
  refine (T.out _).mono ?_
  rintro e w1 ⟨rfl, rfl⟩
  go_wp2_with fail
  refine (T2.out _).mono ?_
  rintro e w1 ⟨rfl, rfl⟩
  go_wp2_with fail
  refine (LO.out _ hmx).mono ?_
  rintro e w1 ⟨g, rfl, -, hb⟩
  have HB := Lib.hid hb
  clear hb LO
  go_wp2_with fail
  refine (in_any _ _ _ _).mono ?_
  rw [I1.out]
  rintro e w2 ⟨rfl, rfl⟩
  go_wp2_with fail
  go_ret2
  exact ⟨rfl, HB.out⟩
set_option maxRecDepth 100000 in
set_option maxHeartbeats 2000000 in
theorem copied_any (s r : List UInt8) (f t : Nat) (w : World) (hs : tv s = true) (hft : f ≤ t) (ht : t ≤ nl s) (hr : r.length ≤ 1048576) (hL : LW w) :
    Calls Tryz.prog 170 #[.agg #[S s, .int .i64 f, .int .i64 t], S r] w (RunPost (cpyO s f t r) w) := by
  have hl := tv_len hs
  have hnl := nl_le s
  have LO := Lib.hid (fun w hm => linesOf_any s w hl hm)
  unfold LnPost at LO
  rw [lnsV_flat] at LO
  have hll := lns_len s
  have HSub := Lib.hid (jn_subL s f t hft ht)
  have hst := subL_tv f t hs
  have HSl := Lib.hid (tv_len hst)
  have HL := Lib.hid hL
  have P1 := Lib.hid (fun a w' (ha : a ≤ nl s + 1) (hm : MX w') z ok hz => implPutLines_any s a (subL s f t) w' hs hst ha hm z ok hz)
  have P2 := Lib.hid (fun x w' hx hm => implPutLines_out s x (subL s f t) w' hs hst hx hm)
  have HCP := Lib.hid (fun a => show cmDo s f t (.cpy a) = if a ≤ nl s + 1 ∧ s.length + 1 + (subL s f t).length ≤ 120 then some (jn (putL s a (subL s f t))) else none from rfl)
  have HCO := Lib.hid (show cpyO s f t r = match num r with | some (a, k) => if k = r.length then cmDo s f t (.cpy a) else none | none => none from rfl)
  unfold RunPost
  generalize hsub : subL s f t = sub at *
  clear hsub hs hst hL
  generalize cpyO s f t r = O at *
  generalize lns s = L at *
  generalize hn : nl s + 1 = n at *
  go_enter Tryz.func170, Tryz.ntmps170
  go_wp2_with fail
  refine (readNumber_any r _ hr (HL.out.up (by exact bBel))).mono ?_
  rintro e w1 ⟨x, m, rfl, hx, hb⟩
  have xc : ∀ o, w1.cell? ⟨w.heap.size, o, none⟩ = #[S s, .int .i64 f, .int .i64 t][o]? := (fun o => (hb.cell (p := ⟨w.heap.size, o, none⟩) (by simp <;> omega)).trans (by simp [go_sem])); have xf : ∀ o, w1.frozen? ⟨w.heap.size, o, none⟩ = false := (fun o => (hb.frozen (p := ⟨w.heap.size, o, none⟩) (by simp <;> omega)).trans (by simp [go_sem])); have xz : w.heap.size < w1.heap.size := (by have := hb.size; (try simp at this); omega); have xy := xz
  have hW : Below w.heap.size w w1 := by exact bBel
  have HW := Lib.hid hW
  have HL1 := Lib.hid (HL.out.up hW)
  clear hb hW HL xy
  rcases hx with ⟨a, k, hnum, rfl, rfl⟩ | ⟨hnum, hx⟩
  · obtain ⟨a9, -, -, k1, k2⟩ := num_some hnum
    rw [hnum] at HCO
    have q0 : ((k : Int) == 0) = false := by rw [beq_eq_false_iff_ne]; omega
    by_cases hk : k = r.length
    · have q1 : ¬ (k : Int) < (r.length : Int) := by omega
      have hco := HCO.out
      simp only at hco
      rw [if_pos hk, HCP.out] at hco
      clear hnum hk HCO HCP
      by_cases ha : a ≤ n
      · by_cases hroom : s.length + 1 + sub.length ≤ 120
        · rw [if_pos ⟨ha, hroom⟩] at hco
          obtain ⟨z, hz⟩ : ∃ z, z = jn (putL s a sub) := ⟨_, rfl⟩
          obtain ⟨ok, hok⟩ : ∃ ok, ok = true := ⟨_, rfl⟩
          have PL := Lib.hid (fun w' hm => P1.out a w' ha hm z ok ⟨fun _ => ⟨hz, hok⟩, fun h => absurd hroom h⟩)
          have HO := Lib.hid (show RnOk O z ok from ⟨(fun y hy => by rw [hco] at hy; injection hy with hy; exact ⟨hz.trans hy, hok⟩), (fun h => by rw [hco] at h; cases h)⟩)
          clear hco hz hok P1 P2 hroom ha
          have HM1 := Lib.hid HL1.out.mx
          go_wp2_with fail
          refine (LO.out _ HM1.out).mono ?_
          rintro e w2 ⟨g, rfl, ho, hb⟩
          have xc2 := up_c hb xz xc
          have xz2 := Nat.lt_of_lt_of_le xz hb.size
          obtain ⟨_, _, _, -, hg1, _⟩ := row_form ho (by omega)
          have hg2 := (ho.lt g rfl).2
          have HW2 := Lib.hid (up_trans HW.out hb)
          have HM2 := Lib.hid (HM1.out.up hb)
          have HR2 := Lib.hid (show RdL w2 1 strC (.slice (some ⟨g, 0, none⟩) n n) L by
            have h1 := ho
            rw [← hll] at h1 ⊢
            exact RdL.of_own h1)
          have HS2 := Lib.hid (show RdL w2 1 strC (.slice (some ⟨g, f, none⟩) (t + 1 - f) (n - f)) ((L.take (t + 1)).drop f) by
            have h1 := rdS_drop (k := f) (rdS_take HR2.out (show t + 1 ≤ L.length by omega)) (by rw [List.length_take]; omega)
            rwa [Nat.zero_add] at h1)
          have hne := UpW.nonempty w2
          have C1 := Lib.hid (fun y : UpW w2 => calls_up (by
            have h1 := joinS_any g f (n - f) (t + 1 - f) ((L.take (t + 1)).drop f) (y.at w2) (HS2.out.up y.below) (by rw [List.length_drop, List.length_take]; omega) (Nat.lt_of_lt_of_le hg2 y.below.size) (by rw [HSub.out]; have := HSl.out; omega) (by omega)
            rwa [HSub.out] at h1))
          have C2 := Lib.hid (fun y : UpW w2 => calls_up (PL.out (y.at w2) (HM2.out.up y.below)))
          have f0 : (0 : Int) ≤ (f : Int) := by omega
          have f1 : (f : Int) ≤ (t : Int) + 1 := by omega
          have f2 : (t : Int) + 1 ≤ (n : Int) := by omega
          have f3 : ¬ n = f := by omega
          have e1 : IntKind.i64.wrap ((t : Int) + 1) = ((t + 1 : Nat) : Int) := by rw [IntWalk.i64_in _ (by omega)]; omega
          have f4 : (f : Int) ≤ ((t + 1 : Nat) : Int) := by omega
          have f5 : ((t + 1 : Nat) : Int) ≤ (n : Int) := by omega
          clear ho hb LO HM1 HL1 HW xc xz hg1
          go_wp2_with fail
          refine wp_region_up_lit (by kernel_rfl) (by kernel_rfl) ?_
          repeat (go_big_quiet_step ((first | (go_at_call 193; exact C1.out _) | (go_at_call 195; exact C2.out _))))
          refine wpQuiet_nil ?_
          intro w5 hb5
          have HB5 := Lib.hid (up_trans HW2.out (UpW.out hb5))
          clear hb5 C1 C2
          go_wp2_with fail
          go_ret2
          exact ⟨z, ok, rfl, HO.out, HB5.out⟩
        · rw [if_neg (fun h => hroom h.2)] at hco
          obtain ⟨z, hz⟩ : ∃ z, z = s := ⟨_, rfl⟩
          obtain ⟨ok, hok⟩ : ∃ ok, ok = false := ⟨_, rfl⟩
          have PL := Lib.hid (fun w' hm => P1.out a w' ha hm z ok ⟨fun h => absurd h hroom, fun _ => ⟨hz, hok⟩⟩)
          have HO := Lib.hid (show RnOk O z ok from ⟨(fun y hy => by rw [hco] at hy; cases hy), fun _ => hok⟩)
          clear hco hz hok P1 P2 hroom ha
          have HM1 := Lib.hid HL1.out.mx
          go_wp2_with fail
          refine (LO.out _ HM1.out).mono ?_
          rintro e w2 ⟨g, rfl, ho, hb⟩
          have xc2 := up_c hb xz xc
          have xz2 := Nat.lt_of_lt_of_le xz hb.size
          obtain ⟨_, _, _, -, hg1, _⟩ := row_form ho (by omega)
          have hg2 := (ho.lt g rfl).2
          have HW2 := Lib.hid (up_trans HW.out hb)
          have HM2 := Lib.hid (HM1.out.up hb)
          have HR2 := Lib.hid (show RdL w2 1 strC (.slice (some ⟨g, 0, none⟩) n n) L by
            have h1 := ho
            rw [← hll] at h1 ⊢
            exact RdL.of_own h1)
          have HS2 := Lib.hid (show RdL w2 1 strC (.slice (some ⟨g, f, none⟩) (t + 1 - f) (n - f)) ((L.take (t + 1)).drop f) by
            have h1 := rdS_drop (k := f) (rdS_take HR2.out (show t + 1 ≤ L.length by omega)) (by rw [List.length_take]; omega)
            rwa [Nat.zero_add] at h1)
          have hne := UpW.nonempty w2
          have C1 := Lib.hid (fun y : UpW w2 => calls_up (by
            have h1 := joinS_any g f (n - f) (t + 1 - f) ((L.take (t + 1)).drop f) (y.at w2) (HS2.out.up y.below) (by rw [List.length_drop, List.length_take]; omega) (Nat.lt_of_lt_of_le hg2 y.below.size) (by rw [HSub.out]; have := HSl.out; omega) (by omega)
            rwa [HSub.out] at h1))
          have C2 := Lib.hid (fun y : UpW w2 => calls_up (PL.out (y.at w2) (HM2.out.up y.below)))
          have f0 : (0 : Int) ≤ (f : Int) := by omega
          have f1 : (f : Int) ≤ (t : Int) + 1 := by omega
          have f2 : (t : Int) + 1 ≤ (n : Int) := by omega
          have f3 : ¬ n = f := by omega
          have e1 : IntKind.i64.wrap ((t : Int) + 1) = ((t + 1 : Nat) : Int) := by rw [IntWalk.i64_in _ (by omega)]; omega
          have f4 : (f : Int) ≤ ((t + 1 : Nat) : Int) := by omega
          have f5 : ((t + 1 : Nat) : Int) ≤ (n : Int) := by omega
          clear ho hb LO HM1 HL1 HW xc xz hg1
          go_wp2_with fail
          refine wp_region_up_lit (by kernel_rfl) (by kernel_rfl) ?_
          repeat (go_big_quiet_step ((first | (go_at_call 193; exact C1.out _) | (go_at_call 195; exact C2.out _))))
          refine wpQuiet_nil ?_
          intro w5 hb5
          have HB5 := Lib.hid (up_trans HW2.out (UpW.out hb5))
          clear hb5 C1 C2
          go_wp2_with fail
          go_ret2
          exact ⟨z, ok, rfl, HO.out, HB5.out⟩
      · rw [if_neg (fun h => ha h.1)] at hco
        obtain ⟨z, hz⟩ : ∃ z, z = s := ⟨_, rfl⟩
        obtain ⟨ok, hok⟩ : ∃ ok, ok = false := ⟨_, rfl⟩
        have PL := Lib.hid (fun w' hm => (show Calls Tryz.prog 195 #[S s, .int .i64 (a : Int), S sub] w' fun e w'' => e = .returned (.tuple #[S z, .bool ok]) ∧ Below w'.heap.size w' w'' by rw [hz, hok]; exact P2.out (a : Int) w' (by omega) hm))
        have HO := Lib.hid (show RnOk O z ok from ⟨(fun y hy => by rw [hco] at hy; cases hy), fun _ => hok⟩)
        clear hco hz hok P1 P2 ha
        have HM1 := Lib.hid HL1.out.mx
        go_wp2_with fail
        refine (LO.out _ HM1.out).mono ?_
        rintro e w2 ⟨g, rfl, ho, hb⟩
        have xc2 := up_c hb xz xc
        have xz2 := Nat.lt_of_lt_of_le xz hb.size
        obtain ⟨_, _, _, -, hg1, _⟩ := row_form ho (by omega)
        have hg2 := (ho.lt g rfl).2
        have HW2 := Lib.hid (up_trans HW.out hb)
        have HM2 := Lib.hid (HM1.out.up hb)
        have HR2 := Lib.hid (show RdL w2 1 strC (.slice (some ⟨g, 0, none⟩) n n) L by
          have h1 := ho
          rw [← hll] at h1 ⊢
          exact RdL.of_own h1)
        have HS2 := Lib.hid (show RdL w2 1 strC (.slice (some ⟨g, f, none⟩) (t + 1 - f) (n - f)) ((L.take (t + 1)).drop f) by
          have h1 := rdS_drop (k := f) (rdS_take HR2.out (show t + 1 ≤ L.length by omega)) (by rw [List.length_take]; omega)
          rwa [Nat.zero_add] at h1)
        have hne := UpW.nonempty w2
        have C1 := Lib.hid (fun y : UpW w2 => calls_up (by
          have h1 := joinS_any g f (n - f) (t + 1 - f) ((L.take (t + 1)).drop f) (y.at w2) (HS2.out.up y.below) (by rw [List.length_drop, List.length_take]; omega) (Nat.lt_of_lt_of_le hg2 y.below.size) (by rw [HSub.out]; have := HSl.out; omega) (by omega)
          rwa [HSub.out] at h1))
        have C2 := Lib.hid (fun y : UpW w2 => calls_up (PL.out (y.at w2) (HM2.out.up y.below)))
        have f0 : (0 : Int) ≤ (f : Int) := by omega
        have f1 : (f : Int) ≤ (t : Int) + 1 := by omega
        have f2 : (t : Int) + 1 ≤ (n : Int) := by omega
        have f3 : ¬ n = f := by omega
        have e1 : IntKind.i64.wrap ((t : Int) + 1) = ((t + 1 : Nat) : Int) := by rw [IntWalk.i64_in _ (by omega)]; omega
        have f4 : (f : Int) ≤ ((t + 1 : Nat) : Int) := by omega
        have f5 : ((t + 1 : Nat) : Int) ≤ (n : Int) := by omega
        clear ho hb LO HM1 HL1 HW xc xz hg1
        go_wp2_with fail
        refine wp_region_up_lit (by kernel_rfl) (by kernel_rfl) ?_
        repeat (go_big_quiet_step ((first | (go_at_call 193; exact C1.out _) | (go_at_call 195; exact C2.out _))))
        refine wpQuiet_nil ?_
        intro w5 hb5
        have HB5 := Lib.hid (up_trans HW2.out (UpW.out hb5))
        clear hb5 C1 C2
        go_wp2_with fail
        go_ret2
        exact ⟨z, ok, rfl, HO.out, HB5.out⟩
    · have q1 : (k : Int) < (r.length : Int) := by omega
      have HN := Lib.hid (show O = none by have h := HCO.out; simp only at h; rw [if_neg hk] at h; exact h)
      clear hnum hk HCO HCP P1 P2 LO
      go_wp2_with fail
      go_ret2
      exact ⟨[], false, rfl, ⟨(fun y h => by rw [HN.out] at h; cases h), fun _ => rfl⟩, HW.out⟩
  · rw [hnum] at HCO
    have HN := Lib.hid (show O = none from HCO.out)
    rcases hx with ⟨rfl, rfl⟩ | ⟨hx, j, rfl, j1, j2⟩
    · clear hnum HCO HCP P1 P2 LO
      go_wp2_with fail
      go_ret2
      exact ⟨[], false, rfl, ⟨(fun y h => by rw [HN.out] at h; cases h), fun _ => rfl⟩, HW.out⟩
    · have q0 : ((j : Int) == 0) = false := by rw [beq_eq_false_iff_ne]; omega
      by_cases hk : j = r.length
      · have q1 : ¬ (j : Int) < (r.length : Int) := by omega
        obtain ⟨z, hz⟩ : ∃ z, z = s := ⟨_, rfl⟩
        obtain ⟨ok, hok⟩ : ∃ ok, ok = false := ⟨_, rfl⟩
        have PL := Lib.hid (fun w' hm => (show Calls Tryz.prog 195 #[S s, .int .i64 x, S sub] w' fun e w'' => e = .returned (.tuple #[S z, .bool ok]) ∧ Below w'.heap.size w' w'' by rw [hz, hok]; exact P2.out x w' (by omega) hm))
        have HO := Lib.hid (show RnOk O z ok from ⟨(fun y hy => by rw [HN.out] at hy; cases hy), fun _ => hok⟩)
        clear hnum HCO HCP P1 P2 hk hz hok hx
        have HM1 := Lib.hid HL1.out.mx
        go_wp2_with fail
        refine (LO.out _ HM1.out).mono ?_
        rintro e w2 ⟨g, rfl, ho, hb⟩
        have xc2 := up_c hb xz xc
        have xz2 := Nat.lt_of_lt_of_le xz hb.size
        obtain ⟨_, _, _, -, hg1, _⟩ := row_form ho (by omega)
        have hg2 := (ho.lt g rfl).2
        have HW2 := Lib.hid (up_trans HW.out hb)
        have HM2 := Lib.hid (HM1.out.up hb)
        have HR2 := Lib.hid (show RdL w2 1 strC (.slice (some ⟨g, 0, none⟩) n n) L by
          have h1 := ho
          rw [← hll] at h1 ⊢
          exact RdL.of_own h1)
        have HS2 := Lib.hid (show RdL w2 1 strC (.slice (some ⟨g, f, none⟩) (t + 1 - f) (n - f)) ((L.take (t + 1)).drop f) by
          have h1 := rdS_drop (k := f) (rdS_take HR2.out (show t + 1 ≤ L.length by omega)) (by rw [List.length_take]; omega)
          rwa [Nat.zero_add] at h1)
        have hne := UpW.nonempty w2
        have C1 := Lib.hid (fun y : UpW w2 => calls_up (by
          have h1 := joinS_any g f (n - f) (t + 1 - f) ((L.take (t + 1)).drop f) (y.at w2) (HS2.out.up y.below) (by rw [List.length_drop, List.length_take]; omega) (Nat.lt_of_lt_of_le hg2 y.below.size) (by rw [HSub.out]; have := HSl.out; omega) (by omega)
          rwa [HSub.out] at h1))
        have C2 := Lib.hid (fun y : UpW w2 => calls_up (PL.out (y.at w2) (HM2.out.up y.below)))
        have f0 : (0 : Int) ≤ (f : Int) := by omega
        have f1 : (f : Int) ≤ (t : Int) + 1 := by omega
        have f2 : (t : Int) + 1 ≤ (n : Int) := by omega
        have f3 : ¬ n = f := by omega
        have e1 : IntKind.i64.wrap ((t : Int) + 1) = ((t + 1 : Nat) : Int) := by rw [IntWalk.i64_in _ (by omega)]; omega
        have f4 : (f : Int) ≤ ((t + 1 : Nat) : Int) := by omega
        have f5 : ((t + 1 : Nat) : Int) ≤ (n : Int) := by omega
        clear ho hb LO HM1 HL1 HW xc xz hg1
        go_wp2_with fail
        refine wp_region_up_lit (by kernel_rfl) (by kernel_rfl) ?_
        repeat (go_big_quiet_step ((first | (go_at_call 193; exact C1.out _) | (go_at_call 195; exact C2.out _))))
        refine wpQuiet_nil ?_
        intro w5 hb5
        have HB5 := Lib.hid (up_trans HW2.out (UpW.out hb5))
        clear hb5 C1 C2
        go_wp2_with fail
        go_ret2
        exact ⟨z, ok, rfl, HO.out, HB5.out⟩
      · have q1 : (j : Int) < (r.length : Int) := by omega
        clear hnum HCO HCP P1 P2 LO hk hx
        go_wp2_with fail
        go_ret2
        exact ⟨[], false, rfl, ⟨(fun y h => by rw [HN.out] at h; cases h), fun _ => rfl⟩, HW.out⟩

end Go.Proofs.YtbjlkdenkmbepaaGreatDoor

namespace Go.Proofs.YtbjlkdenkmbepaaGreatDoor
open Go.RowKit Go.Shelf
set_option linter.unusedVariables false
set_option linter.unusedSimpArgs false

theorem psl_len : ∀ (n : Nat) (s : List UInt8), s.length ≤ n → (psl s).length = s.count 47 + 1
  | 0, s, h => by
    have : s = [] := List.length_eq_zero_iff.1 (by omega)
    subst this
    rfl
  | n + 1, s, h => by
    rcases idx47 s with ⟨_, h2⟩ | ⟨i, _, h1, h3, h4, h5⟩
    · rw [psl_no (fun j e => by have := List.count_pos_iff.2 (List.mem_of_getElem? e); omega), h2]
      rfl
    · rw [psl_yes h3 h5, List.length_cons, psl_len n _ (by rw [List.length_drop]; omega), h4]
theorem splitB_psl (s : List UInt8) : (Lib.splitB ⟨[47].toArray⟩ 0 (s.count 47) ⟨s.toArray⟩).map Value.string = (psl s).flatMap strC := by
  have h1 : (Lib.splitB ⟨[47].toArray⟩ 0 (s.count 47) ⟨s.toArray⟩).map (·.data.toList) = psl s := Lib.splitB_data ⟨[47].toArray⟩ 0 (s.count 47) ⟨s.toArray⟩
  have h4 : (Lib.splitB ⟨[47].toArray⟩ 0 (s.count 47) ⟨s.toArray⟩).map Value.string = ((Lib.splitB ⟨[47].toArray⟩ 0 (s.count 47) ⟨s.toArray⟩).map (·.data.toList)).map S := by
    rw [List.map_map]
    rfl
  rw [h4, h1]
  generalize psl s = P
  induction P with
  | nil => rfl
  | cons x P ih => rw [List.map_cons, ih]; rfl
/-- the parts of a command. -/
def PtPost (s : List UInt8) (w : World) (e : Ending) (w' : World) : Prop := e = .returned (.slice (some ⟨w.heap.size, 0, none⟩) (psl s).length (psl s).length) ∧ Is w' w.heap.size ((psl s).flatMap strC).toArray ∧ w.heap.size < w'.heap.size ∧ Below w.heap.size w w'
theorem splitS_any (s : List UInt8) (w : World) (hs : s.length ≤ 1048576) (hm : MX w) :
    Calls Tryz.prog 168 #[S s, S [47]] w (PtPost s w) := by
  obtain ⟨m, hm⟩ := hm
  have H := Tryz.strings_Split ⟨s.toArray⟩ ⟨[47].toArray⟩ m w (by show s.length < _; omega) hm (by decide)
  rw [show Lib.countB ⟨s.toArray⟩ ⟨[47].toArray⟩ = s.count 47 from count_c 47 s.length s _ (Nat.le_refl _) (Nat.lt_succ_self _), splitB_psl, ← psl_len s.length s (Nat.le_refl _)] at H
  refine H.mono ?_
  rintro e w' ⟨rfl, rfl⟩
  exact ⟨rfl, new_is w _ _, by simp, up_alloc (Below.refl _ _) _⟩

set_option maxRecDepth 100000 in
set_option maxHeartbeats 400000 in
theorem run_del (s r : List UInt8) (f t : Nat) (w : World) (hs : tv s = true) (hft : f ≤ t) (ht : t ≤ nl s) (hr : r.length ≤ 1048576) (hL : LW w) (hk : r = [100]) :
    Calls Tryz.prog 149 #[.agg #[S s, .int .i64 f, .int .i64 t], S r] w (RunPost (cmDo s f t (cmOf r)) w) := by
  obtain ⟨m, hm⟩ : ∃ m, m = t - f + 1 := ⟨_, rfl⟩
  have HO := Lib.hid (show cmDo s f t (cmOf r) = some (jn (cutL s f m)) by rw [hk, hm]; rfl)
  have CL := Lib.hid (fun w' hm' => implCutLines_any s f m w' hs (by omega) (by omega) hm')
  have hl := tv_len hs
  have hnl := nl_le s
  have HL := Lib.hid hL
  have SP := Lib.hid (fun w' (hm : MX w') => splitS_any r w' hr hm)
  unfold PtPost at SP
  unfold RunPost
  have hpn := psl_ne r
  generalize psl r = P at *
  generalize cmDo s f t (cmOf r) = O at *
  generalize jn (cutL s f m) = z at *
  clear hpn
  have e3 : (t : Int) - (f : Int) + 1 = (m : Int) := by omega
  have b1 : (r == [100]) = true := by rw [hk]; rfl
  clear hm hs hr hk
  clear hL
  go_enter Tryz.func149, Tryz.ntmps149
  go_wp2_with fail
  refine (SP.out _ (HL.out.mx.up (by exact bBel))).mono ?_
  rintro e w1 ⟨rfl, hI, hpz, hb⟩
  simp only [World.size_alloc] at hI hpz ⊢
  have xc : ∀ o, w1.cell? ⟨w.heap.size, o, none⟩ = #[S s, .int .i64 f, .int .i64 t][o]? := (fun o => (hb.cell (p := ⟨w.heap.size, o, none⟩) (by simp <;> omega)).trans (by simp [go_sem])); have xf : ∀ o, w1.frozen? ⟨w.heap.size, o, none⟩ = false := (fun o => (hb.frozen (p := ⟨w.heap.size, o, none⟩) (by simp <;> omega)).trans (by simp [go_sem])); have xz : w.heap.size < w1.heap.size := (by have := hb.size; (try simp at this); omega); have xy := xz
  have hW : Below w.heap.size w w1 := by exact bBel
  have HW := Lib.hid hW
  have HL1 := Lib.hid (HL.out.up hW)
  have HIP := Lib.hid hI
  clear hb hW hI SP HL xy
  go_wp2_with fail
  refine (CL.out _ (HL1.out.mx.up (by exact bBel))).mono ?_
  rintro e w2 ⟨rfl, hb⟩
  have HW2 := Lib.hid (up_trans HW.out (show Below w1.heap.size w1 w2 by exact bBel))
  clear hb
  go_wp2_with fail
  go_ret2
  exact ⟨z, true, rfl, ⟨(fun y h => by rw [HO.out] at h; injection h with h; exact ⟨h, rfl⟩), (fun h => by rw [HO.out] at h; cases h)⟩, HW2.out⟩

set_option maxRecDepth 100000 in
set_option maxHeartbeats 400000 in
theorem run_cpy (s r r' : List UInt8) (f t : Nat) (w : World) (hs : tv s = true) (hft : f ≤ t) (ht : t ≤ nl s) (hr : r.length ≤ 1048576) (hL : LW w) (hk : r = 116 :: r') :
    Calls Tryz.prog 149 #[.agg #[S s, .int .i64 f, .int .i64 t], S r] w (RunPost (cmDo s f t (cmOf r)) w) := by
  have HO := Lib.hid (show cmDo s f t (cmOf r) = cpyO s f t r' by rw [hk]; exact cm_cpy s f t r')
  have CP := Lib.hid (fun w' hL' => copied_any s r' f t w' hs hft ht (by rw [hk] at hr; simp at hr; omega) hL')
  rw [← HO.out] at CP
  have hh : hd8 r 116 = true := by rw [hk]; rfl
  have HH := Lib.hid (fun w => hasPrefix_any r 116 w)
  rw [hh] at HH
  have hl := tv_len hs
  have hnl := nl_le s
  have HL := Lib.hid hL
  have SP := Lib.hid (fun w' (hm : MX w') => splitS_any r w' hr hm)
  unfold PtPost at SP
  unfold RunPost
  have hpn := psl_ne r
  generalize psl r = P at *
  unfold RunPost at CP
  generalize cmDo s f t (cmOf r) = O at *
  have b1 : (r == [100]) = false := by rw [hk, beq_eq_false_iff_ne]; simp
  have b2 : (1 : Int) ≤ (r.length : Int) := by rw [hk]; simp; omega
  have b3 : r.drop 1 = r' := by rw [hk]; rfl
  have b4 : r.tail = r' := by rw [hk]; rfl
  clear hpn HO hs hk hh hr hft ht
  clear hL
  go_enter Tryz.func149, Tryz.ntmps149
  go_wp2_with fail
  refine (SP.out _ (HL.out.mx.up (by exact bBel))).mono ?_
  rintro e w1 ⟨rfl, hI, hpz, hb⟩
  simp only [World.size_alloc] at hI hpz ⊢
  have xc : ∀ o, w1.cell? ⟨w.heap.size, o, none⟩ = #[S s, .int .i64 f, .int .i64 t][o]? := (fun o => (hb.cell (p := ⟨w.heap.size, o, none⟩) (by simp <;> omega)).trans (by simp [go_sem])); have xf : ∀ o, w1.frozen? ⟨w.heap.size, o, none⟩ = false := (fun o => (hb.frozen (p := ⟨w.heap.size, o, none⟩) (by simp <;> omega)).trans (by simp [go_sem])); have xz : w.heap.size < w1.heap.size := (by have := hb.size; (try simp at this); omega); have xy := xz
  have hW : Below w.heap.size w w1 := by exact bBel
  have HW := Lib.hid hW
  have HL1 := Lib.hid (HL.out.up hW)
  have HIP := Lib.hid hI
  clear hb hW hI SP HL xy
  go_wp2_with fail
  refine (HH.out _).mono ?_
  rintro e w2 ⟨rfl, rfl⟩
  obtain ⟨W2, hW2⟩ : ∃ z, z = w1.alloc (.cells #[.slice (some ⟨w.heap.size + 1, 0, none⟩) P.length P.length] 28) := ⟨_, rfl⟩
  rw [← hW2]
  have hB2 : Below w1.heap.size w1 W2 := by rw [hW2]; exact up_alloc (Below.refl _ _) _
  replace xc := up_c hB2 xz xc
  have HW2 := Lib.hid (up_trans HW.out hB2)
  have HL2 := Lib.hid (HL1.out.up hB2)
  clear hW2 hB2 HW HL1 HH HIP hpz xf xz
  go_wp2_with fail
  go_region_with (go_at_call 170; refine (CP.out _ (HL2.out.up (by exact bBel))).mono ?_; rintro e w3 ⟨z, ok, rfl, hok, hb3⟩; go_must (have HQ := Lib.hid (And.intro hok (up_trans HW2.out (show Below W2.heap.size W2 w3 by exact bBel))); clear hok hb3))
  all_goals
    clear CP HL2 xc HW2
    go_wp2_with fail
    go_ret2
    exact ⟨z, ok, rfl, HQ.out⟩
set_option maxRecDepth 100000 in
set_option maxHeartbeats 400000 in
theorem run_gt (s r : List UInt8) (f t : Nat) (w : World) (hs : tv s = true) (hft : f ≤ t) (ht : t ≤ nl s) (hr : r.length ≤ 1048576) (hL : LW w) (hk : r = [62]) :
    Calls Tryz.prog 149 #[.agg #[S s, .int .i64 f, .int .i64 t], S r] w (RunPost (cmDo s f t (cmOf r)) w) := by
  obtain ⟨J, hJ⟩ : ∃ J, J = jn (mapTo (fun l => 32 :: l) f (t + 1) (lns s)) := ⟨_, rfl⟩
  have HO := Lib.hid (show cmDo s f t (cmOf r) = if tv J = true then some J else none by rw [hk, hJ]; rfl)
  have EC := Lib.hid (fun w' (hm' : MX w') => each1_any s f t w' hs hft ht hm')
  unfold EachPost at EC
  rw [← hJ] at EC
  have hh : hd8 r 116 = false := by rw [hk]; rfl
  have HH := Lib.hid (fun w => hasPrefix_any r 116 w)
  rw [hh] at HH
  have hl := tv_len hs
  have hnl := nl_le s
  have HL := Lib.hid hL
  have SP := Lib.hid (fun w' (hm : MX w') => splitS_any r w' hr hm)
  unfold PtPost at SP
  unfold RunPost
  have hpn := psl_ne r
  generalize psl r = P at *
  generalize cmDo s f t (cmOf r) = O at *
  have b1 : (r == [100]) = false := by rw [hk]; rfl
  have b2 : (r == [62]) = true := by rw [hk]; rfl
  clear hpn hs hk hh hr hft ht hJ
  clear hL
  go_enter Tryz.func149, Tryz.ntmps149
  go_wp2_with fail
  refine (SP.out _ (HL.out.mx.up (by exact bBel))).mono ?_
  rintro e w1 ⟨rfl, hI, hpz, hb⟩
  simp only [World.size_alloc] at hI hpz ⊢
  have xc : ∀ o, w1.cell? ⟨w.heap.size, o, none⟩ = #[S s, .int .i64 f, .int .i64 t][o]? := (fun o => (hb.cell (p := ⟨w.heap.size, o, none⟩) (by simp <;> omega)).trans (by simp [go_sem])); have xf : ∀ o, w1.frozen? ⟨w.heap.size, o, none⟩ = false := (fun o => (hb.frozen (p := ⟨w.heap.size, o, none⟩) (by simp <;> omega)).trans (by simp [go_sem])); have xz : w.heap.size < w1.heap.size := (by have := hb.size; (try simp at this); omega); have xy := xz
  have hW : Below w.heap.size w w1 := by exact bBel
  have HW := Lib.hid hW
  have HL1 := Lib.hid (HL.out.up hW)
  have HIP := Lib.hid hI
  clear hb hW hI SP HL xy
  go_wp2_with fail
  refine (HH.out _).mono ?_
  rintro e w2 ⟨rfl, rfl⟩
  obtain ⟨W2, hW2⟩ : ∃ z, z = w1.alloc (.cells #[.slice (some ⟨w.heap.size + 1, 0, none⟩) P.length P.length] 28) := ⟨_, rfl⟩
  rw [← hW2]
  have hB2 : Below w1.heap.size w1 W2 := by rw [hW2]; exact up_alloc (Below.refl _ _) _
  have QI := Lib.hid (show Is W2 w1.heap.size #[.slice (some ⟨w.heap.size + 1, 0, none⟩) P.length P.length] by rw [hW2]; exact new_is w1 _ _)
  have PI := Lib.hid (show Is W2 (w.heap.size + 1) (P.flatMap strC).toArray from (show Is w1 (w.heap.size + 1) (P.flatMap strC).toArray from HIP.out).up hpz hB2)
  have qz : w1.heap.size < W2.heap.size := by rw [hW2]; simp
  have pz : w.heap.size + 1 < W2.heap.size := Nat.lt_of_lt_of_le hpz hB2.size
  replace xc := up_c hB2 xz xc
  have HW2 := Lib.hid (up_trans HW.out hB2)
  have HL2 := Lib.hid (HL1.out.up hB2)
  clear hW2 hB2 HW HL1 HH HIP hpz xf xz
  clear QI PI qz pz
  go_wp2_with fail
  refine (EC.out _ HL2.out.mx).mono ?_
  rintro e w3 ⟨z, ok, rfl, h1, h2, hb⟩
  have HW3 := Lib.hid (up_trans HW2.out hb)
  have HQ := Lib.hid (show RnOk O z ok by
    rcases hv : tv J with _ | _
    · rw [hv] at HO
      exact ⟨(fun y h => by rw [HO.out] at h; cases h), fun _ => h2 hv⟩
    · rw [hv] at HO
      obtain ⟨h3, h4⟩ := h1 hv
      exact ⟨(fun y h => by rw [HO.out] at h; injection h with h; exact ⟨h3.trans h, h4⟩), (fun h => by rw [HO.out] at h; cases h)⟩)
  clear EC h1 h2 hb xc HL2 HW2
  go_wp2_with fail
  go_ret2
  exact ⟨z, ok, rfl, HQ.out, HW3.out⟩
set_option maxRecDepth 100000 in
set_option maxHeartbeats 400000 in
theorem run_lt (s r : List UInt8) (f t : Nat) (w : World) (hs : tv s = true) (hft : f ≤ t) (ht : t ≤ nl s) (hr : r.length ≤ 1048576) (hL : LW w) (hk : r = [60]) :
    Calls Tryz.prog 149 #[.agg #[S s, .int .i64 f, .int .i64 t], S r] w (RunPost (cmDo s f t (cmOf r)) w) := by
  obtain ⟨J, hJ⟩ : ∃ J, J = jn (mapTo trm f (t + 1) (lns s)) := ⟨_, rfl⟩
  have HO := Lib.hid (show cmDo s f t (cmOf r) = if tv J = true then some J else none by rw [hk, hJ]; rfl)
  have EC := Lib.hid (fun w' (hm' : MX w') => each2_any s f t w' hs hft ht hm')
  unfold EachPost at EC
  rw [← hJ] at EC
  have hh : hd8 r 116 = false := by rw [hk]; rfl
  have HH := Lib.hid (fun w => hasPrefix_any r 116 w)
  rw [hh] at HH
  have hl := tv_len hs
  have hnl := nl_le s
  have HL := Lib.hid hL
  have SP := Lib.hid (fun w' (hm : MX w') => splitS_any r w' hr hm)
  unfold PtPost at SP
  unfold RunPost
  have hpn := psl_ne r
  generalize psl r = P at *
  generalize cmDo s f t (cmOf r) = O at *
  have b1 : (r == [100]) = false := by rw [hk]; rfl
  have b2 : (r == [62]) = false := by rw [hk]; rfl
  have b3 : (r == [60]) = true := by rw [hk]; rfl
  clear hpn hs hk hh hr hft ht hJ
  clear hL
  go_enter Tryz.func149, Tryz.ntmps149
  go_wp2_with fail
  refine (SP.out _ (HL.out.mx.up (by exact bBel))).mono ?_
  rintro e w1 ⟨rfl, hI, hpz, hb⟩
  simp only [World.size_alloc] at hI hpz ⊢
  have xc : ∀ o, w1.cell? ⟨w.heap.size, o, none⟩ = #[S s, .int .i64 f, .int .i64 t][o]? := (fun o => (hb.cell (p := ⟨w.heap.size, o, none⟩) (by simp <;> omega)).trans (by simp [go_sem])); have xf : ∀ o, w1.frozen? ⟨w.heap.size, o, none⟩ = false := (fun o => (hb.frozen (p := ⟨w.heap.size, o, none⟩) (by simp <;> omega)).trans (by simp [go_sem])); have xz : w.heap.size < w1.heap.size := (by have := hb.size; (try simp at this); omega); have xy := xz
  have hW : Below w.heap.size w w1 := by exact bBel
  have HW := Lib.hid hW
  have HL1 := Lib.hid (HL.out.up hW)
  have HIP := Lib.hid hI
  clear hb hW hI SP HL xy
  go_wp2_with fail
  refine (HH.out _).mono ?_
  rintro e w2 ⟨rfl, rfl⟩
  obtain ⟨W2, hW2⟩ : ∃ z, z = w1.alloc (.cells #[.slice (some ⟨w.heap.size + 1, 0, none⟩) P.length P.length] 28) := ⟨_, rfl⟩
  rw [← hW2]
  have hB2 : Below w1.heap.size w1 W2 := by rw [hW2]; exact up_alloc (Below.refl _ _) _
  have QI := Lib.hid (show Is W2 w1.heap.size #[.slice (some ⟨w.heap.size + 1, 0, none⟩) P.length P.length] by rw [hW2]; exact new_is w1 _ _)
  have PI := Lib.hid (show Is W2 (w.heap.size + 1) (P.flatMap strC).toArray from (show Is w1 (w.heap.size + 1) (P.flatMap strC).toArray from HIP.out).up hpz hB2)
  have qz : w1.heap.size < W2.heap.size := by rw [hW2]; simp
  have pz : w.heap.size + 1 < W2.heap.size := Nat.lt_of_lt_of_le hpz hB2.size
  replace xc := up_c hB2 xz xc
  have HW2 := Lib.hid (up_trans HW.out hB2)
  have HL2 := Lib.hid (HL1.out.up hB2)
  clear hW2 hB2 HW HL1 HH HIP hpz xf xz
  clear QI PI qz pz
  go_wp2_with fail
  refine (EC.out _ HL2.out.mx).mono ?_
  rintro e w3 ⟨z, ok, rfl, h1, h2, hb⟩
  have HW3 := Lib.hid (up_trans HW2.out hb)
  have HQ := Lib.hid (show RnOk O z ok by
    rcases hv : tv J with _ | _
    · rw [hv] at HO
      exact ⟨(fun y h => by rw [HO.out] at h; cases h), fun _ => h2 hv⟩
    · rw [hv] at HO
      obtain ⟨h3, h4⟩ := h1 hv
      exact ⟨(fun y h => by rw [HO.out] at h; injection h with h; exact ⟨h3.trans h, h4⟩), (fun h => by rw [HO.out] at h; cases h)⟩)
  clear EC h1 h2 hb xc HL2 HW2
  go_wp2_with fail
  go_ret2
  exact ⟨z, ok, rfl, HQ.out, HW3.out⟩

theorem cmOf_s {r : List UInt8} (h1 : r ≠ [100]) (h2 : r.head? ≠ some 116) (h3 : r ≠ [62]) (h4 : r ≠ [60]) : cmOf r = cmS r := by
  unfold cmOf
  rw [if_neg h1, if_neg h2, if_neg h3, if_neg h4]
set_option maxRecDepth 100000 in
set_option maxHeartbeats 1000000 in
theorem run_len (s r : List UInt8) (f t : Nat) (w : World) (hs : tv s = true) (hft : f ≤ t) (ht : t ≤ nl s) (hr : r.length ≤ 1048576) (hL : LW w) (h1 : r ≠ [100]) (h2 : r.head? ≠ some 116) (h3 : r ≠ [62]) (h4 : r ≠ [60]) (hp : (psl r).length ≠ 4) :
    Calls Tryz.prog 149 #[.agg #[S s, .int .i64 f, .int .i64 t], S r] w (RunPost (cmDo s f t (cmOf r)) w) := by
  have HO := Lib.hid (show cmDo s f t (cmOf r) = none by
    rw [cmOf_s h1 h2 h3 h4]
    unfold cmS
    split
    · rename_i e
      rw [e] at hp
      exact absurd rfl hp
    · rfl)
  have hh : hd8 r 116 = false := by
    rw [Bool.eq_false_iff]
    intro e
    exact h2 (hd8_iff.1 e)
  have HH := Lib.hid (fun w => hasPrefix_any r 116 w)
  rw [hh] at HH
  have b1 : (r == [100]) = false := by simpa using h1
  have b2 : (r == [62]) = false := by simpa using h3
  have b3 : (r == [60]) = false := by simpa using h4
  generalize cmDo s f t (cmOf r) = O at *
  have hl := tv_len hs
  have hnl := nl_le s
  have HL := Lib.hid hL
  have SP := Lib.hid (fun w' (hm : MX w') => splitS_any r w' hr hm)
  unfold PtPost at SP
  unfold RunPost
  have hpn := psl_ne r
  generalize psl r = P at *
  have p4 : ((P.length : Int) == 4) = false := by rw [beq_eq_false_iff_ne]; omega
  clear hp
  clear hpn hs hh hr hft ht h1 h2 h3 h4
  clear hL
  go_enter Tryz.func149, Tryz.ntmps149
  go_wp2_with fail
  refine (SP.out _ (HL.out.mx.up (by exact bBel))).mono ?_
  rintro e w1 ⟨rfl, hI, hpz, hb⟩
  simp only [World.size_alloc] at hI hpz ⊢
  have xc : ∀ o, w1.cell? ⟨w.heap.size, o, none⟩ = #[S s, .int .i64 f, .int .i64 t][o]? := (fun o => (hb.cell (p := ⟨w.heap.size, o, none⟩) (by simp <;> omega)).trans (by simp [go_sem])); have xf : ∀ o, w1.frozen? ⟨w.heap.size, o, none⟩ = false := (fun o => (hb.frozen (p := ⟨w.heap.size, o, none⟩) (by simp <;> omega)).trans (by simp [go_sem])); have xz : w.heap.size < w1.heap.size := (by have := hb.size; (try simp at this); omega); have xy := xz
  have hW : Below w.heap.size w w1 := by exact bBel
  have HW := Lib.hid hW
  have HL1 := Lib.hid (HL.out.up hW)
  have HIP := Lib.hid hI
  clear hb hW hI SP HL xy
  go_wp2_with fail
  refine (HH.out _).mono ?_
  rintro e w2 ⟨rfl, rfl⟩
  obtain ⟨W2, hW2⟩ : ∃ z, z = w1.alloc (.cells #[.slice (some ⟨w.heap.size + 1, 0, none⟩) P.length P.length] 28) := ⟨_, rfl⟩
  rw [← hW2]
  have hB2 : Below w1.heap.size w1 W2 := by rw [hW2]; exact up_alloc (Below.refl _ _) _
  have QI := Lib.hid (show Is W2 w1.heap.size #[.slice (some ⟨w.heap.size + 1, 0, none⟩) P.length P.length] by rw [hW2]; exact new_is w1 _ _)
  have PI := Lib.hid (show Is W2 (w.heap.size + 1) (P.flatMap strC).toArray from (show Is w1 (w.heap.size + 1) (P.flatMap strC).toArray from HIP.out).up hpz hB2)
  have qz : w1.heap.size < W2.heap.size := by rw [hW2]; simp
  have pz : w.heap.size + 1 < W2.heap.size := Nat.lt_of_lt_of_le hpz hB2.size
  replace xc := up_c hB2 xz xc
  have HW2 := Lib.hid (up_trans HW.out hB2)
  have HL2 := Lib.hid (HL1.out.up hB2)
  clear hW2 hB2 HW HL1 HH HIP hpz xf xz
  have q0 := QI.out.1 0
  simp only [List.getElem?_toArray, List.getElem?_cons_zero] at q0
  clear QI PI
  go_wp2_with fail
  go_ret2
  exact ⟨[], false, rfl, ⟨(fun y h => by rw [HO.out] at h; cases h), fun _ => rfl⟩, HW2.out⟩
set_option maxRecDepth 100000 in
set_option maxHeartbeats 2000000 in
theorem run_four (s r a x u z : List UInt8) (f t : Nat) (w : World) (hs : tv s = true) (hft : f ≤ t) (ht : t ≤ nl s) (hr : r.length ≤ 1048576) (hL : LW w) (h1 : r ≠ [100]) (h2 : r.head? ≠ some 116) (h3 : r ≠ [62]) (h4 : r ≠ [60]) (hp : psl r = [a, x, u, z]) (hxl : x.length ≤ 1048576) (hul : u.length ≤ 1048576) :
    Calls Tryz.prog 149 #[.agg #[S s, .int .i64 f, .int .i64 t], S r] w (RunPost (cmDo s f t (cmOf r)) w) := by
  have HC := Lib.hid (show cmDo s f t (cmOf r) = cmDo s f t (if a = [115] ∧ x ≠ [] ∧ z = [] then .each (rpT x u) else .no) by
    rw [cmOf_s h1 h2 h3 h4]
    unfold cmS
    rw [hp])
  obtain ⟨J, hJ⟩ : ∃ J, J = jn (mapTo (rpT x u) f (t + 1) (lns s)) := ⟨_, rfl⟩
  have HCJ := Lib.hid (show cmDo s f t (.each (rpT x u)) = if tv J = true then some J else none by rw [hJ]; rfl)
  have EC := Lib.hid (fun q g0 c w' (hm' : MX w') hne hq hg c0 c1 c2 => each3_any s x u f t q g0 c w' hs hft ht hm' hne hxl hul hq hg c0 c1 c2)
  unfold EachPost at EC
  rw [← hJ] at EC
  have hh : hd8 r 116 = false := by
    rw [Bool.eq_false_iff]
    intro e
    exact h2 (hd8_iff.1 e)
  have HH := Lib.hid (fun w => hasPrefix_any r 116 w)
  rw [hh] at HH
  have b1 : (r == [100]) = false := by simpa using h1
  have b2 : (r == [62]) = false := by simpa using h3
  have b3 : (r == [60]) = false := by simpa using h4
  generalize cmDo s f t (cmOf r) = O at *
  have hl := tv_len hs
  have hnl := nl_le s
  have HL := Lib.hid hL
  have SP := Lib.hid (fun w' (hm : MX w') => splitS_any r w' hr hm)
  unfold PtPost at SP
  unfold RunPost
  have hpn := psl_ne r
  generalize psl r = P at *
  have HP := Lib.hid hp
  clear hJ hp
  by_cases ha : a = [115]
  · by_cases hx : x = []
    · have HO := Lib.hid (show O = none by rw [HC.out, if_neg (fun h => h.2.1 hx)]; rfl)
      subst ha hx
      clear HC HCJ EC
      clear hpn hs hh hr hft ht h1 h2 h3 h4
      clear hL
      go_enter Tryz.func149, Tryz.ntmps149
      go_wp2_with fail
      refine (SP.out _ (HL.out.mx.up (by exact bBel))).mono ?_
      rintro e w1 ⟨rfl, hI, hpz, hb⟩
      simp only [World.size_alloc] at hI hpz ⊢
      have xc : ∀ o, w1.cell? ⟨w.heap.size, o, none⟩ = #[S s, .int .i64 f, .int .i64 t][o]? := (fun o => (hb.cell (p := ⟨w.heap.size, o, none⟩) (by simp <;> omega)).trans (by simp [go_sem])); have xf : ∀ o, w1.frozen? ⟨w.heap.size, o, none⟩ = false := (fun o => (hb.frozen (p := ⟨w.heap.size, o, none⟩) (by simp <;> omega)).trans (by simp [go_sem])); have xz : w.heap.size < w1.heap.size := (by have := hb.size; (try simp at this); omega); have xy := xz
      have hW : Below w.heap.size w w1 := by exact bBel
      have HW := Lib.hid hW
      have HL1 := Lib.hid (HL.out.up hW)
      have HIP := Lib.hid hI
      clear hb hW hI SP HL xy
      go_wp2_with fail
      refine (HH.out _).mono ?_
      rintro e w2 ⟨rfl, rfl⟩
      obtain ⟨W2, hW2⟩ : ∃ z, z = w1.alloc (.cells #[.slice (some ⟨w.heap.size + 1, 0, none⟩) P.length P.length] 28) := ⟨_, rfl⟩
      rw [← hW2]
      have hB2 : Below w1.heap.size w1 W2 := by rw [hW2]; exact up_alloc (Below.refl _ _) _
      have QI := Lib.hid (show Is W2 w1.heap.size #[.slice (some ⟨w.heap.size + 1, 0, none⟩) P.length P.length] by rw [hW2]; exact new_is w1 _ _)
      have PI := Lib.hid (show Is W2 (w.heap.size + 1) (P.flatMap strC).toArray from (show Is w1 (w.heap.size + 1) (P.flatMap strC).toArray from HIP.out).up hpz hB2)
      have qz : w1.heap.size < W2.heap.size := by rw [hW2]; simp
      have pz : w.heap.size + 1 < W2.heap.size := Nat.lt_of_lt_of_le hpz hB2.size
      replace xc := up_c hB2 xz xc
      have HW2 := Lib.hid (up_trans HW.out hB2)
      have HL2 := Lib.hid (HL1.out.up hB2)
      clear hW2 hB2 HW HL1 HH HIP hpz xf xz
      have q0 := QI.out.1 0
      simp only [List.getElem?_toArray, List.getElem?_cons_zero] at q0
      have hpl : P.length = 4 := by rw [HP.out]; rfl
      rw [hpl] at q0
      have PI4 := PI.out
      rw [HP.out] at PI4
      have p0 := PI4.1 0
      have p1 := PI4.1 1
      simp only [List.flatMap_cons, strC, List.cons_append, List.nil_append, List.getElem?_toArray, List.getElem?_cons_zero, List.getElem?_cons_succ] at p0 p1
      clear PI4 HP hpl
      clear QI PI
      go_wp2_with fail
      go_ret2
      exact ⟨[], false, rfl, ⟨(fun y h => by rw [HO.out] at h; cases h), fun _ => rfl⟩, HW2.out⟩
    · have g1 : (x == []) = false := by simpa using hx
      have g2 : x.isEmpty = false := by simpa using hx
      have g3 : (x != []) = true := by simpa using hx
      by_cases hz : z = []
      · have HO := Lib.hid (show O = if tv J = true then some J else none by rw [HC.out, if_pos ⟨ha, hx, hz⟩]; exact HCJ.out)
        have HX := Lib.hid hx
        subst ha hz
        clear HC HCJ hx
        clear hpn hs hh hr hft ht h1 h2 h3 h4
        clear hL
        go_enter Tryz.func149, Tryz.ntmps149
        go_wp2_with fail
        refine (SP.out _ (HL.out.mx.up (by exact bBel))).mono ?_
        rintro e w1 ⟨rfl, hI, hpz, hb⟩
        simp only [World.size_alloc] at hI hpz ⊢
        have xc : ∀ o, w1.cell? ⟨w.heap.size, o, none⟩ = #[S s, .int .i64 f, .int .i64 t][o]? := (fun o => (hb.cell (p := ⟨w.heap.size, o, none⟩) (by simp <;> omega)).trans (by simp [go_sem])); have xf : ∀ o, w1.frozen? ⟨w.heap.size, o, none⟩ = false := (fun o => (hb.frozen (p := ⟨w.heap.size, o, none⟩) (by simp <;> omega)).trans (by simp [go_sem])); have xz : w.heap.size < w1.heap.size := (by have := hb.size; (try simp at this); omega); have xy := xz
        have hW : Below w.heap.size w w1 := by exact bBel
        have HW := Lib.hid hW
        have HL1 := Lib.hid (HL.out.up hW)
        have HIP := Lib.hid hI
        clear hb hW hI SP HL xy
        go_wp2_with fail
        refine (HH.out _).mono ?_
        rintro e w2 ⟨rfl, rfl⟩
        obtain ⟨W2, hW2⟩ : ∃ z, z = w1.alloc (.cells #[.slice (some ⟨w.heap.size + 1, 0, none⟩) P.length P.length] 28) := ⟨_, rfl⟩
        rw [← hW2]
        have hB2 : Below w1.heap.size w1 W2 := by rw [hW2]; exact up_alloc (Below.refl _ _) _
        have QI := Lib.hid (show Is W2 w1.heap.size #[.slice (some ⟨w.heap.size + 1, 0, none⟩) P.length P.length] by rw [hW2]; exact new_is w1 _ _)
        have PI := Lib.hid (show Is W2 (w.heap.size + 1) (P.flatMap strC).toArray from (show Is w1 (w.heap.size + 1) (P.flatMap strC).toArray from HIP.out).up hpz hB2)
        have qz : w1.heap.size < W2.heap.size := by rw [hW2]; simp
        have pz : w.heap.size + 1 < W2.heap.size := Nat.lt_of_lt_of_le hpz hB2.size
        replace xc := up_c hB2 xz xc
        have HW2 := Lib.hid (up_trans HW.out hB2)
        have HL2 := Lib.hid (HL1.out.up hB2)
        clear hW2 hB2 HW HL1 HH HIP hpz xf xz
        have q0 := QI.out.1 0
        simp only [List.getElem?_toArray, List.getElem?_cons_zero] at q0
        have hpl : P.length = 4 := by rw [HP.out]; rfl
        rw [hpl] at q0
        have PI4 := PI.out
        rw [HP.out] at PI4
        have p0 := PI4.1 0
        have p1 := PI4.1 1
        have p2 := PI4.1 2
        have p3 := PI4.1 3
        simp only [List.flatMap_cons, strC, List.cons_append, List.nil_append, List.getElem?_toArray, List.getElem?_cons_zero, List.getElem?_cons_succ] at p0 p1 p2 p3
        clear PI4 HP hpl
        have E1 := Lib.hid (EC.out w1.heap.size (w.heap.size + 1) 4 W2 HL2.out.mx HX.out qz pz q0 p1 p2)
        clear QI PI EC HX
        go_wp2_with fail
        refine E1.out.mono ?_
        rintro e w3 ⟨y, ok, rfl, k1, k2, hb⟩
        have HW3 := Lib.hid (up_trans HW2.out hb)
        have HQ := Lib.hid (show RnOk O y ok by
          rcases hv : tv J with _ | _
          · rw [hv] at HO
            exact ⟨(fun y h => by rw [HO.out] at h; cases h), fun _ => k2 hv⟩
          · rw [hv] at HO
            obtain ⟨k3, k4⟩ := k1 hv
            exact ⟨(fun y h => by rw [HO.out] at h; injection h with h; exact ⟨k3.trans h, k4⟩), (fun h => by rw [HO.out] at h; cases h)⟩)
        clear E1 k1 k2 hb xc HL2 HW2 p0 p1 p2 p3 q0
        go_wp2_with fail
        go_ret2
        exact ⟨y, ok, rfl, HQ.out, HW3.out⟩
      · have HO := Lib.hid (show O = none by rw [HC.out, if_neg (fun h => hz h.2.2)]; rfl)
        have g4 : (z == []) = false := by simpa using hz
        have g5 : z.isEmpty = false := by simpa using hz
        subst ha
        clear HC HCJ EC hx hz
        clear hpn hs hh hr hft ht h1 h2 h3 h4
        clear hL
        go_enter Tryz.func149, Tryz.ntmps149
        go_wp2_with fail
        refine (SP.out _ (HL.out.mx.up (by exact bBel))).mono ?_
        rintro e w1 ⟨rfl, hI, hpz, hb⟩
        simp only [World.size_alloc] at hI hpz ⊢
        have xc : ∀ o, w1.cell? ⟨w.heap.size, o, none⟩ = #[S s, .int .i64 f, .int .i64 t][o]? := (fun o => (hb.cell (p := ⟨w.heap.size, o, none⟩) (by simp <;> omega)).trans (by simp [go_sem])); have xf : ∀ o, w1.frozen? ⟨w.heap.size, o, none⟩ = false := (fun o => (hb.frozen (p := ⟨w.heap.size, o, none⟩) (by simp <;> omega)).trans (by simp [go_sem])); have xz : w.heap.size < w1.heap.size := (by have := hb.size; (try simp at this); omega); have xy := xz
        have hW : Below w.heap.size w w1 := by exact bBel
        have HW := Lib.hid hW
        have HL1 := Lib.hid (HL.out.up hW)
        have HIP := Lib.hid hI
        clear hb hW hI SP HL xy
        go_wp2_with fail
        refine (HH.out _).mono ?_
        rintro e w2 ⟨rfl, rfl⟩
        obtain ⟨W2, hW2⟩ : ∃ z, z = w1.alloc (.cells #[.slice (some ⟨w.heap.size + 1, 0, none⟩) P.length P.length] 28) := ⟨_, rfl⟩
        rw [← hW2]
        have hB2 : Below w1.heap.size w1 W2 := by rw [hW2]; exact up_alloc (Below.refl _ _) _
        have QI := Lib.hid (show Is W2 w1.heap.size #[.slice (some ⟨w.heap.size + 1, 0, none⟩) P.length P.length] by rw [hW2]; exact new_is w1 _ _)
        have PI := Lib.hid (show Is W2 (w.heap.size + 1) (P.flatMap strC).toArray from (show Is w1 (w.heap.size + 1) (P.flatMap strC).toArray from HIP.out).up hpz hB2)
        have qz : w1.heap.size < W2.heap.size := by rw [hW2]; simp
        have pz : w.heap.size + 1 < W2.heap.size := Nat.lt_of_lt_of_le hpz hB2.size
        replace xc := up_c hB2 xz xc
        have HW2 := Lib.hid (up_trans HW.out hB2)
        have HL2 := Lib.hid (HL1.out.up hB2)
        clear hW2 hB2 HW HL1 HH HIP hpz xf xz
        have q0 := QI.out.1 0
        simp only [List.getElem?_toArray, List.getElem?_cons_zero] at q0
        have hpl : P.length = 4 := by rw [HP.out]; rfl
        rw [hpl] at q0
        have PI4 := PI.out
        rw [HP.out] at PI4
        have p0 := PI4.1 0
        have p1 := PI4.1 1
        have p3 := PI4.1 3
        simp only [List.flatMap_cons, strC, List.cons_append, List.nil_append, List.getElem?_toArray, List.getElem?_cons_zero, List.getElem?_cons_succ] at p0 p1 p3
        clear PI4 HP hpl
        clear QI PI
        go_wp2_with fail
        go_ret2
        exact ⟨[], false, rfl, ⟨(fun y h => by rw [HO.out] at h; cases h), fun _ => rfl⟩, HW2.out⟩
  · have HO := Lib.hid (show O = none by rw [HC.out, if_neg (fun h => ha h.1)]; rfl)
    have g4 : (a == [115]) = false := by simpa using ha
    clear HC HCJ EC ha
    clear hpn hs hh hr hft ht h1 h2 h3 h4
    clear hL
    go_enter Tryz.func149, Tryz.ntmps149
    go_wp2_with fail
    refine (SP.out _ (HL.out.mx.up (by exact bBel))).mono ?_
    rintro e w1 ⟨rfl, hI, hpz, hb⟩
    simp only [World.size_alloc] at hI hpz ⊢
    have xc : ∀ o, w1.cell? ⟨w.heap.size, o, none⟩ = #[S s, .int .i64 f, .int .i64 t][o]? := (fun o => (hb.cell (p := ⟨w.heap.size, o, none⟩) (by simp <;> omega)).trans (by simp [go_sem])); have xf : ∀ o, w1.frozen? ⟨w.heap.size, o, none⟩ = false := (fun o => (hb.frozen (p := ⟨w.heap.size, o, none⟩) (by simp <;> omega)).trans (by simp [go_sem])); have xz : w.heap.size < w1.heap.size := (by have := hb.size; (try simp at this); omega); have xy := xz
    have hW : Below w.heap.size w w1 := by exact bBel
    have HW := Lib.hid hW
    have HL1 := Lib.hid (HL.out.up hW)
    have HIP := Lib.hid hI
    clear hb hW hI SP HL xy
    go_wp2_with fail
    refine (HH.out _).mono ?_
    rintro e w2 ⟨rfl, rfl⟩
    obtain ⟨W2, hW2⟩ : ∃ z, z = w1.alloc (.cells #[.slice (some ⟨w.heap.size + 1, 0, none⟩) P.length P.length] 28) := ⟨_, rfl⟩
    rw [← hW2]
    have hB2 : Below w1.heap.size w1 W2 := by rw [hW2]; exact up_alloc (Below.refl _ _) _
    have QI := Lib.hid (show Is W2 w1.heap.size #[.slice (some ⟨w.heap.size + 1, 0, none⟩) P.length P.length] by rw [hW2]; exact new_is w1 _ _)
    have PI := Lib.hid (show Is W2 (w.heap.size + 1) (P.flatMap strC).toArray from (show Is w1 (w.heap.size + 1) (P.flatMap strC).toArray from HIP.out).up hpz hB2)
    have qz : w1.heap.size < W2.heap.size := by rw [hW2]; simp
    have pz : w.heap.size + 1 < W2.heap.size := Nat.lt_of_lt_of_le hpz hB2.size
    replace xc := up_c hB2 xz xc
    have HW2 := Lib.hid (up_trans HW.out hB2)
    have HL2 := Lib.hid (HL1.out.up hB2)
    clear hW2 hB2 HW HL1 HH HIP hpz xf xz
    have q0 := QI.out.1 0
    simp only [List.getElem?_toArray, List.getElem?_cons_zero] at q0
    have hpl : P.length = 4 := by rw [HP.out]; rfl
    rw [hpl] at q0
    have PI4 := PI.out
    rw [HP.out] at PI4
    have p0 := PI4.1 0
    simp only [List.flatMap_cons, strC, List.cons_append, List.nil_append, List.getElem?_toArray, List.getElem?_cons_zero, List.getElem?_cons_succ] at p0
    clear PI4 HP hpl
    clear QI PI
    go_wp2_with fail
    go_ret2
    exact ⟨[], false, rfl, ⟨(fun y h => by rw [HO.out] at h; cases h), fun _ => rfl⟩, HW2.out⟩
theorem psl_lens : ∀ (n : Nat) (s : List UInt8), s.length ≤ n → ∀ x ∈ psl s, x.length ≤ s.length
  | 0, s, h, x, hx => by
    have : s = [] := List.length_eq_zero_iff.1 (by omega)
    subst this
    simp [psl, Lib.splitK] at hx
    rw [hx]
    exact Nat.le_refl _
  | n + 1, s, h, x, hx => by
    rcases sl_cases s with ⟨_, _, _, e⟩ | ⟨h1, e⟩
    · rw [e] at hx
      rw [List.mem_singleton.1 hx]
      exact Nat.le_refl _
    · rw [e] at hx
      rcases List.mem_cons.1 hx with rfl | hx
      · exact slA_le s
      · have hs0 : 0 < s.length := by
          rcases Nat.eq_zero_or_pos s.length with h0 | h0
          · rw [List.length_eq_zero_iff.1 h0] at h1; cases h1
          · exact h0
        have h2 : (slR s).length < s.length := by
          unfold slR
          rw [if_pos h1, List.length_drop]
          omega
        have := psl_lens n (slR s) (by omega) x hx
        omega
theorem run_any (s r : List UInt8) (f t : Nat) (w : World) (hs : tv s = true) (hft : f ≤ t) (ht : t ≤ nl s) (hr : r.length ≤ 1048576) (hL : LW w) :
    Calls Tryz.prog 149 #[.agg #[S s, .int .i64 f, .int .i64 t], S r] w (RunPost (cmDo s f t (cmOf r)) w) := by
  by_cases h1 : r = [100]
  · exact run_del s r f t w hs hft ht hr hL h1
  by_cases h2 : r.head? = some 116
  · obtain ⟨r', rfl⟩ : ∃ r', r = 116 :: r' := by
      cases r with
      | nil => cases h2
      | cons x r => simp at h2; exact ⟨r, by rw [h2]⟩
    exact run_cpy s _ r' f t w hs hft ht hr hL rfl
  by_cases h3 : r = [62]
  · exact run_gt s r f t w hs hft ht hr hL h3
  by_cases h4 : r = [60]
  · exact run_lt s r f t w hs hft ht hr hL h4
  have hx := psl_lens r.length r (Nat.le_refl _)
  by_cases hp : (psl r).length = 4
  · obtain ⟨a, x, u, z, hq⟩ : ∃ a x u z, psl r = [a, x, u, z] := by
      generalize psl r = P at *
      match P, hp with
      | [a, x, u, z], _ => exact ⟨a, x, u, z, rfl⟩
    rw [hq] at hx
    have g1 := hx x (by simp)
    have g2 := hx u (by simp)
    exact run_four s r a x u z f t w hs hft ht hr hL h1 h2 h3 h4 hq (by omega) (by omega)
  · exact run_len s r f t w hs hft ht hr hL h1 h2 h3 h4 hp
set_option maxRecDepth 100000 in
set_option maxHeartbeats 1000000 in
theorem implRunLine_any (s c : List UInt8) (w : World) (hs : tv s = true) (hc : c.length ≤ 1048576) (hL : LW w) :
    Calls Tryz.prog 117 #[S s, S c] w (RlPost s (rnL s c) w) := by
  have hl := tv_len hs
  have hnl := nl_le s
  have T := Lib.hid (fun w => implTextValid_any s w (by unfold maxLen; omega))
  rw [hs] at T
  obtain ⟨n, hn⟩ : ∃ n, n = nl s + 1 := ⟨_, rfl⟩
  have M := Lib.hid (fun w => implLineMany_any s w (by unfold maxLen; omega))
  rw [hs, show Lib.countByte s 10 = nl s from rfl, if_pos rfl, show 1 + (nl s : Int) = (n : Int) by omega] at M
  have RR := Lib.hid (fun w' (hL' : LW w') => implReadRange_any c n w' hc hL' (by omega) (by omega))
  unfold RrPost at RR
  have HRN := Lib.hid (show rnL s c = match rng c n with | none => none | some (f, t, k) => cmDo s f t (cmOf (c.drop k)) by rw [hn]; rfl)
  have HIN := Lib.hid (fun a b k (h : rng c n = some (a, b, k)) => rng_in (by omega) h)
  have RU := Lib.hid (fun a b k w' (h1 : a ≤ b) (h2 : b < n) (hL' : LW w') => run_any s (c.drop k) a b w' hs h1 (by omega) (by rw [List.length_drop]; omega) hL')
  have HL := Lib.hid hL
  unfold RunPost at RU
  unfold RlPost
  generalize rnL s c = O at *
  have hn1 : n ≤ nl s + 1 := by omega
  have hn2 : nl s + 1 ≤ n := by omega
  clear hs hn hL
  go_enter Tryz.func117, Tryz.ntmps117
  go_wp2_with fail
  refine (T.out _).mono ?_
  rintro e w1 ⟨rfl, rfl⟩
  go_wp2_with fail
  refine (M.out _).mono ?_
  rintro e w1 ⟨rfl, rfl⟩
  go_wp2_with fail
  refine (RR.out _ (HL.out.up (by exact bBel))).mono ?_
  rintro e w1 ⟨x, y, z, rfl, hx, hb⟩
  have HW := Lib.hid hb
  have HL1 := Lib.hid (HL.out.up hb)
  clear hb RR M T HL
  rcases hx with ⟨a, b, k, h1, rfl, rfl, rfl⟩ | ⟨h1, rfl, rfl, rfl⟩
  · obtain ⟨g1, g2, g3, g4⟩ := HIN.out a b k h1
    rw [h1] at HRN
    have hO : O = cmDo s a b (cmOf (c.drop k)) := HRN.out
    have RU1 := Lib.hid (RU.out a b k w1 g1 g2 HL1.out)
    have RU2 := Lib.hid (show Calls Tryz.prog 149 #[.agg #[S s, .int .i64 a, .int .i64 b], S (c.drop k)] w1 fun e w' => ∃ (z : List UInt8) (ok : Bool), e = .returned (.tuple #[S z, .bool ok]) ∧ RnOk O z ok ∧ Below w1.heap.size w1 w' by rw [hO]; exact RU1.out)
    have f0 : ¬ (a : Int) < 0 := by omega
    have k0 : (0 : Int) ≤ (k : Int) := by omega
    have k1 : (k : Int) ≤ (c.length : Int) := by omega
    clear HRN RU RU1 h1 hO HIN HL1
    go_wp2_with fail
    refine RU2.out.mono ?_
    rintro e w2 ⟨z, ok, rfl, hok, hb⟩
    have HW2 := Lib.hid (up_trans HW.out hb)
    obtain ⟨q1, q2⟩ := hok
    clear RU2 hb
    rcases O with _ | y
    · obtain rfl : ok = false := q2 rfl
      clear q1 q2
      go_wp2_with fail
      go_ret2
      exact ⟨rfl, HW2.out⟩
    · obtain ⟨rfl, rfl⟩ := q1 y rfl
      clear q1 q2
      go_wp2_with fail
      go_ret2
      exact ⟨rfl, HW2.out⟩
  · rw [h1] at HRN
    obtain rfl : O = none := HRN.out
    clear HRN RU HIN h1
    go_wp2_with fail
    go_ret2
    exact ⟨rfl, HW.out⟩

end Go.Proofs.YtbjlkdenkmbepaaGreatDoor
