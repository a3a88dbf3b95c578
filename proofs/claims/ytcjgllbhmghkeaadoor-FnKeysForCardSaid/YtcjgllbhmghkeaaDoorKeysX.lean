/- What is proved here: the walk of the law FnKeysFor. Condition: the cell of the library's MaxLen holds an int. -/
import Derived.Test.YtcjgllbhmghkeaaDoorKeyF1
import Derived.Test.YtcjgllbhmghkeaaDoorDrawT
import Derived.Test.YtcjgllbhmghkeaaDoorAlive
namespace Go.Proofs.YtcjgllbhmghkeaaDoor
open Go.RowKit
set_option linter.unusedVariables false

def DkfPost (w : World) (e : Ending) (w' : World) : Prop := ∃ s : List UInt8, e = .returned (S s) ∧ s.length ≤ 131 ∧ Below w.heap.size w w'
set_option maxRecDepth 100000 in
set_option maxHeartbeats 2000000 in
theorem drawKeysFor_any (v : Value) (n : Nat) (zs : List Int) (w : World) (h : Bytes w w.heap.size v n zs) :
    Calls Tryd.prog 16 #[v] w (DkfPost w) := by
  unfold DkfPost
  go_enter Tryd.func16, Tryd.ntmps16
  go_wp2_with fail
  refine (open_any v n zs _ (h.to (by (repeat (first | exact Below.refl _ _ | assumption | refine Below.drew ?_ | refine up_drewN ?_ _ | refine up_alloc ?_ _ | refine up_set ?_ _ _ (by first | exact Nat.le_refl _ | (simp; done) | (simp; omega) | omega) | refine up_trans ?_ (by assumption)))))).mono ?_
  rintro e w1 ⟨g, m, ys, rfl, hr, hb, hg⟩
  have hW : Below w.heap.size w w1 := by (repeat (first | exact Below.refl _ _ | assumption | refine Below.drew ?_ | refine up_drewN ?_ _ | refine up_alloc ?_ _ | refine up_set ?_ _ _ (by first | exact Nat.le_refl _ | (simp; done) | (simp; omega) | omega) | refine up_trans ?_ (by assumption)))
  clear hb h
  go_wp2_with fail
  refine (l20Text_any _ _ _ _ _ _ hr (by omega)).mono ?_
  rintro e w2 ⟨s, rfl, hs, ⟨q2, hq2, hr2⟩, hb⟩
  replace hW : w.grownBy w2 (some g) := gb_trans (gb_below (World.grownBy.refl _ _) hW) hb
  clear hb hr
  go_wp2_with fail
  refine (pick_any _ _ _ _ _ _ hr2 (by omega)).mono ?_
  rintro e w3 ⟨x3, rfl, h1, h2, hr3, hb⟩
  replace hW := gb_trans hW hb
  have hx3 := h1 (by omega)
  clear hb hr2 h1 h2
  by_cases h0 : 0 < x3
  · by_cases h20 : s.length < 20
    all_goals
      go_wp2_with fail
      refine (odd_any _ _ _ _ _ _ hr3 (by omega)).mono ?_
      rintro e w4 ⟨x4, rfl, ⟨q4, hq4, hr4⟩, hb⟩
      replace hW := gb_trans hW hb
      have hWB := Lib.hid (below_of_gb hW (by omega))
      clear hb hr3 hr4 hW
      have hcl : ¬ 9223372036854775807 < (s.take s.length).length + 1 := by rw [List.length_take]; omega
      have hcl2 : ¬ 9223372036854775807 < (s.take 20).length + 1 := by rw [List.length_take]; omega
      have hcl3 : ¬ 9223372036854775807 < s.length + 1 := by omega
      rcases x4 with _ | _
      all_goals
        go_wp2_with fail
        go_ret
        refine ⟨_, rfl, ?_, hWB.out⟩
        first | omega | (simp; done) | (simp; omega)
  · go_wp2_with fail
    refine (odd_any _ _ _ _ _ _ hr3 (by omega)).mono ?_
    rintro e w4 ⟨x4, rfl, ⟨q4, hq4, hr4⟩, hb⟩
    replace hW := gb_trans hW hb
    have hWB := Lib.hid (below_of_gb hW (by omega))
    clear hb hr3 hr4 hW
    have hcl3 : ¬ 9223372036854775807 < s.length + 1 := by omega
    rcases x4 with _ | _
    all_goals
      go_wp2_with fail
      go_ret
      refine ⟨_, rfl, ?_, hWB.out⟩
      first | omega | (simp; done) | (simp; omega)

set_option maxRecDepth 100000 in
set_option maxHeartbeats 2000000 in
theorem keysFor_walk (v : Value) (n : Nat) (zs : List Int) (w : World) (h : Bytes w w.heap.size v n zs) (hm : MX w) :
    Calls Tryd.prog 5 #[v] w fun e w' => e = .returned (.bool true) ∧ Below w.heap.size w w' := by
  have h' := h
  obtain ⟨h1, h2, A0, c0, rfl, h3, h4, h5⟩ := h
  clear h5 h2 h1 h4
  by_cases hn : n ≤ 1048576
  case neg =>
    go_enter Tryd.func5, Tryd.ntmps5
    go_wp2_with fail
    go_ret
    exact ⟨rfl, Below.refl _ _⟩
  have HM := Lib.hid hm
  clear hm
  go_enter Tryd.func5, Tryd.ntmps5
  go_wp2_with fail
  refine (drawKeysFor_any _ n zs _ (h'.to (by (repeat (first | exact Below.refl _ _ | assumption | refine Below.drew ?_ | refine up_drewN ?_ _ | refine up_alloc ?_ _ | refine up_set ?_ _ _ (by first | exact Nat.le_refl _ | (simp; done) | (simp; omega) | omega) | refine up_trans ?_ (by assumption)))))).mono ?_
  rintro e w1 ⟨s, rfl, hs, hb⟩
  have hW : Below w.heap.size w w1 := by (repeat (first | exact Below.refl _ _ | assumption | refine Below.drew ?_ | refine up_drewN ?_ _ | refine up_alloc ?_ _ | refine up_set ?_ _ _ (by first | exact Nat.le_refl _ | (simp; done) | (simp; omega) | omega) | refine up_trans ?_ (by assumption)))
  clear hb h'
  have FI := Lib.hid (fun w' (hb : Below w.heap.size w w') => implKeysFor_any s w' (by unfold maxLen; omega) (HM.out.up hb))
  have FS := Lib.hid (fun w' => specKeysFor_any s w' (by unfold maxLen; omega))
  unfold KfPost at FI FS
  rcases hk : kOk s with _ | _
  · rw [hk] at FI FS
    simp only [Bool.false_eq_true, if_false] at FI FS
    clear hk
    go_wp2_with fail
    refine (FI.out _ hW).mono ?_
    rintro e w2 ⟨rfl, hb⟩
    replace hW := up_trans hW hb
    clear hb FI
    go_wp2_with fail
    refine (FS.out _).mono ?_
    rintro e w3 ⟨rfl, hb⟩
    replace hW := up_trans hW hb
    clear hb FS
    go_wp2_with fail
    refine (alive_any _).mono ?_
    rintro e w4 ⟨rfl, rfl⟩
    go_wp2_with fail
    go_ret
    exact ⟨rfl, hW⟩
  · rw [hk] at FI FS
    simp only [if_true] at FI FS
    have PK := Lib.hid (fun w' => implPressKeys_any dk0 (kOf s) w' (by decide) (by rw [kOf_len]; unfold maxLen; omega))
    rw [keys_put hk] at PK
    unfold DnPost dkV dkAt dk0 at PK
    simp only at PK
    have hlk : (kOf s).length = s.length := kOf_len s
    have HLK := Lib.hid hlk
    have hcol := colOf s s.length
    obtain ⟨col, hcol⟩ : ∃ col : Int, col = (colOf s s.length : Int) := ⟨_, rfl⟩
    rw [← hcol] at PK
    obtain ⟨ks, hks⟩ : ∃ ks, ks = kOf s := ⟨_, rfl⟩
    rw [← hks] at PK FI FS hlk
    have e1 : ((s.length : Int) == (ks.length : Int)) = true := by rw [hlk]; simp
    clear hk hks hcol hlk HLK
    go_wp2_with fail
    refine (FI.out _ hW).mono ?_
    rintro e w2 ⟨rfl, hb⟩
    replace hW := up_trans hW hb
    clear hb FI
    go_wp2_with fail
    refine (FS.out _).mono ?_
    rintro e w3 ⟨rfl, hb⟩
    replace hW := up_trans hW hb
    clear hb FS
    go_wp2_with fail
    refine (PK.out _).mono ?_
    rintro e w4 ⟨rfl, hb⟩
    replace hW := up_trans hW hb
    clear hb PK
    go_wp2_with fail
    go_ret
    exact ⟨rfl, by (repeat (first | exact Below.refl _ _ | assumption | refine Below.drew ?_ | refine up_drewN ?_ _ | refine up_alloc ?_ _ | refine up_set ?_ _ _ (by first | exact Nat.le_refl _ | (simp; done) | (simp; omega) | omega) | refine up_trans ?_ (by assumption)))⟩

end Go.Proofs.YtcjgllbhmghkeaaDoor
