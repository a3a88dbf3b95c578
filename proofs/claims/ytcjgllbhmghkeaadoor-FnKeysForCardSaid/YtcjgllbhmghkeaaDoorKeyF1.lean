/- What is proved here: contracts of KeysFor in the program and in the reference. Condition: the cell of the library's MaxLen holds an int. -/
import Derived.Test.YtcjgllbhmghkeaaDoorKeyF0
import Derived.Test.YtcjgllbhmghkeaaDoorShelf
import Derived.Test.YtcjgllbhmghkeaaDoorStr
import Derived.Test.YtcjgllbhmghkeaaDoorMX
namespace Go.Proofs.YtcjgllbhmghkeaaDoor
open Go.RowKit
set_option linter.unusedVariables false

theorem ascii6 : ∀ (j : Nat) (b : UInt8), (ByteArray.mk bad6.toArray).data.toList[j]? = some b → b.toNat < 128 := by
  intro j b h
  have : b ∈ bad6 := List.mem_of_getElem? h
  unfold bad6 at this
  simp only [List.mem_cons, List.not_mem_nil, or_false] at this
  rcases this with rfl | rfl | rfl | rfl | rfl | rfl <;> decide
theorem six {c : UInt8} (h : bad6.contains c = true) : c = 60 ∨ c = 62 ∨ c = 94 ∨ c = 95 ∨ c = 35 ∨ c = 64 := by
  have : c ∈ bad6 := by simpa using h
  unfold bad6 at this
  simpa using this
theorem no_six {c : UInt8} (h : bad6.contains c = false) (n : UInt8) (hn : n ∈ bad6) : (((c.toNat : Nat) : Int) == ((n.toNat : Nat) : Int)) = false := by
  rw [beq_eq_false_iff_ne]
  intro e
  have : c = n := UInt8.toNat_inj.1 (by omega)
  subst this
  simp [hn] at h
def KfPost (s : List UInt8) (w : World) (e : Ending) (w' : World) : Prop := e = .returned (.tuple #[S (if kOk s = true then kOf s else []), .bool (kOk s)]) ∧ Below w.heap.size w w'

set_option maxRecDepth 100000 in
set_option maxHeartbeats 1000000 in
theorem implKeysFor_any (s : List UInt8) (w : World) (hs : s.length ≤ maxLen) (hm : MX w) :
    Calls Tryd.prog 17 #[S s] w (KfPost s w) := by
  unfold maxLen at hs
  have T := Lib.hid (fun w' => (implTextValid_any s w' (by unfold maxLen; omega)).mono (R' := fun e w2 => e = .returned (.bool (tv s)) ∧ Below w'.heap.size w' w2) fun e w2 ⟨h, he⟩ => ⟨h, he ▸ Below.refl _ _⟩)
  rcases hv : tv s with _ | _
  · have HK := Lib.hid (show kOk s = false by unfold kOk; rw [hv]; rfl)
    unfold KfPost
    rw [HK.out]
    rw [hv] at T
    clear hv
    go_enter Tryd.func17, Tryd.ntmps17
    go_wp2_with fail
    refine (T.out _).mono ?_
    rintro e w1 ⟨rfl, hb⟩
    go_wp2_with fail
    go_ret2
    exact ⟨rfl, by (repeat (first | exact Below.refl _ _ | assumption | refine Below.drew ?_ | refine up_drewN ?_ _ | refine up_alloc ?_ _ | refine up_set ?_ _ _ (by first | exact Nat.le_refl _ | (simp; done) | (simp; omega) | omega) | refine up_trans ?_ (by assumption)))⟩
  · have hl := tv_len hv
    rw [hv] at T
    by_cases h60 : 60 < s.length
    · have HK := Lib.hid (show kOk s = false by unfold kOk; rw [decide_eq_false (by omega : ¬ s.length ≤ 60)]; simp)
      unfold KfPost
      rw [HK.out]
      clear hv
      go_enter Tryd.func17, Tryd.ntmps17
      go_wp2_with fail
      refine (T.out _).mono ?_
      rintro e w1 ⟨rfl, hb⟩
      go_wp2_with fail
      go_ret2
      exact ⟨rfl, by (repeat (first | exact Below.refl _ _ | assumption | refine Below.drew ?_ | refine up_drewN ?_ _ | refine up_alloc ?_ _ | refine up_set ?_ _ _ (by first | exact Nat.le_refl _ | (simp; done) | (simp; omega) | omega) | refine up_trans ?_ (by assumption)))⟩
    · have hall : ∀ (j : Nat) b, s[j]? = some b → b.toNat < 128 := fun j b hj => by
        refine okC_ascii ?_
        unfold tv at hv
        simp only [Bool.and_eq_true] at hv
        exact List.all_eq_true.1 hv.1 _ (List.mem_of_getElem? hj)
      have C := Lib.hid (fun w' => Tryd.strings_ContainsAny_laid ⟨s.toArray⟩ ⟨bad6.toArray⟩ w' (by show s.length < _; omega) (by decide) (by simpa using hall) ascii6)
      have hk : kOk s = !(s.any fun c => bad6.contains c) := by unfold kOk; rw [hv, decide_eq_true (by omega : s.length ≤ 60)]; simp
      simp only [any6] at C
      have HK := Lib.hid hk
      clear hk hv hall
      generalize (s.any fun c => bad6.contains c) = bb at HK C
      rcases bb with _ | _
      · have R := Lib.hid (fun w' (hb : Below w.heap.size w w') => let ⟨m, hm'⟩ := hm.up hb; Tryd.strings_ReplaceAll ⟨s.toArray⟩ ⟨[10].toArray⟩ ⟨[64].toArray⟩ m w' (by show s.length < _; omega) hm' (by decide) (by
            have h1 := Lib.countB_le ⟨[10].toArray⟩ (by decide) s.length ⟨s.toArray⟩ (Nat.le_refl _)
            have h2 : (ByteArray.mk s.toArray).size = s.length := rfl
            have h3 : (ByteArray.mk [64].toArray).size = 1 := rfl
            rw [h3, h2]
            rw [h2] at h1
            omega))
        simp only [kOf_replace] at R
        unfold KfPost
        rw [HK.out]
        clear HK
        go_enter Tryd.func17, Tryd.ntmps17
        go_wp2_with fail
        refine (T.out _).mono ?_
        rintro e w1 ⟨rfl, hb⟩
        have hW : Below w.heap.size w w1 := by (repeat (first | exact Below.refl _ _ | assumption | refine Below.drew ?_ | refine up_drewN ?_ _ | refine up_alloc ?_ _ | refine up_set ?_ _ _ (by first | exact Nat.le_refl _ | (simp; done) | (simp; omega) | omega) | refine up_trans ?_ (by assumption)))
        clear hb T
        go_wp2_with fail
        refine (C.out _).mono ?_
        rintro e w2 ⟨rfl, hb⟩
        replace hW := up_trans hW hb
        clear hb C
        go_wp2_with fail
        refine (R.out _ hW).mono ?_
        rintro e w3 ⟨rfl, hb⟩
        replace hW := up_trans hW hb
        go_wp2_with fail
        go_ret2
        exact ⟨rfl, hW⟩
      · unfold KfPost
        rw [HK.out]
        clear HK
        go_enter Tryd.func17, Tryd.ntmps17
        go_wp2_with fail
        refine (T.out _).mono ?_
        rintro e w1 ⟨rfl, hb⟩
        have hW : Below w.heap.size w w1 := by (repeat (first | exact Below.refl _ _ | assumption | refine Below.drew ?_ | refine up_drewN ?_ _ | refine up_alloc ?_ _ | refine up_set ?_ _ _ (by first | exact Nat.le_refl _ | (simp; done) | (simp; omega) | omega) | refine up_trans ?_ (by assumption)))
        clear hb T
        go_wp2_with fail
        refine (C.out _).mono ?_
        rintro e w2 ⟨rfl, hb⟩
        replace hW := up_trans hW hb
        go_wp2_with fail
        go_ret2
        exact ⟨rfl, hW⟩

theorem kOk_take {s : List UInt8} {k : Nat} (hk : k < s.length) : ((s.take (k + 1)).any fun c => bad6.contains c) = (((s.take k).any fun c => bad6.contains c) || bad6.contains s[k]) := by
  rw [List.take_succ_eq_append_getElem hk, List.any_append]; simp
theorem kOf_take {s : List UInt8} {k : Nat} (hk : k < s.length) : kOf (s.take (k + 1)) = kOf (s.take k) ++ [if s[k] = 10 then 64 else s[k]] := by
  unfold kOf
  rw [List.take_succ_eq_append_getElem hk, List.map_append]; rfl
theorem any_bad {s : List UInt8} {k : Nat} (hk : k < s.length) (h : bad6.contains s[k] = true) : kOk s = false := by
  have : (s.any fun c => bad6.contains c) = true := List.any_eq_true.2 ⟨_, List.getElem_mem hk, h⟩
  unfold kOk
  rw [this]; simp
set_option maxRecDepth 100000 in
set_option maxHeartbeats 2000000 in
theorem specKeysFor_any (s : List UInt8) (w : World) (hs : s.length ≤ maxLen) :
    Calls Tryd.prog 18 #[S s] w (KfPost s w) := by
  unfold maxLen at hs
  have T := Lib.hid (fun w' => (specTextValid_any s w' (by unfold maxLen; omega)).mono (R' := fun e w2 => e = .returned (.bool (tv s)) ∧ Below w'.heap.size w' w2) fun e w2 ⟨h, he⟩ => ⟨h, he ▸ Below.refl _ _⟩)
  rcases hv : tv s with _ | _
  · have HK := Lib.hid (show kOk s = false by unfold kOk; rw [hv]; rfl)
    unfold KfPost
    rw [HK.out]
    rw [hv] at T
    clear hv
    go_enter Tryd.func18, Tryd.ntmps18
    go_wp2_with fail
    refine (T.out _).mono ?_
    rintro e w1 ⟨rfl, hb⟩
    go_wp2_with fail
    go_ret2
    exact ⟨rfl, by (repeat (first | exact Below.refl _ _ | assumption | refine Below.drew ?_ | refine up_drewN ?_ _ | refine up_alloc ?_ _ | refine up_set ?_ _ _ (by first | exact Nat.le_refl _ | (simp; done) | (simp; omega) | omega) | refine up_trans ?_ (by assumption)))⟩
  · have hl := tv_len hv
    rw [hv] at T
    by_cases h60 : 60 < s.length
    · have HK := Lib.hid (show kOk s = false by unfold kOk; rw [decide_eq_false (by omega : ¬ s.length ≤ 60)]; simp)
      unfold KfPost
      rw [HK.out]
      clear hv
      go_enter Tryd.func18, Tryd.ntmps18
      go_wp2_with fail
      refine (T.out _).mono ?_
      rintro e w1 ⟨rfl, hb⟩
      go_wp2_with fail
      go_ret2
      exact ⟨rfl, by (repeat (first | exact Below.refl _ _ | assumption | refine Below.drew ?_ | refine up_drewN ?_ _ | refine up_alloc ?_ _ | refine up_set ?_ _ _ (by first | exact Nat.le_refl _ | (simp; done) | (simp; omega) | omega) | refine up_trans ?_ (by assumption)))⟩
    · have HK := Lib.hid (show kOk s = !(s.any fun c => bad6.contains c) by unfold kOk; rw [hv, decide_eq_true (by omega : s.length ≤ 60)]; simp)
      obtain ⟨ok, hok⟩ : ∃ ok, ok = kOk s := ⟨_, rfl⟩
      obtain ⟨res, hres⟩ : ∃ r, r = if kOk s = true then kOf s else [] := ⟨_, rfl⟩
      unfold KfPost
      rw [← hres, ← hok]
      have HOK := Lib.hid hok
      have HRE := Lib.hid hres
      clear hv hok hres
      go_enter Tryd.func18, Tryd.ntmps18
      go_wp2_with fail
      refine (T.out _).mono ?_
      rintro e w1 ⟨rfl, hb⟩
      have hW : Below w.heap.size w w1 := by (repeat (first | exact Below.refl _ _ | assumption | refine Below.drew ?_ | refine up_drewN ?_ _ | refine up_alloc ?_ _ | refine up_set ?_ _ _ (by first | exact Nat.le_refl _ | (simp; done) | (simp; omega) | omega) | refine up_trans ?_ (by assumption)))
      clear hb T
      go_wp2_with fail
      go_loop [4, 5] (fun a i => ∃ (k : Nat) (acc : List UInt8), k ≤ s.length ∧ i = .int .i64 k ∧ a = S acc ∧ acc.length = k ∧ Hid (acc = kOf (s.take k)) ∧ Hid (((s.take k).any fun c => bad6.contains c) = false)) (fun _ i => s.length - (intOf i).toNat)
      case atStart => exact ⟨0, [], Nat.zero_le _, rfl, rfl, rfl, Lib.hid rfl, Lib.hid rfl⟩
      case round =>
        obtain ⟨k, acc, hk, rfl, rfl, hac, HA, HB⟩ := hrel
        by_cases hlt : k < s.length
        · have i1 : (0 : Int) ≤ (k : Int) := by omega
          have i2 : (k : Int) < (s.length : Int) := by omega
          have hcl : ¬ 9223372036854775807 < acc.length + 1 := by omega
          have hT := Lib.hid (kOk_take hlt)
          have hF := Lib.hid (kOf_take hlt)
          have hBad := Lib.hid (fun h => any_bad (s := s) hlt h)
          have hE := Lib.hid (show (s.take (k + 1)).drop k = [s[k]] by rw [List.take_succ_eq_append_getElem hlt, List.drop_append, List.drop_of_length_le (by rw [List.length_take]; omega), List.length_take, Nat.min_eq_left (by omega), Nat.sub_self]; rfl)
          by_cases hb6 : bad6.contains s[k] = true
          · have HK2 := Lib.hid (hBad.out hb6)
            obtain ⟨rfl, rfl⟩ : ok = false ∧ res = [] := by
              rw [HRE.out, HOK.out, HK2.out]
              exact ⟨rfl, rfl⟩
            clear HK HK2 HOK HRE hBad hT hF hE HA HB
            rcases six hb6 with h | h | h | h | h | h
            all_goals
              have e1 : (s[k]).toNat = _ := congrArg UInt8.toNat h
              simp at e1
              clear h hb6
              go_wp2_with fail
              go_ret2
              exact ⟨rfl, hW⟩
          · simp only [Bool.not_eq_true] at hb6
            have n1 : (((s[k]).toNat : Int) == 60) = false := no_six hb6 60 (by decide)
            have n2 : (((s[k]).toNat : Int) == 62) = false := no_six hb6 62 (by decide)
            have n3 : (((s[k]).toNat : Int) == 94) = false := no_six hb6 94 (by decide)
            have n4 : (((s[k]).toNat : Int) == 95) = false := no_six hb6 95 (by decide)
            have n5 : (((s[k]).toNat : Int) == 35) = false := no_six hb6 35 (by decide)
            have n6 : (((s[k]).toNat : Int) == 64) = false := no_six hb6 64 (by decide)
            have HB2 := Lib.hid (show ((s.take (k + 1)).any fun c => bad6.contains c) = false by rw [hT.out, HB.out, hb6]; rfl)
            clear hBad hT HB hb6
            by_cases h10 : s[k] = 10
            · have HA2 := Lib.hid (show acc ++ [64] = kOf (s.take (k + 1)) by rw [hF.out, HA.out, if_pos h10])
              have n7 : (((s[k]).toNat : Int) == 10) = true := by rw [h10]; rfl
              clear h10 hF HA hE
              go_wp2_with fail
              go_round
              case rel => exact ⟨k + 1, acc ++ [64], by omega, by go_num, rfl, by simp; omega, HA2, HB2⟩
              case measure => simp [intOf]; omega
            · have HA2 := Lib.hid (show acc ++ (s.take (k + 1)).drop k = kOf (s.take (k + 1)) by rw [hE.out, hF.out, HA.out, if_neg h10])
              have n7 : (((s[k]).toNat : Int) == 10) = false := by
                rw [beq_eq_false_iff_ne]
                intro e
                exact h10 (UInt8.toNat_inj.1 (by show (s[k]).toNat = 10; omega))
              have hadd : IntKind.i64.wrap ((k : Int) + 1) = ((k + 1 : Nat) : Int) := by rw [IntWalk.i64_in _ (by omega)]; omega
              have i3 : (k : Int) ≤ ((k + 1 : Nat) : Int) := by omega
              have i4 : ((k + 1 : Nat) : Int) ≤ (s.length : Int) := by omega
              have hlen : (acc ++ (s.take (k + 1)).drop k).length = k + 1 := by rw [hE.out]; simp; omega
              clear h10 hF HA hE
              go_wp2_with fail
              go_round
              case rel => exact ⟨k + 1, acc ++ (s.take (k + 1)).drop k, by omega, by go_num, rfl, hlen, HA2, HB2⟩
              case measure => simp [intOf]; omega
        · obtain rfl : k = s.length := by omega
          have HF := Lib.hid (show kOk s = true ∧ acc = kOf s by
            have h1 := HA.out
            have h2 := HB.out
            rw [List.take_length] at h1 h2
            rw [HK.out, h2]
            exact ⟨rfl, h1⟩)
          obtain ⟨rfl, rfl⟩ : ok = true ∧ res = acc := by
            rw [HRE.out, HOK.out, HF.out.1, if_pos rfl, HF.out.2]
            exact ⟨rfl, rfl⟩
          clear HA HB HK HOK HRE HF
          go_wp2_with fail
          go_ret2
          exact ⟨rfl, hW⟩

end Go.Proofs.YtcjgllbhmghkeaaDoor
