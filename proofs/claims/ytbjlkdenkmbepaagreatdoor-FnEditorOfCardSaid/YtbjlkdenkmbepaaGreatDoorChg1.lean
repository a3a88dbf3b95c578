/- What is proved here: contracts of the change of a text, in the program and in the reference. No condition. -/
import Derived.Test.YtbjlkdenkmbepaaGreatDoorStr
import Derived.Test.YtbjlkdenkmbepaaGreatDoorReg
import Derived.Test.YtbjlkdenkmbepaaGreatDoorCls
import Derived.Test.YtbjlkdenkmbepaaGreatDoorFlat
import Derived.Test.YtbjlkdenkmbepaaGreatDoorText1
namespace Go.Proofs.YtbjlkdenkmbepaaGreatDoor
open Go.RowKit

def chV (a c : Int) (p : List UInt8) : Value := .agg #[.int .i64 a, .int .i64 c, S p]
def chIn (s : List UInt8) (a c : Int) : Bool := inB a 0 s.length && inB c 0 (s.length - a)
def chTo (s : List UInt8) (a c : Int) (p : List UInt8) : List UInt8 := s.take a.toNat ++ (p ++ s.drop (a + c).toNat)
def chOk (s : List UInt8) (a c : Int) (p : List UInt8) : Bool := tv s && chIn s a c && p.all okC && decide ((s.length : Int) - c + p.length ≤ 120)
theorem chIn_out {s : List UInt8} {a c : Int} (h : chIn s a c = true) : 0 ≤ a ∧ a ≤ s.length ∧ 0 ≤ c ∧ a + c ≤ s.length := by
  unfold chIn at h
  rw [Bool.and_eq_true, inB_iff, inB_iff] at h
  omega
theorem chTo_len {s : List UInt8} {a c : Int} (p : List UInt8) (h : chIn s a c = true) : ((chTo s a c p).length : Int) = s.length - c + p.length := by
  have := chIn_out h
  unfold chTo
  simp
  omega
theorem chTo_tv {s : List UInt8} {a c : Int} (p : List UInt8) (hs : tv s = true) (h : chIn s a c = true) : tv (chTo s a c p) = chOk s a c p := by
  have hl := chTo_len p h
  have h1 : s.all okC = true := by simp only [tv, Bool.and_eq_true] at hs; exact hs.1
  have h2 : (s.take a.toNat).all okC = true := by rw [List.all_eq_true] at h1 ⊢; exact fun x hx => h1 x (List.mem_of_mem_take hx)
  have h3 : (s.drop (a + c).toNat).all okC = true := by rw [List.all_eq_true] at h1 ⊢; exact fun x hx => h1 x (List.mem_of_mem_drop hx)
  have h4 : decide ((chTo s a c p).length ≤ 120) = decide ((s.length : Int) - c + p.length ≤ 120) := by rw [← hl]; simp; omega
  unfold chOk
  rw [hs, h, ← h4]
  unfold tv chTo
  rw [List.all_append, List.all_append, h2, h3]
  simp

theorem toChange_any (a c : Int) (p : List UInt8) (w : World) :
    Calls Tryz.prog 165 #[chV a c p] w fun e w' => e = .returned (chV a c p) ∧ Below w.heap.size w w' := by
  unfold chV
  go_enter Tryz.func165, Tryz.ntmps165
  go_wp2_with fail
  refine bodyPost_ret (v := .agg #[.int .i64 a, .int .i64 c, S p]) (by simp [results, Tryz.results165, go_sem]) rfl ⟨rfl, ?_⟩
  (repeat (first | exact Below.refl _ _ | assumption | refine Below.drew ?_ | refine up_drewN ?_ _ | refine up_alloc ?_ _ | refine up_set ?_ _ _ (by first | exact Nat.le_refl _ | (simp; done) | (simp; omega) | omega) | refine up_trans ?_ (by assumption)))

theorem szChange_any (a c : Int) (p : List UInt8) (q : Int) (w : World) (hp : p.length ≤ maxLen) (h0 : 0 ≤ q) (h1 : q ≤ 1048576) :
    Calls Tryz.prog 164 #[chV a c p, .int .i64 q] w fun e w' => e = .returned (.int .i64 (if q < p.length then -1 else q - p.length)) ∧ Below w.heap.size w w' := by
  unfold maxLen at hp
  unfold chV
  by_cases h : q < p.length
  · rw [if_pos h]
    go_enter Tryz.func164, Tryz.ntmps164
    go_wp2_with fail
    go_ret
    exact ⟨rfl, by (repeat (first | exact Below.refl _ _ | assumption | refine Below.drew ?_ | refine up_drewN ?_ _ | refine up_alloc ?_ _ | refine up_set ?_ _ _ (by first | exact Nat.le_refl _ | (simp; done) | (simp; omega) | omega) | refine up_trans ?_ (by assumption)))⟩
  · rw [if_neg h]
    go_enter Tryz.func164, Tryz.ntmps164
    go_wp2_with fail
    go_ret
    exact ⟨rfl, by (repeat (first | exact Below.refl _ _ | assumption | refine Below.drew ?_ | refine up_drewN ?_ _ | refine up_alloc ?_ _ | refine up_set ?_ _ _ (by first | exact Nat.le_refl _ | (simp; done) | (simp; omega) | omega) | refine up_trans ?_ (by assumption)))⟩

theorem isPlace_any (s : List UInt8) (a : Int) (w : World) (hs : tv s = true) :
    Calls Tryz.prog 52 #[S s, .int .i64 a] w fun e w' => e = .returned (.bool (inB a 0 s.length)) ∧ w = w' := by
  have hl := tv_len hs
  go_enter Tryz.func52, Tryz.ntmps52
  go_wp2_with fail
  refine (implTextValid_any _ _ (by unfold maxLen; omega)).mono ?_
  rw [hs]
  rintro e w1 ⟨rfl, rfl⟩
  go_wp2_with fail
  refine (in_any _ _ _ _).mono ?_
  rintro e w1 ⟨rfl, rfl⟩
  generalize hr : inB a 0 s.length = r
  have HR := Lib.hid hr
  clear hr
  go_wp2_with fail
  go_ret
  rw [HR.out]
  exact ⟨rfl, rfl⟩

/-- what apply gives at a valid text. -/
def ApPost (s : List UInt8) (a c : Int) (p : List UInt8) (w : World) (e : Ending) (w' : World) : Prop :=
  ∃ r, e = .returned (.tuple #[S r, .bool (chOk s a c p)]) ∧ (chOk s a c p = true → r = chTo s a c p) ∧ Below w.heap.size w w'

set_option maxRecDepth 100000 in
set_option maxHeartbeats 1000000 in
theorem apply_any (s : List UInt8) (a c : Int) (p : List UInt8) (w : World) (hs : tv s = true) (hp : p.length ≤ 1048576) :
    Calls Tryz.prog 135 #[chV a c p, S s] w (ApPost s a c p w) := by
  have hl := tv_len hs
  unfold chV
  rcases h1 : inB a 0 s.length with _ | _
  · have H0 := Lib.hid (show chOk s a c p = false by unfold chOk chIn; rw [h1]; simp)
    have H1 := Lib.hid h1
    clear h1
    go_enter Tryz.func135, Tryz.ntmps135
    go_wp2_with fail
    refine (isPlace_any _ _ _ hs).mono ?_
    rw [H1.out]
    rintro e w1 ⟨rfl, rfl⟩
    go_wp2_with fail
    go_ret2
    exact ⟨[], (by rw [H0.out]; rfl), (fun hh => by (rw [H0.out] at hh; cases hh)), by (repeat (first | exact Below.refl _ _ | assumption | refine Below.drew ?_ | refine up_drewN ?_ _ | refine up_alloc ?_ _ | refine up_set ?_ _ _ (by first | exact Nat.le_refl _ | (simp; done) | (simp; omega) | omega) | refine up_trans ?_ (by assumption)))⟩
  · rw [inB_iff] at h1
    have H1 := Lib.hid (show inB a 0 s.length = true by rw [inB_iff]; exact h1)
    have hsub : IntKind.i64.wrap ((s.length : Int) - a) = (s.length : Int) - a := by rw [IntKind.wrap_i64]; omega
    rcases h2 : inB c 0 (s.length - a) with _ | _
    · have H0 := Lib.hid (show chOk s a c p = false by unfold chOk chIn; rw [h2]; simp)
      have H2 := Lib.hid h2
      clear h2
      go_enter Tryz.func135, Tryz.ntmps135
      go_wp2_with fail
      refine (isPlace_any _ _ _ hs).mono ?_
      rw [H1.out]
      rintro e w1 ⟨rfl, rfl⟩
      go_wp2_with fail
      refine (in_any _ _ _ _).mono ?_
      rw [H2.out]
      rintro e w1 ⟨rfl, rfl⟩
      go_wp2_with fail
      go_ret2
      exact ⟨[], (by rw [H0.out]; rfl), (fun hh => by (rw [H0.out] at hh; cases hh)), by (repeat (first | exact Below.refl _ _ | assumption | refine Below.drew ?_ | refine up_drewN ?_ _ | refine up_alloc ?_ _ | refine up_set ?_ _ _ (by first | exact Nat.le_refl _ | (simp; done) | (simp; omega) | omega) | refine up_trans ?_ (by assumption)))⟩
    · have hci : chIn s a c = true := by unfold chIn; rw [H1.out, h2]; rfl
      have HT := Lib.hid (chTo_tv p hs hci)
      have HL := Lib.hid (chTo_len p hci)
      obtain ⟨_, _, b1, b2⟩ := chIn_out hci
      have H2 := Lib.hid h2
      have hwr : IntKind.i64.wrap (a + c) = a + c := by rw [IntKind.wrap_i64]; omega
      have b3 : 0 ≤ a + c := by omega
      have l1 : (s.take a.toNat).length ≤ 120 := by rw [List.length_take]; omega
      have l2 : (s.take a.toNat ++ p).length ≤ 2000000 := by rw [List.length_append]; omega
      clear h2 hci
      go_enter Tryz.func135, Tryz.ntmps135
      go_wp2_with fail
      refine (isPlace_any _ _ _ hs).mono ?_
      rw [H1.out]
      rintro e w1 ⟨rfl, rfl⟩
      go_wp2_with fail
      refine (in_any _ _ _ _).mono ?_
      rw [H2.out]
      rintro e w1 ⟨rfl, rfl⟩
      go_wp2_with fail
      go_quiet (fail)
      go_wp2_with fail
      have hz : (chTo s a c p).length ≤ maxLen := by unfold maxLen; have := HL.out; omega
      change Calls Tryz.prog _ #[S (chTo s a c p)] _ _
      refine (implTextValid_any (chTo s a c p) _ hz).mono ?_
      rw [HT.out]
      rintro e w1 ⟨rfl, rfl⟩
      clear hwr b1 b2 b3 l1 l2 hz
      go_wp2_with fail
      go_ret2
      exact ⟨chTo s a c p, rfl, (fun _ => rfl), by (repeat (first | exact Below.refl _ _ | assumption | refine Below.drew ?_ | refine up_drewN ?_ _ | refine up_alloc ?_ _ | refine up_set ?_ _ _ (by first | exact Nat.le_refl _ | (simp; done) | (simp; omega) | omega) | refine up_trans ?_ (by assumption)))⟩

/-- what ApplyChange gives. -/
def apTo (s : List UInt8) (a c : Int) (p : List UInt8) : List UInt8 := if chOk s a c p then chTo s a c p else if tv s then s else []
def AcPost (s : List UInt8) (a c : Int) (p : List UInt8) (w : World) (e : Ending) (w' : World) : Prop :=
  e = .returned (.tuple #[S (apTo s a c p), .bool (chOk s a c p)]) ∧ Below w.heap.size w w'

set_option maxHeartbeats 1000000 in
theorem implApplyChange_any (s : List UInt8) (a c : Int) (p : List UInt8) (w : World) (hs : s.length ≤ maxLen) (hp : p.length ≤ 1048576) :
    Calls Tryz.prog 126 #[S s, chV a c p] w (AcPost s a c p w) := by
  rcases ht : tv s with _ | _
  · have H0 := Lib.hid (show chOk s a c p = false by unfold chOk; rw [ht]; rfl)
    have H1 := Lib.hid (show apTo s a c p = [] by unfold apTo; rw [H0.out, ht]; rfl)
    have HT := Lib.hid ht
    clear ht
    unfold chV
    go_enter Tryz.func126, Tryz.ntmps126
    go_wp2_with fail
    refine (implTextValid_any _ _ hs).mono ?_
    rw [HT.out]
    rintro e w1 ⟨rfl, rfl⟩
    go_wp2_with fail
    go_ret2
    rw [AcPost, H0.out, H1.out]
    exact ⟨rfl, by (repeat (first | exact Below.refl _ _ | assumption | refine Below.drew ?_ | refine up_drewN ?_ _ | refine up_alloc ?_ _ | refine up_set ?_ _ _ (by first | exact Nat.le_refl _ | (simp; done) | (simp; omega) | omega) | refine up_trans ?_ (by assumption)))⟩
  · have HT := Lib.hid ht
    have HA := Lib.hid (fun w => apply_any s a c p w ht hp)
    have H1 := Lib.hid (show apTo s a c p = if chOk s a c p then chTo s a c p else s by unfold apTo; rw [ht]; rfl)
    clear ht
    unfold chV at HA ⊢
    rcases hk : chOk s a c p with _ | _
    · rw [hk] at H1
      have HK := Lib.hid hk
      clear hk
      go_enter Tryz.func126, Tryz.ntmps126
      go_wp2_with fail
      refine (implTextValid_any _ _ hs).mono ?_
      rw [HT.out]
      rintro e w1 ⟨rfl, rfl⟩
      go_wp2_with fail
      refine (HA.out _).mono ?_
      rintro e w2 ⟨r, rfl, _, hb⟩
      rw [HK.out]
      have hW : Below w.heap.size w w2 := by (repeat (first | exact Below.refl _ _ | assumption | refine Below.drew ?_ | refine up_drewN ?_ _ | refine up_alloc ?_ _ | refine up_set ?_ _ _ (by first | exact Nat.le_refl _ | (simp; done) | (simp; omega) | omega) | refine up_trans ?_ (by assumption)))
      clear hb
      go_wp2_with fail
      go_ret2
      rw [AcPost, HK.out, H1.out]
      exact ⟨rfl, hW⟩
    · rw [hk] at H1
      have HK := Lib.hid hk
      clear hk
      go_enter Tryz.func126, Tryz.ntmps126
      go_wp2_with fail
      refine (implTextValid_any _ _ hs).mono ?_
      rw [HT.out]
      rintro e w1 ⟨rfl, rfl⟩
      go_wp2_with fail
      refine (HA.out _).mono ?_
      rintro e w2 ⟨r, rfl, hr, hb⟩
      obtain rfl := hr HK.out
      rw [HK.out]
      have hW : Below w.heap.size w w2 := by (repeat (first | exact Below.refl _ _ | assumption | refine Below.drew ?_ | refine up_drewN ?_ _ | refine up_alloc ?_ _ | refine up_set ?_ _ _ (by first | exact Nat.le_refl _ | (simp; done) | (simp; omega) | omega) | refine up_trans ?_ (by assumption)))
      clear hb
      go_wp2_with fail
      go_ret2
      rw [AcPost, HK.out, H1.out]
      exact ⟨rfl, hW⟩

end Go.Proofs.YtbjlkdenkmbepaaGreatDoor
