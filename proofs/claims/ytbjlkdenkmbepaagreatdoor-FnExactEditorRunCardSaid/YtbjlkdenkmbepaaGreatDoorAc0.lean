/- What is proved here: What is proved here: contracts of the change of a text, in the program and in the reference. What is proved here: contracts of ChangeFits and ApplyChange in the reference. What is proved here: plain facts on trees of states: changes and their reverses, and when a history is one of a text. What is proved here: plain facts: words, finding, what two texts have in common, and places after changes. What is proved here: the contract of the reference's FindNext. No condition. -/
import Derived.Test.YtbjlkdenkmbepaaGreatDoorBase
import Derived.Test.YtbjlkdenkmbepaaGreatDoorText1
import Derived.Lib.IndexLaws
import Derived.Test.YtbjlkdenkmbepaaGreatDoorText1
namespace Go.Proofs.YtbjlkdenkmbepaaGreatDoor
open Go.RowKit

def chV (a c : Int) (p : List UInt8) : Value := .agg #[.int .i64 a, .int .i64 c, S p]
def chIn (s : List UInt8) (a c : Int) : Bool := inB a 0 s.length && inB c 0 (s.length - a)
def chTo (s : List UInt8) (a c : Int) (p : List UInt8) : List UInt8 := s.take a.toNat ++ (p ++ s.drop (a + c).toNat)
def chOk (s : List UInt8) (a c : Int) (p : List UInt8) : Bool := tv s && chIn s a c && p.all okC && decide ((s.length : Int) - c + p.length ≤ 120)
theorem chIn_out {s : List UInt8} {a c : Int} (h : chIn s a c = true) : 0 ≤ a ∧ a ≤ s.length ∧ 0 ≤ c ∧ a + c ≤ s.length := by
  unfold chIn at h
  rw [Bool.and_eq_true, inB_iff, inB_iff] at h
  omega
theorem chTo_len {s : List UInt8} {a c : Int} (p : List UInt8) (h : chIn s a c = true) : ((chTo s a c p).length : Int) = s.length - c + p.length := by
  have := chIn_out h
  unfold chTo
  simp
  omega
theorem chTo_tv {s : List UInt8} {a c : Int} (p : List UInt8) (hs : tv s = true) (h : chIn s a c = true) : tv (chTo s a c p) = chOk s a c p := by
  have hl := chTo_len p h
  have h1 : s.all okC = true := by simp only [tv, Bool.and_eq_true] at hs; exact hs.1
  have h2 : (s.take a.toNat).all okC = true := by rw [List.all_eq_true] at h1 ⊢; exact fun x hx => h1 x (List.mem_of_mem_take hx)
  have h3 : (s.drop (a + c).toNat).all okC = true := by rw [List.all_eq_true] at h1 ⊢; exact fun x hx => h1 x (List.mem_of_mem_drop hx)
  have h4 : decide ((chTo s a c p).length ≤ 120) = decide ((s.length : Int) - c + p.length ≤ 120) := by rw [← hl]; simp; omega
  unfold chOk
  rw [hs, h, ← h4]
  unfold tv chTo
  rw [List.all_append, List.all_append, h2, h3]
  simp

theorem toChange_any (a c : Int) (p : List UInt8) (w : World) :
    Calls Tryz.prog 165 #[chV a c p] w fun e w' => e = .returned (chV a c p) ∧ Below w.heap.size w w' := by
  unfold chV
  go_enter Tryz.func165, Tryz.ntmps165
  go_wp2_with fail
  refine bodyPost_ret (v := .agg #[.int .i64 a, .int .i64 c, S p]) (by simp [results, Tryz.results165, go_sem]) rfl ⟨rfl, ?_⟩
  exact bBel

theorem szChange_any (a c : Int) (p : List UInt8) (q : Int) (w : World) (hp : p.length ≤ maxLen) (h0 : 0 ≤ q) (h1 : q ≤ 1048576) :
    Calls Tryz.prog 164 #[chV a c p, .int .i64 q] w fun e w' => e = .returned (.int .i64 (if q < p.length then -1 else q - p.length)) ∧ Below w.heap.size w w' := by
  unfold maxLen at hp
  unfold chV
  by_cases h : q < p.length
  · rw [if_pos h]
    go_enter Tryz.func164, Tryz.ntmps164
    go_wp2_with fail
    go_ret
    exact ⟨rfl, by exact bBel⟩
  · rw [if_neg h]
    go_enter Tryz.func164, Tryz.ntmps164
    go_wp2_with fail
    go_ret
    exact ⟨rfl, by exact bBel⟩

theorem isPlace_any (s : List UInt8) (a : Int) (w : World) (hs : tv s = true) :
    Calls Tryz.prog 52 #[S s, .int .i64 a] w fun e w' => e = .returned (.bool (inB a 0 s.length)) ∧ w = w' := by
  have hl := tv_len hs
  go_enter Tryz.func52, Tryz.ntmps52
  go_wp2_with fail
  refine (implTextValid_any _ _ (by unfold maxLen; omega)).mono ?_
  rw [hs]
  rintro e w1 ⟨rfl, rfl⟩
  go_wp2_with fail
  refine (in_any _ _ _ _).mono ?_
  rintro e w1 ⟨rfl, rfl⟩
  generalize hr : inB a 0 s.length = r
  have HR := Lib.hid hr
  clear hr
  go_wp2_with fail
  go_ret
  rw [HR.out]
  exact ⟨rfl, rfl⟩

/-- what apply gives at a valid text. -/
def ApPost (s : List UInt8) (a c : Int) (p : List UInt8) (w : World) (e : Ending) (w' : World) : Prop :=
  ∃ r, e = .returned (.tuple #[S r, .bool (chOk s a c p)]) ∧ (chOk s a c p = true → r = chTo s a c p) ∧ Below w.heap.size w w'

set_option maxRecDepth 100000 in
set_option maxHeartbeats 1000000 in
theorem apply_any (s : List UInt8) (a c : Int) (p : List UInt8) (w : World) (hs : tv s = true) (hp : p.length ≤ 1048576) :
    Calls Tryz.prog 135 #[chV a c p, S s] w (ApPost s a c p w) := by
  have hl := tv_len hs
  unfold chV
  rcases h1 : inB a 0 s.length with _ | _
  · have H0 := Lib.hid (show chOk s a c p = false by unfold chOk chIn; rw [h1]; simp)
    have H1 := Lib.hid h1
    clear h1
    go_enter Tryz.func135, Tryz.ntmps135
    go_wp2_with fail
    refine (isPlace_any _ _ _ hs).mono ?_
    rw [H1.out]
    rintro e w1 ⟨rfl, rfl⟩
    go_wp2_with fail
    go_ret2
    exact ⟨[], (by rw [H0.out]; rfl), (fun hh => by (rw [H0.out] at hh; cases hh)), by exact bBel⟩
  · rw [inB_iff] at h1
    have H1 := Lib.hid (show inB a 0 s.length = true by rw [inB_iff]; exact h1)
    have hsub : IntKind.i64.wrap ((s.length : Int) - a) = (s.length : Int) - a := by rw [IntKind.wrap_i64]; omega
    rcases h2 : inB c 0 (s.length - a) with _ | _
    · have H0 := Lib.hid (show chOk s a c p = false by unfold chOk chIn; rw [h2]; simp)
      have H2 := Lib.hid h2
      clear h2
      go_enter Tryz.func135, Tryz.ntmps135
      go_wp2_with fail
      refine (isPlace_any _ _ _ hs).mono ?_
      rw [H1.out]
      rintro e w1 ⟨rfl, rfl⟩
      go_wp2_with fail
      refine (in_any _ _ _ _).mono ?_
      rw [H2.out]
      rintro e w1 ⟨rfl, rfl⟩
      go_wp2_with fail
      go_ret2
      exact ⟨[], (by rw [H0.out]; rfl), (fun hh => by (rw [H0.out] at hh; cases hh)), by exact bBel⟩
    · have hci : chIn s a c = true := by unfold chIn; rw [H1.out, h2]; rfl
      have HT := Lib.hid (chTo_tv p hs hci)
      have HL := Lib.hid (chTo_len p hci)
      obtain ⟨_, _, b1, b2⟩ := chIn_out hci
      have H2 := Lib.hid h2
      have hwr : IntKind.i64.wrap (a + c) = a + c := by rw [IntKind.wrap_i64]; omega
      have b3 : 0 ≤ a + c := by omega
      have l1 : (s.take a.toNat).length ≤ 120 := by rw [List.length_take]; omega
      have l2 : (s.take a.toNat ++ p).length ≤ 2000000 := by rw [List.length_append]; omega
      clear h2 hci
      go_enter Tryz.func135, Tryz.ntmps135
      go_wp2_with fail
      refine (isPlace_any _ _ _ hs).mono ?_
      rw [H1.out]
      rintro e w1 ⟨rfl, rfl⟩
      go_wp2_with fail
      refine (in_any _ _ _ _).mono ?_
      rw [H2.out]
      rintro e w1 ⟨rfl, rfl⟩
      go_wp2_with fail
      go_quiet (fail)
      go_wp2_with fail
      have hz : (chTo s a c p).length ≤ maxLen := by unfold maxLen; have := HL.out; omega
      change Calls Tryz.prog _ #[S (chTo s a c p)] _ _
      refine (implTextValid_any (chTo s a c p) _ hz).mono ?_
      rw [HT.out]
      rintro e w1 ⟨rfl, rfl⟩
      clear hwr b1 b2 b3 l1 l2 hz
      go_wp2_with fail
      go_ret2
      exact ⟨chTo s a c p, rfl, (fun _ => rfl), by exact bBel⟩

/-- what ApplyChange gives. -/
def apTo (s : List UInt8) (a c : Int) (p : List UInt8) : List UInt8 := if chOk s a c p then chTo s a c p else if tv s then s else []
def AcPost (s : List UInt8) (a c : Int) (p : List UInt8) (w : World) (e : Ending) (w' : World) : Prop :=
  e = .returned (.tuple #[S (apTo s a c p), .bool (chOk s a c p)]) ∧ Below w.heap.size w w'


end Go.Proofs.YtbjlkdenkmbepaaGreatDoor

namespace Go.Proofs.YtbjlkdenkmbepaaGreatDoor
open Go.RowKit

set_option maxRecDepth 100000 in
set_option maxHeartbeats 1000000 in
theorem changeFits_any (s : List UInt8) (a c : Int) (p : List UInt8) (w : World) (hs : tv s = true) (hp : p.length ≤ 1048576) :
    Calls Tryz.prog 141 #[S s, chV a c p] w fun e w' => e = .returned (.bool (chOk s a c p)) ∧ Below w.heap.size w w' := by
  have hl := tv_len hs
  have hs' : s.length ≤ maxLen := by unfold maxLen; omega
  have hp' : p.length ≤ maxLen := by unfold maxLen; omega
  have HT := Lib.hid hs
  clear hs
  unfold chV
  rcases h1 : inB a 0 s.length with _ | _
  · have H0 := Lib.hid (show chOk s a c p = false by unfold chOk chIn; rw [h1]; simp)
    have H1 := Lib.hid h1
    clear h1
    go_enter Tryz.func141, Tryz.ntmps141
    go_wp2_with fail
    refine (specTextValid_any _ _ hs').mono ?_
    rw [HT.out]
    rintro e w1 ⟨rfl, rfl⟩
    go_wp2_with fail
    refine (l1In_any _ _ _ _).mono ?_
    rw [H1.out]
    rintro e w1 ⟨rfl, rfl⟩
    go_wp2_with fail
    go_ret
    rw [H0.out]
    exact ⟨rfl, by exact bBel⟩
  · have H1 := Lib.hid h1
    rw [inB_iff] at h1
    have hsub : IntKind.i64.wrap ((s.length : Int) - a) = (s.length : Int) - a := by rw [IntKind.wrap_i64]; omega
    rcases h2 : inB c 0 (s.length - a) with _ | _
    · have H0 := Lib.hid (show chOk s a c p = false by unfold chOk chIn; rw [h2]; simp)
      have H2 := Lib.hid h2
      clear h2
      go_enter Tryz.func141, Tryz.ntmps141
      go_wp2_with fail
      refine (specTextValid_any _ _ hs').mono ?_
      rw [HT.out]
      rintro e w1 ⟨rfl, rfl⟩
      go_wp2_with fail
      refine (l1In_any _ _ _ _).mono ?_
      rw [H1.out]
      rintro e w1 ⟨rfl, rfl⟩
      go_wp2_with fail
      refine (l1In_any _ _ _ _).mono ?_
      rw [H2.out]
      rintro e w1 ⟨rfl, rfl⟩
      go_wp2_with fail
      go_ret
      rw [H0.out]
      exact ⟨rfl, by exact bBel⟩
    · have H2 := Lib.hid h2
      have hci : chIn s a c = true := by unfold chIn; rw [H1.out, h2]; rfl
      obtain ⟨_, _, b1, b2⟩ := chIn_out hci
      rcases h3 : p.all okC with _ | _
      · have H0 := Lib.hid (show chOk s a c p = false by unfold chOk; rw [h3]; simp)
        have H3 := Lib.hid h3
        clear h3 h2 hci
        go_enter Tryz.func141, Tryz.ntmps141
        go_wp2_with fail
        refine (specTextValid_any _ _ hs').mono ?_
        rw [HT.out]
        rintro e w1 ⟨rfl, rfl⟩
        go_wp2_with fail
        refine (l1In_any _ _ _ _).mono ?_
        rw [H1.out]
        rintro e w1 ⟨rfl, rfl⟩
        go_wp2_with fail
        refine (l1In_any _ _ _ _).mono ?_
        rw [H2.out]
        rintro e w1 ⟨rfl, rfl⟩
        go_wp2_with fail
        refine (l1Plain_any _ _ hp').mono ?_
        rw [H3.out]
        rintro e w1 ⟨rfl, rfl⟩
        go_wp2_with fail
        go_ret
        rw [H0.out]
        exact ⟨rfl, by exact bBel⟩
      · have H0 := Lib.hid (show chOk s a c p = decide ((s.length : Int) - c + p.length ≤ 120) by unfold chOk; rw [HT.out, hci, h3]; rfl)
        have H3 := Lib.hid h3
        clear h3 h2 hci
        go_enter Tryz.func141, Tryz.ntmps141
        go_wp2_with fail
        refine (specTextValid_any _ _ hs').mono ?_
        rw [HT.out]
        rintro e w1 ⟨rfl, rfl⟩
        go_wp2_with fail
        refine (l1In_any _ _ _ _).mono ?_
        rw [H1.out]
        rintro e w1 ⟨rfl, rfl⟩
        go_wp2_with fail
        refine (l1In_any _ _ _ _).mono ?_
        rw [H2.out]
        rintro e w1 ⟨rfl, rfl⟩
        go_wp2_with fail
        refine (l1Plain_any _ _ hp').mono ?_
        rw [H3.out]
        rintro e w1 ⟨rfl, rfl⟩
        go_wp2_with fail
        go_ret
        rw [H0.out]
        exact ⟨rfl, by exact bBel⟩

set_option maxRecDepth 100000 in
set_option maxHeartbeats 1000000 in
theorem specApplyChange_any (s : List UInt8) (a c : Int) (p : List UInt8) (w : World) (hs : s.length ≤ maxLen) (hp : p.length ≤ 1048576) :
    Calls Tryz.prog 105 #[S s, chV a c p] w (AcPost s a c p w) := by
  rcases ht : tv s with _ | _
  · have H0 := Lib.hid (show chOk s a c p = false by unfold chOk; rw [ht]; rfl)
    have H1 := Lib.hid (show apTo s a c p = [] by unfold apTo; rw [H0.out, ht]; rfl)
    have HT := Lib.hid ht
    clear ht
    unfold chV
    go_enter Tryz.func105, Tryz.ntmps105
    go_wp2_with fail
    refine (specTextValid_any _ _ hs).mono ?_
    rw [HT.out]
    rintro e w1 ⟨rfl, rfl⟩
    go_wp2_with fail
    go_ret2
    rw [AcPost, H0.out, H1.out]
    exact ⟨rfl, by exact bBel⟩
  · have hl := tv_len ht
    have HT := Lib.hid ht
    have HA := Lib.hid (fun w => changeFits_any s a c p w ht hp)
    have H1 := Lib.hid (show apTo s a c p = if chOk s a c p then chTo s a c p else s by unfold apTo; rw [ht]; rfl)
    clear ht
    unfold chV at HA ⊢
    rcases hk : chOk s a c p with _ | _
    · rw [hk] at H1
      have HK := Lib.hid hk
      clear hk
      go_enter Tryz.func105, Tryz.ntmps105
      go_wp2_with fail
      refine (specTextValid_any _ _ hs).mono ?_
      rw [HT.out]
      rintro e w1 ⟨rfl, rfl⟩
      go_wp2_with fail
      refine (HA.out _).mono ?_
      rw [HK.out]
      rintro e w2 ⟨rfl, hb⟩
      have hW : Below w.heap.size w w2 := by exact bBel
      clear hb
      go_wp2_with fail
      go_ret2
      rw [AcPost, HK.out, H1.out]
      exact ⟨rfl, hW⟩
    · rw [hk] at H1
      have hci : chIn s a c = true := by unfold chOk at hk; simp only [Bool.and_eq_true] at hk; exact hk.1.1.2
      obtain ⟨b0, b4, b1, b2⟩ := chIn_out hci
      have hwr : IntKind.i64.wrap (a + c) = a + c := by rw [IntKind.wrap_i64]; omega
      have b3 : 0 ≤ a + c := by omega
      have l1 : (s.take a.toNat).length ≤ 120 := by rw [List.length_take]; omega
      have l2 : (s.take a.toNat ++ p).length ≤ 2000000 := by rw [List.length_append]; omega
      have HK := Lib.hid hk
      clear hk hci
      go_enter Tryz.func105, Tryz.ntmps105
      go_wp2_with fail
      refine (specTextValid_any _ _ hs).mono ?_
      rw [HT.out]
      rintro e w1 ⟨rfl, rfl⟩
      go_wp2_with fail
      refine (HA.out _).mono ?_
      rw [HK.out]
      rintro e w2 ⟨rfl, hb⟩
      have hW : Below w.heap.size w w2 := by exact bBel
      have xc0 := (hb.cell (p := ⟨w.heap.size, 0, none⟩) (by simp)).trans (show _ = some (Value.int .i64 a) by simp [go_sem])
      have xc1 := (hb.cell (p := ⟨w.heap.size, 1, none⟩) (by simp)).trans (show _ = some (Value.int .i64 c) by simp [go_sem])
      have xc2 := (hb.cell (p := ⟨w.heap.size, 2, none⟩) (by simp)).trans (show _ = some (S p) by simp [go_sem])
      clear hb
      go_wp2_with fail
      go_quiet (fail)
      go_wp2_with fail
      go_ret2
      rw [AcPost, HK.out, H1.out]
      exact ⟨rfl, by exact bBel⟩

end Go.Proofs.YtbjlkdenkmbepaaGreatDoor

namespace Go.Proofs.YtbjlkdenkmbepaaGreatDoor
open Go.RowKit
set_option linter.unusedVariables false

structure Ch where
  a : Int
  c : Int
  p : List UInt8
structure Mo where
  par : Int
  f : Ch
  b : Ch
def chC (x : Ch) : List Value := [.int .i64 x.a, .int .i64 x.c, S x.p]
def chAgg (x : Ch) : Value := .agg #[.int .i64 x.a, .int .i64 x.c, S x.p]
def moC (m : Mo) : List Value := [.int .i64 m.par, .int .i64 m.f.a, .int .i64 m.f.c, S m.f.p, .int .i64 m.b.a, .int .i64 m.b.c, S m.b.p]
theorem moC_len (m : Mo) : (moC m).length = 7 := rfl
def c0 : Ch := ⟨0, 0, []⟩
def m0 : Mo := ⟨-1, c0, c0⟩
def okF (s : List UInt8) (x : Ch) : Bool := chOk s x.a x.c x.p
def apF (s : List UInt8) (x : Ch) : List UInt8 := chTo s x.a x.c x.p
def rvF (s : List UInt8) (x : Ch) : Ch := ⟨x.a, x.p.length, (s.drop x.a.toNat).take x.c.toNat⟩

theorem okF_tv {s : List UInt8} {x : Ch} (h : okF s x = true) : tv s = true ∧ tv (apF s x) = true := by
  have h2 := h
  unfold okF chOk at h2
  simp only [Bool.and_eq_true] at h2
  exact ⟨h2.1.1.1, (chTo_tv x.p h2.1.1.1 h2.1.1.2).trans h⟩
theorem okF_in {s : List UInt8} {x : Ch} (h : okF s x = true) : 0 ≤ x.a ∧ x.a ≤ s.length ∧ 0 ≤ x.c ∧ x.a + x.c ≤ s.length := by
  unfold okF chOk at h
  simp only [Bool.and_eq_true] at h
  exact chIn_out h.1.1.2
theorem okF_put {s : List UInt8} {x : Ch} (h : okF s x = true) : x.p.length ≤ 120 := by
  have hl := chTo_len (c := x.c) (a := x.a) (s := s) x.p (by unfold okF chOk at h; simp only [Bool.and_eq_true] at h; exact h.1.1.2)
  have ht := tv_len (okF_tv h).2
  have := okF_in h
  unfold apF at ht
  omega
/-- the reverse is possible, and leads back. -/
theorem rv_back {s : List UInt8} {x : Ch} (h : okF s x = true) : okF (apF s x) (rvF s x) = true ∧ apF (apF s x) (rvF s x) = s := by
  obtain ⟨h1, h2⟩ := okF_tv h
  obtain ⟨b0, b1, b2, b3⟩ := okF_in h
  obtain ⟨n, hn⟩ : ∃ n : Nat, x.a = n := ⟨x.a.toNat, by omega⟩
  obtain ⟨m, hm⟩ : ∃ m : Nat, x.c = m := ⟨x.c.toNat, by omega⟩
  have hap : apF s x = s.take n ++ (x.p ++ s.drop (n + m)) := by
    unfold apF chTo
    rw [hn, hm, Int.toNat_natCast, show ((n : Int) + (m : Int)).toNat = n + m by omega]
  have hlt : (s.take n).length = n := by rw [List.length_take]; omega
  have hin : chIn (apF s x) x.a (x.p.length : Int) = true := by
    unfold chIn
    have hl : (apF s x).length = n + (x.p.length + (s.length - (n + m))) := by rw [hap]; simp; omega
    rw [hl, inB_iff.2 (by omega), inB_iff.2 (by omega)]; rfl
  have hback : chTo (apF s x) x.a (x.p.length : Int) ((s.drop x.a.toNat).take x.c.toNat) = s := by
    unfold chTo
    rw [hap, hn, hm, Int.toNat_natCast, Int.toNat_natCast, show ((n : Int) + (x.p.length : Int)).toNat = n + x.p.length by omega]
    have e1 : (s.take n ++ (x.p ++ s.drop (n + m))).take n = s.take n := by
      rw [List.take_append, hlt, Nat.sub_self, List.take_zero, List.append_nil, List.take_take, Nat.min_self]
    have e2 : (s.take n ++ (x.p ++ s.drop (n + m))).drop (n + x.p.length) = s.drop (n + m) := by
      rw [← List.append_assoc, List.drop_append, List.drop_of_length_le (by rw [List.length_append, hlt]; exact Nat.le_refl _), List.nil_append, List.length_append, hlt, Nat.sub_self, List.drop_zero]
    rw [e1, e2, ← List.drop_drop, List.take_append_drop, List.take_append_drop]
  refine ⟨?_, hback⟩
  show chOk (apF s x) x.a (x.p.length : Int) ((s.drop x.a.toNat).take x.c.toNat) = true
  rw [← chTo_tv _ h2 hin, hback]
  exact h1

/-- the local conditions on state k. -/
def Step (ms : List Mo) (o : List (List UInt8)) (k : Nat) : Prop :=
  0 ≤ (ms.getD k m0).par ∧ (ms.getD k m0).par < k ∧ okF (o.getD (ms.getD k m0).par.toNat []) (ms.getD k m0).f = true ∧ rvF (o.getD (ms.getD k m0).par.toNat []) (ms.getD k m0).f = (ms.getD k m0).b ∧
    o.getD k [] = apF (o.getD (ms.getD k m0).par.toNat []) (ms.getD k m0).f
/-- o are the texts of all states, and s that of state a. -/
structure HGood (ms : List Mo) (a : Int) (s : List UInt8) (o : List (List UInt8)) : Prop where
  t : tv s = true
  n1 : 1 ≤ ms.length
  n30 : ms.length ≤ 30
  a0 : 0 ≤ a
  a1 : a < ms.length
  m : ms.getD 0 m0 = m0
  len : o.length = ms.length
  first : tv (o.getD 0 []) = true
  step : ∀ k, 0 < k → k < ms.length → Step ms o k
  at_ : o.getD a.toNat [] = s
theorem HGood.tvs {ms : List Mo} {a : Int} {s : List UInt8} {o : List (List UInt8)} (h : HGood ms a s o) : ∀ k, k < ms.length → tv (o.getD k []) = true := by
  intro k hk
  by_cases h0 : k = 0
  · subst h0; exact h.first
  · obtain ⟨_, _, h3, _, h5⟩ := h.step k (by omega) hk
    rw [h5]
    exact (okF_tv h3).2
/-- one step back along the tree. -/
theorem HGood.back {ms : List Mo} {a : Int} {s : List UInt8} {o : List (List UInt8)} (h : HGood ms a s o) {k : Nat} (h0 : 0 < k) (hk : k < ms.length) :
    0 ≤ (ms.getD k m0).par ∧ (ms.getD k m0).par < k ∧ okF (o.getD k []) (ms.getD k m0).b = true ∧ o.getD (ms.getD k m0).par.toNat [] = apF (o.getD k []) (ms.getD k m0).b := by
  obtain ⟨h1, h2, h3, h4, h5⟩ := h.step k h0 hk
  obtain ⟨r1, r2⟩ := rv_back h3
  rw [← h5, h4] at r1 r2
  exact ⟨h1, h2, r1, r2.symm⟩
theorem HGood.put {ms : List Mo} {a : Int} {s : List UInt8} {o : List (List UInt8)} (h : HGood ms a s o) {k : Nat} (hk : k < ms.length) : (ms.getD k m0).f.p.length ≤ 120 ∧ (ms.getD k m0).b.p.length ≤ 120 := by
  by_cases h0 : k = 0
  · subst h0; rw [h.m]; exact ⟨by decide, by decide⟩
  · obtain ⟨_, _, h3, _, _⟩ := h.step k (by omega) hk
    exact ⟨okF_put h3, okF_put (h.back (by omega) hk).2.2.1⟩
/-- lists that are built alike are alike. -/
theorem good_same {ms : List Mo} {a : Int} {s : List UInt8} {o q : List (List UInt8)} {n : Nat} (h : HGood ms a s o) (h0 : o.getD 0 [] = q.getD 0 []) (hs : ∀ k, 0 < k → k < n → Step ms q k) : ∀ k, k < n → k < ms.length → q.getD k [] = o.getD k [] := by
  intro k
  induction k using Nat.strongRecOn with
  | ind k ih =>
    intro hk hkm
    by_cases hz : k = 0
    · subst hz; exact h0.symm
    · obtain ⟨p1, p2, _, _, p5⟩ := hs k (by omega) hk
      obtain ⟨_, _, _, _, g5⟩ := h.step k (by omega) hkm
      rw [p5, g5, ih _ (by omega) (by omega) (by omega)]
theorem apTo_ok {s : List UInt8} {x : Ch} (h : okF s x = true) : apTo s x.a x.c x.p = apF s x := by
  unfold apTo
  rw [if_pos (show chOk s x.a x.c x.p = true from h)]; rfl

end Go.Proofs.YtbjlkdenkmbepaaGreatDoor

namespace Go.Proofs.YtbjlkdenkmbepaaGreatDoor
open Go.RowKit
set_option linter.unusedVariables false

/-- the byte at a place. -/
def at8 (l : List UInt8) (p : Nat) : UInt8 := l.getD p 0
theorem at8_eq {l : List UInt8} {p : Nat} (h : p < l.length) : at8 l p = l[p] := by
  unfold at8
  rw [List.getD_eq_getElem?_getD, List.getElem?_eq_getElem h]; rfl
/-- the last place up to p before which a byte is not of a class. -/
def skipB (l : List UInt8) (k : Int) : Nat → Nat
  | 0 => 0
  | p + 1 => if clsC (at8 l p) = k then skipB l k p else p + 1
theorem skipB_le (l : List UInt8) (k : Int) : ∀ p, skipB l k p ≤ p
  | 0 => Nat.le_refl _
  | p + 1 => by
    have := skipB_le l k p
    unfold skipB
    split <;> omega
theorem skipB_step {l : List UInt8} {k : Int} {p : Nat} (h : p < l.length) (hc : clsC l[p] = k) : skipB l k (p + 1) = skipB l k p := by
  rw [skipB, at8_eq h, if_pos hc]
theorem skipB_stop {l : List UInt8} {k : Int} {p : Nat} (h : p < l.length) (hc : clsC l[p] ≠ k) : skipB l k (p + 1) = p + 1 := by
  rw [skipB, at8_eq h, if_neg hc]
theorem skipN_ge (l : List UInt8) (p : Nat) (k : Int) : p ≤ skipN l p k := by unfold skipN; omega
/-- where the next word begins. -/
def moR (s : List UInt8) (p : Nat) : Nat := skipN s (if p < s.length ∧ clsC (at8 s p) ≠ 0 then skipN s p (clsC (at8 s p)) else p) 0
/-- where the word before a place begins. -/
def moL (s : List UInt8) (p : Nat) : Nat := if skipB s 0 p = 0 then 0 else skipB s (clsC (at8 s (skipB s 0 p - 1))) (skipB s 0 p)
/-- whether a word is at a place. -/
def waH (s : List UInt8) (p : Nat) : Bool := decide (p < s.length) && decide (clsC (at8 s p) ≠ 0)
def waA (s : List UInt8) (p : Nat) : Nat := if waH s p = true then skipB s (clsC (at8 s p)) p else p
def waZ (s : List UInt8) (p : Nat) : Nat := if waH s p = true then skipN s p (clsC (at8 s p)) else p
theorem moR_le (s : List UInt8) (p : Nat) (h : p ≤ s.length) : moR s p ≤ s.length := by
  unfold moR
  split
  · exact skipN_le _ _ _ (skipN_le _ _ _ h)
  · exact skipN_le _ _ _ h
theorem moL_le (s : List UInt8) (p : Nat) : moL s p ≤ p := by
  have h1 := skipB_le s 0 p
  have h2 := skipB_le s (clsC (at8 s (skipB s 0 p - 1))) (skipB s 0 p)
  unfold moL
  split <;> omega
theorem waA_le (s : List UInt8) (p : Nat) : waA s p ≤ p := by
  have h2 := skipB_le s (clsC (at8 s p)) p
  unfold waA
  split <;> omega
theorem waZ_le (s : List UInt8) (p : Nat) (h : p ≤ s.length) : p ≤ waZ s p ∧ waZ s p ≤ s.length := by
  have h1 := skipN_ge s p (clsC (at8 s p))
  have h2 := skipN_le s p (clsC (at8 s p)) h
  unfold waZ
  split <;> omega

/-- the first place of t from p on, or -1. -/
def fnx (s t : List UInt8) (p : Nat) : Int := if p ≤ s.length ∧ t ≠ [] then (if Lib.index (s.drop p) t = -1 then -1 else (p : Int) + Lib.index (s.drop p) t) else -1
theorem fnx_out {s t : List UInt8} {p : Nat} (h : ¬ (p ≤ s.length ∧ t ≠ [])) : fnx s t p = -1 := by unfold fnx; rw [if_neg h]
theorem fnx_in {s t : List UInt8} {p : Nat} (h : p ≤ s.length) (ht : t ≠ []) : fnx s t p = if Lib.index (s.drop p) t = -1 then -1 else (p : Int) + Lib.index (s.drop p) t := by unfold fnx; rw [if_pos ⟨h, ht⟩]
theorem fnx_hit {s t : List UInt8} {p : Nat} (h : p + t.length ≤ s.length) (ht : t ≠ []) (he : (s.drop p).take t.length = t) : fnx s t p = p := by
  have ho : Lib.occAt (s.drop p) t 0 = true := by
    rw [Lib.occAt_iff_take _ _ _ (by rw [List.length_drop]; omega), List.drop_zero, he]
    simp
  have h0 : Lib.index (s.drop p) t = (0 : Nat) := Lib.index_hit (Lib.NoOcc.zero _ _) (Nat.zero_le _) ho
  rw [fnx_in (by omega) ht, h0, if_neg (by omega)]
  simp
theorem fnx_step {s t : List UInt8} {p : Nat} (h : p + t.length ≤ s.length) (ht : t ≠ []) (he : (s.drop p).take t.length ≠ t) : fnx s t p = fnx s t (p + 1) := by
  have hl : 0 < t.length := by cases t <;> simp_all
  have ho : Lib.occAt (s.drop p) t 0 = false := by
    rw [Lib.occAt_iff_take _ _ _ (by rw [List.length_drop]; omega), List.drop_zero]
    simp [he]
  have hd := Lib.index_drop (s := s.drop p) (sub := t) (i := 1) ((Lib.NoOcc.zero _ _).succ ho) (by rw [List.length_drop]; omega)
  have hg := Lib.index_ge ((s.drop p).drop 1) t
  rw [fnx_in (by omega) ht, fnx_in (by omega) ht, hd]
  rw [List.drop_drop]
  rw [List.drop_drop] at hg
  by_cases e : Lib.index (s.drop (p + 1)) t = -1
  · rw [e]; simp
  · have e2 : (Lib.index (s.drop (p + 1)) t == -1) = false := by simpa using e
    rw [e2, if_neg e, if_neg (by simp only [Bool.false_eq_true, if_false]; omega)]
    simp only [Bool.false_eq_true, if_false]
    push_cast
    omega
theorem fnx_past {s t : List UInt8} {p : Nat} (h : s.length < p + t.length) (ht : t ≠ []) : fnx s t p = -1 := by
  by_cases hp : p ≤ s.length
  · have := Lib.index_past (s := s.drop p) (sub := t) (i := 0) ht (Lib.NoOcc.zero _ _) (by rw [List.length_drop]; omega)
    rw [fnx_in hp ht, this, if_pos rfl]
  · exact fnx_out (fun h => hp h.1)
/-- a hit lies within the text. -/
theorem fnx_room : ∀ (n p : Nat) (s t : List UInt8), s.length - p ≤ n → fnx s t p = -1 ∨ ∃ k : Nat, fnx s t p = k ∧ p ≤ k ∧ k + t.length ≤ s.length ∧ 0 < t.length
  | n, p, s, t, hn => by
    by_cases ht : t = []
    · exact .inl (fnx_out (fun h => h.2 ht))
    · have hl : 0 < t.length := by cases t <;> simp_all
      by_cases h : p + t.length ≤ s.length
      · by_cases he : (s.drop p).take t.length = t
        · exact .inr ⟨p, fnx_hit h ht he, Nat.le_refl _, h, hl⟩
        · cases n with
          | zero => omega
          | succ n =>
            rw [fnx_step h ht he]
            rcases fnx_room n (p + 1) s t (by omega) with h1 | ⟨k, h1, h2, h3, h4⟩
            · exact .inl h1
            · exact .inr ⟨k, h1, by omega, h3, h4⟩
      · exact .inl (fnx_past (by omega) ht)

/-- how many bytes two texts have in common at the beginning. -/
def cpre : List UInt8 → List UInt8 → Nat
  | x :: a, y :: b => if x = y then cpre a b + 1 else 0
  | _, _ => 0
theorem cpre_le : ∀ a b : List UInt8, cpre a b ≤ a.length ∧ cpre a b ≤ b.length
  | [], b => by simp [cpre]
  | x :: a, [] => by simp [cpre]
  | x :: a, y :: b => by
    have := cpre_le a b
    unfold cpre
    simp only [List.length_cons]
    split <;> omega
theorem cpre_step {a b : List UInt8} {k : Nat} (ha : k < a.length) (hb : k < b.length) (he : a[k] = b[k]) : cpre (a.drop k) (b.drop k) = cpre (a.drop (k + 1)) (b.drop (k + 1)) + 1 := by
  rw [List.drop_eq_getElem_cons ha, List.drop_eq_getElem_cons hb, cpre, if_pos he]
theorem cpre_stop {a b : List UInt8} {k : Nat} (ha : k < a.length) (hb : k < b.length) (he : a[k] ≠ b[k]) : cpre (a.drop k) (b.drop k) = 0 := by
  rw [List.drop_eq_getElem_cons ha, List.drop_eq_getElem_cons hb, cpre, if_neg he]
theorem cpre_end {a b : List UInt8} {k : Nat} (h : a.length ≤ k ∨ b.length ≤ k) : cpre (a.drop k) (b.drop k) = 0 := by
  have := cpre_le (a.drop k) (b.drop k)
  rw [List.length_drop, List.length_drop] at this
  omega
/-- what is left of two texts, from behind. -/
def bk (a : List UInt8) (n : Nat) : List UInt8 := (a.drop n).reverse
theorem bk_len (a : List UInt8) (n : Nat) : (bk a n).length = a.length - n := by simp [bk]
theorem bk_at {a : List UInt8} {n m : Nat} (h : m < (bk a n).length) (h2 : a.length - 1 - m < a.length) : (bk a n)[m] = a[a.length - 1 - m] := by
  have hl := bk_len a n
  have e : (bk a n)[m]? = a[a.length - 1 - m]? := by
    unfold bk
    rw [List.getElem?_reverse (by rw [List.length_drop]; omega), List.getElem?_drop, List.length_drop]
    congr 1
    omega
  rw [List.getElem?_eq_getElem h, List.getElem?_eq_getElem h2] at e
  exact Option.some.inj e
def csuf (a b : List UInt8) : Nat := cpre (bk a (cpre a b)) (bk b (cpre a b))
/-- the change from one text to another one. -/
def dfC (a b : List UInt8) : Ch := ⟨cpre a b, (a.length : Int) - csuf a b - cpre a b, (b.take (b.length - csuf a b)).drop (cpre a b)⟩
theorem csuf_le (a b : List UInt8) : cpre a b + csuf a b ≤ a.length ∧ cpre a b + csuf a b ≤ b.length := by
  have h1 := cpre_le a b
  have h2 := cpre_le (bk a (cpre a b)) (bk b (cpre a b))
  rw [bk_len, bk_len] at h2
  unfold csuf
  omega
theorem dfC_in (a b : List UInt8) (ha : a.length ≤ 120) (hb : b.length ≤ 120) : 0 ≤ (dfC a b).a ∧ (dfC a b).a ≤ 120 ∧ 0 ≤ (dfC a b).c ∧ (dfC a b).c ≤ 120 ∧ (dfC a b).p.length ≤ 120 := by
  have h1 := csuf_le a b
  unfold dfC
  simp only [List.length_drop, List.length_take]
  omega
/-- where a place is after a change. -/
def mvP (c : Ch) (p : Int) : Int := if p < c.a then p else if p > c.a + c.c then p + c.p.length - c.c else c.a + c.p.length
theorem mvP_put (x : Int) (t : List UInt8) : mvP ⟨x, 0, t⟩ x = x + t.length := by
  unfold mvP
  simp
theorem mvP_cut {x a b : Int} (h1 : a ≤ x) (h2 : x ≤ b) : mvP ⟨a, b - a, []⟩ x = a := by
  unfold mvP
  simp only [List.length_nil]
  rw [if_neg (by omega), if_neg (by omega)]
  simp

end Go.Proofs.YtbjlkdenkmbepaaGreatDoor

namespace Go.Proofs.YtbjlkdenkmbepaaGreatDoor
open Go.RowKit
set_option linter.unusedVariables false

set_option maxRecDepth 100000 in
set_option maxHeartbeats 1000000 in
theorem specFindNext_any (s t : List UInt8) (p : Nat) (w : World) (hs : tv s = true) (hp : p ≤ 1048576) (ht : t.length ≤ 1048576) :
    Calls Tryz.prog 59 #[S s, S t, .int .i64 p] w fun e w' => e = .returned (.int .i64 (fnx s t p)) ∧ w = w' := by
  have hl := tv_len hs
  have T := Lib.hid (fun w => specTextValid_any s w (by unfold maxLen; omega))
  rw [hs] at T
  have I := Lib.hid (fun w => l1In_any p 0 s.length w)
  clear hs
  by_cases hps : p ≤ s.length
  · rw [inB_iff.2 (show (0 : Int) ≤ p ∧ (p : Int) ≤ s.length by omega)] at I
    cases t with
    | nil =>
      have HF := Lib.hid (show fnx s [] p = -1 from fnx_out (fun h => h.2 rfl))
      go_enter Tryz.func59, Tryz.ntmps59
      go_wp2_with fail
      refine wp_loop_rounds 1 ?_
      rw [rounds_succ]
      go_wp2_with fail
      refine (T.out _).mono ?_
      rintro e w1 ⟨rfl, rfl⟩
      go_wp2_with fail
      refine (I.out _).mono ?_
      rintro e w1 ⟨rfl, rfl⟩
      go_wp2_with fail
      go_ret
      exact ⟨ret_int HF.out.symm, rfl⟩
    | cons c r =>
      obtain ⟨u, hu⟩ : ∃ u, u = c :: r := ⟨_, rfl⟩
      rw [← hu] at ht ⊢
      have hne : u ≠ [] := by rw [hu]; simp
      have HU := Lib.hid hne
      have b1 : (u == []) = false := by simpa using hne
      have b2 : u.isEmpty = false := by simpa using hne
      clear hu hne
      go_enter Tryz.func59, Tryz.ntmps59
      go_wp2_with fail
      go_loop [7] (fun i => ∃ k : Nat, k ≤ s.length + 1 ∧ i = .int .i64 k ∧ Hid (fnx s u p = fnx s u k)) (fun i => s.length + 1 - (intOf i).toNat)
      case atStart => exact ⟨p, by omega, rfl, Lib.hid rfl⟩
      case round =>
        obtain ⟨k, hk, rfl, HK⟩ := hrel
        have i0 : (0 : Int) ≤ (k : Int) := by omega
        by_cases hlt : k + u.length ≤ s.length
        · have i1 : (k : Int) + (u.length : Int) ≤ (s.length : Int) := by omega
          have i2 : (k : Int) ≤ (k : Int) + (u.length : Int) := by omega
          have hx : (s.take (k + u.length)).drop k = (s.drop k).take u.length := by rw [List.drop_take, Nat.add_sub_cancel_left]
          have e1 : ((k : Int) + (u.length : Int)).toNat = k + u.length := by omega
          obtain ⟨x, hx2⟩ : ∃ x, x = (s.take (k + u.length)).drop k := ⟨_, rfl⟩
          by_cases hc : x = u
          · have HS := Lib.hid (fnx_hit hlt HU.out (by rw [← hx, ← hx2, hc]))
            have c1 : (x == u) = true := by simpa using hc
            rw [hx2] at c1
            clear hx hx2 hc
            go_wp2_with fail
            refine (T.out _).mono ?_
            rintro e w1 ⟨rfl, rfl⟩
            go_wp2_with fail
            refine (I.out _).mono ?_
            rintro e w1 ⟨rfl, rfl⟩
            go_wp2_with fail
            go_ret
            exact ⟨ret_int (by rw [HK.out, HS.out]), rfl⟩
          · have HS := Lib.hid (fnx_step hlt HU.out (by rw [← hx, ← hx2]; exact hc))
            have c1 : (x == u) = false := by simpa using hc
            rw [hx2] at c1
            clear hx hx2 hc
            go_wp2_with fail
            refine (T.out _).mono ?_
            rintro e w1 ⟨rfl, rfl⟩
            go_wp2_with fail
            refine (I.out _).mono ?_
            rintro e w1 ⟨rfl, rfl⟩
            go_wp2_with fail
            go_round
            case rel => exact ⟨k + 1, by omega, by go_num, Lib.hid (by rw [HK.out, HS.out])⟩
            case measure => simp [intOf]; omega
        · have HS := Lib.hid (fnx_past (s := s) (t := u) (p := k) (by omega) HU.out)
          have i1 : ¬ (k : Int) + (u.length : Int) ≤ (s.length : Int) := by omega
          go_wp2_with fail
          refine (T.out _).mono ?_
          rintro e w1 ⟨rfl, rfl⟩
          go_wp2_with fail
          refine (I.out _).mono ?_
          rintro e w1 ⟨rfl, rfl⟩
          go_wp2_with fail
          go_ret
          exact ⟨ret_int (by rw [HK.out, HS.out]), rfl⟩
  · have hb : inB (p : Int) 0 s.length = false := by
      rw [Bool.eq_false_iff]
      intro h
      rw [inB_iff] at h
      omega
    rw [hb] at I
    have HF := Lib.hid (show fnx s t p = -1 from fnx_out (fun h => hps h.1))
    clear hb
    go_enter Tryz.func59, Tryz.ntmps59
    go_wp2_with fail
    refine wp_loop_rounds 1 ?_
    rw [rounds_succ]
    go_wp2_with fail
    refine (T.out _).mono ?_
    rintro e w1 ⟨rfl, rfl⟩
    go_wp2_with fail
    refine (I.out _).mono ?_
    rintro e w1 ⟨rfl, rfl⟩
    go_wp2_with fail
    go_ret
    exact ⟨ret_int HF.out.symm, rfl⟩

end Go.Proofs.YtbjlkdenkmbepaaGreatDoor
