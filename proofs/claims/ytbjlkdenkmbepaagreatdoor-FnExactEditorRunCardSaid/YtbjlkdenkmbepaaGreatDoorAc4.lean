/- What is proved here: What is proved here: contracts of WordRight, WordLeft and WordAround in the program and in the reference. What is proved here: contracts of MovePlace in the program and in the reference. No condition. -/
import Derived.Test.YtbjlkdenkmbepaaGreatDoorAc0
import Derived.Test.YtbjlkdenkmbepaaGreatDoorText1
import Derived.Test.YtbjlkdenkmbepaaGreatDoorBase
namespace Go.Proofs.YtbjlkdenkmbepaaGreatDoor
open Go.RowKit
set_option linter.unusedVariables false

theorem place_in {s : List UInt8} {p : Nat} (hp : p ≤ s.length) : inB (p : Int) 0 s.length = true := inB_iff.2 ⟨by omega, by omega⟩
theorem cls_ne {s : List UInt8} {p : Nat} {h : p < s.length} (hc : clsC s[p] ≠ 0) : (cls ((s[p].toNat : Nat) : Int) != 0) = true := by
  have h2 : cls ((s[p].toNat : Nat) : Int) ≠ 0 := hc
  simpa using h2
theorem cls_eq {s : List UInt8} {p : Nat} {h : p < s.length} (hc : clsC s[p] = 0) : (cls ((s[p].toNat : Nat) : Int) != 0) = false := by
  have h2 : cls ((s[p].toNat : Nat) : Int) = 0 := hc
  simpa using h2
theorem cls_ne0 {s : List UInt8} {p : Nat} {h : p < s.length} (hc : clsC s[p] ≠ 0) : (cls ((s[p].toNat : Nat) : Int) == 0) = false := by
  have h2 : cls ((s[p].toNat : Nat) : Int) ≠ 0 := hc
  simpa using h2
theorem cls_eq0 {s : List UInt8} {p : Nat} {h : p < s.length} (hc : clsC s[p] = 0) : (cls ((s[p].toNat : Nat) : Int) == 0) = true := by
  have h2 : cls ((s[p].toNat : Nat) : Int) = 0 := hc
  simpa using h2
theorem cls_beq {s : List UInt8} {p : Nat} {k : Int} {h : p < s.length} (hc : clsC s[p] = k) : (cls ((s[p].toNat : Nat) : Int) == k) = true := by
  have h2 : cls ((s[p].toNat : Nat) : Int) = k := hc
  simpa using h2
theorem cls_bne {s : List UInt8} {p : Nat} {k : Int} {h : p < s.length} (hc : clsC s[p] ≠ k) : (cls ((s[p].toNat : Nat) : Int) == k) = false := by
  have h2 : cls ((s[p].toNat : Nat) : Int) ≠ k := hc
  simpa using h2

theorem skipBack_any (l : List UInt8) (p : Nat) (k : Int) (w : World) (hs : l.length ≤ maxLen) (hp : p ≤ l.length) :
    Calls Tryz.prog 144 #[S l, .int .i64 p, .int .i64 k] w fun e w' => e = .returned (.int .i64 (skipB l k p)) ∧ w = w' := by
  have hs' : l.length ≤ 9223372036854775807 := by unfold maxLen at hs; omega
  go_enter Tryz.func144, Tryz.ntmps144
  go_wp2_with fail
  go_loop [1] (fun i => ∃ q : Nat, q ≤ p ∧ i = .int .i64 q ∧ Hid (skipB l k p = skipB l k q)) (fun i => (intOf i).toNat)
  case atStart => exact ⟨p, Nat.le_refl _, rfl, Lib.hid rfl⟩
  case round =>
    obtain ⟨q, hq, rfl, heq⟩ := hrel
    by_cases hlt : 0 < q
    · obtain ⟨j, rfl⟩ : ∃ j, q = j + 1 := ⟨q - 1, by omega⟩
      have hj : j < l.length := by omega
      have e1 : ((j + 1 : Nat) : Int) - 1 = (j : Int) := by omega
      have i1 : (0 : Int) ≤ (j : Int) := by omega
      have i2 : (j : Int) < (l.length : Int) := by omega
      have i3 : (0 : Int) < ((j + 1 : Nat) : Int) := by omega
      by_cases hc : clsC l[j] = k
      · have hst := Lib.hid (skipB_step hj hc)
        have hc' := cls_beq hc
        clear hc
        go_wp2_with (go_at_call 143; refine (class_any _ _).mono ?_; rintro e w1 ⟨rfl, rfl⟩)
        go_round
        case rel => exact ⟨j, by omega, by go_num, Lib.hid (by rw [heq.out, hst.out])⟩
        case measure => simp [intOf]
      · have hst := Lib.hid (skipB_stop hj hc)
        have hc' := cls_bne hc
        clear hc
        go_wp2_with (go_at_call 143; refine (class_any _ _).mono ?_; rintro e w1 ⟨rfl, rfl⟩)
        go_ret
        exact ⟨ret_int (by rw [heq.out, hst.out]; omega), rfl⟩
    · obtain rfl : q = 0 := by omega
      go_wp2_with fail
      go_ret
      exact ⟨ret_int (by rw [heq.out]; rfl), rfl⟩

theorem implWordRight_any (s : List UInt8) (p : Nat) (w : World) (hs : tv s = true) (hp : p ≤ s.length) :
    Calls Tryz.prog 110 #[S s, .int .i64 p] w fun e w' => e = .returned (.int .i64 (moR s p : Nat)) ∧ w = w' := by
  have hl := tv_len hs
  have hm : s.length ≤ maxLen := by unfold maxLen; omega
  have I := Lib.hid (fun w => isPlace_any s p w hs)
  rw [place_in hp] at I
  have K := Lib.hid (fun q k w hq => skip_any s q k w hm hq)
  have N := Lib.hid (fun q k hq => skipN_le s q k hq)
  by_cases hlt : p < s.length
  · have i1 : (0 : Int) ≤ (p : Int) := by omega
    have i2 : (p : Int) < (s.length : Int) := by omega
    by_cases hc : clsC s[p] = 0
    · have HM := Lib.hid (show moR s p = skipN s p 0 by unfold moR; rw [at8_eq hlt, if_neg (fun h => h.2 hc)])
      have hc' := cls_eq hc
      clear hc hs
      go_enter Tryz.func110, Tryz.ntmps110
      go_wp2_with fail
      refine (I.out _).mono ?_
      rintro e w1 ⟨rfl, rfl⟩
      go_wp2_with fail
      refine (class_any _ _).mono ?_
      rintro e w1 ⟨rfl, rfl⟩
      go_wp2_with fail
      refine (K.out p 0 _ hp).mono ?_
      rintro e w1 ⟨rfl, rfl⟩
      go_wp2_with fail
      go_ret
      exact ⟨ret_int (by rw [HM.out]), rfl⟩
    · have HM := Lib.hid (show moR s p = skipN s (skipN s p (clsC s[p])) 0 by unfold moR; rw [at8_eq hlt, if_pos ⟨hlt, hc⟩])
      have hc' := cls_ne hc
      have hq := skipN_le s p (clsC s[p]) hp
      have K1 := Lib.hid (K.out p (clsC s[p]))
      have K2 := Lib.hid (fun w => K.out (skipN s p (clsC s[p])) 0 w hq)
      generalize skipN s p (clsC s[p]) = q at *
      clear hc hs
      go_enter Tryz.func110, Tryz.ntmps110
      go_wp2_with fail
      refine (I.out _).mono ?_
      rintro e w1 ⟨rfl, rfl⟩
      go_wp2_with fail
      refine (class_any _ _).mono ?_
      rintro e w1 ⟨rfl, rfl⟩
      go_wp2_with fail
      refine (class_any _ _).mono ?_
      rintro e w1 ⟨rfl, rfl⟩
      go_wp2_with fail
      refine (K1.out _ hp).mono ?_
      rintro e w1 ⟨rfl, rfl⟩
      go_wp2_with fail
      refine (K2.out _).mono ?_
      rintro e w1 ⟨rfl, rfl⟩
      go_wp2_with fail
      go_ret
      exact ⟨ret_int (by rw [HM.out]), rfl⟩
  · obtain rfl : p = s.length := by omega
    have HM := Lib.hid (show moR s s.length = skipN s s.length 0 by unfold moR; rw [if_neg (fun h => by omega)])
    clear hs
    go_enter Tryz.func110, Tryz.ntmps110
    go_wp2_with fail
    refine (I.out _).mono ?_
    rintro e w1 ⟨rfl, rfl⟩
    go_wp2_with fail
    refine (K.out s.length 0 _ hp).mono ?_
    rintro e w1 ⟨rfl, rfl⟩
    go_wp2_with fail
    go_ret
    exact ⟨ret_int (by rw [HM.out]), rfl⟩

theorem implWordLeft_any (s : List UInt8) (p : Nat) (w : World) (hs : tv s = true) (hp : p ≤ s.length) :
    Calls Tryz.prog 111 #[S s, .int .i64 p] w fun e w' => e = .returned (.int .i64 (moL s p : Nat)) ∧ w = w' := by
  have hl := tv_len hs
  have hm : s.length ≤ maxLen := by unfold maxLen; omega
  have I := Lib.hid (fun w => isPlace_any s p w hs)
  rw [place_in hp] at I
  have K := Lib.hid (fun q k w hq => skipBack_any s q k w hm hq)
  have hq := skipB_le s 0 p
  have K1 := Lib.hid (fun w => K.out p 0 w hp)
  have HM := Lib.hid (show moL s p = if skipB s 0 p = 0 then 0 else skipB s (clsC (at8 s (skipB s 0 p - 1))) (skipB s 0 p) from rfl)
  generalize skipB s 0 p = q at *
  clear hs
  by_cases h0 : q = 0
  · subst h0
    have HM := Lib.hid (show moL s p = 0 by rw [HM.out, if_pos rfl])
    go_enter Tryz.func111, Tryz.ntmps111
    go_wp2_with fail
    refine (I.out _).mono ?_
    rintro e w1 ⟨rfl, rfl⟩
    go_wp2_with fail
    refine (K1.out _).mono ?_
    rintro e w1 ⟨rfl, rfl⟩
    go_wp2_with fail
    go_ret
    exact ⟨ret_int (by rw [HM.out]; rfl), rfl⟩
  · obtain ⟨j, rfl⟩ : ∃ j, q = j + 1 := ⟨q - 1, by omega⟩
    have hj : j < s.length := by omega
    have e1 : ((j + 1 : Nat) : Int) - 1 = (j : Int) := by omega
    have i1 : (0 : Int) ≤ (j : Int) := by omega
    have i2 : (j : Int) < (s.length : Int) := by omega
    have i3 : (((j + 1 : Nat) : Int) == 0) = false := by rw [beq_eq_false_iff_ne]; omega
    have HM := Lib.hid (show moL s p = skipB s (clsC s[j]) (j + 1) by rw [HM.out, if_neg (by omega), Nat.add_sub_cancel, at8_eq hj])
    have K2 := Lib.hid (fun w => K.out (j + 1) (clsC s[j]) w (by omega))
    go_enter Tryz.func111, Tryz.ntmps111
    go_wp2_with fail
    refine (I.out _).mono ?_
    rintro e w1 ⟨rfl, rfl⟩
    go_wp2_with fail
    refine (K1.out _).mono ?_
    rintro e w1 ⟨rfl, rfl⟩
    go_wp2_with fail
    refine (class_any _ _).mono ?_
    rintro e w1 ⟨rfl, rfl⟩
    go_wp2_with fail
    refine (K2.out _).mono ?_
    rintro e w1 ⟨rfl, rfl⟩
    go_wp2_with fail
    go_ret
    exact ⟨ret_int (by rw [HM.out]), rfl⟩

theorem implWordAround_any (s : List UInt8) (p : Nat) (w : World) (hs : tv s = true) (hp : p ≤ s.length) :
    Calls Tryz.prog 108 #[S s, .int .i64 p] w fun e w' => e = .returned (.tuple #[.int .i64 (waA s p : Nat), .int .i64 (waZ s p : Nat)]) ∧ w = w' := by
  have hl := tv_len hs
  have hm : s.length ≤ maxLen := by unfold maxLen; omega
  have I := Lib.hid (fun w => isPlace_any s p w hs)
  rw [place_in hp] at I
  by_cases hlt : p < s.length
  · have i1 : (0 : Int) ≤ (p : Int) := by omega
    have i2 : (p : Int) < (s.length : Int) := by omega
    have i3 : ((p : Int) == (s.length : Int)) = false := by rw [beq_eq_false_iff_ne]; omega
    by_cases hc : clsC s[p] = 0
    · have HA := Lib.hid (show waA s p = p ∧ waZ s p = p by
        have : waH s p = false := by unfold waH; rw [at8_eq hlt]; simp [hc]
        unfold waA waZ
        rw [this]
        exact ⟨rfl, rfl⟩)
      have hc' := cls_eq0 hc
      clear hc hs
      go_enter Tryz.func108, Tryz.ntmps108
      go_wp2_with fail
      refine (I.out _).mono ?_
      rintro e w1 ⟨rfl, rfl⟩
      go_wp2_with fail
      refine (class_any _ _).mono ?_
      rintro e w1 ⟨rfl, rfl⟩
      go_wp2_with fail
      go_ret2
      rw [HA.out.1, HA.out.2]
      exact ⟨rfl, rfl⟩
    · have HA := Lib.hid (show waA s p = skipB s (clsC s[p]) p ∧ waZ s p = skipN s p (clsC s[p]) by
        have : waH s p = true := by unfold waH; rw [at8_eq hlt]; simp [hc, hlt]
        unfold waA waZ
        rw [this, at8_eq hlt]
        exact ⟨rfl, rfl⟩)
      have hc' := cls_ne0 hc
      have K1 := Lib.hid (fun w => skipBack_any s p (clsC s[p]) w hm hp)
      have K2 := Lib.hid (fun w => skip_any s p (clsC s[p]) w hm hp)
      generalize skipB s (clsC s[p]) p = a at *
      generalize skipN s p (clsC s[p]) = z at *
      clear hc hs
      go_enter Tryz.func108, Tryz.ntmps108
      go_wp2_with fail
      refine (I.out _).mono ?_
      rintro e w1 ⟨rfl, rfl⟩
      go_wp2_with fail
      refine (class_any _ _).mono ?_
      rintro e w1 ⟨rfl, rfl⟩
      go_wp2_with fail
      refine (class_any _ _).mono ?_
      rintro e w1 ⟨rfl, rfl⟩
      go_wp2_with (first
        | (go_at_call 144; refine (K1.out _).mono ?_; rintro e w1 ⟨rfl, rfl⟩)
        | (go_at_call 145; refine (K2.out _).mono ?_; rintro e w1 ⟨rfl, rfl⟩))
      go_ret2
      rw [HA.out.1, HA.out.2]
      exact ⟨rfl, rfl⟩
  · obtain rfl : p = s.length := by omega
    have HA := Lib.hid (show waA s s.length = s.length ∧ waZ s s.length = s.length by
      have : waH s s.length = false := by unfold waH; simp
      unfold waA waZ
      rw [this]
      exact ⟨rfl, rfl⟩)
    clear hs
    go_enter Tryz.func108, Tryz.ntmps108
    go_wp2_with fail
    refine (I.out _).mono ?_
    rintro e w1 ⟨rfl, rfl⟩
    go_wp2_with fail
    go_ret2
    rw [HA.out.1, HA.out.2]
    exact ⟨rfl, rfl⟩

end Go.Proofs.YtbjlkdenkmbepaaGreatDoor

namespace Go.Proofs.YtbjlkdenkmbepaaGreatDoor
open Go.RowKit
set_option linter.unusedVariables false

theorem mvP_cases (a c x : Int) (p : List UInt8) : (x < a ∧ mvP ⟨a, c, p⟩ x = x) ∨ (¬ x < a ∧ a + c < x ∧ mvP ⟨a, c, p⟩ x = x + p.length - c) ∨ (¬ x < a ∧ ¬ a + c < x ∧ mvP ⟨a, c, p⟩ x = a + p.length) := by
  unfold mvP
  simp only
  by_cases h1 : x < a
  · exact .inl ⟨h1, if_pos h1⟩
  · by_cases h2 : a + c < x
    · exact .inr (.inl ⟨h1, h2, by rw [if_neg h1, if_pos h2]⟩)
    · exact .inr (.inr ⟨h1, h2, by rw [if_neg h1, if_neg h2]⟩)
set_option maxRecDepth 100000 in
set_option maxHeartbeats 1000000 in
theorem implMovePlace_any (a c x : Int) (p : List UInt8) (w : World) (h1 : inB a 0 120 = true) (h2 : inB c 0 120 = true) (h3 : inB x 0 120 = true) (h4 : p.length ≤ 120) :
    Calls Tryz.prog 119 #[chV a c p, .int .i64 x, .bool true] w fun e w' => e = .returned (.int .i64 (mvP ⟨a, c, p⟩ x)) ∧ Below w.heap.size w w' := by
  have k1 := inB_iff.1 h1
  have k2 := inB_iff.1 h2
  have k3 := inB_iff.1 h3
  have H := Lib.hid (And.intro h1 (And.intro h2 h3))
  clear h1 h2 h3
  unfold chV
  rcases mvP_cases a c x p with ⟨e1, e2⟩ | ⟨e1, e2, e3⟩ | ⟨e1, e2, e3⟩
  case' inl => have HE := Lib.hid e2; clear e2
  case' inr.inl => have HE := Lib.hid e3; clear e3
  case' inr.inr => have HE := Lib.hid e3; clear e3
  all_goals
    go_enter Tryz.func119, Tryz.ntmps119
    go_wp2_with fail
    refine (in_any _ _ _ _).mono ?_
    rw [H.out.1]
    rintro e w1 ⟨rfl, rfl⟩
    go_wp2_with fail
    refine (in_any _ _ _ _).mono ?_
    rw [H.out.2.1]
    rintro e w1 ⟨rfl, rfl⟩
    go_wp2_with fail
    refine (in_any _ _ _ _).mono ?_
    rw [H.out.2.2]
    rintro e w1 ⟨rfl, rfl⟩
    go_wp2_with fail
    go_ret
    exact ⟨ret_int (by rw [HE.out]), by exact bBel⟩
set_option maxRecDepth 100000 in
set_option maxHeartbeats 1000000 in
theorem specMovePlace_any (a c x : Int) (p : List UInt8) (w : World) (h1 : inB a 0 120 = true) (h2 : inB c 0 120 = true) (h3 : inB x 0 120 = true) (h4 : p.length ≤ 120) :
    Calls Tryz.prog 91 #[chV a c p, .int .i64 x, .bool true] w fun e w' => e = .returned (.int .i64 (mvP ⟨a, c, p⟩ x)) ∧ Below w.heap.size w w' := by
  have k1 := inB_iff.1 h1
  have k2 := inB_iff.1 h2
  have k3 := inB_iff.1 h3
  obtain ⟨a0, a1⟩ := k1
  obtain ⟨c0, c1⟩ := k2
  obtain ⟨x0, x1⟩ := k3
  clear h1 h2 h3
  unfold chV
  rcases mvP_cases a c x p with ⟨e1, e2⟩ | ⟨e1, e2, e3⟩ | ⟨e1, e2, e3⟩
  case' inl => have HE := Lib.hid e2; clear e2
  case' inr.inl => have HE := Lib.hid e3; clear e3
  case' inr.inr => have HE := Lib.hid e3; clear e3
  all_goals
    go_enter Tryz.func91, Tryz.ntmps91
    go_wp2_with fail
    go_ret
    exact ⟨ret_int (by rw [HE.out]), by exact bBel⟩

end Go.Proofs.YtbjlkdenkmbepaaGreatDoor
