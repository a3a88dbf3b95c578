/- What is proved here: What is proved here: plain facts: what the program's readNumber makes of the digits. What is proved here: the contract of the program's readNumber. Condition: what the library's variables hold. What is proved here: the contract of the program's ReadRange. Condition: what the library's variables hold. No condition. -/
import Derived.Test.YtbjlkdenkmbepaaGreatDoorAc1
import Derived.Test.YtbjlkdenkmbepaaGreatDoorRcC
import Derived.Lib.ItoaMem
import Derived.Lib.AtoiAllCases
import Derived.Test.YtbjlkdenkmbepaaGreatDoorBase
import Derived.BigQuiet
namespace Go.Proofs.YtbjlkdenkmbepaaGreatDoor
open Go.RowKit
set_option linter.unusedVariables false

theorem atoi_nm {a : Nat} (h : a < 1000) : Lib.atoiAll (nm a) = .ok (a : Int) := by
  have hd := nm_digits a
  have hp := nm_pos a
  have hv : vl 0 (nm a) = a := vl_nm a
  cases hl : nm a with
  | nil => rw [hl] at hp; simp at hp
  | cons c r =>
    rw [hl] at hd hv
    have hc := hd c (by simp)
    have hm : Lib.parseMag (c :: r) = .ok a := by
      unfold Lib.parseMag
      rw [if_neg (by simp), parse_digits (c :: r) 0 hd (by rw [hv]; omega), hv]
    unfold Lib.atoiAll
    simp only
    rw [if_neg (by omega), hm]
    simp only
    rw [if_neg (by omega), if_neg (by omega), if_neg (by omega)]
theorem dgW_dg : ∀ (s : List UInt8), ∀ c ∈ dgW s, dgB c = true
  | [], c, h => by simp [dgW] at h
  | x :: s, c, h => by
    unfold dgW at h
    rw [List.takeWhile_cons] at h
    split at h
    · rename_i hx
      rcases List.mem_cons.1 h with rfl | h
      · exact hx
      · exact dgW_dg s c h
    · simp at h
/-- what readNumber gives. -/
def RnIs (s : List UInt8) (x n : Int) : Prop := (∃ a k : Nat, num s = some (a, k) ∧ x = a ∧ n = k) ∨ (num s = none ∧ ((x = -1 ∧ n = 0) ∨ (1000 ≤ x ∧ ∃ j : Nat, n = j ∧ 1 ≤ j ∧ j ≤ s.length)))
theorem rn_err {s : List UInt8} (h : ∀ v, Lib.atoiAll (dgW s) ≠ .ok v) : num s = none := by
  cases hn : num s with
  | none => rfl
  | some p =>
    obtain ⟨a, k⟩ := p
    obtain ⟨h1, h2, _⟩ := num_some hn
    have := h a
    rw [← h2, atoi_nm h1] at this
    exact absurd rfl this
theorem rn_ne {s : List UInt8} {v : Int} (h : Lib.atoiAll (dgW s) = .ok v) (hi : Lib.itoa v ≠ dgW s) : num s = none := by
  cases hn : num s with
  | none => rfl
  | some p =>
    obtain ⟨a, k⟩ := p
    obtain ⟨h1, h2, _⟩ := num_some hn
    rw [← h2, atoi_nm h1] at h
    injection h with h
    subst h
    rw [Lib.itoa_nonneg] at hi
    exact absurd h2 hi
theorem rn_eq {s : List UInt8} {v : Int} (hi : Lib.itoa v = dgW s) : RnIs s v (dgW s).length := by
  have hdg := dgW_dg s
  by_cases hv : v < 0
  · exfalso
    unfold Lib.itoa at hi
    rw [if_pos hv] at hi
    have := hdg 45 (by rw [← hi]; simp)
    simp [dgB] at this
  · obtain ⟨a, rfl⟩ : ∃ a : Nat, v = a := ⟨v.toNat, by omega⟩
    rw [Lib.itoa_nonneg] at hi
    have h2 : nm a = dgW s := hi
    have hp := nm_pos a
    have hl := dgW_le s
    rw [h2] at hp
    by_cases ha : a < 1000
    · exact .inl ⟨a, _, num_of ha h2, rfl, rfl⟩
    · refine .inr ⟨?_, .inr ⟨by omega, _, rfl, hp, hl⟩⟩
      cases hn : num s with
      | none => rfl
      | some p =>
        obtain ⟨b, k⟩ := p
        obtain ⟨h3, h4, _⟩ := num_some hn
        have e1 := vl_nm a
        have e2 := vl_nm b
        rw [h2, ← h4, e2] at e1
        omega

end Go.Proofs.YtbjlkdenkmbepaaGreatDoor

namespace Go.Proofs.YtbjlkdenkmbepaaGreatDoor
open Go.RowKit
set_option linter.unusedVariables false

def AtFPost (l : List UInt8) (w : World) (e : Ending) (w' : World) : Prop := ∃ (v : Int) (er : Value), e = .returned (.tuple #[.int .i64 v, er]) ∧ ((Lib.atoiAll l = .ok v ∧ er = .nilIface) ∨ ((∀ x, Lib.atoiAll l ≠ .ok x) ∧ ∃ t p, er = .iface t p)) ∧ Below w.heap.size w w'
theorem atoi_full (l : List UInt8) (w : World) (h : LW w) (hl : l.length ≤ 1048577) :
    Calls Tryz.prog 156 #[S l] w (AtFPost l w) := by
  have hsz : (⟨l.toArray⟩ : ByteArray).size ≤ 281474976710656 := show l.length ≤ _ by omega
  cases hk : Lib.atoiAll l
  · rename_i v
    refine (Tryz.strconv_Atoi_ok ⟨l.toArray⟩ (show l.length ≤ _ by omega) v hk w).mono ?_
    rintro e w' ⟨he, hw⟩
    refine ⟨v, .nilIface, he, .inl ⟨hk, rfl⟩, ?_⟩
    rcases hw with rfl | ⟨t, rfl⟩
    · exact Below.refl _ _
    · exact Lib.bytesWorld_below w _ _
  · obtain ⟨ev, hv, hev⟩ := h.syn
    refine (Any.strconv_Atoi_syntax Tryz.laysC172 ⟨l.toArray⟩ hsz hk ev w hv hev).mono ?_
    rintro e w' ⟨N, he, _, _, hb⟩
    exact ⟨_, _, he, .inr ⟨(fun x hx => by rw [hk] at hx; cases hx), _, _, rfl⟩, hb⟩
  · obtain ⟨ev, hv, hev⟩ := h.rng
    refine (Tryz.strconv_Atoi_range ⟨l.toArray⟩ hsz hk ev w hv hev).mono ?_
    rintro e w' ⟨N, he, _, _, hb⟩
    exact ⟨_, _, he, .inr ⟨(fun x hx => by rw [hk] at hx; cases hx), _, _, rfl⟩, hb⟩
theorem itoa_full (n : Int) (w : World) (h0 : -9223372036854775808 ≤ n) (h1 : n ≤ 9223372036854775807) (h : LT w) :
    Calls Tryz.prog 130 #[.int .i64 n] w fun e w' => e = .returned (S (Lib.itoa n)) ∧ Below w.heap.size w w' :=
  (Tryz.strconv_Itoa n h0 h1 w h).mono fun e w' ⟨he, k, os, hw⟩ => by
    subst hw
    exact ⟨he, Lib.below_grow _ _ (Nat.le_refl _) _ _⟩
theorem dgW_drop {s : List UInt8} {k : Nat} (h : k < s.length) : dgW (s.drop k) = if dgB s[k] = true then s[k] :: dgW (s.drop (k + 1)) else [] := by
  rw [List.drop_eq_getElem_cons h]
  unfold dgW
  rw [List.takeWhile_cons]

def RnPost (s : List UInt8) (w : World) (e : Ending) (w' : World) : Prop := ∃ x n : Int, e = .returned (.tuple #[.int .i64 x, .int .i64 n]) ∧ RnIs s x n ∧ Below w.heap.size w w'
set_option maxRecDepth 100000 in
set_option maxHeartbeats 2000000 in
theorem readNumber_any (s : List UInt8) (w : World) (hs : s.length ≤ 1048576) (hL : LW w) :
    Calls Tryz.prog 167 #[S s] w (RnPost s w) := by
  unfold RnPost
  have HL := Lib.hid hL
  clear hL
  go_enter Tryz.func167, Tryz.ntmps167
  go_wp2_with fail
  go_loop [4] (fun i => ∃ k : Nat, k ≤ s.length ∧ i = .int .i64 k ∧ Hid (dgW s = s.take k ++ dgW (s.drop k))) (fun i => s.length - (intOf i).toNat)
  case atStart => exact ⟨0, Nat.zero_le _, rfl, Lib.hid rfl⟩
  case round =>
    obtain ⟨k, hk, rfl, HD⟩ := hrel
    have i0 : (0 : Int) ≤ (k : Int) := by omega
    have i3 : (k : Int) ≤ (s.length : Int) := by omega
    by_cases hlt : k < s.length
    · have i2 : (k : Int) < (s.length : Int) := by omega
      by_cases hd : dgB s[k] = true
      · have hd2 : 48 ≤ (s[k]).toNat ∧ (s[k]).toNat ≤ 57 := by simpa [dgB] using hd
        have j1 : (48 : Int) ≤ ((s[k]).toNat : Int) := by omega
        have j2 : ((s[k]).toNat : Int) ≤ 57 := by omega
        have HS := Lib.hid (show dgW s = s.take (k + 1) ++ dgW (s.drop (k + 1)) by rw [HD.out, dgW_drop hlt, if_pos hd, List.take_succ_eq_append_getElem hlt, List.append_assoc]; rfl)
        clear hd hd2
        go_wp2_with fail
        go_round
        case rel => exact ⟨k + 1, by omega, by go_num, HS⟩
        case measure => simp [intOf]; omega
      · have HE := Lib.hid (show dgW s = s.take k by rw [HD.out, dgW_drop hlt, if_neg hd, List.append_nil])
        by_cases j1 : (48 : Int) ≤ ((s[k]).toNat : Int)
        · have j2 : ¬ ((s[k]).toNat : Int) ≤ 57 := fun h => hd (by simp [dgB]; omega)
          clear hd
          clear HD
          have hkl : (s.take k).length ≤ 1048577 := by rw [List.length_take]; omega
          have AT := Lib.hid (atoi_full (s.take k) w HL.out hkl)
          unfold AtFPost at AT
          go_wp2_with fail
          refine AT.out.mono ?_
          rintro e w1 ⟨v, er, rfl, hc, hb⟩
          have HB := Lib.hid hb
          have HLT := Lib.hid (HL.out.lt.up hb)
          rw [← HE.out] at hc
          clear hb AT hkl
          rcases hc with ⟨h1, rfl⟩ | ⟨h1, t, p, rfl⟩
          · have hbd := Lib.atoiAll_bounds h1
            have hne := UpW.nonempty w1
            have C1 := Lib.hid (fun y : UpW w1 => calls_up (itoa_full v (y.at w1) hbd.1 hbd.2 (HLT.out.up y.below)))
            have H1 := Lib.hid h1
            have HQ := Lib.hid (fun (hi : Lib.itoa v = s.take k) => (show RnIs s v k by
              have h2 := rn_eq (s := s) (v := v) (by rw [hi, HE.out])
              rwa [HE.out, List.length_take, Nat.min_eq_left hk] at h2))
            have HN := Lib.hid (fun (hi : Lib.itoa v ≠ s.take k) => rn_ne (s := s) (v := v) h1 (by rw [HE.out]; exact hi))
            generalize Lib.itoa v = q at *
            clear h1 hbd HL HE
            by_cases hq : q = s.take k
            · have c1 : (q == s.take k) = true := by simpa using hq
              have c2 : (q != s.take k) = false := by simpa using hq
              replace HQ := Lib.hid (HQ.out hq)
              clear hq HN
              go_wp2_with fail
              refine wp_region_up_lit (by kernel_rfl) (by kernel_rfl) ?_
              repeat (go_big_quiet_step ((go_at_call 130; exact C1.out _)))
              refine wpQuiet_nil ?_
              intro w5 hb5
              have HB5 := Lib.hid (up_trans HB.out (UpW.out hb5))
              clear hb5 C1
              go_wp2_with fail
              go_ret2
              exact ⟨v, _, rfl, HQ.out, HB5.out⟩
            · have c1 : (q == s.take k) = false := by simpa using hq
              have c2 : (q != s.take k) = true := by simpa using hq
              replace HN := Lib.hid (HN.out hq)
              clear hq HQ
              go_wp2_with fail
              refine wp_region_up_lit (by kernel_rfl) (by kernel_rfl) ?_
              repeat (go_big_quiet_step ((go_at_call 130; exact C1.out _)))
              refine wpQuiet_nil ?_
              intro w5 hb5
              have HB5 := Lib.hid (up_trans HB.out (UpW.out hb5))
              clear hb5 C1
              go_wp2_with fail
              go_ret2
              exact ⟨-1, 0, rfl, .inr ⟨HN.out, .inl ⟨rfl, rfl⟩⟩, HB5.out⟩
          · have HN := Lib.hid (rn_err (s := s) h1)
            have hne := UpW.nonempty w1
            clear h1 HL HE
            go_wp2_with fail
            refine wp_region_up_lit (by kernel_rfl) (by kernel_rfl) ?_
            repeat (go_big_quiet_step ((fail)))
            refine wpQuiet_nil ?_
            intro w5 hb5
            have HB5 := Lib.hid (up_trans HB.out (UpW.out hb5))
            clear hb5
            go_wp2_with fail
            go_ret2
            exact ⟨-1, 0, rfl, .inr ⟨HN.out, .inl ⟨rfl, rfl⟩⟩, HB5.out⟩
        · clear hd
          clear HD
          have hkl : (s.take k).length ≤ 1048577 := by rw [List.length_take]; omega
          have AT := Lib.hid (atoi_full (s.take k) w HL.out hkl)
          unfold AtFPost at AT
          go_wp2_with fail
          refine AT.out.mono ?_
          rintro e w1 ⟨v, er, rfl, hc, hb⟩
          have HB := Lib.hid hb
          have HLT := Lib.hid (HL.out.lt.up hb)
          rw [← HE.out] at hc
          clear hb AT hkl
          rcases hc with ⟨h1, rfl⟩ | ⟨h1, t, p, rfl⟩
          · have hbd := Lib.atoiAll_bounds h1
            have hne := UpW.nonempty w1
            have C1 := Lib.hid (fun y : UpW w1 => calls_up (itoa_full v (y.at w1) hbd.1 hbd.2 (HLT.out.up y.below)))
            have H1 := Lib.hid h1
            have HQ := Lib.hid (fun (hi : Lib.itoa v = s.take k) => (show RnIs s v k by
              have h2 := rn_eq (s := s) (v := v) (by rw [hi, HE.out])
              rwa [HE.out, List.length_take, Nat.min_eq_left hk] at h2))
            have HN := Lib.hid (fun (hi : Lib.itoa v ≠ s.take k) => rn_ne (s := s) (v := v) h1 (by rw [HE.out]; exact hi))
            generalize Lib.itoa v = q at *
            clear h1 hbd HL HE
            by_cases hq : q = s.take k
            · have c1 : (q == s.take k) = true := by simpa using hq
              have c2 : (q != s.take k) = false := by simpa using hq
              replace HQ := Lib.hid (HQ.out hq)
              clear hq HN
              go_wp2_with fail
              refine wp_region_up_lit (by kernel_rfl) (by kernel_rfl) ?_
              repeat (go_big_quiet_step ((go_at_call 130; exact C1.out _)))
              refine wpQuiet_nil ?_
              intro w5 hb5
              have HB5 := Lib.hid (up_trans HB.out (UpW.out hb5))
              clear hb5 C1
              go_wp2_with fail
              go_ret2
              exact ⟨v, _, rfl, HQ.out, HB5.out⟩
            · have c1 : (q == s.take k) = false := by simpa using hq
              have c2 : (q != s.take k) = true := by simpa using hq
              replace HN := Lib.hid (HN.out hq)
              clear hq HQ
              go_wp2_with fail
              refine wp_region_up_lit (by kernel_rfl) (by kernel_rfl) ?_
              repeat (go_big_quiet_step ((go_at_call 130; exact C1.out _)))
              refine wpQuiet_nil ?_
              intro w5 hb5
              have HB5 := Lib.hid (up_trans HB.out (UpW.out hb5))
              clear hb5 C1
              go_wp2_with fail
              go_ret2
              exact ⟨-1, 0, rfl, .inr ⟨HN.out, .inl ⟨rfl, rfl⟩⟩, HB5.out⟩
          · have HN := Lib.hid (rn_err (s := s) h1)
            have hne := UpW.nonempty w1
            clear h1 HL HE
            go_wp2_with fail
            refine wp_region_up_lit (by kernel_rfl) (by kernel_rfl) ?_
            repeat (go_big_quiet_step ((fail)))
            refine wpQuiet_nil ?_
            intro w5 hb5
            have HB5 := Lib.hid (up_trans HB.out (UpW.out hb5))
            clear hb5
            go_wp2_with fail
            go_ret2
            exact ⟨-1, 0, rfl, .inr ⟨HN.out, .inl ⟨rfl, rfl⟩⟩, HB5.out⟩
    · have HE := Lib.hid (show dgW s = s.take k by rw [HD.out, List.drop_of_length_le (by omega)]; simp [dgW])
      have i4 : ¬ (k : Int) < (s.length : Int) := by omega
      clear HD
      have hkl : (s.take k).length ≤ 1048577 := by rw [List.length_take]; omega
      have AT := Lib.hid (atoi_full (s.take k) w HL.out hkl)
      unfold AtFPost at AT
      go_wp2_with fail
      refine AT.out.mono ?_
      rintro e w1 ⟨v, er, rfl, hc, hb⟩
      have HB := Lib.hid hb
      have HLT := Lib.hid (HL.out.lt.up hb)
      rw [← HE.out] at hc
      clear hb AT hkl
      rcases hc with ⟨h1, rfl⟩ | ⟨h1, t, p, rfl⟩
      · have hbd := Lib.atoiAll_bounds h1
        have hne := UpW.nonempty w1
        have C1 := Lib.hid (fun y : UpW w1 => calls_up (itoa_full v (y.at w1) hbd.1 hbd.2 (HLT.out.up y.below)))
        have H1 := Lib.hid h1
        have HQ := Lib.hid (fun (hi : Lib.itoa v = s.take k) => (show RnIs s v k by
          have h2 := rn_eq (s := s) (v := v) (by rw [hi, HE.out])
          rwa [HE.out, List.length_take, Nat.min_eq_left hk] at h2))
        have HN := Lib.hid (fun (hi : Lib.itoa v ≠ s.take k) => rn_ne (s := s) (v := v) h1 (by rw [HE.out]; exact hi))
        generalize Lib.itoa v = q at *
        clear h1 hbd HL HE
        by_cases hq : q = s.take k
        · have c1 : (q == s.take k) = true := by simpa using hq
          have c2 : (q != s.take k) = false := by simpa using hq
          replace HQ := Lib.hid (HQ.out hq)
          clear hq HN
          go_wp2_with fail
          refine wp_region_up_lit (by kernel_rfl) (by kernel_rfl) ?_
          repeat (go_big_quiet_step ((go_at_call 130; exact C1.out _)))
          refine wpQuiet_nil ?_
          intro w5 hb5
          have HB5 := Lib.hid (up_trans HB.out (UpW.out hb5))
          clear hb5 C1
          go_wp2_with fail
          go_ret2
          exact ⟨v, _, rfl, HQ.out, HB5.out⟩
        · have c1 : (q == s.take k) = false := by simpa using hq
          have c2 : (q != s.take k) = true := by simpa using hq
          replace HN := Lib.hid (HN.out hq)
          clear hq HQ
          go_wp2_with fail
          refine wp_region_up_lit (by kernel_rfl) (by kernel_rfl) ?_
          repeat (go_big_quiet_step ((go_at_call 130; exact C1.out _)))
          refine wpQuiet_nil ?_
          intro w5 hb5
          have HB5 := Lib.hid (up_trans HB.out (UpW.out hb5))
          clear hb5 C1
          go_wp2_with fail
          go_ret2
          exact ⟨-1, 0, rfl, .inr ⟨HN.out, .inl ⟨rfl, rfl⟩⟩, HB5.out⟩
      · have HN := Lib.hid (rn_err (s := s) h1)
        have hne := UpW.nonempty w1
        clear h1 HL HE
        go_wp2_with fail
        refine wp_region_up_lit (by kernel_rfl) (by kernel_rfl) ?_
        repeat (go_big_quiet_step ((fail)))
        refine wpQuiet_nil ?_
        intro w5 hb5
        have HB5 := Lib.hid (up_trans HB.out (UpW.out hb5))
        clear hb5
        go_wp2_with fail
        go_ret2
        exact ⟨-1, 0, rfl, .inr ⟨HN.out, .inl ⟨rfl, rfl⟩⟩, HB5.out⟩

end Go.Proofs.YtbjlkdenkmbepaaGreatDoor

namespace Go.Proofs.YtbjlkdenkmbepaaGreatDoor
open Go.RowKit
set_option linter.unusedVariables false

/-- a byte stands at the beginning. -/
def hd8 (s : List UInt8) (c : UInt8) : Bool := s.head? == some c
theorem hd8_iff {s : List UInt8} {c : UInt8} : hd8 s c = true ↔ s.head? = some c := by unfold hd8; simp
theorem pre_hd (s : List UInt8) (c : UInt8) : Lib.hasPrefix s [c] = hd8 s c := by
  unfold Lib.hasPrefix hd8
  cases s with
  | nil => rfl
  | cons x r =>
    rw [Bool.eq_iff_iff]
    simp [List.isPrefixOf]
    exact eq_comm
theorem hasPrefix_any (s : List UInt8) (c : UInt8) (w : World) : Calls Tryz.prog 166 #[S s, S [c]] w fun e w' => e = .returned (.bool (hd8 s c)) ∧ w = w' :=
  (Tryz.strings_HasPrefix ⟨s.toArray⟩ ⟨[c].toArray⟩ w).mono fun e w' ⟨h1, h2⟩ => ⟨by rw [h1, ← pre_hd], h2.symm⟩
def RrPost (s : List UInt8) (L : Nat) (w : World) (e : Ending) (w' : World) : Prop :=
  ∃ f t n : Int, e = .returned (.tuple #[.int .i64 f, .int .i64 t, .int .i64 n]) ∧ ((∃ a b k : Nat, rng s L = some (a, b, k) ∧ f = a ∧ t = b ∧ n = k) ∨ (rng s L = none ∧ f = -1 ∧ t = -1 ∧ n = 0)) ∧ Below w.heap.size w w'
theorem inB_no {a lo hi : Int} (h : ¬ (lo ≤ a ∧ a ≤ hi)) : inB a lo hi = false := by
  rw [Bool.eq_false_iff]
  intro e
  exact h (inB_iff.1 e)

set_option maxRecDepth 100000 in
set_option maxHeartbeats 2000000 in
theorem implReadRange_any (s : List UInt8) (L : Nat) (w : World) (hs : s.length ≤ 1048576) (hL : LW w) (h1 : 1 ≤ L) (h2 : L ≤ 121) :
    Calls Tryz.prog 148 #[S s, .int .i64 L] w (RrPost s L w) := by
  unfold RrPost
  have I0 := Lib.hid (inB_iff.2 (show (1 : Int) ≤ (L : Int) ∧ (L : Int) ≤ 121 by omega))
  have HL := Lib.hid hL
  clear hL
  rcases hp : hd8 s 37 with _ | _
  case true =>
    have HR := Lib.hid (rng_all L (hd8_iff.1 hp))
    go_enter Tryz.func148, Tryz.ntmps148
    go_wp2_with fail
    refine (in_any _ _ _ _).mono ?_
    rw [I0.out]
    rintro e w1 ⟨rfl, rfl⟩
    go_wp2_with fail
    refine (hasPrefix_any s 37 _).mono ?_
    rw [hp]
    rintro e w1 ⟨rfl, rfl⟩
    clear hp
    go_wp2_with fail
    go_ret3
    exact ⟨0, (L : Int) - 1, 1, rfl, .inl ⟨0, L - 1, 1, HR.out, rfl, by omega, rfl⟩, Below.refl _ _⟩
  case false =>
    have hp2 : s.head? ≠ some 37 := fun h => by rw [hd8_iff.2 h] at hp; cases hp
    have HP := Lib.hid hp2
    clear hp2
    go_enter Tryz.func148, Tryz.ntmps148
    go_wp2_with fail
    refine (in_any _ _ _ _).mono ?_
    rw [I0.out]
    rintro e w1 ⟨rfl, rfl⟩
    go_wp2_with fail
    refine (hasPrefix_any s 37 _).mono ?_
    rw [hp]
    rintro e w1 ⟨rfl, rfl⟩
    clear hp
    go_wp2_with fail
    refine (readNumber_any s _ hs HL.out).mono ?_
    rintro e w1 ⟨x, n, rfl, hn, hb⟩
    have HW := Lib.hid hb
    have HL1 := Lib.hid (HL.out.up hb)
    clear hb HL
    rcases hn with ⟨a, k, hn, rfl, rfl⟩ | ⟨hn, hx⟩
    · obtain ⟨a1, -, -, k1, k2⟩ := num_some hn
      have HNum := Lib.hid hn
      have i1 : (0 : Int) ≤ (k : Int) := by omega
      have i2 : (k : Int) ≤ (s.length : Int) := by omega
      clear hn
      go_wp2_with fail
      refine (hasPrefix_any (s.drop k) 44 _).mono ?_
      rcases hc : hd8 (s.drop k) 44 with _ | _
      · rintro e w2 ⟨rfl, rfl⟩
        have hR := rng_one L HP.out HNum.out (fun h => by rw [hd8_iff.2 h] at hc; cases hc)
        clear hc
        by_cases hin : 1 ≤ a ∧ a ≤ L
        · rw [if_pos hin] at hR
          have HN := Lib.hid hR
          have HIN := Lib.hid (inB_iff.2 (show (1 : Int) ≤ (a : Int) ∧ (a : Int) ≤ (L : Int) by omega))
          have HIN2 := Lib.hid (inB_iff.2 (show (a : Int) ≤ (a : Int) ∧ (a : Int) ≤ (L : Int) by omega))
          have HA := Lib.hid (show (a : Int) - 1 = ((a - 1 : Nat) : Int) by omega)
          clear hR hin
          go_wp2_with fail
          refine (in_any _ _ _ _).mono ?_
          rw [HIN.out]
          rintro e w1 ⟨rfl, rfl⟩
          go_wp2_with fail
          refine (in_any _ _ _ _).mono ?_
          rw [HIN2.out]
          rintro e w1 ⟨rfl, rfl⟩
          go_wp2_with fail
          go_ret3
          exact ⟨_, _, _, rfl, .inl ⟨a - 1, a - 1, k, HN.out, HA.out, HA.out, rfl⟩, HW.out⟩
        · rw [if_neg hin] at hR
          have HN := Lib.hid hR
          have HIN := Lib.hid (inB_no (a := (a : Int)) (lo := 1) (hi := (L : Int)) (by omega))
          clear hR hin
          go_wp2_with fail
          refine (in_any _ _ _ _).mono ?_
          rw [HIN.out]
          rintro e w1 ⟨rfl, rfl⟩
          go_wp2_with fail
          go_ret3
          exact ⟨-1, -1, 0, rfl, .inr ⟨HN.out, rfl, rfl, rfl⟩, HW.out⟩
      · rintro e w2 ⟨rfl, rfl⟩
        have hc2 := hd8_iff.1 hc
        have hk3 : k < s.length := by
          rcases Nat.lt_or_ge k s.length with h | h
          · exact h
          · rw [List.drop_of_length_le h] at hc2; cases hc2
        have HC := Lib.hid hc2
        have i3 : (k : Int) + 1 ≤ (s.length : Int) := by omega
        have e1 : ((k : Int) + 1).toNat = k + 1 := by omega
        clear hc hc2
        go_wp2_with fail
        refine (readNumber_any (s.drop (k + 1)) _ (by rw [List.length_drop]; omega) HL1.out).mono ?_
        rintro e w2 ⟨x2, n2, rfl, hn2, hb⟩
        have HWo := HW
        replace HW := Lib.hid (up_trans HW.out hb)
        clear hb HL1 HWo
        rcases hn2 with ⟨u, v, hn2, rfl, rfl⟩ | ⟨hn2, hx2⟩
        · obtain ⟨u1, -, -, v1, v2⟩ := num_some hn2
          have hR := rng_two L HP.out HNum.out HC.out hn2
          have q1 : ((v : Int) == 0) = false := by rw [beq_eq_false_iff_ne]; omega
          rw [List.length_drop] at v1
          clear hn2 HC HNum
          by_cases hin : 1 ≤ a ∧ a ≤ L ∧ a ≤ u ∧ u ≤ L
          · rw [if_pos hin] at hR
            have HN := Lib.hid hR
            have HIN := Lib.hid (inB_iff.2 (show (1 : Int) ≤ (a : Int) ∧ (a : Int) ≤ (L : Int) by omega))
            have HIN2 := Lib.hid (inB_iff.2 (show (a : Int) ≤ (u : Int) ∧ (u : Int) ≤ (L : Int) by omega))
            have HA := Lib.hid (show (a : Int) - 1 = ((a - 1 : Nat) : Int) ∧ (u : Int) - 1 = ((u - 1 : Nat) : Int) ∧ (k : Int) + (1 + (v : Int)) = ((k + 1 + v : Nat) : Int) by omega)
            clear hR hin
            go_wp2_with fail
            refine (in_any _ _ _ _).mono ?_
            rw [HIN.out]
            rintro e w1 ⟨rfl, rfl⟩
            go_wp2_with fail
            refine (in_any _ _ _ _).mono ?_
            rw [HIN2.out]
            rintro e w1 ⟨rfl, rfl⟩
            go_wp2_with fail
            go_ret3
            exact ⟨_, _, _, rfl, .inl ⟨a - 1, u - 1, k + 1 + v, HN.out, HA.out.1, HA.out.2.1, HA.out.2.2⟩, HW.out⟩
          · rw [if_neg hin] at hR
            have HN := Lib.hid hR
            by_cases hina : 1 ≤ a ∧ a ≤ L
            · have HIN := Lib.hid (inB_iff.2 (show (1 : Int) ≤ (a : Int) ∧ (a : Int) ≤ (L : Int) by omega))
              have HIN2 := Lib.hid (inB_no (a := (u : Int)) (lo := (a : Int)) (hi := (L : Int)) (by omega))
              clear hR hin hina
              go_wp2_with fail
              refine (in_any _ _ _ _).mono ?_
              rw [HIN.out]
              rintro e w1 ⟨rfl, rfl⟩
              go_wp2_with fail
              refine (in_any _ _ _ _).mono ?_
              rw [HIN2.out]
              rintro e w1 ⟨rfl, rfl⟩
              go_wp2_with fail
              go_ret3
              exact ⟨-1, -1, 0, rfl, .inr ⟨HN.out, rfl, rfl, rfl⟩, HW.out⟩
            · have HIN := Lib.hid (inB_no (a := (a : Int)) (lo := 1) (hi := (L : Int)) (by omega))
              clear hR hin hina
              go_wp2_with fail
              refine (in_any _ _ _ _).mono ?_
              rw [HIN.out]
              rintro e w1 ⟨rfl, rfl⟩
              go_wp2_with fail
              go_ret3
              exact ⟨-1, -1, 0, rfl, .inr ⟨HN.out, rfl, rfl, rfl⟩, HW.out⟩
        · have HN := Lib.hid (rng_half L HP.out HNum.out HC.out hn2)
          rcases hx2 with ⟨rfl, rfl⟩ | ⟨hx2, j, rfl, j1, j2⟩
          · clear hn2 HC HNum
            go_wp2_with fail
            go_ret3
            exact ⟨-1, -1, 0, rfl, .inr ⟨HN.out, rfl, rfl, rfl⟩, HW.out⟩
          · have q1 : ((j : Int) == 0) = false := by rw [beq_eq_false_iff_ne]; omega
            rw [List.length_drop] at j2
            clear hn2 HC HNum
            by_cases hina : 1 ≤ a ∧ a ≤ L
            · have HIN := Lib.hid (inB_iff.2 (show (1 : Int) ≤ (a : Int) ∧ (a : Int) ≤ (L : Int) by omega))
              have HIN2 := Lib.hid (inB_no (a := x2) (lo := (a : Int)) (hi := (L : Int)) (by omega))
              clear hina
              go_wp2_with fail
              refine (in_any _ _ _ _).mono ?_
              rw [HIN.out]
              rintro e w1 ⟨rfl, rfl⟩
              go_wp2_with fail
              refine (in_any _ _ _ _).mono ?_
              rw [HIN2.out]
              rintro e w1 ⟨rfl, rfl⟩
              go_wp2_with fail
              go_ret3
              exact ⟨-1, -1, 0, rfl, .inr ⟨HN.out, rfl, rfl, rfl⟩, HW.out⟩
            · have HIN := Lib.hid (inB_no (a := (a : Int)) (lo := 1) (hi := (L : Int)) (by omega))
              clear hina
              go_wp2_with fail
              refine (in_any _ _ _ _).mono ?_
              rw [HIN.out]
              rintro e w1 ⟨rfl, rfl⟩
              go_wp2_with fail
              go_ret3
              exact ⟨-1, -1, 0, rfl, .inr ⟨HN.out, rfl, rfl, rfl⟩, HW.out⟩
    · have HN := Lib.hid (rng_no L HP.out hn)
      obtain ⟨k, rfl, k1⟩ : ∃ k : Nat, n = k ∧ k ≤ s.length := by
        rcases hx with ⟨_, rfl⟩ | ⟨_, j, rfl, _, j2⟩
        · exact ⟨0, rfl, Nat.zero_le _⟩
        · exact ⟨j, rfl, j2⟩
      have HIN := Lib.hid (inB_no (a := x) (lo := 1) (hi := (L : Int)) (by rcases hx with ⟨rfl, _⟩ | ⟨h, _⟩ <;> omega))
      have i1 : (0 : Int) ≤ (k : Int) := by omega
      have i2 : (k : Int) ≤ (s.length : Int) := by omega
      clear hx hn HP
      go_wp2_with fail
      refine (hasPrefix_any (s.drop k) 44 _).mono ?_
      rcases hc : hd8 (s.drop k) 44 with _ | _
      · rintro e w2 ⟨rfl, rfl⟩
        clear hc
        go_wp2_with fail
        refine (in_any _ _ _ _).mono ?_
        rw [HIN.out]
        rintro e w1 ⟨rfl, rfl⟩
        go_wp2_with fail
        go_ret3
        exact ⟨-1, -1, 0, rfl, .inr ⟨HN.out, rfl, rfl, rfl⟩, HW.out⟩
      · rintro e w2 ⟨rfl, rfl⟩
        have hc2 := hd8_iff.1 hc
        have hk3 : k < s.length := by
          rcases Nat.lt_or_ge k s.length with h | h
          · exact h
          · rw [List.drop_of_length_le h] at hc2; cases hc2
        have i3 : (k : Int) + 1 ≤ (s.length : Int) := by omega
        have e1 : ((k : Int) + 1).toNat = k + 1 := by omega
        clear hc hc2
        go_wp2_with fail
        refine (readNumber_any (s.drop (k + 1)) _ (by rw [List.length_drop]; omega) HL1.out).mono ?_
        rintro e w2 ⟨x2, n2, rfl, hn2, hb⟩
        replace HW := Lib.hid (up_trans HW.out hb)
        obtain ⟨v, rfl, v1⟩ : ∃ v : Nat, n2 = v ∧ v ≤ s.length := by
          rcases hn2 with ⟨u, v, hn2, _, rfl⟩ | ⟨_, ⟨_, rfl⟩ | ⟨_, j, rfl, _, j2⟩⟩
          · obtain ⟨-, -, -, v1, -⟩ := num_some hn2
            rw [List.length_drop] at v1
            exact ⟨v, rfl, by omega⟩
          · exact ⟨0, rfl, Nat.zero_le _⟩
          · rw [List.length_drop] at j2
            exact ⟨j, rfl, by omega⟩
        clear hb HL1 hn2
        by_cases hv : v = 0
        · subst hv
          go_wp2_with fail
          go_ret3
          exact ⟨-1, -1, 0, rfl, .inr ⟨HN.out, rfl, rfl, rfl⟩, HW.out⟩
        · have q1 : ((v : Int) == 0) = false := by rw [beq_eq_false_iff_ne]; omega
          clear hv
          go_wp2_with fail
          refine (in_any _ _ _ _).mono ?_
          rw [HIN.out]
          rintro e w1 ⟨rfl, rfl⟩
          go_wp2_with fail
          go_ret3
          exact ⟨-1, -1, 0, rfl, .inr ⟨HN.out, rfl, rfl, rfl⟩, HW.out⟩

end Go.Proofs.YtbjlkdenkmbepaaGreatDoor
