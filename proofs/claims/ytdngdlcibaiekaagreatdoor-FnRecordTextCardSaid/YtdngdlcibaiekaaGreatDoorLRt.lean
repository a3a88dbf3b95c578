/- What is proved here: the walk of the law FnRecordText. Condition: what the library's variables hold. -/
import Derived.Test.YtdngdlcibaiekaaGreatDoorDrawRc
import Derived.Test.YtdngdlcibaiekaaGreatDoorRcD
import Derived.Test.YtdngdlcibaiekaaGreatDoorAlive
namespace Go.Proofs.YtdngdlcibaiekaaGreatDoor
open Go.RowKit
set_option linter.unusedVariables false

theorem nm_no10 (n : Nat) : ∀ c ∈ nm n, c ≠ 10 := by
  intro c hc e
  have := nm_digits n c hc
  rw [e] at this
  simp at this
theorem esc_no10 (l : List UInt8) : ∀ c ∈ esc l, c ≠ 10 := by
  intro c hc
  unfold esc at hc
  rw [List.mem_flatMap] at hc
  obtain ⟨d, _, hd⟩ := hc
  unfold esc1 at hd
  split at hd
  · simp at hd
    rcases hd with rfl | rfl <;> decide
  · split at hd
    · simp at hd
      rw [hd]; decide
    · rename_i h1 h2
      simp at hd
      rw [hd]; exact h1
theorem recX_no10 (a b : Nat) (p : List UInt8) : ∀ c ∈ recX a b p, c ≠ 10 := by
  intro c hc
  unfold recX recB at hc
  simp only [List.mem_append, List.mem_cons] at hc
  rcases hc with (h | h | h | h | h) | h | h
  · exact nm_no10 _ c h
  · rw [h]; decide
  · exact nm_no10 _ c h
  · rw [h]; decide
  · exact esc_no10 _ c h
  · rw [h]; decide
  · exact nm_no10 _ c h
theorem recT_no10 (a b : Int) (p : List UInt8) : ∀ c ∈ recT a b p, c ≠ 10 := by
  unfold recT
  split
  · exact recX_no10 _ _ _
  · intro c hc; cases hc
theorem recT_len (a b : Int) (p : List UInt8) : (recT a b p).length ≤ 252 := by
  unfold recT
  split
  · rename_i hk
    unfold recOk at hk
    simp only [Bool.and_eq_true, inB_iff] at hk
    exact (recX_len (by omega) (by omega) (tv_len hk.2)).2
  · simp

set_option maxRecDepth 100000 in
set_option maxHeartbeats 2000000 in
theorem recordText_walk (v : Value) (n : Nat) (zs : List Int) (w : World) (h : Bytes w w.heap.size v n zs) (hL : LW w) :
    Calls Tryz.prog 4 #[v] w fun e w' => e = .returned (.bool true) ∧ Below w.heap.size w w' := by
  have h' := h
  obtain ⟨h1, h2, A0, c0, rfl, h3, h4, h5⟩ := h
  clear h5 h2 h1 h4
  by_cases hn : n ≤ 1048576
  case neg =>
    go_enter Tryz.func4, Tryz.ntmps4
    go_wp2_with fail
    go_ret
    exact ⟨rfl, Below.refl _ _⟩
  have HW := Lib.hid hL
  clear hL
  go_enter Tryz.func4, Tryz.ntmps4
  go_wp2_with fail
  refine (drawRecordText_any _ n zs _ (h'.to (by (repeat (first | exact Below.refl _ _ | assumption | refine Below.drew ?_ | refine up_drewN ?_ _ | refine up_alloc ?_ _ | refine up_set ?_ _ _ (by first | exact Nat.le_refl _ | (simp; done) | (simp; omega) | omega) | refine up_trans ?_ (by assumption)))))).mono ?_
  rintro e w1 ⟨x, rfl, hx, hb⟩
  have hW : Below w.heap.size w w1 := by (repeat (first | exact Below.refl _ _ | assumption | refine Below.drew ?_ | refine up_drewN ?_ _ | refine up_alloc ?_ _ | refine up_set ?_ _ _ (by first | exact Nat.le_refl _ | (simp; done) | (simp; omega) | omega) | refine up_trans ?_ (by assumption)))
  have A := Lib.hid (fun w hw => implRecordText_any x w (by omega) hw)
  have B := Lib.hid (fun w => specRecordText_any x w (by omega))
  have hl := recT_len x.a x.c x.p
  have hno := Lib.hid (recT_no10 x.a x.c x.p)
  have YES := Lib.hid (fun hs => rec_yes (s := recT x.a x.c x.p) (a := x.a) (b := x.c) (p := x.p) rfl hs)
  obtain ⟨xa, xc', xp⟩ := x
  simp only at A B hl hno YES hx
  unfold chAgg at A B ⊢
  simp only at A B
  generalize recT xa xc' xp = r at *
  clear hb h'
  go_wp2_with fail
  refine (A.out _ (HW.out.lt.up (up_alloc hW _))).mono ?_
  rintro e w2 ⟨rfl, hb⟩
  have xc : ∀ o, w2.cell? ⟨w1.heap.size, o, none⟩ = #[.int .i64 xa, .int .i64 xc', S xp][o]? := (fun o => (hb.cell (p := ⟨w1.heap.size, o, none⟩) (by simp <;> omega)).trans (by simp [go_sem])); have xf : ∀ o, w2.frozen? ⟨w1.heap.size, o, none⟩ = false := (fun o => (hb.frozen (p := ⟨w1.heap.size, o, none⟩) (by simp <;> omega)).trans (by simp [go_sem])); have xz : w1.heap.size < w2.heap.size := (by have := hb.size; (try simp at this); omega); have xy := xz
  replace hW := up_trans (up_alloc hW _) hb
  clear hb A
  go_wp2_with fail
  refine (B.out _).mono ?_
  rintro e w3 ⟨rfl, hb⟩
  have hB : Below w2.heap.size w2 w3 := (by (repeat (first | exact Below.refl _ _ | assumption | refine Below.drew ?_ | refine up_drewN ?_ _ | refine up_alloc ?_ _ | refine up_set ?_ _ _ (by first | exact Nat.le_refl _ | (simp; done) | (simp; omega) | omega) | refine up_trans ?_ (by assumption)))); replace xc := up_c hB xz xc; replace xf := up_f hB xz xf; replace xz := Nat.lt_of_lt_of_le xz hB.size; have sw3 := hB.size; replace hW := up_trans hW hB; clear hB
  clear hb B
  by_cases hr : r = []
  · subst hr
    clear YES hno
    go_wp2_with fail
    refine (alive_any _).mono ?_
    rintro e w4 ⟨rfl, rfl⟩
    go_wp2_with fail
    go_ret
    exact ⟨rfl, hW⟩
  · have hY := YES.out hr
    obtain ⟨hc, hbb⟩ := rd_yes hY
    have C := Lib.hid (fun w hw => implReadRecord_any r w (by omega) hw)
    rw [hc, hbb] at C
    unfold chAgg at C
    simp only at C
    have hr2 : r.isEmpty = false := by simpa using hr
    have hr3 : (r == []) = false := by rw [beq_eq_false_iff_ne]; exact hr
    clear hY hc hbb YES
    go_wp2_with fail
    refine (C.out _ (HW.out.up hW)).mono ?_
    rintro e w4 ⟨rfl, hb⟩
    have hB : Below w3.heap.size w3 w4 := (by (repeat (first | exact Below.refl _ _ | assumption | refine Below.drew ?_ | refine up_drewN ?_ _ | refine up_alloc ?_ _ | refine up_set ?_ _ _ (by first | exact Nat.le_refl _ | (simp; done) | (simp; omega) | omega) | refine up_trans ?_ (by assumption)))); replace xc := up_c hB xz xc; replace xf := up_f hB xz xf; replace xz := Nat.lt_of_lt_of_le xz hB.size; have sw4 := hB.size; replace hW := up_trans hW hB; clear hB
    clear hb C
    go_wp2_with fail
    go_loop [7] (fun i => ∃ k : Nat, k ≤ r.length ∧ i = .int .i64 k) (fun i => r.length - (intOf i).toNat)
    case atStart => exact ⟨0, Nat.zero_le _, rfl⟩
    case round =>
      obtain ⟨k, hk, rfl⟩ := hrel
      by_cases hlt : k < r.length
      · have i1 : (0 : Int) ≤ (k : Int) := by omega
        have i2 : (k : Int) < (r.length : Int) := by omega
        have hne := hno.out r[k] (List.getElem_mem hlt)
        have n1 : (((r[k]).toNat : Int) == 10) = false := by
          rw [beq_eq_false_iff_ne]
          intro e2
          exact hne (UInt8.toNat_inj.1 (by show (r[k]).toNat = 10; omega))
        clear hne
        go_wp2_with fail
        go_round
        case rel => exact ⟨k + 1, by omega, by go_num⟩
        case measure => simp [intOf]; omega
      · obtain rfl : k = r.length := by omega
        go_wp2_with fail
        go_ret
        exact ⟨rfl, by (repeat (first | exact Below.refl _ _ | assumption | refine Below.drew ?_ | refine up_drewN ?_ _ | refine up_alloc ?_ _ | refine up_set ?_ _ _ (by first | exact Nat.le_refl _ | (simp; done) | (simp; omega) | omega) | refine up_trans ?_ (by assumption)))⟩

end Go.Proofs.YtdngdlcibaiekaaGreatDoor
