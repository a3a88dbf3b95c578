/- What is proved here: contracts of the reference's PressKey. No condition. -/
import Derived.Test.YtndmidcilbghkaaKey2
import Derived.Deep.RegionWith
import Derived.StillTailTactics
namespace Go.Proofs.Ytndmidcilbghkaa
open Go.RowKit

theorem specDeskValid_any (d : Dk) (w : World) (hs : d.body.length ≤ maxLen) :
    Calls Try.prog 30 #[dkV d] w fun e w' => e = .returned (.bool (dkOk d)) ∧ Below w.heap.size w w' := by
  unfold dkV
  have HD : Hid (dkOk d = (tv d.body && inB d.place 0 d.body.length && inB d.want 0 120)) := Lib.hid rfl
  rcases ht : tv d.body with _ | _
  · rw [ht] at HD
    go_enter Try.func30, Try.ntmps30
    go_wp2_with fail
    refine (specTextValid_any _ _ hs).mono ?_
    rw [ht]
    rintro e w1 ⟨rfl, rfl⟩
    clear ht
    go_wp2_with fail
    go_ret
    exact ⟨ret_bool (by rw [HD.out]; rfl), by (repeat (first | exact Below.refl _ _ | assumption | refine Below.drew ?_ | refine up_drewN ?_ _ | refine up_alloc ?_ _ | refine up_set ?_ _ _ (by first | exact Nat.le_refl _ | (simp; done) | (simp; omega) | omega) | refine up_trans ?_ (by assumption)))⟩
  · have hl := tv_len ht
    rcases hp : inB d.place 0 d.body.length with _ | _
    all_goals
      rw [ht, hp] at HD
      go_enter Try.func30, Try.ntmps30
      go_wp2_with fail
      refine (specTextValid_any _ _ hs).mono ?_
      rw [ht]
      rintro e w1 ⟨rfl, rfl⟩
      clear ht
      go_wp2_with fail
      refine (l1In_any _ _ _ _).mono ?_
      rw [hp]
      rintro e w1 ⟨rfl, rfl⟩
      clear hp
    · go_wp2_with fail
      go_ret
      exact ⟨ret_bool (by rw [HD.out]; rfl), by (repeat (first | exact Below.refl _ _ | assumption | refine Below.drew ?_ | refine up_drewN ?_ _ | refine up_alloc ?_ _ | refine up_set ?_ _ _ (by first | exact Nat.le_refl _ | (simp; done) | (simp; omega) | omega) | refine up_trans ?_ (by assumption)))⟩
    · go_wp2_with fail
      refine (l1In_any _ _ _ _).mono ?_
      rintro e w1 ⟨rfl, rfl⟩
      go_wp2_with fail
      go_ret
      exact ⟨ret_bool (by rw [HD.out]; rfl), by (repeat (first | exact Below.refl _ _ | assumption | refine Below.drew ?_ | refine up_drewN ?_ _ | refine up_alloc ?_ _ | refine up_set ?_ _ _ (by first | exact Nat.le_refl _ | (simp; done) | (simp; omega) | omega) | refine up_trans ?_ (by assumption)))⟩

theorem l19At_any (s : List UInt8) (n : Nat) (w : World) (hs : tv s = true) (hn : n ≤ s.length) :
    Calls Try.prog 31 #[S s, .int .i64 n] w fun e w' => e = .returned (.agg #[S s, .int .i64 n, .int .i64 (colOf s n)]) ∧ Below w.heap.size w w' := by
  have hl := tv_len hs
  have HC := Lib.hid (fun w => specColumnOf_any s (n : Int) w (by unfold maxLen; omega))
  rw [hs, inB_iff.2 (show (0 : Int) ≤ n ∧ (n : Int) ≤ s.length by omega), Int.toNat_natCast, Bool.and_self, if_pos rfl] at HC
  go_enter Try.func31, Try.ntmps31
  go_wp2_with fail
  refine (HC.out _).mono ?_
  rintro e w1 ⟨rfl, rfl⟩
  clear hs
  go_wp2_with fail
  refine bodyPost_ret (v := .agg #[S s, .int .i64 n, .int .i64 (colOf s n)]) (by simp [results, Try.results31, go_sem]) rfl ⟨rfl, by (repeat (first | exact Below.refl _ _ | assumption | refine Below.drew ?_ | refine up_drewN ?_ _ | refine up_alloc ?_ _ | refine up_set ?_ _ _ (by first | exact Nat.le_refl _ | (simp; done) | (simp; omega) | omega) | refine up_trans ?_ (by assumption)))⟩

theorem cut_tv {s : List UInt8} {n : Nat} (h : tv s = true) (h0 : 0 < n) (hn : n ≤ s.length) : tv (s.take (n - 1) ++ s.drop n) = true ∧ n - 1 ≤ (s.take (n - 1) ++ s.drop n).length := by
  have hl := tv_len h
  refine ⟨?_, by rw [List.length_append, List.length_take]; omega⟩
  simp only [tv, Bool.and_eq_true] at h ⊢
  refine ⟨?_, by simp; omega⟩
  have h1 := h.1
  rw [List.all_append, Bool.and_eq_true, List.all_eq_true, List.all_eq_true]
  rw [List.all_eq_true] at h1
  exact ⟨fun x hx => h1 x (List.mem_of_mem_take hx), fun x hx => h1 x (List.mem_of_mem_drop hx)⟩
/-- what a key does, at a desk in parts. -/
def SkPost (s : List UInt8) (p x : Int) (ok : Bool) (w : World) (e : Ending) (w' : World) : Prop := e = .returned (.tuple #[.agg #[S s, .int .i64 p, .int .i64 x], .bool ok]) ∧ Below w.heap.size w w'

set_option maxRecDepth 100000 in
set_option maxHeartbeats 1000000 in
theorem sk60n (s : List UInt8) (n : Nat) (x : Int) (w : World) (hd : dkOk ⟨s, n, x⟩ = true) (hn : n = 0) :
    Calls Try.prog 12 #[.agg #[S s, .int .i64 n, .int .i64 x], .int .u8 60] w (SkPost s n x false w) := by
  have hW := Below.refl w.heap.size w
  obtain ⟨h1, h2, h3, h4, h5, h6⟩ := dkOk_out hd
  simp only at h1 h2 h3 h4 h5 h6
  have HD := Lib.hid hd
  have HT := Lib.hid h1
  have HB := byte_str 60 (by omega) (by omega)
  have k1 : ¬ (0 : Int) < (n : Int) := by omega
  clear hn
  unfold SkPost
  go_enter Try.func12, Try.ntmps12
  go_wp2_with fail
  refine (specDeskValid_any ⟨s, n, x⟩ _ (by show s.length ≤ maxLen; unfold maxLen; omega)).mono ?_
  rw [HD.out]
  rintro e w1 ⟨rfl, hb⟩
  have hB : Below w.heap.size w w1 := (by (repeat (first | exact Below.refl _ _ | assumption | refine Below.drew ?_ | refine up_drewN ?_ _ | refine up_alloc ?_ _ | refine up_set ?_ _ _ (by first | exact Nat.le_refl _ | (simp; done) | (simp; omega) | omega) | refine up_trans ?_ (by assumption)))); have sw1 := hB.size; replace hW := up_trans hW hB; clear hB
  have ac : ∀ o, w1.cell? ⟨w.heap.size, o, none⟩ = #[S s, .int .i64 n, .int .i64 x][o]? := (fun o => (hb.cell (p := ⟨w.heap.size, o, none⟩) (by simp <;> omega)).trans (by simp [go_sem])); have af : ∀ o, w1.frozen? ⟨w.heap.size, o, none⟩ = false := (fun o => (hb.frozen (p := ⟨w.heap.size, o, none⟩) (by simp <;> omega)).trans (by simp [go_sem])); have az : w.heap.size < w1.heap.size := (by have := hb.size; (try simp at this); omega); have ay := az
  have yc : ∀ o, w1.cell? ⟨w.heap.size + 1, o, none⟩ = #[S [], .int .i64 0, .int .i64 0][o]? := (fun o => (hb.cell (p := ⟨w.heap.size + 1, o, none⟩) (by simp <;> omega)).trans (by simp [go_sem])); have yf : ∀ o, w1.frozen? ⟨w.heap.size + 1, o, none⟩ = false := (fun o => (hb.frozen (p := ⟨w.heap.size + 1, o, none⟩) (by simp <;> omega)).trans (by simp [go_sem])); have yz : w.heap.size + 1 < w1.heap.size := (by have := hb.size; (try simp at this); omega); have yy := yz
  have ne1 : ¬ w.heap.size + 1 = w.heap.size := by omega
  have ne2 : ¬ w.heap.size = w.heap.size + 1 := by omega
  clear hb h1 hd
  go_wp2_with fail
  refine bodyPost_ret (v := .tuple #[.agg #[S s, .int .i64 n, .int .i64 x], .bool false]) (by simp [results, Try.results12, go_sem, yc, yz]) rfl ⟨rfl, by (repeat (first | exact Below.refl _ _ | assumption | refine Below.drew ?_ | refine up_drewN ?_ _ | refine up_alloc ?_ _ | refine up_set ?_ _ _ (by first | exact Nat.le_refl _ | (simp; done) | (simp; omega) | omega) | refine up_trans ?_ (by assumption)))⟩

set_option maxRecDepth 100000 in
set_option maxHeartbeats 1000000 in
theorem sk60y (s : List UInt8) (n : Nat) (x : Int) (w : World) (hd : dkOk ⟨s, n, x⟩ = true) (hn : 0 < n) :
    Calls Try.prog 12 #[.agg #[S s, .int .i64 n, .int .i64 x], .int .u8 60] w (SkPost s (n - 1 : Nat) (colOf s (n - 1)) true w) := by
  have hW := Below.refl w.heap.size w
  obtain ⟨h1, h2, h3, h4, h5, h6⟩ := dkOk_out hd
  simp only at h1 h2 h3 h4 h5 h6
  have HD := Lib.hid hd
  have HT := Lib.hid h1
  have HB := byte_str 60 (by omega) (by omega)
  have k1 : (0 : Int) < (n : Int) := by omega
  have HC : Hid ((n : Int) - 1 = ((n - 1 : Nat) : Int)) := Lib.hid (by omega)
  clear hn
  unfold SkPost
  go_enter Try.func12, Try.ntmps12
  go_wp2_with fail
  refine (specDeskValid_any ⟨s, n, x⟩ _ (by show s.length ≤ maxLen; unfold maxLen; omega)).mono ?_
  rw [HD.out]
  rintro e w1 ⟨rfl, hb⟩
  have hB : Below w.heap.size w w1 := (by (repeat (first | exact Below.refl _ _ | assumption | refine Below.drew ?_ | refine up_drewN ?_ _ | refine up_alloc ?_ _ | refine up_set ?_ _ _ (by first | exact Nat.le_refl _ | (simp; done) | (simp; omega) | omega) | refine up_trans ?_ (by assumption)))); have sw1 := hB.size; replace hW := up_trans hW hB; clear hB
  have ac : ∀ o, w1.cell? ⟨w.heap.size, o, none⟩ = #[S s, .int .i64 n, .int .i64 x][o]? := (fun o => (hb.cell (p := ⟨w.heap.size, o, none⟩) (by simp <;> omega)).trans (by simp [go_sem])); have af : ∀ o, w1.frozen? ⟨w.heap.size, o, none⟩ = false := (fun o => (hb.frozen (p := ⟨w.heap.size, o, none⟩) (by simp <;> omega)).trans (by simp [go_sem])); have az : w.heap.size < w1.heap.size := (by have := hb.size; (try simp at this); omega); have ay := az
  have yc : ∀ o, w1.cell? ⟨w.heap.size + 1, o, none⟩ = #[S [], .int .i64 0, .int .i64 0][o]? := (fun o => (hb.cell (p := ⟨w.heap.size + 1, o, none⟩) (by simp <;> omega)).trans (by simp [go_sem])); have yf : ∀ o, w1.frozen? ⟨w.heap.size + 1, o, none⟩ = false := (fun o => (hb.frozen (p := ⟨w.heap.size + 1, o, none⟩) (by simp <;> omega)).trans (by simp [go_sem])); have yz : w.heap.size + 1 < w1.heap.size := (by have := hb.size; (try simp at this); omega); have yy := yz
  have ne1 : ¬ w.heap.size + 1 = w.heap.size := by omega
  have ne2 : ¬ w.heap.size = w.heap.size + 1 := by omega
  clear hb h1 hd
  go_wp2_with fail
  rw [HC.out]
  refine (l19At_any s (n - 1) _ HT.out (by omega)).mono ?_
  rintro e w2 ⟨rfl, hb⟩
  have hB2 : Below w1.heap.size w1 w2 := (by (repeat (first | exact Below.refl _ _ | assumption | refine Below.drew ?_ | refine up_drewN ?_ _ | refine up_alloc ?_ _ | refine up_set ?_ _ _ (by first | exact Nat.le_refl _ | (simp; done) | (simp; omega) | omega) | refine up_trans ?_ (by assumption))))
  replace yc := up_c hB2 yz yc
  replace yf := up_f hB2 yz yf
  replace yz := Nat.lt_of_lt_of_le yz hB2.size
  replace hW := up_trans hW hB2
  clear hb hB2 ac af
  go_wp2_with fail
  refine bodyPost_ret (v := .tuple #[.agg #[S s, .int .i64 ((n - 1 : Nat) : Int), .int .i64 (colOf s (n - 1))], .bool true]) (by simp [results, Try.results12, go_sem, yc]) rfl ⟨rfl, by (repeat (first | exact Below.refl _ _ | assumption | refine Below.drew ?_ | refine up_drewN ?_ _ | refine up_alloc ?_ _ | refine up_set ?_ _ _ (by first | exact Nat.le_refl _ | (simp; done) | (simp; omega) | omega) | refine up_trans ?_ (by assumption)))⟩

set_option maxRecDepth 100000 in
set_option maxHeartbeats 1000000 in
theorem sk62n (s : List UInt8) (n : Nat) (x : Int) (w : World) (hd : dkOk ⟨s, n, x⟩ = true) (hn : n = s.length) :
    Calls Try.prog 12 #[.agg #[S s, .int .i64 n, .int .i64 x], .int .u8 62] w (SkPost s n x false w) := by
  have hW := Below.refl w.heap.size w
  obtain ⟨h1, h2, h3, h4, h5, h6⟩ := dkOk_out hd
  simp only at h1 h2 h3 h4 h5 h6
  have HD := Lib.hid hd
  have HT := Lib.hid h1
  have HB := byte_str 62 (by omega) (by omega)
  have k1 : ¬ (n : Int) < (s.length : Int) := by omega
  clear hn
  unfold SkPost
  go_enter Try.func12, Try.ntmps12
  go_wp2_with fail
  refine (specDeskValid_any ⟨s, n, x⟩ _ (by show s.length ≤ maxLen; unfold maxLen; omega)).mono ?_
  rw [HD.out]
  rintro e w1 ⟨rfl, hb⟩
  have hB : Below w.heap.size w w1 := (by (repeat (first | exact Below.refl _ _ | assumption | refine Below.drew ?_ | refine up_drewN ?_ _ | refine up_alloc ?_ _ | refine up_set ?_ _ _ (by first | exact Nat.le_refl _ | (simp; done) | (simp; omega) | omega) | refine up_trans ?_ (by assumption)))); have sw1 := hB.size; replace hW := up_trans hW hB; clear hB
  have ac : ∀ o, w1.cell? ⟨w.heap.size, o, none⟩ = #[S s, .int .i64 n, .int .i64 x][o]? := (fun o => (hb.cell (p := ⟨w.heap.size, o, none⟩) (by simp <;> omega)).trans (by simp [go_sem])); have af : ∀ o, w1.frozen? ⟨w.heap.size, o, none⟩ = false := (fun o => (hb.frozen (p := ⟨w.heap.size, o, none⟩) (by simp <;> omega)).trans (by simp [go_sem])); have az : w.heap.size < w1.heap.size := (by have := hb.size; (try simp at this); omega); have ay := az
  have yc : ∀ o, w1.cell? ⟨w.heap.size + 1, o, none⟩ = #[S [], .int .i64 0, .int .i64 0][o]? := (fun o => (hb.cell (p := ⟨w.heap.size + 1, o, none⟩) (by simp <;> omega)).trans (by simp [go_sem])); have yf : ∀ o, w1.frozen? ⟨w.heap.size + 1, o, none⟩ = false := (fun o => (hb.frozen (p := ⟨w.heap.size + 1, o, none⟩) (by simp <;> omega)).trans (by simp [go_sem])); have yz : w.heap.size + 1 < w1.heap.size := (by have := hb.size; (try simp at this); omega); have yy := yz
  have ne1 : ¬ w.heap.size + 1 = w.heap.size := by omega
  have ne2 : ¬ w.heap.size = w.heap.size + 1 := by omega
  clear hb h1 hd
  go_wp2_with fail
  refine bodyPost_ret (v := .tuple #[.agg #[S s, .int .i64 n, .int .i64 x], .bool false]) (by simp [results, Try.results12, go_sem, yc, yz]) rfl ⟨rfl, by (repeat (first | exact Below.refl _ _ | assumption | refine Below.drew ?_ | refine up_drewN ?_ _ | refine up_alloc ?_ _ | refine up_set ?_ _ _ (by first | exact Nat.le_refl _ | (simp; done) | (simp; omega) | omega) | refine up_trans ?_ (by assumption)))⟩

set_option maxRecDepth 100000 in
set_option maxHeartbeats 1000000 in
theorem sk62y (s : List UInt8) (n : Nat) (x : Int) (w : World) (hd : dkOk ⟨s, n, x⟩ = true) (hn : n < s.length) :
    Calls Try.prog 12 #[.agg #[S s, .int .i64 n, .int .i64 x], .int .u8 62] w (SkPost s (n + 1 : Nat) (colOf s (n + 1)) true w) := by
  have hW := Below.refl w.heap.size w
  obtain ⟨h1, h2, h3, h4, h5, h6⟩ := dkOk_out hd
  simp only at h1 h2 h3 h4 h5 h6
  have HD := Lib.hid hd
  have HT := Lib.hid h1
  have HB := byte_str 62 (by omega) (by omega)
  have k1 : (n : Int) < (s.length : Int) := by omega
  have HC : Hid ((n : Int) + 1 = ((n + 1 : Nat) : Int)) := Lib.hid (by omega)
  unfold SkPost
  go_enter Try.func12, Try.ntmps12
  go_wp2_with fail
  refine (specDeskValid_any ⟨s, n, x⟩ _ (by show s.length ≤ maxLen; unfold maxLen; omega)).mono ?_
  rw [HD.out]
  rintro e w1 ⟨rfl, hb⟩
  have hB : Below w.heap.size w w1 := (by (repeat (first | exact Below.refl _ _ | assumption | refine Below.drew ?_ | refine up_drewN ?_ _ | refine up_alloc ?_ _ | refine up_set ?_ _ _ (by first | exact Nat.le_refl _ | (simp; done) | (simp; omega) | omega) | refine up_trans ?_ (by assumption)))); have sw1 := hB.size; replace hW := up_trans hW hB; clear hB
  have ac : ∀ o, w1.cell? ⟨w.heap.size, o, none⟩ = #[S s, .int .i64 n, .int .i64 x][o]? := (fun o => (hb.cell (p := ⟨w.heap.size, o, none⟩) (by simp <;> omega)).trans (by simp [go_sem])); have af : ∀ o, w1.frozen? ⟨w.heap.size, o, none⟩ = false := (fun o => (hb.frozen (p := ⟨w.heap.size, o, none⟩) (by simp <;> omega)).trans (by simp [go_sem])); have az : w.heap.size < w1.heap.size := (by have := hb.size; (try simp at this); omega); have ay := az
  have yc : ∀ o, w1.cell? ⟨w.heap.size + 1, o, none⟩ = #[S [], .int .i64 0, .int .i64 0][o]? := (fun o => (hb.cell (p := ⟨w.heap.size + 1, o, none⟩) (by simp <;> omega)).trans (by simp [go_sem])); have yf : ∀ o, w1.frozen? ⟨w.heap.size + 1, o, none⟩ = false := (fun o => (hb.frozen (p := ⟨w.heap.size + 1, o, none⟩) (by simp <;> omega)).trans (by simp [go_sem])); have yz : w.heap.size + 1 < w1.heap.size := (by have := hb.size; (try simp at this); omega); have yy := yz
  have ne1 : ¬ w.heap.size + 1 = w.heap.size := by omega
  have ne2 : ¬ w.heap.size = w.heap.size + 1 := by omega
  clear hb h1 hd
  go_wp2_with fail
  rw [HC.out]
  refine (l19At_any s (n + 1) _ HT.out (by omega)).mono ?_
  rintro e w2 ⟨rfl, hb⟩
  have hB2 : Below w1.heap.size w1 w2 := (by (repeat (first | exact Below.refl _ _ | assumption | refine Below.drew ?_ | refine up_drewN ?_ _ | refine up_alloc ?_ _ | refine up_set ?_ _ _ (by first | exact Nat.le_refl _ | (simp; done) | (simp; omega) | omega) | refine up_trans ?_ (by assumption))))
  replace yc := up_c hB2 yz yc
  replace yf := up_f hB2 yz yf
  replace yz := Nat.lt_of_lt_of_le yz hB2.size
  replace hW := up_trans hW hB2
  clear hb hB2 ac af
  go_wp2_with fail
  refine bodyPost_ret (v := .tuple #[.agg #[S s, .int .i64 ((n + 1 : Nat) : Int), .int .i64 (colOf s (n + 1))], .bool true]) (by simp [results, Try.results12, go_sem, yc]) rfl ⟨rfl, by (repeat (first | exact Below.refl _ _ | assumption | refine Below.drew ?_ | refine up_drewN ?_ _ | refine up_alloc ?_ _ | refine up_set ?_ _ _ (by first | exact Nat.le_refl _ | (simp; done) | (simp; omega) | omega) | refine up_trans ?_ (by assumption)))⟩

set_option maxRecDepth 100000 in
set_option maxHeartbeats 1000000 in
theorem sk35n (s : List UInt8) (n : Nat) (x : Int) (w : World) (hd : dkOk ⟨s, n, x⟩ = true) (hn : n = 0) :
    Calls Try.prog 12 #[.agg #[S s, .int .i64 n, .int .i64 x], .int .u8 35] w (SkPost s n x false w) := by
  have hW := Below.refl w.heap.size w
  obtain ⟨h1, h2, h3, h4, h5, h6⟩ := dkOk_out hd
  simp only at h1 h2 h3 h4 h5 h6
  have HD := Lib.hid hd
  have HT := Lib.hid h1
  have HB := byte_str 35 (by omega) (by omega)
  have k1 : ¬ (0 : Int) < (n : Int) := by omega
  clear hn
  unfold SkPost
  go_enter Try.func12, Try.ntmps12
  go_wp2_with fail
  refine (specDeskValid_any ⟨s, n, x⟩ _ (by show s.length ≤ maxLen; unfold maxLen; omega)).mono ?_
  rw [HD.out]
  rintro e w1 ⟨rfl, hb⟩
  have hB : Below w.heap.size w w1 := (by (repeat (first | exact Below.refl _ _ | assumption | refine Below.drew ?_ | refine up_drewN ?_ _ | refine up_alloc ?_ _ | refine up_set ?_ _ _ (by first | exact Nat.le_refl _ | (simp; done) | (simp; omega) | omega) | refine up_trans ?_ (by assumption)))); have sw1 := hB.size; replace hW := up_trans hW hB; clear hB
  have ac : ∀ o, w1.cell? ⟨w.heap.size, o, none⟩ = #[S s, .int .i64 n, .int .i64 x][o]? := (fun o => (hb.cell (p := ⟨w.heap.size, o, none⟩) (by simp <;> omega)).trans (by simp [go_sem])); have af : ∀ o, w1.frozen? ⟨w.heap.size, o, none⟩ = false := (fun o => (hb.frozen (p := ⟨w.heap.size, o, none⟩) (by simp <;> omega)).trans (by simp [go_sem])); have az : w.heap.size < w1.heap.size := (by have := hb.size; (try simp at this); omega); have ay := az
  have yc : ∀ o, w1.cell? ⟨w.heap.size + 1, o, none⟩ = #[S [], .int .i64 0, .int .i64 0][o]? := (fun o => (hb.cell (p := ⟨w.heap.size + 1, o, none⟩) (by simp <;> omega)).trans (by simp [go_sem])); have yf : ∀ o, w1.frozen? ⟨w.heap.size + 1, o, none⟩ = false := (fun o => (hb.frozen (p := ⟨w.heap.size + 1, o, none⟩) (by simp <;> omega)).trans (by simp [go_sem])); have yz : w.heap.size + 1 < w1.heap.size := (by have := hb.size; (try simp at this); omega); have yy := yz
  have ne1 : ¬ w.heap.size + 1 = w.heap.size := by omega
  have ne2 : ¬ w.heap.size = w.heap.size + 1 := by omega
  clear hb h1 hd
  go_wp2_with fail
  refine bodyPost_ret (v := .tuple #[.agg #[S s, .int .i64 n, .int .i64 x], .bool false]) (by simp [results, Try.results12, go_sem, yc, yz]) rfl ⟨rfl, by (repeat (first | exact Below.refl _ _ | assumption | refine Below.drew ?_ | refine up_drewN ?_ _ | refine up_alloc ?_ _ | refine up_set ?_ _ _ (by first | exact Nat.le_refl _ | (simp; done) | (simp; omega) | omega) | refine up_trans ?_ (by assumption)))⟩

set_option maxRecDepth 100000 in
set_option maxHeartbeats 1000000 in
theorem sk35y (s : List UInt8) (n : Nat) (x : Int) (w : World) (hd : dkOk ⟨s, n, x⟩ = true) (hn : 0 < n) :
    Calls Try.prog 12 #[.agg #[S s, .int .i64 n, .int .i64 x], .int .u8 35] w (SkPost (s.take (n - 1) ++ s.drop n) (n - 1 : Nat) (colOf (s.take (n - 1) ++ s.drop n) (n - 1)) true w) := by
  have hW := Below.refl w.heap.size w
  obtain ⟨h1, h2, h3, h4, h5, h6⟩ := dkOk_out hd
  simp only at h1 h2 h3 h4 h5 h6
  have HD := Lib.hid hd
  have HT := Lib.hid h1
  have HB := byte_str 35 (by omega) (by omega)
  have k1 : (0 : Int) < (n : Int) := by omega
  have k2 : (1 : Int) ≤ (n : Int) := by omega
  have k3 : (n : Int) - 1 ≤ (s.length : Int) := by omega
  have q1 : IntKind.i64.wrap ((n : Int) - 1) = (n : Int) - 1 := IntWalk.i64_in _ (by omega)
  have hcut := cut_tv HT.out hn (show n ≤ s.length by omega)
  obtain ⟨s2, hs2⟩ : ∃ z, z = s.take (n - 1) ++ s.drop n := ⟨_, rfl⟩
  rw [← hs2] at hcut
  have HT2 := Lib.hid hcut.1
  have hlen2 : n - 1 ≤ s2.length := hcut.2
  have HS2 := Lib.hid hs2
  clear hcut hs2
  rw [← HS2.out]
  unfold SkPost
  go_enter Try.func12, Try.ntmps12
  go_wp2_with fail
  refine (specDeskValid_any ⟨s, n, x⟩ _ (by show s.length ≤ maxLen; unfold maxLen; omega)).mono ?_
  rw [HD.out]
  rintro e w1 ⟨rfl, hb⟩
  have hB : Below w.heap.size w w1 := (by (repeat (first | exact Below.refl _ _ | assumption | refine Below.drew ?_ | refine up_drewN ?_ _ | refine up_alloc ?_ _ | refine up_set ?_ _ _ (by first | exact Nat.le_refl _ | (simp; done) | (simp; omega) | omega) | refine up_trans ?_ (by assumption)))); have sw1 := hB.size; replace hW := up_trans hW hB; clear hB
  have ac : ∀ o, w1.cell? ⟨w.heap.size, o, none⟩ = #[S s, .int .i64 n, .int .i64 x][o]? := (fun o => (hb.cell (p := ⟨w.heap.size, o, none⟩) (by simp <;> omega)).trans (by simp [go_sem])); have af : ∀ o, w1.frozen? ⟨w.heap.size, o, none⟩ = false := (fun o => (hb.frozen (p := ⟨w.heap.size, o, none⟩) (by simp <;> omega)).trans (by simp [go_sem])); have az : w.heap.size < w1.heap.size := (by have := hb.size; (try simp at this); omega); have ay := az
  have yc : ∀ o, w1.cell? ⟨w.heap.size + 1, o, none⟩ = #[S [], .int .i64 0, .int .i64 0][o]? := (fun o => (hb.cell (p := ⟨w.heap.size + 1, o, none⟩) (by simp <;> omega)).trans (by simp [go_sem])); have yf : ∀ o, w1.frozen? ⟨w.heap.size + 1, o, none⟩ = false := (fun o => (hb.frozen (p := ⟨w.heap.size + 1, o, none⟩) (by simp <;> omega)).trans (by simp [go_sem])); have yz : w.heap.size + 1 < w1.heap.size := (by have := hb.size; (try simp at this); omega); have yy := yz
  have ne1 : ¬ w.heap.size + 1 = w.heap.size := by omega
  have ne2 : ¬ w.heap.size = w.heap.size + 1 := by omega
  clear hb h1 hd
  have q5 : ¬ 9223372036854775807 < min (n - 1) s.length + (s.length - n) := by omega
  have HC : Hid ((n : Int) - 1 = ((n - 1 : Nat) : Int)) := Lib.hid (by omega)
  have hsz : w.heap.size + 1 < w1.heap.size := yz
  go_wp2_with fail
  go_region_with (go_at_call 31; rw [HC.out, ← HS2.out]; refine (l19At_any s2 (n - 1) _ HT2.out hlen2).mono ?_; rintro e w2 ⟨rfl, hb⟩; go_must (have hB2 : Below w1.heap.size w1 w2 := (by (repeat (first | exact Below.refl _ _ | assumption | refine Below.drew ?_ | refine up_drewN ?_ _ | refine up_alloc ?_ _ | refine up_set ?_ _ _ (by first | exact Nat.le_refl _ | (simp; done) | (simp; omega) | omega) | refine up_trans ?_ (by assumption)))); replace yc := up_c hB2 yz yc; replace yf := up_f hB2 yz yf; replace yz := Nat.lt_of_lt_of_le yz hB2.size; replace hW := up_trans hW hB2; clear hb hB2 ac af))
  all_goals
    go_wp2_with fail
    refine bodyPost_ret (v := .tuple #[.agg #[S s2, .int .i64 ((n - 1 : Nat) : Int), .int .i64 (colOf s2 (n - 1))], .bool true]) (by simp [results, Try.results12, go_sem, yc]) rfl ⟨rfl, by (repeat (first | exact Below.refl _ _ | assumption | refine Below.drew ?_ | refine up_drewN ?_ _ | refine up_alloc ?_ _ | refine up_set ?_ _ _ (by first | exact Nat.le_refl _ | (simp; done) | (simp; omega) | omega) | refine up_trans ?_ (by assumption)))⟩

end Go.Proofs.Ytndmidcilbghkaa
