/- What is proved here: contracts of the program's PressKey. No condition. -/
import Derived.Test.YtcjgllbhmghkeaaDoorKey1
namespace Go.Proofs.YtcjgllbhmghkeaaDoor
open Go.RowKit

theorem u8_back {c : Int} (h0 : 0 ≤ c) (h1 : c ≤ 255) : (((UInt8.ofNat c.toNat).toNat : Nat) : Int) = c := by rw [UInt8.toNat_ofNat']; omega
/-- one byte as a string. -/
theorem byte_str (c : Int) (h0 : 0 ≤ c) (h1 : c ≤ 255) (w : World) : (convert 27 9 (.slice (some ⟨w.heap.size, 0, none⟩) 1 1)).run Tryd.prog (w.alloc (.cells #[.int .u8 c] 5)) =
    .ok (.string ⟨[UInt8.ofNat c.toNat].toArray⟩) (w.alloc (.cells #[.int .u8 c] 5)) := by
  refine run_convert_bytes_back (l := [UInt8.ofNat c.toNat]) _ _ _ _ _ _ Tryd.underlying27 Tryd.underlying5 Tryd.underlying9 (fun j hj => ?_)
  obtain rfl : j = 0 := by simp at hj; omega
  simp only [List.getElem_cons_zero, u8_back h0 h1]
  exact cells_new w [.int .u8 c] 5 0 _ rfl

set_option maxRecDepth 100000 in
set_option maxHeartbeats 1000000 in
theorem key60 (d : Dk) (w : World) (hd : dkOk d = true) :
    Calls Tryd.prog 55 #[dkV d, .int .u8 60] w (DkPost (sideK d (-1)) w) := by
  have hW := Below.refl w.heap.size w
  obtain ⟨h1, h2, h3, h4, h5, h6⟩ := dkOk_out hd
  have HD := Lib.hid hd
  generalize hr : sideK d (-1) = r
  have HR := Lib.hid hr
  clear hr
  unfold dkV
  go_enter Tryd.func55, Tryd.ntmps55
  go_wp2_with fail
  refine (implDeskValid_any d _ (by unfold maxLen; omega)).mono ?_
  rw [HD.out]
  rintro e w1 ⟨rfl, hb⟩
  have hB : Below w.heap.size w w1 := (by (repeat (first | exact Below.refl _ _ | assumption | refine Below.drew ?_ | refine up_drewN ?_ _ | refine up_alloc ?_ _ | refine up_set ?_ _ _ (by first | exact Nat.le_refl _ | (simp; done) | (simp; omega) | omega) | refine up_trans ?_ (by assumption)))); have sw1 := hB.size; replace hW := up_trans hW hB; clear hB
  have xc : ∀ o, w1.cell? ⟨w.heap.size, o, none⟩ = #[S d.body, .int .i64 d.place, .int .i64 d.want][o]? := (fun o => (hb.cell (p := ⟨w.heap.size, o, none⟩) (by simp <;> omega)).trans (by simp [go_sem])); have xf : ∀ o, w1.frozen? ⟨w.heap.size, o, none⟩ = false := (fun o => (hb.frozen (p := ⟨w.heap.size, o, none⟩) (by simp <;> omega)).trans (by simp [go_sem])); have xz : w.heap.size < w1.heap.size := (by have := hb.size; (try simp at this); omega); have xy := xz
  have yc : ∀ o, w1.cell? ⟨w.heap.size + 1, o, none⟩ = #[S [], .int .i64 0, .int .i64 0][o]? := (fun o => (hb.cell (p := ⟨w.heap.size + 1, o, none⟩) (by simp <;> omega)).trans (by simp [go_sem])); have yf : ∀ o, w1.frozen? ⟨w.heap.size + 1, o, none⟩ = false := (fun o => (hb.frozen (p := ⟨w.heap.size + 1, o, none⟩) (by simp <;> omega)).trans (by simp [go_sem])); have yz : w.heap.size + 1 < w1.heap.size := (by have := hb.size; (try simp at this); omega); have yy := yz
  clear hb h1 hd
  go_wp2_with fail
  refine (sideways_any d (-1) _ HD.out (by omega) (by omega)).mono ?_
  rintro e w2 ⟨rfl, hb⟩
  rw [HR.out]
  obtain ⟨⟨b1, p1, k1⟩, ok⟩ := r
  have hB : Below w1.heap.size w1 w2 := (by (repeat (first | exact Below.refl _ _ | assumption | refine Below.drew ?_ | refine up_drewN ?_ _ | refine up_alloc ?_ _ | refine up_set ?_ _ _ (by first | exact Nat.le_refl _ | (simp; done) | (simp; omega) | omega) | refine up_trans ?_ (by assumption)))); replace yc := up_c hB yz yc; replace yf := up_f hB yz yf; replace yz := Nat.lt_of_lt_of_le yz hB.size; have sw2 := hB.size; replace hW := up_trans hW hB; clear hB
  simp only [dkV]
  clear hb xc xf HR HD
  go_wp2_with fail
  refine bodyPost_ret (v := .tuple #[.agg #[S b1, .int .i64 p1, .int .i64 k1], .bool ok]) (by simp [results, Tryd.results55, go_sem, yc]) rfl ⟨rfl, by (repeat (first | exact Below.refl _ _ | assumption | refine Below.drew ?_ | refine up_drewN ?_ _ | refine up_alloc ?_ _ | refine up_set ?_ _ _ (by first | exact Nat.le_refl _ | (simp; done) | (simp; omega) | omega) | refine up_trans ?_ (by assumption)))⟩

set_option maxRecDepth 100000 in
set_option maxHeartbeats 1000000 in
theorem key62 (d : Dk) (w : World) (hd : dkOk d = true) :
    Calls Tryd.prog 55 #[dkV d, .int .u8 62] w (DkPost (sideK d 1) w) := by
  have hW := Below.refl w.heap.size w
  obtain ⟨h1, h2, h3, h4, h5, h6⟩ := dkOk_out hd
  have HD := Lib.hid hd
  generalize hr : sideK d 1 = r
  have HR := Lib.hid hr
  clear hr
  unfold dkV
  go_enter Tryd.func55, Tryd.ntmps55
  go_wp2_with fail
  refine (implDeskValid_any d _ (by unfold maxLen; omega)).mono ?_
  rw [HD.out]
  rintro e w1 ⟨rfl, hb⟩
  have hB : Below w.heap.size w w1 := (by (repeat (first | exact Below.refl _ _ | assumption | refine Below.drew ?_ | refine up_drewN ?_ _ | refine up_alloc ?_ _ | refine up_set ?_ _ _ (by first | exact Nat.le_refl _ | (simp; done) | (simp; omega) | omega) | refine up_trans ?_ (by assumption)))); have sw1 := hB.size; replace hW := up_trans hW hB; clear hB
  have xc : ∀ o, w1.cell? ⟨w.heap.size, o, none⟩ = #[S d.body, .int .i64 d.place, .int .i64 d.want][o]? := (fun o => (hb.cell (p := ⟨w.heap.size, o, none⟩) (by simp <;> omega)).trans (by simp [go_sem])); have xf : ∀ o, w1.frozen? ⟨w.heap.size, o, none⟩ = false := (fun o => (hb.frozen (p := ⟨w.heap.size, o, none⟩) (by simp <;> omega)).trans (by simp [go_sem])); have xz : w.heap.size < w1.heap.size := (by have := hb.size; (try simp at this); omega); have xy := xz
  have yc : ∀ o, w1.cell? ⟨w.heap.size + 1, o, none⟩ = #[S [], .int .i64 0, .int .i64 0][o]? := (fun o => (hb.cell (p := ⟨w.heap.size + 1, o, none⟩) (by simp <;> omega)).trans (by simp [go_sem])); have yf : ∀ o, w1.frozen? ⟨w.heap.size + 1, o, none⟩ = false := (fun o => (hb.frozen (p := ⟨w.heap.size + 1, o, none⟩) (by simp <;> omega)).trans (by simp [go_sem])); have yz : w.heap.size + 1 < w1.heap.size := (by have := hb.size; (try simp at this); omega); have yy := yz
  clear hb h1 hd
  go_wp2_with fail
  refine (sideways_any d 1 _ HD.out (by omega) (by omega)).mono ?_
  rintro e w2 ⟨rfl, hb⟩
  rw [HR.out]
  obtain ⟨⟨b1, p1, k1⟩, ok⟩ := r
  have hB : Below w1.heap.size w1 w2 := (by (repeat (first | exact Below.refl _ _ | assumption | refine Below.drew ?_ | refine up_drewN ?_ _ | refine up_alloc ?_ _ | refine up_set ?_ _ _ (by first | exact Nat.le_refl _ | (simp; done) | (simp; omega) | omega) | refine up_trans ?_ (by assumption)))); replace yc := up_c hB yz yc; replace yf := up_f hB yz yf; replace yz := Nat.lt_of_lt_of_le yz hB.size; have sw2 := hB.size; replace hW := up_trans hW hB; clear hB
  simp only [dkV]
  clear hb xc xf HR HD
  go_wp2_with fail
  refine bodyPost_ret (v := .tuple #[.agg #[S b1, .int .i64 p1, .int .i64 k1], .bool ok]) (by simp [results, Tryd.results55, go_sem, yc]) rfl ⟨rfl, by (repeat (first | exact Below.refl _ _ | assumption | refine Below.drew ?_ | refine up_drewN ?_ _ | refine up_alloc ?_ _ | refine up_set ?_ _ _ (by first | exact Nat.le_refl _ | (simp; done) | (simp; omega) | omega) | refine up_trans ?_ (by assumption)))⟩

set_option maxRecDepth 100000 in
set_option maxHeartbeats 1000000 in
theorem key94 (d : Dk) (w : World) (hd : dkOk d = true) :
    Calls Tryd.prog 55 #[dkV d, .int .u8 94] w (DkPost (upK d (-1)) w) := by
  have hW := Below.refl w.heap.size w
  obtain ⟨h1, h2, h3, h4, h5, h6⟩ := dkOk_out hd
  have HD := Lib.hid hd
  generalize hr : upK d (-1) = r
  have HR := Lib.hid hr
  clear hr
  unfold dkV
  go_enter Tryd.func55, Tryd.ntmps55
  go_wp2_with fail
  refine (implDeskValid_any d _ (by unfold maxLen; omega)).mono ?_
  rw [HD.out]
  rintro e w1 ⟨rfl, hb⟩
  have hB : Below w.heap.size w w1 := (by (repeat (first | exact Below.refl _ _ | assumption | refine Below.drew ?_ | refine up_drewN ?_ _ | refine up_alloc ?_ _ | refine up_set ?_ _ _ (by first | exact Nat.le_refl _ | (simp; done) | (simp; omega) | omega) | refine up_trans ?_ (by assumption)))); have sw1 := hB.size; replace hW := up_trans hW hB; clear hB
  have xc : ∀ o, w1.cell? ⟨w.heap.size, o, none⟩ = #[S d.body, .int .i64 d.place, .int .i64 d.want][o]? := (fun o => (hb.cell (p := ⟨w.heap.size, o, none⟩) (by simp <;> omega)).trans (by simp [go_sem])); have xf : ∀ o, w1.frozen? ⟨w.heap.size, o, none⟩ = false := (fun o => (hb.frozen (p := ⟨w.heap.size, o, none⟩) (by simp <;> omega)).trans (by simp [go_sem])); have xz : w.heap.size < w1.heap.size := (by have := hb.size; (try simp at this); omega); have xy := xz
  have yc : ∀ o, w1.cell? ⟨w.heap.size + 1, o, none⟩ = #[S [], .int .i64 0, .int .i64 0][o]? := (fun o => (hb.cell (p := ⟨w.heap.size + 1, o, none⟩) (by simp <;> omega)).trans (by simp [go_sem])); have yf : ∀ o, w1.frozen? ⟨w.heap.size + 1, o, none⟩ = false := (fun o => (hb.frozen (p := ⟨w.heap.size + 1, o, none⟩) (by simp <;> omega)).trans (by simp [go_sem])); have yz : w.heap.size + 1 < w1.heap.size := (by have := hb.size; (try simp at this); omega); have yy := yz
  clear hb h1 hd
  go_wp2_with fail
  refine (upward_any d (-1) _ HD.out (by omega) (by omega)).mono ?_
  rintro e w2 ⟨rfl, hb⟩
  rw [HR.out]
  obtain ⟨⟨b1, p1, k1⟩, ok⟩ := r
  have hB : Below w1.heap.size w1 w2 := (by (repeat (first | exact Below.refl _ _ | assumption | refine Below.drew ?_ | refine up_drewN ?_ _ | refine up_alloc ?_ _ | refine up_set ?_ _ _ (by first | exact Nat.le_refl _ | (simp; done) | (simp; omega) | omega) | refine up_trans ?_ (by assumption)))); replace yc := up_c hB yz yc; replace yf := up_f hB yz yf; replace yz := Nat.lt_of_lt_of_le yz hB.size; have sw2 := hB.size; replace hW := up_trans hW hB; clear hB
  simp only [dkV]
  clear hb xc xf HR HD
  go_wp2_with fail
  refine bodyPost_ret (v := .tuple #[.agg #[S b1, .int .i64 p1, .int .i64 k1], .bool ok]) (by simp [results, Tryd.results55, go_sem, yc]) rfl ⟨rfl, by (repeat (first | exact Below.refl _ _ | assumption | refine Below.drew ?_ | refine up_drewN ?_ _ | refine up_alloc ?_ _ | refine up_set ?_ _ _ (by first | exact Nat.le_refl _ | (simp; done) | (simp; omega) | omega) | refine up_trans ?_ (by assumption)))⟩

set_option maxRecDepth 100000 in
set_option maxHeartbeats 1000000 in
theorem key95 (d : Dk) (w : World) (hd : dkOk d = true) :
    Calls Tryd.prog 55 #[dkV d, .int .u8 95] w (DkPost (upK d 1) w) := by
  have hW := Below.refl w.heap.size w
  obtain ⟨h1, h2, h3, h4, h5, h6⟩ := dkOk_out hd
  have HD := Lib.hid hd
  generalize hr : upK d 1 = r
  have HR := Lib.hid hr
  clear hr
  unfold dkV
  go_enter Tryd.func55, Tryd.ntmps55
  go_wp2_with fail
  refine (implDeskValid_any d _ (by unfold maxLen; omega)).mono ?_
  rw [HD.out]
  rintro e w1 ⟨rfl, hb⟩
  have hB : Below w.heap.size w w1 := (by (repeat (first | exact Below.refl _ _ | assumption | refine Below.drew ?_ | refine up_drewN ?_ _ | refine up_alloc ?_ _ | refine up_set ?_ _ _ (by first | exact Nat.le_refl _ | (simp; done) | (simp; omega) | omega) | refine up_trans ?_ (by assumption)))); have sw1 := hB.size; replace hW := up_trans hW hB; clear hB
  have xc : ∀ o, w1.cell? ⟨w.heap.size, o, none⟩ = #[S d.body, .int .i64 d.place, .int .i64 d.want][o]? := (fun o => (hb.cell (p := ⟨w.heap.size, o, none⟩) (by simp <;> omega)).trans (by simp [go_sem])); have xf : ∀ o, w1.frozen? ⟨w.heap.size, o, none⟩ = false := (fun o => (hb.frozen (p := ⟨w.heap.size, o, none⟩) (by simp <;> omega)).trans (by simp [go_sem])); have xz : w.heap.size < w1.heap.size := (by have := hb.size; (try simp at this); omega); have xy := xz
  have yc : ∀ o, w1.cell? ⟨w.heap.size + 1, o, none⟩ = #[S [], .int .i64 0, .int .i64 0][o]? := (fun o => (hb.cell (p := ⟨w.heap.size + 1, o, none⟩) (by simp <;> omega)).trans (by simp [go_sem])); have yf : ∀ o, w1.frozen? ⟨w.heap.size + 1, o, none⟩ = false := (fun o => (hb.frozen (p := ⟨w.heap.size + 1, o, none⟩) (by simp <;> omega)).trans (by simp [go_sem])); have yz : w.heap.size + 1 < w1.heap.size := (by have := hb.size; (try simp at this); omega); have yy := yz
  clear hb h1 hd
  go_wp2_with fail
  refine (upward_any d 1 _ HD.out (by omega) (by omega)).mono ?_
  rintro e w2 ⟨rfl, hb⟩
  rw [HR.out]
  obtain ⟨⟨b1, p1, k1⟩, ok⟩ := r
  have hB : Below w1.heap.size w1 w2 := (by (repeat (first | exact Below.refl _ _ | assumption | refine Below.drew ?_ | refine up_drewN ?_ _ | refine up_alloc ?_ _ | refine up_set ?_ _ _ (by first | exact Nat.le_refl _ | (simp; done) | (simp; omega) | omega) | refine up_trans ?_ (by assumption)))); replace yc := up_c hB yz yc; replace yf := up_f hB yz yf; replace yz := Nat.lt_of_lt_of_le yz hB.size; have sw2 := hB.size; replace hW := up_trans hW hB; clear hB
  simp only [dkV]
  clear hb xc xf HR HD
  go_wp2_with fail
  refine bodyPost_ret (v := .tuple #[.agg #[S b1, .int .i64 p1, .int .i64 k1], .bool ok]) (by simp [results, Tryd.results55, go_sem, yc]) rfl ⟨rfl, by (repeat (first | exact Below.refl _ _ | assumption | refine Below.drew ?_ | refine up_drewN ?_ _ | refine up_alloc ?_ _ | refine up_set ?_ _ _ (by first | exact Nat.le_refl _ | (simp; done) | (simp; omega) | omega) | refine up_trans ?_ (by assumption)))⟩

set_option maxRecDepth 100000 in
set_option maxHeartbeats 1000000 in
theorem key35 (d : Dk) (w : World) (hd : dkOk d = true) :
    Calls Tryd.prog 55 #[dkV d, .int .u8 35] w (DkPost (chgK d (d.place - 1) 1 []) w) := by
  have hW := Below.refl w.heap.size w
  obtain ⟨h1, h2, h3, h4, h5, h6⟩ := dkOk_out hd
  have HD := Lib.hid hd
  generalize hr : chgK d (d.place - 1) 1 [] = r
  have HR := Lib.hid hr
  clear hr
  unfold dkV
  go_enter Tryd.func55, Tryd.ntmps55
  go_wp2_with fail
  refine (implDeskValid_any d _ (by unfold maxLen; omega)).mono ?_
  rw [HD.out]
  rintro e w1 ⟨rfl, hb⟩
  have hB : Below w.heap.size w w1 := (by (repeat (first | exact Below.refl _ _ | assumption | refine Below.drew ?_ | refine up_drewN ?_ _ | refine up_alloc ?_ _ | refine up_set ?_ _ _ (by first | exact Nat.le_refl _ | (simp; done) | (simp; omega) | omega) | refine up_trans ?_ (by assumption)))); have sw1 := hB.size; replace hW := up_trans hW hB; clear hB
  have xc : ∀ o, w1.cell? ⟨w.heap.size, o, none⟩ = #[S d.body, .int .i64 d.place, .int .i64 d.want][o]? := (fun o => (hb.cell (p := ⟨w.heap.size, o, none⟩) (by simp <;> omega)).trans (by simp [go_sem])); have xf : ∀ o, w1.frozen? ⟨w.heap.size, o, none⟩ = false := (fun o => (hb.frozen (p := ⟨w.heap.size, o, none⟩) (by simp <;> omega)).trans (by simp [go_sem])); have xz : w.heap.size < w1.heap.size := (by have := hb.size; (try simp at this); omega); have xy := xz
  have yc : ∀ o, w1.cell? ⟨w.heap.size + 1, o, none⟩ = #[S [], .int .i64 0, .int .i64 0][o]? := (fun o => (hb.cell (p := ⟨w.heap.size + 1, o, none⟩) (by simp <;> omega)).trans (by simp [go_sem])); have yf : ∀ o, w1.frozen? ⟨w.heap.size + 1, o, none⟩ = false := (fun o => (hb.frozen (p := ⟨w.heap.size + 1, o, none⟩) (by simp <;> omega)).trans (by simp [go_sem])); have yz : w.heap.size + 1 < w1.heap.size := (by have := hb.size; (try simp at this); omega); have yy := yz
  clear hb h1 hd
  go_wp2_with fail
  refine (change_any d (d.place - 1) 1 [] _ HD.out (by simp)).mono ?_
  rintro e w2 ⟨rfl, hb⟩
  rw [HR.out]
  obtain ⟨⟨b1, p1, k1⟩, ok⟩ := r
  have hB : Below w1.heap.size w1 w2 := (by (repeat (first | exact Below.refl _ _ | assumption | refine Below.drew ?_ | refine up_drewN ?_ _ | refine up_alloc ?_ _ | refine up_set ?_ _ _ (by first | exact Nat.le_refl _ | (simp; done) | (simp; omega) | omega) | refine up_trans ?_ (by assumption)))); replace yc := up_c hB yz yc; replace yf := up_f hB yz yf; replace yz := Nat.lt_of_lt_of_le yz hB.size; have sw2 := hB.size; replace hW := up_trans hW hB; clear hB
  simp only [dkV]
  clear hb xc xf HR HD
  go_wp2_with fail
  refine bodyPost_ret (v := .tuple #[.agg #[S b1, .int .i64 p1, .int .i64 k1], .bool ok]) (by simp [results, Tryd.results55, go_sem, yc]) rfl ⟨rfl, by (repeat (first | exact Below.refl _ _ | assumption | refine Below.drew ?_ | refine up_drewN ?_ _ | refine up_alloc ?_ _ | refine up_set ?_ _ _ (by first | exact Nat.le_refl _ | (simp; done) | (simp; omega) | omega) | refine up_trans ?_ (by assumption)))⟩

set_option maxRecDepth 100000 in
set_option maxHeartbeats 1000000 in
theorem key64 (d : Dk) (w : World) (hd : dkOk d = true) :
    Calls Tryd.prog 55 #[dkV d, .int .u8 64] w (DkPost (chgK d d.place 0 [10]) w) := by
  have hW := Below.refl w.heap.size w
  obtain ⟨h1, h2, h3, h4, h5, h6⟩ := dkOk_out hd
  have HD := Lib.hid hd
  generalize hr : chgK d d.place 0 [10] = r
  have HR := Lib.hid hr
  clear hr
  unfold dkV
  go_enter Tryd.func55, Tryd.ntmps55
  go_wp2_with fail
  refine (implDeskValid_any d _ (by unfold maxLen; omega)).mono ?_
  rw [HD.out]
  rintro e w1 ⟨rfl, hb⟩
  have hB : Below w.heap.size w w1 := (by (repeat (first | exact Below.refl _ _ | assumption | refine Below.drew ?_ | refine up_drewN ?_ _ | refine up_alloc ?_ _ | refine up_set ?_ _ _ (by first | exact Nat.le_refl _ | (simp; done) | (simp; omega) | omega) | refine up_trans ?_ (by assumption)))); have sw1 := hB.size; replace hW := up_trans hW hB; clear hB
  have xc : ∀ o, w1.cell? ⟨w.heap.size, o, none⟩ = #[S d.body, .int .i64 d.place, .int .i64 d.want][o]? := (fun o => (hb.cell (p := ⟨w.heap.size, o, none⟩) (by simp <;> omega)).trans (by simp [go_sem])); have xf : ∀ o, w1.frozen? ⟨w.heap.size, o, none⟩ = false := (fun o => (hb.frozen (p := ⟨w.heap.size, o, none⟩) (by simp <;> omega)).trans (by simp [go_sem])); have xz : w.heap.size < w1.heap.size := (by have := hb.size; (try simp at this); omega); have xy := xz
  have yc : ∀ o, w1.cell? ⟨w.heap.size + 1, o, none⟩ = #[S [], .int .i64 0, .int .i64 0][o]? := (fun o => (hb.cell (p := ⟨w.heap.size + 1, o, none⟩) (by simp <;> omega)).trans (by simp [go_sem])); have yf : ∀ o, w1.frozen? ⟨w.heap.size + 1, o, none⟩ = false := (fun o => (hb.frozen (p := ⟨w.heap.size + 1, o, none⟩) (by simp <;> omega)).trans (by simp [go_sem])); have yz : w.heap.size + 1 < w1.heap.size := (by have := hb.size; (try simp at this); omega); have yy := yz
  clear hb h1 hd
  go_wp2_with fail
  refine (change_any d d.place 0 [10] _ HD.out (by simp)).mono ?_
  rintro e w2 ⟨rfl, hb⟩
  rw [HR.out]
  obtain ⟨⟨b1, p1, k1⟩, ok⟩ := r
  have hB : Below w1.heap.size w1 w2 := (by (repeat (first | exact Below.refl _ _ | assumption | refine Below.drew ?_ | refine up_drewN ?_ _ | refine up_alloc ?_ _ | refine up_set ?_ _ _ (by first | exact Nat.le_refl _ | (simp; done) | (simp; omega) | omega) | refine up_trans ?_ (by assumption)))); replace yc := up_c hB yz yc; replace yf := up_f hB yz yf; replace yz := Nat.lt_of_lt_of_le yz hB.size; have sw2 := hB.size; replace hW := up_trans hW hB; clear hB
  simp only [dkV]
  clear hb xc xf HR HD
  go_wp2_with fail
  refine bodyPost_ret (v := .tuple #[.agg #[S b1, .int .i64 p1, .int .i64 k1], .bool ok]) (by simp [results, Tryd.results55, go_sem, yc]) rfl ⟨rfl, by (repeat (first | exact Below.refl _ _ | assumption | refine Below.drew ?_ | refine up_drewN ?_ _ | refine up_alloc ?_ _ | refine up_set ?_ _ _ (by first | exact Nat.le_refl _ | (simp; done) | (simp; omega) | omega) | refine up_trans ?_ (by assumption)))⟩

set_option maxRecDepth 100000 in
set_option maxHeartbeats 1000000 in
theorem keyOther (d : Dk) (c : Int) (h0 : 0 ≤ c) (h1c : c ≤ 255) (n0 : ((c : Int) == 60) = false) (n1 : ((c : Int) == 62) = false) (n2 : ((c : Int) == 94) = false) (n3 : ((c : Int) == 95) = false) (n4 : ((c : Int) == 35) = false) (n5 : ((c : Int) == 64) = false) (n6 : ((c : Int) == 10) = false) (w : World) (hd : dkOk d = true) :
    Calls Tryd.prog 55 #[dkV d, .int .u8 c] w (DkPost (chgK d d.place 0 [UInt8.ofNat c.toNat]) w) := by
  have hW := Below.refl w.heap.size w
  obtain ⟨h1, h2, h3, h4, h5, h6⟩ := dkOk_out hd
  have HD := Lib.hid hd
  generalize hr : chgK d d.place 0 [UInt8.ofNat c.toNat] = r
  have HR := Lib.hid hr
  clear hr
  have HB := byte_str c h0 h1c
  unfold dkV
  go_enter Tryd.func55, Tryd.ntmps55
  go_wp2_with fail
  refine (implDeskValid_any d _ (by unfold maxLen; omega)).mono ?_
  rw [HD.out]
  rintro e w1 ⟨rfl, hb⟩
  have hB : Below w.heap.size w w1 := (by (repeat (first | exact Below.refl _ _ | assumption | refine Below.drew ?_ | refine up_drewN ?_ _ | refine up_alloc ?_ _ | refine up_set ?_ _ _ (by first | exact Nat.le_refl _ | (simp; done) | (simp; omega) | omega) | refine up_trans ?_ (by assumption)))); have sw1 := hB.size; replace hW := up_trans hW hB; clear hB
  have xc : ∀ o, w1.cell? ⟨w.heap.size, o, none⟩ = #[S d.body, .int .i64 d.place, .int .i64 d.want][o]? := (fun o => (hb.cell (p := ⟨w.heap.size, o, none⟩) (by simp <;> omega)).trans (by simp [go_sem])); have xf : ∀ o, w1.frozen? ⟨w.heap.size, o, none⟩ = false := (fun o => (hb.frozen (p := ⟨w.heap.size, o, none⟩) (by simp <;> omega)).trans (by simp [go_sem])); have xz : w.heap.size < w1.heap.size := (by have := hb.size; (try simp at this); omega); have xy := xz
  have yc : ∀ o, w1.cell? ⟨w.heap.size + 1, o, none⟩ = #[S [], .int .i64 0, .int .i64 0][o]? := (fun o => (hb.cell (p := ⟨w.heap.size + 1, o, none⟩) (by simp <;> omega)).trans (by simp [go_sem])); have yf : ∀ o, w1.frozen? ⟨w.heap.size + 1, o, none⟩ = false := (fun o => (hb.frozen (p := ⟨w.heap.size + 1, o, none⟩) (by simp <;> omega)).trans (by simp [go_sem])); have yz : w.heap.size + 1 < w1.heap.size := (by have := hb.size; (try simp at this); omega); have yy := yz
  clear hb h1 hd
  go_wp2_with fail
  refine (change_any d d.place 0 [UInt8.ofNat c.toNat] _ HD.out (by simp)).mono ?_
  rintro e w2 ⟨rfl, hb⟩
  rw [HR.out]
  obtain ⟨⟨b1, p1, k1⟩, ok⟩ := r
  have hB2 : Below w1.heap.size w1 w2 := (by (repeat (first | exact Below.refl _ _ | assumption | refine Below.drew ?_ | refine up_drewN ?_ _ | refine up_alloc ?_ _ | refine up_set ?_ _ _ (by first | exact Nat.le_refl _ | (simp; done) | (simp; omega) | omega) | refine up_trans ?_ (by assumption))))
  replace yc := up_c hB2 yz yc
  replace yf := up_f hB2 yz yf
  replace yz := Nat.lt_of_lt_of_le yz hB2.size
  replace hW := up_trans hW hB2
  clear hB2
  simp only [dkV]
  clear hb xc xf HR HD
  go_wp2_with fail
  refine bodyPost_ret (v := .tuple #[.agg #[S b1, .int .i64 p1, .int .i64 k1], .bool ok]) (by simp [results, Tryd.results55, go_sem, yc]) rfl ⟨rfl, by (repeat (first | exact Below.refl _ _ | assumption | refine Below.drew ?_ | refine up_drewN ?_ _ | refine up_alloc ?_ _ | refine up_set ?_ _ _ (by first | exact Nat.le_refl _ | (simp; done) | (simp; omega) | omega) | refine up_trans ?_ (by assumption)))⟩

set_option maxHeartbeats 1000000 in
theorem key10 (d : Dk) (w : World) (hd : dkOk d = true) :
    Calls Tryd.prog 55 #[dkV d, .int .u8 10] w (DkPost (d, false) w) := by
  have hW := Below.refl w.heap.size w
  obtain ⟨h1, h2, h3, h4, h5, h6⟩ := dkOk_out hd
  have HD := Lib.hid hd
  unfold DkPost dkV
  go_enter Tryd.func55, Tryd.ntmps55
  go_wp2_with fail
  refine (implDeskValid_any d _ (by unfold maxLen; omega)).mono ?_
  rw [HD.out]
  rintro e w1 ⟨rfl, hb⟩
  have hB : Below w.heap.size w w1 := (by (repeat (first | exact Below.refl _ _ | assumption | refine Below.drew ?_ | refine up_drewN ?_ _ | refine up_alloc ?_ _ | refine up_set ?_ _ _ (by first | exact Nat.le_refl _ | (simp; done) | (simp; omega) | omega) | refine up_trans ?_ (by assumption)))); have sw1 := hB.size; replace hW := up_trans hW hB; clear hB
  have xc : ∀ o, w1.cell? ⟨w.heap.size, o, none⟩ = #[S d.body, .int .i64 d.place, .int .i64 d.want][o]? := (fun o => (hb.cell (p := ⟨w.heap.size, o, none⟩) (by simp <;> omega)).trans (by simp [go_sem])); have xf : ∀ o, w1.frozen? ⟨w.heap.size, o, none⟩ = false := (fun o => (hb.frozen (p := ⟨w.heap.size, o, none⟩) (by simp <;> omega)).trans (by simp [go_sem])); have xz : w.heap.size < w1.heap.size := (by have := hb.size; (try simp at this); omega); have xy := xz
  have yc : ∀ o, w1.cell? ⟨w.heap.size + 1, o, none⟩ = #[S [], .int .i64 0, .int .i64 0][o]? := (fun o => (hb.cell (p := ⟨w.heap.size + 1, o, none⟩) (by simp <;> omega)).trans (by simp [go_sem])); have yf : ∀ o, w1.frozen? ⟨w.heap.size + 1, o, none⟩ = false := (fun o => (hb.frozen (p := ⟨w.heap.size + 1, o, none⟩) (by simp <;> omega)).trans (by simp [go_sem])); have yz : w.heap.size + 1 < w1.heap.size := (by have := hb.size; (try simp at this); omega); have yy := yz
  clear hb h1 hd
  go_wp2_with fail
  refine bodyPost_ret (v := .tuple #[.agg #[S d.body, .int .i64 d.place, .int .i64 d.want], .bool false]) (by simp [results, Tryd.results55, go_sem, yc]) rfl ⟨rfl, by (repeat (first | exact Below.refl _ _ | assumption | refine Below.drew ?_ | refine up_drewN ?_ _ | refine up_alloc ?_ _ | refine up_set ?_ _ _ (by first | exact Nat.le_refl _ | (simp; done) | (simp; omega) | omega) | refine up_trans ?_ (by assumption)))⟩
set_option maxHeartbeats 1000000 in
theorem keyNo (d : Dk) (c : Int) (w : World) (hs : d.body.length ≤ maxLen) (hd : dkOk d = false) :
    Calls Tryd.prog 55 #[dkV d, .int .u8 c] w (DkPost (dk0, false) w) := by
  have hW := Below.refl w.heap.size w
  have HD := Lib.hid hd
  clear hd
  unfold DkPost dkV dk0
  go_enter Tryd.func55, Tryd.ntmps55
  go_wp2_with fail
  refine (implDeskValid_any d _ hs).mono ?_
  rw [HD.out]
  rintro e w1 ⟨rfl, hb⟩
  have hB : Below w.heap.size w w1 := (by (repeat (first | exact Below.refl _ _ | assumption | refine Below.drew ?_ | refine up_drewN ?_ _ | refine up_alloc ?_ _ | refine up_set ?_ _ _ (by first | exact Nat.le_refl _ | (simp; done) | (simp; omega) | omega) | refine up_trans ?_ (by assumption)))); have sw1 := hB.size; replace hW := up_trans hW hB; clear hB
  have xc : ∀ o, w1.cell? ⟨w.heap.size, o, none⟩ = #[S d.body, .int .i64 d.place, .int .i64 d.want][o]? := (fun o => (hb.cell (p := ⟨w.heap.size, o, none⟩) (by simp <;> omega)).trans (by simp [go_sem])); have xf : ∀ o, w1.frozen? ⟨w.heap.size, o, none⟩ = false := (fun o => (hb.frozen (p := ⟨w.heap.size, o, none⟩) (by simp <;> omega)).trans (by simp [go_sem])); have xz : w.heap.size < w1.heap.size := (by have := hb.size; (try simp at this); omega); have xy := xz
  have yc : ∀ o, w1.cell? ⟨w.heap.size + 1, o, none⟩ = #[S [], .int .i64 0, .int .i64 0][o]? := (fun o => (hb.cell (p := ⟨w.heap.size + 1, o, none⟩) (by simp <;> omega)).trans (by simp [go_sem])); have yf : ∀ o, w1.frozen? ⟨w.heap.size + 1, o, none⟩ = false := (fun o => (hb.frozen (p := ⟨w.heap.size + 1, o, none⟩) (by simp <;> omega)).trans (by simp [go_sem])); have yz : w.heap.size + 1 < w1.heap.size := (by have := hb.size; (try simp at this); omega); have yy := yz
  clear hb
  go_wp2_with fail
  refine bodyPost_ret (v := .tuple #[.agg #[S [], .int .i64 0, .int .i64 0], .bool false]) (by simp [results, Tryd.results55, go_sem, yc]) rfl ⟨rfl, by (repeat (first | exact Below.refl _ _ | assumption | refine Below.drew ?_ | refine up_drewN ?_ _ | refine up_alloc ?_ _ | refine up_set ?_ _ _ (by first | exact Nat.le_refl _ | (simp; done) | (simp; omega) | omega) | refine up_trans ?_ (by assumption)))⟩

theorem implPressKey_any (d : Dk) (c : Int) (w : World) (hs : d.body.length ≤ maxLen) (h0 : 0 ≤ c) (h1 : c ≤ 255) :
    Calls Tryd.prog 55 #[dkV d, .int .u8 c] w (DkPost (pressK d c) w) := by
  rcases hd : dkOk d with _ | _
  · have e : pressK d c = (dk0, false) := by unfold pressK; rw [hd]; rfl
    rw [e]
    exact keyNo d c w hs hd
  · have e : pressK d c = keyK d c := by unfold pressK; rw [hd]; rfl
    rw [e]
    unfold keyK
    by_cases e1 : c = 60
    · rw [if_pos e1]; subst e1; exact key60 d w hd
    rw [if_neg e1]
    by_cases e2 : c = 62
    · rw [if_pos e2]; subst e2; exact key62 d w hd
    rw [if_neg e2]
    by_cases e3 : c = 94
    · rw [if_pos e3]; subst e3; exact key94 d w hd
    rw [if_neg e3]
    by_cases e4 : c = 95
    · rw [if_pos e4]; subst e4; exact key95 d w hd
    rw [if_neg e4]
    by_cases e5 : c = 35
    · rw [if_pos e5]; subst e5; exact key35 d w hd
    rw [if_neg e5]
    by_cases e6 : c = 64
    · rw [if_pos e6]; subst e6; exact key64 d w hd
    rw [if_neg e6]
    by_cases e7 : c = 10
    · rw [if_pos e7]; subst e7; exact key10 d w hd
    rw [if_neg e7]
    exact keyOther d c h0 h1 (beq_eq_false_iff_ne.2 e1) (beq_eq_false_iff_ne.2 e2) (beq_eq_false_iff_ne.2 e3) (beq_eq_false_iff_ne.2 e4) (beq_eq_false_iff_ne.2 e5) (beq_eq_false_iff_ne.2 e6) (beq_eq_false_iff_ne.2 e7) w hd

end Go.Proofs.YtcjgllbhmghkeaaDoor
