/- What is proved here: contracts of the program's desks: what a key does. No condition. -/
import Derived.Test.YtcjgllbhmghkeaaDoorKey0
namespace Go.Proofs.YtcjgllbhmghkeaaDoor
open Go.RowKit

def DkPost (r : Dk × Bool) (w : World) (e : Ending) (w' : World) : Prop := e = .returned (.tuple #[dkV r.1, .bool r.2]) ∧ Below w.heap.size w w'

theorem implDeskValid_any (d : Dk) (w : World) (hs : d.body.length ≤ maxLen) :
    Calls Tryd.prog 42 #[dkV d] w fun e w' => e = .returned (.bool (dkOk d)) ∧ Below w.heap.size w w' := by
  unfold dkV
  rcases hp : (tv d.body && inB d.place 0 d.body.length) with _ | _
  all_goals
    have HD : Hid (dkOk d = ((tv d.body && inB d.place 0 d.body.length) && inB d.want 0 120)) := Lib.hid rfl
    rw [hp] at HD
  · go_enter Tryd.func42, Tryd.ntmps42
    go_wp2_with fail
    refine (isPlaceB_any _ _ _ hs).mono ?_
    rw [hp]
    rintro e w1 ⟨rfl, rfl⟩
    clear hp
    go_wp2_with fail
    go_ret
    exact ⟨ret_bool (by rw [HD.out]; rfl), by (repeat (first | exact Below.refl _ _ | assumption | refine Below.drew ?_ | refine up_drewN ?_ _ | refine up_alloc ?_ _ | refine up_set ?_ _ _ (by first | exact Nat.le_refl _ | (simp; done) | (simp; omega) | omega) | refine up_trans ?_ (by assumption)))⟩
  · go_enter Tryd.func42, Tryd.ntmps42
    go_wp2_with fail
    refine (isPlaceB_any _ _ _ hs).mono ?_
    rw [hp]
    rintro e w1 ⟨rfl, rfl⟩
    clear hp
    go_wp2_with fail
    refine (in_any _ _ _ _).mono ?_
    rintro e w1 ⟨rfl, rfl⟩
    go_wp2_with fail
    go_ret
    exact ⟨ret_bool (by rw [HD.out]; rfl), by (repeat (first | exact Below.refl _ _ | assumption | refine Below.drew ?_ | refine up_drewN ?_ _ | refine up_alloc ?_ _ | refine up_set ?_ _ _ (by first | exact Nat.le_refl _ | (simp; done) | (simp; omega) | omega) | refine up_trans ?_ (by assumption)))⟩

theorem wanting_any (s : List UInt8) (n : Nat) (x : Int) (w : World) (hs : tv s = true) (hn : n ≤ s.length) :
    Calls Tryd.prog 84 #[.agg #[S s, .int .i64 n, .int .i64 x]] w fun e w' => e = .returned (dkV (dkAt s n)) ∧ Below w.heap.size w w' := by
  unfold dkV dkAt
  go_enter Tryd.func84, Tryd.ntmps84
  go_wp2_with fail
  refine (implColumnOf_any _ _ _ hs hn).mono ?_
  rintro e w1 ⟨rfl, rfl⟩
  clear hs
  go_wp2_with fail
  refine bodyPost_ret (v := .agg #[S s, .int .i64 n, .int .i64 (colOf s n)]) (by simp [results, Tryd.results84, go_sem]) rfl ⟨rfl, by (repeat (first | exact Below.refl _ _ | assumption | refine Below.drew ?_ | refine up_drewN ?_ _ | refine up_alloc ?_ _ | refine up_set ?_ _ _ (by first | exact Nat.le_refl _ | (simp; done) | (simp; omega) | omega) | refine up_trans ?_ (by assumption)))⟩

set_option maxHeartbeats 1000000 in
theorem sideways_any (d : Dk) (b : Int) (w : World) (hd : dkOk d = true) (hb1 : -1 ≤ b) (hb2 : b ≤ 1) :
    Calls Tryd.prog 72 #[dkV d, .int .i64 b] w (DkPost (sideK d b) w) := by
  obtain ⟨h1, h2, h3, h4, h5, h6⟩ := dkOk_out hd
  have hW := Below.refl w.heap.size w
  rcases hi : inB (d.place + b) 0 d.body.length with _ | _
  · have HK := Lib.hid (show sideK d b = (d, false) by unfold sideK; rw [hi]; rfl)
    unfold DkPost
    rw [HK.out]
    unfold dkV
    go_enter Tryd.func72, Tryd.ntmps72
    go_wp2_with fail
    refine (isPlaceB_any _ _ _ (by unfold maxLen; omega)).mono ?_
    rw [h1, hi]
    rintro e w1 ⟨rfl, rfl⟩
    clear h1 hi hd
    go_wp2_with fail
    refine bodyPost_ret (v := .tuple #[.agg #[S d.body, .int .i64 d.place, .int .i64 d.want], .bool false]) (by simp [results, Tryd.results72, go_sem]) rfl ⟨rfl, by (repeat (first | exact Below.refl _ _ | assumption | refine Below.drew ?_ | refine up_drewN ?_ _ | refine up_alloc ?_ _ | refine up_set ?_ _ _ (by first | exact Nat.le_refl _ | (simp; done) | (simp; omega) | omega) | refine up_trans ?_ (by assumption)))⟩
  · have hp := inB_iff.1 hi
    have HK := Lib.hid (show sideK d b = (dkAt d.body (d.place + b).toNat, true) by unfold sideK; rw [hi]; rfl)
    unfold DkPost
    rw [HK.out]
    obtain ⟨n, hn⟩ : ∃ n : Nat, d.place + b = n := ⟨(d.place + b).toNat, by omega⟩
    have HN := Lib.hid hn
    have hnl : n ≤ d.body.length := by omega
    rw [HN.out, Int.toNat_natCast]
    have hi2 := hi
    rw [hn] at hi2
    clear hn hi hp
    unfold dkV dkAt
    go_enter Tryd.func72, Tryd.ntmps72
    go_wp2_with fail
    refine (isPlaceB_any _ _ _ (by unfold maxLen; omega)).mono ?_
    rw [h1, HN.out, hi2]
    rintro e w1 ⟨rfl, rfl⟩
    clear hi2 hd
    have hnn := HN.out
    go_wp2_with fail
    refine (wanting_any d.body n d.want _ h1 hnl).mono ?_
    unfold dkV dkAt
    rintro e w1 ⟨rfl, hb⟩
    have yc : ∀ o, w1.cell? ⟨w.heap.size + 1, o, none⟩ = #[S [], .int .i64 0, .int .i64 0][o]? := (fun o => (hb.cell (p := ⟨w.heap.size + 1, o, none⟩) (by simp <;> omega)).trans (by simp [go_sem])); have yf : ∀ o, w1.frozen? ⟨w.heap.size + 1, o, none⟩ = false := (fun o => (hb.frozen (p := ⟨w.heap.size + 1, o, none⟩) (by simp <;> omega)).trans (by simp [go_sem])); have yz : w.heap.size + 1 < w1.heap.size := (by have := hb.size; (try simp at this); omega); have yy := yz
    have hW1 : Below w.heap.size w w1 := by (repeat (first | exact Below.refl _ _ | assumption | refine Below.drew ?_ | refine up_drewN ?_ _ | refine up_alloc ?_ _ | refine up_set ?_ _ _ (by first | exact Nat.le_refl _ | (simp; done) | (simp; omega) | omega) | refine up_trans ?_ (by assumption)))
    clear hb h1
    go_wp2_with fail
    refine bodyPost_ret (v := .tuple #[.agg #[S d.body, .int .i64 n, .int .i64 (colOf d.body n)], .bool true]) (by simp [results, Tryd.results72, go_sem, yc]) rfl ⟨rfl, by (repeat (first | exact Below.refl _ _ | assumption | refine Below.drew ?_ | refine up_drewN ?_ _ | refine up_alloc ?_ _ | refine up_set ?_ _ _ (by first | exact Nat.le_refl _ | (simp; done) | (simp; omega) | omega) | refine up_trans ?_ (by assumption)))⟩

set_option maxRecDepth 100000 in
set_option maxHeartbeats 1000000 in
theorem change_any (d : Dk) (a c : Int) (p : List UInt8) (w : World) (hd : dkOk d = true) (hp : p.length ≤ 200) :
    Calls Tryd.prog 74 #[dkV d, .int .i64 a, .int .i64 c, S p] w (DkPost (chgK d a c p) w) := by
  obtain ⟨h1, h2, h3, h4, h5, h6⟩ := dkOk_out hd
  have hW := Below.refl w.heap.size w
  have HC := Lib.hid (fun w => implApplyChange_any d.body a c p w (by unfold maxLen; omega) (by omega))
  unfold chV AcPost at HC
  rcases hk : chOk d.body a c p with _ | _
  · rw [hk] at HC
    have HK := Lib.hid (show chgK d a c p = (d, false) by unfold chgK; rw [hk]; rfl)
    unfold DkPost
    rw [HK.out]
    unfold dkV
    clear hk
    go_enter Tryd.func74, Tryd.ntmps74
    go_wp2_with fail
    refine (HC.out _).mono ?_
    rintro e w1 ⟨rfl, hb⟩
    have xc : ∀ o, w1.cell? ⟨w.heap.size, o, none⟩ = #[S d.body, .int .i64 d.place, .int .i64 d.want][o]? := (fun o => (hb.cell (p := ⟨w.heap.size, o, none⟩) (by simp <;> omega)).trans (by simp [go_sem])); have xf : ∀ o, w1.frozen? ⟨w.heap.size, o, none⟩ = false := (fun o => (hb.frozen (p := ⟨w.heap.size, o, none⟩) (by simp <;> omega)).trans (by simp [go_sem])); have xz : w.heap.size < w1.heap.size := (by have := hb.size; (try simp at this); omega); have xy := xz
    have yc : ∀ o, w1.cell? ⟨w.heap.size + 1, o, none⟩ = #[S [], .int .i64 0, .int .i64 0][o]? := (fun o => (hb.cell (p := ⟨w.heap.size + 1, o, none⟩) (by simp <;> omega)).trans (by simp [go_sem])); have yf : ∀ o, w1.frozen? ⟨w.heap.size + 1, o, none⟩ = false := (fun o => (hb.frozen (p := ⟨w.heap.size + 1, o, none⟩) (by simp <;> omega)).trans (by simp [go_sem])); have yz : w.heap.size + 1 < w1.heap.size := (by have := hb.size; (try simp at this); omega); have yy := yz
    have hW1 : Below w.heap.size w w1 := by (repeat (first | exact Below.refl _ _ | assumption | refine Below.drew ?_ | refine up_drewN ?_ _ | refine up_alloc ?_ _ | refine up_set ?_ _ _ (by first | exact Nat.le_refl _ | (simp; done) | (simp; omega) | omega) | refine up_trans ?_ (by assumption)))
    clear hb h1 hd
    go_wp2_with fail
    refine bodyPost_ret (v := .tuple #[.agg #[S d.body, .int .i64 d.place, .int .i64 d.want], .bool false]) (by simp [results, Tryd.results74, go_sem, yc]) rfl ⟨rfl, by (repeat (first | exact Below.refl _ _ | assumption | refine Below.drew ?_ | refine up_drewN ?_ _ | refine up_alloc ?_ _ | refine up_set ?_ _ _ (by first | exact Nat.le_refl _ | (simp; done) | (simp; omega) | omega) | refine up_trans ?_ (by assumption)))⟩
  · have hk2 := hk
    unfold chOk at hk2
    simp only [Bool.and_eq_true] at hk2
    obtain ⟨i1, i2, i3, i4⟩ := chIn_out hk2.1.1.2
    have hl := chTo_len p hk2.1.1.2
    have ht := chTo_tv p hk2.1.1.1 hk2.1.1.2
    rw [hk] at ht
    have hap : apTo d.body a c p = chTo d.body a c p := by unfold apTo; rw [if_pos hk]
    rw [hk, hap] at HC
    have HK := Lib.hid (show chgK d a c p = (dkAt (chTo d.body a c p) (a.toNat + p.length), true) by unfold chgK; rw [hk]; rfl)
    unfold DkPost
    rw [HK.out]
    clear hk hk2 hap
    have hnl : a.toNat + p.length ≤ (chTo d.body a c p).length := by omega
    generalize chTo d.body a c p = s2 at *
    obtain ⟨n, rfl⟩ : ∃ n : Nat, a = n := ⟨a.toNat, by omega⟩
    rw [Int.toNat_natCast] at *
    unfold dkV dkAt
    clear hl
    have HT := Lib.hid ht
    clear ht
    have HCA : Hid (((n : Int) + (p.length : Int)) = ((n + p.length : Nat) : Int)) := Lib.hid (by omega)
    go_enter Tryd.func74, Tryd.ntmps74
    go_wp2_with fail
    refine (HC.out _).mono ?_
    rintro e w1 ⟨rfl, hb⟩
    have xc : ∀ o, w1.cell? ⟨w.heap.size, o, none⟩ = #[S d.body, .int .i64 d.place, .int .i64 d.want][o]? := (fun o => (hb.cell (p := ⟨w.heap.size, o, none⟩) (by simp <;> omega)).trans (by simp [go_sem])); have xf : ∀ o, w1.frozen? ⟨w.heap.size, o, none⟩ = false := (fun o => (hb.frozen (p := ⟨w.heap.size, o, none⟩) (by simp <;> omega)).trans (by simp [go_sem])); have xz : w.heap.size < w1.heap.size := (by have := hb.size; (try simp at this); omega); have xy := xz
    have yc : ∀ o, w1.cell? ⟨w.heap.size + 1, o, none⟩ = #[S [], .int .i64 0, .int .i64 0][o]? := (fun o => (hb.cell (p := ⟨w.heap.size + 1, o, none⟩) (by simp <;> omega)).trans (by simp [go_sem])); have yf : ∀ o, w1.frozen? ⟨w.heap.size + 1, o, none⟩ = false := (fun o => (hb.frozen (p := ⟨w.heap.size + 1, o, none⟩) (by simp <;> omega)).trans (by simp [go_sem])); have yz : w.heap.size + 1 < w1.heap.size := (by have := hb.size; (try simp at this); omega); have yy := yz
    have hW1 : Below w.heap.size w w1 := by (repeat (first | exact Below.refl _ _ | assumption | refine Below.drew ?_ | refine up_drewN ?_ _ | refine up_alloc ?_ _ | refine up_set ?_ _ _ (by first | exact Nat.le_refl _ | (simp; done) | (simp; omega) | omega) | refine up_trans ?_ (by assumption)))
    clear hb h1 hd
    go_wp2_with fail
    rw [HCA.out]
    refine (wanting_any s2 (n + p.length) 0 _ HT.out hnl).mono ?_
    unfold dkV dkAt
    rintro e w2 ⟨rfl, hb⟩
    replace hW := hW1
    have hB : Below w1.heap.size w1 w2 := (by (repeat (first | exact Below.refl _ _ | assumption | refine Below.drew ?_ | refine up_drewN ?_ _ | refine up_alloc ?_ _ | refine up_set ?_ _ _ (by first | exact Nat.le_refl _ | (simp; done) | (simp; omega) | omega) | refine up_trans ?_ (by assumption)))); replace yc := up_c hB yz yc; replace yf := up_f hB yz yf; replace yz := Nat.lt_of_lt_of_le yz hB.size; have sw2 := hB.size; replace hW := up_trans hW hB; clear hB
    clear hb xc xf
    go_wp2_with fail
    refine bodyPost_ret (v := .tuple #[.agg #[S s2, .int .i64 ((n + p.length : Nat) : Int), .int .i64 (colOf s2 (n + p.length))], .bool true]) (by simp [results, Tryd.results74, go_sem, yc]) rfl ⟨rfl, by (repeat (first | exact Below.refl _ _ | assumption | refine Below.drew ?_ | refine up_drewN ?_ _ | refine up_alloc ?_ _ | refine up_set ?_ _ _ (by first | exact Nat.le_refl _ | (simp; done) | (simp; omega) | omega) | refine up_trans ?_ (by assumption)))⟩

set_option maxRecDepth 100000 in
set_option maxHeartbeats 1000000 in
theorem lineMove_any (s : List UInt8) (p q : Nat) (b c : Int) (w : World) (hs : tv s = true) (hp : p ≤ s.length) (hb1 : -1 ≤ b) (hb2 : b ≤ 1) (hq : (nl (s.take p) : Int) + b = q) (hqn : q ≤ nl s) (hc : 0 ≤ c) (hc2 : c ≤ 120) :
    Calls Tryd.prog 87 #[S s, .int .i64 p, .int .i64 b, .int .i64 c] w fun e w' => e = .returned (.int .i64 (pAt s q c)) ∧ Below w.heap.size w w' := by
  have hl := tv_len hs
  have hnn := nl_le s
  have hi : inB (p : Int) 0 s.length = true := inB_iff.2 ⟨by omega, by omega⟩
  have hib : inB b (-120) 120 = true := inB_iff.2 ⟨by omega, by omega⟩
  have HQ := Lib.hid hq
  have hx := nl_mono s hp
  rw [nl_full] at hx
  clear hq
  go_enter Tryd.func87, Tryd.ntmps87
  go_wp2_with fail
  refine (isPlaceB_any _ _ _ (by unfold maxLen; omega)).mono ?_
  rw [hs, hi]
  rintro e w1 ⟨rfl, rfl⟩
  go_wp2_with fail
  refine (in_any _ _ _ _).mono ?_
  rw [hib]
  rintro e w1 ⟨rfl, rfl⟩
  clear hib
  go_wp2_with fail
  refine (implLineOf_any _ _ _ hs hp).mono ?_
  rintro e w1 ⟨rfl, rfl⟩
  go_wp2_with fail
  rw [HQ.out]
  refine (implLineMany_any _ _ (by unfold maxLen; omega)).mono ?_
  rw [hs, show Lib.countByte s 10 = nl s from rfl, if_pos rfl]
  rintro e w1 ⟨rfl, rfl⟩
  have HS := Lib.hid hs
  clear hs hi hx
  have HM : Hid (max (0 : Int) (min (q : Int) (1 + (nl s : Int) - 1)) = (q : Int)) := Lib.hid (by omega)
  go_wp2_with fail
  rw [HM.out]
  refine (implPlaceAt_any s q c _ HS.out hqn hc hc2).mono ?_
  rintro e w1 ⟨rfl, hb⟩
  go_wp2_with fail
  go_ret
  exact ⟨rfl, hb⟩

set_option maxRecDepth 100000 in
set_option maxHeartbeats 1000000 in
theorem upward_any (d : Dk) (b : Int) (w : World) (hd : dkOk d = true) (hb1 : -1 ≤ b) (hb2 : b ≤ 1) :
    Calls Tryd.prog 73 #[dkV d, .int .i64 b] w (DkPost (upK d b) w) := by
  obtain ⟨h1, h2, h3, h4, h5, h6⟩ := dkOk_out hd
  have hW := Below.refl w.heap.size w
  obtain ⟨n, hn⟩ : ∃ n : Nat, d.place = n := ⟨d.place.toNat, by omega⟩
  have hnl : n ≤ d.body.length := by omega
  have htn : d.place.toNat = n := by omega
  have hnn := nl_le d.body
  have hmn := nl_mono d.body hnl
  rw [nl_full] at hmn
  rcases hi : inB ((nl (d.body.take n) : Int) + b) 0 (nl d.body) with _ | _
  · have HK := Lib.hid (show upK d b = (d, false) by unfold upK; rw [htn, hi]; rfl)
    unfold DkPost
    rw [HK.out]
    have C1 := Lib.hid (fun (W : World) (y : UpW W) => calls_up_same (x := y) (implLineOf_any d.body n _ h1 hnl))
    have C2 := Lib.hid (fun (W : World) (y : UpW W) => calls_up_same (x := y) (isLine_any d.body ((nl (d.body.take n) : Int) + b) _ h1))
    rw [hi] at C2
    have q1 : IntKind.i64.wrap ((nl (d.body.take n) : Int) + b) = (nl (d.body.take n) : Int) + b := IntWalk.i64_in _ (by omega)
    unfold dkV
    rw [hn]
    clear hi hd hn
    have hne := UpW.nonempty ((w.alloc (.cells #[S d.body, .int .i64 n, .int .i64 d.want] 38)).alloc (.cells #[S [], .int .i64 0, .int .i64 0] 38))
    go_enter Tryd.func73, Tryd.ntmps73
    go_wp2_with fail
    refine wp_region_up_lit (by kernel_rfl) (by kernel_rfl) ?_
    repeat (go_big_quiet_step ((first | (go_at_call 86; exact C1.out _ _) | (go_at_call 85; exact C2.out _ _))))
    refine wpQuiet_nil ?_
    intro w1 hb
    replace hb := UpW.out hb
    have xc : ∀ o, w1.cell? ⟨w.heap.size, o, none⟩ = #[S d.body, .int .i64 n, .int .i64 d.want][o]? := (fun o => (hb.cell (p := ⟨w.heap.size, o, none⟩) (by simp <;> omega)).trans (by simp [go_sem])); have xf : ∀ o, w1.frozen? ⟨w.heap.size, o, none⟩ = false := (fun o => (hb.frozen (p := ⟨w.heap.size, o, none⟩) (by simp <;> omega)).trans (by simp [go_sem])); have xz : w.heap.size < w1.heap.size := (by have := hb.size; (try simp at this); omega); have xy := xz
    have yc : ∀ o, w1.cell? ⟨w.heap.size + 1, o, none⟩ = #[S [], .int .i64 0, .int .i64 0][o]? := (fun o => (hb.cell (p := ⟨w.heap.size + 1, o, none⟩) (by simp <;> omega)).trans (by simp [go_sem])); have yf : ∀ o, w1.frozen? ⟨w.heap.size + 1, o, none⟩ = false := (fun o => (hb.frozen (p := ⟨w.heap.size + 1, o, none⟩) (by simp <;> omega)).trans (by simp [go_sem])); have yz : w.heap.size + 1 < w1.heap.size := (by have := hb.size; (try simp at this); omega); have yy := yz
    have hW1 : Below w.heap.size w w1 := by (repeat (first | exact Below.refl _ _ | assumption | refine Below.drew ?_ | refine up_drewN ?_ _ | refine up_alloc ?_ _ | refine up_set ?_ _ _ (by first | exact Nat.le_refl _ | (simp; done) | (simp; omega) | omega) | refine up_trans ?_ (by assumption)))
    clear hb h1 hne C1 C2 q1
    go_wp2_with fail
    refine bodyPost_ret (v := .tuple #[.agg #[S d.body, .int .i64 n, .int .i64 d.want], .bool false]) (by simp [results, Tryd.results73, go_sem, yc]) rfl ⟨rfl, by (repeat (first | exact Below.refl _ _ | assumption | refine Below.drew ?_ | refine up_drewN ?_ _ | refine up_alloc ?_ _ | refine up_set ?_ _ _ (by first | exact Nat.le_refl _ | (simp; done) | (simp; omega) | omega) | refine up_trans ?_ (by assumption)))⟩
  · have hp := inB_iff.1 hi
    obtain ⟨q, hq⟩ : ∃ q : Nat, (nl (d.body.take n) : Int) + b = q := ⟨((nl (d.body.take n) : Int) + b).toNat, by omega⟩
    have HK := Lib.hid (show upK d b = (⟨d.body, pAt d.body q d.want, d.want⟩, true) by unfold upK; rw [htn, hi, hq, Int.toNat_natCast]; rfl)
    have hqn : q ≤ nl d.body := by omega
    have HQ := Lib.hid hq
    unfold DkPost
    rw [HK.out]
    have C1 := Lib.hid (fun (W : World) (y : UpW W) => calls_up_same (x := y) (implLineOf_any d.body n _ h1 hnl))
    have C2 := Lib.hid (fun (W : World) (y : UpW W) => calls_up_same (x := y) (isLine_any d.body ((nl (d.body.take n) : Int) + b) _ h1))
    rw [hi] at C2
    have q1 : IntKind.i64.wrap ((nl (d.body.take n) : Int) + b) = (nl (d.body.take n) : Int) + b := IntWalk.i64_in _ (by omega)
    unfold dkV
    rw [hn]
    clear hi hd hn hq hp
    have hne := UpW.nonempty ((w.alloc (.cells #[S d.body, .int .i64 n, .int .i64 d.want] 38)).alloc (.cells #[S [], .int .i64 0, .int .i64 0] 38))
    go_enter Tryd.func73, Tryd.ntmps73
    go_wp2_with fail
    refine wp_region_up_lit (by kernel_rfl) (by kernel_rfl) ?_
    repeat (go_big_quiet_step ((first | (go_at_call 86; exact C1.out _ _) | (go_at_call 85; exact C2.out _ _))))
    refine wpQuiet_nil ?_
    intro w1 hb
    replace hb := UpW.out hb
    have xc : ∀ o, w1.cell? ⟨w.heap.size, o, none⟩ = #[S d.body, .int .i64 n, .int .i64 d.want][o]? := (fun o => (hb.cell (p := ⟨w.heap.size, o, none⟩) (by simp <;> omega)).trans (by simp [go_sem])); have xf : ∀ o, w1.frozen? ⟨w.heap.size, o, none⟩ = false := (fun o => (hb.frozen (p := ⟨w.heap.size, o, none⟩) (by simp <;> omega)).trans (by simp [go_sem])); have xz : w.heap.size < w1.heap.size := (by have := hb.size; (try simp at this); omega); have xy := xz
    have yc : ∀ o, w1.cell? ⟨w.heap.size + 1, o, none⟩ = #[S [], .int .i64 0, .int .i64 0][o]? := (fun o => (hb.cell (p := ⟨w.heap.size + 1, o, none⟩) (by simp <;> omega)).trans (by simp [go_sem])); have yf : ∀ o, w1.frozen? ⟨w.heap.size + 1, o, none⟩ = false := (fun o => (hb.frozen (p := ⟨w.heap.size + 1, o, none⟩) (by simp <;> omega)).trans (by simp [go_sem])); have yz : w.heap.size + 1 < w1.heap.size := (by have := hb.size; (try simp at this); omega); have yy := yz
    have hW1 : Below w.heap.size w w1 := by (repeat (first | exact Below.refl _ _ | assumption | refine Below.drew ?_ | refine up_drewN ?_ _ | refine up_alloc ?_ _ | refine up_set ?_ _ _ (by first | exact Nat.le_refl _ | (simp; done) | (simp; omega) | omega) | refine up_trans ?_ (by assumption)))
    clear hb hne C1 C2 q1
    go_wp2_with fail
    refine (lineMove_any d.body n q b d.want _ h1 hnl hb1 hb2 HQ.out hqn h4 h5).mono ?_
    rintro e w2 ⟨rfl, hb⟩
    replace hW := hW1
    have hB : Below w1.heap.size w1 w2 := (by (repeat (first | exact Below.refl _ _ | assumption | refine Below.drew ?_ | refine up_drewN ?_ _ | refine up_alloc ?_ _ | refine up_set ?_ _ _ (by first | exact Nat.le_refl _ | (simp; done) | (simp; omega) | omega) | refine up_trans ?_ (by assumption)))); replace xc := up_c hB xz xc; replace xf := up_f hB xz xf; replace xz := Nat.lt_of_lt_of_le xz hB.size; replace yc := up_c hB yz yc; replace yf := up_f hB yz yf; replace yz := Nat.lt_of_lt_of_le yz hB.size; have sw2 := hB.size; replace hW := up_trans hW hB; clear hB
    have ne1 : ¬ w.heap.size + 1 = w.heap.size := by omega
    have ne2 : ¬ w.heap.size = w.heap.size + 1 := by omega
    clear hb hW1
    go_wp2_with fail
    refine bodyPost_ret (v := .tuple #[.agg #[S d.body, .int .i64 (pAt d.body q d.want), .int .i64 d.want], .bool true]) (by simp [results, Tryd.results73, go_sem, yc]) rfl ⟨rfl, by (repeat (first | exact Below.refl _ _ | assumption | refine Below.drew ?_ | refine up_drewN ?_ _ | refine up_alloc ?_ _ | refine up_set ?_ _ _ (by first | exact Nat.le_refl _ | (simp; done) | (simp; omega) | omega) | refine up_trans ?_ (by assumption)))⟩

end Go.Proofs.YtcjgllbhmghkeaaDoor
