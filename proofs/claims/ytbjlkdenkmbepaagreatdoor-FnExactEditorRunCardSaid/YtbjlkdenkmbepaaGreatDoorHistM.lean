/- What is proved here: What is proved here: contracts of the reverse of a change, in the program and in the reference. What is proved here: rows of states in memory; the copy of a history in the program. No condition. -/
import Derived.Test.YtbjlkdenkmbepaaGreatDoorAc0
import Derived.Test.YtbjlkdenkmbepaaGreatDoorEverL
import Derived.BigRegion
import Derived.Test.YtbjlkdenkmbepaaGreatDoorBase
namespace Go.Proofs.YtbjlkdenkmbepaaGreatDoor
open Go.RowKit

/-- the reverse, if there is one. -/
def RvPost (s : List UInt8) (x : Ch) (w : World) (e : Ending) (w' : World) : Prop := e = .returned (.tuple #[chAgg (if okF s x = true then rvF s x else c0), .bool (okF s x)]) ∧ Below w.heap.size w w'
def AplPost (s : List UInt8) (x : Ch) (w : World) (e : Ending) (w' : World) : Prop := ∃ t, e = .returned (.tuple #[S t, .bool (okF s x)]) ∧ (okF s x = true → t = apF s x) ∧ Below w.heap.size w w'

theorem applyF_any (s : List UInt8) (x : Ch) (w : World) (hs : tv s = true) (hp : x.p.length ≤ 1048576) :
    Calls Tryz.prog 135 #[chAgg x, S s] w (AplPost s x w) := apply_any s x.a x.c x.p w hs hp
theorem implFits_any (s : List UInt8) (x : Ch) (w : World) (hs : tv s = true) (hp : x.p.length ≤ 1048576) :
    Calls Tryz.prog 163 #[S s, chAgg x] w fun e w' => e = .returned (.bool (okF s x)) ∧ Below w.heap.size w w' := by
  have HA := Lib.hid (fun w => applyF_any s x w hs hp)
  unfold AplPost at HA
  generalize okF s x = ok at *
  unfold chAgg at HA ⊢
  go_enter Tryz.func163, Tryz.ntmps163
  go_wp2_with fail
  refine (HA.out _).mono ?_
  rintro e w1 ⟨t, rfl, -, hb⟩
  have hW : Below w.heap.size w w1 := by exact bBel
  clear hb
  go_wp2_with fail
  go_ret
  exact ⟨rfl, hW⟩
theorem specFits_any (s : List UInt8) (x : Ch) (w : World) (hs : tv s = true) (hp : x.p.length ≤ 1048576) :
    Calls Tryz.prog 141 #[S s, chAgg x] w fun e w' => e = .returned (.bool (okF s x)) ∧ Below w.heap.size w w' := changeFits_any s x.a x.c x.p w hs hp

set_option maxRecDepth 100000 in
set_option maxHeartbeats 2000000 in
theorem implReverse_any (s : List UInt8) (x : Ch) (w : World) (hs : tv s = true) (hp : x.p.length ≤ 1048576) :
    Calls Tryz.prog 136 #[S s, chAgg x] w (RvPost s x w) := by
  have HA := Lib.hid (fun w => implFits_any s x w hs hp)
  have hl := tv_len hs
  unfold RvPost
  rcases hk : okF s x with _ | _
  · rw [hk] at HA
    simp only [Bool.false_eq_true, if_false]
    unfold c0
    unfold chAgg at HA ⊢
    clear hk
    go_enter Tryz.func136, Tryz.ntmps136
    go_wp2_with fail
    refine (HA.out _).mono ?_
    rintro e w1 ⟨rfl, hb⟩
    have yc : ∀ o, w1.cell? ⟨w.heap.size + 1, o, none⟩ = #[.int .i64 0, .int .i64 0, S []][o]? := (fun o => (hb.cell (p := ⟨w.heap.size + 1, o, none⟩) (by simp <;> omega)).trans (by simp [go_sem])); have yf : ∀ o, w1.frozen? ⟨w.heap.size + 1, o, none⟩ = false := (fun o => (hb.frozen (p := ⟨w.heap.size + 1, o, none⟩) (by simp <;> omega)).trans (by simp [go_sem])); have yz : w.heap.size + 1 < w1.heap.size := (by have := hb.size; (try simp at this); omega); have yy := yz
    have hW : Below w.heap.size w w1 := by exact bBel
    clear hb
    go_wp2_with fail
    refine bodyPost_ret (v := .tuple #[.agg #[.int .i64 0, .int .i64 0, S []], .bool false]) (by simp [results, Tryz.results136, go_sem, yc]) rfl ⟨rfl, by exact bBel⟩
  · rw [hk] at HA
    obtain ⟨b0, b1, b2, b3⟩ := okF_in hk
    simp only [if_true]
    have HR := Lib.hid (show rvF s x = ⟨x.a, x.p.length, (s.drop x.a.toNat).take x.c.toNat⟩ from rfl)
    clear hk
    obtain ⟨xa, xc, xp⟩ := x
    simp only at b0 b1 b2 b3 hp
    rw [HR.out]
    unfold chAgg at HA ⊢
    simp only at HA ⊢
    obtain ⟨n, rfl⟩ : ∃ n : Nat, xa = n := ⟨xa.toNat, by omega⟩
    obtain ⟨m, rfl⟩ : ∃ m : Nat, xc = m := ⟨xc.toNat, by omega⟩
    have hwr : IntKind.i64.wrap ((n : Int) + (m : Int)) = (n : Int) + (m : Int) := by rw [IntKind.wrap_i64]; omega
    have hn3 : ((n : Int) + (m : Int)).toNat = n + m := by omega
    have b4 : (0 : Int) ≤ (n : Int) + (m : Int) := by omega
    have b5 : (n : Int) ≤ (n : Int) + (m : Int) := by omega
    go_enter Tryz.func136, Tryz.ntmps136
    go_wp2_with fail
    refine (HA.out _).mono ?_
    rintro e w1 ⟨rfl, hb⟩
    have xc : ∀ o, w1.cell? ⟨w.heap.size, o, none⟩ = #[.int .i64 n, .int .i64 m, S xp][o]? := (fun o => (hb.cell (p := ⟨w.heap.size, o, none⟩) (by simp <;> omega)).trans (by simp [go_sem])); have xf : ∀ o, w1.frozen? ⟨w.heap.size, o, none⟩ = false := (fun o => (hb.frozen (p := ⟨w.heap.size, o, none⟩) (by simp <;> omega)).trans (by simp [go_sem])); have xz : w.heap.size < w1.heap.size := (by have := hb.size; (try simp at this); omega); have xy := xz
    have yc : ∀ o, w1.cell? ⟨w.heap.size + 1, o, none⟩ = #[.int .i64 0, .int .i64 0, S []][o]? := (fun o => (hb.cell (p := ⟨w.heap.size + 1, o, none⟩) (by simp <;> omega)).trans (by simp [go_sem])); have yf : ∀ o, w1.frozen? ⟨w.heap.size + 1, o, none⟩ = false := (fun o => (hb.frozen (p := ⟨w.heap.size + 1, o, none⟩) (by simp <;> omega)).trans (by simp [go_sem])); have yz : w.heap.size + 1 < w1.heap.size := (by have := hb.size; (try simp at this); omega); have yy := yz
    have hW : Below w.heap.size w w1 := by exact bBel
    clear hb HA HR
    have ne1 : ¬ w.heap.size + 1 = w.heap.size := by omega
    have ne2 : ¬ w.heap.size = w.heap.size + 1 := by omega
    go_wp2_with fail
    go_region
    all_goals
      go_wp2_with fail
      refine bodyPost_ret (v := .tuple #[.agg #[.int .i64 n, .int .i64 xp.length, S ((s.drop n).take m)], .bool true]) (by simp [results, Tryz.results136, go_sem, yc, List.drop_take]) rfl ⟨rfl, by exact bBel⟩

set_option maxRecDepth 100000 in
set_option maxHeartbeats 2000000 in
theorem specReverse_any (s : List UInt8) (x : Ch) (w : World) (hs : tv s = true) (hp : x.p.length ≤ 1048576) :
    Calls Tryz.prog 138 #[S s, chAgg x] w (RvPost s x w) := by
  have HA := Lib.hid (fun w => specFits_any s x w hs hp)
  have hl := tv_len hs
  unfold RvPost
  rcases hk : okF s x with _ | _
  · rw [hk] at HA
    simp only [Bool.false_eq_true, if_false]
    unfold c0
    unfold chAgg at HA ⊢
    clear hk
    go_enter Tryz.func138, Tryz.ntmps138
    go_wp2_with fail
    refine (HA.out _).mono ?_
    rintro e w1 ⟨rfl, hb⟩
    have yc : ∀ o, w1.cell? ⟨w.heap.size + 1, o, none⟩ = #[.int .i64 0, .int .i64 0, S []][o]? := (fun o => (hb.cell (p := ⟨w.heap.size + 1, o, none⟩) (by simp <;> omega)).trans (by simp [go_sem])); have yf : ∀ o, w1.frozen? ⟨w.heap.size + 1, o, none⟩ = false := (fun o => (hb.frozen (p := ⟨w.heap.size + 1, o, none⟩) (by simp <;> omega)).trans (by simp [go_sem])); have yz : w.heap.size + 1 < w1.heap.size := (by have := hb.size; (try simp at this); omega); have yy := yz
    have hW : Below w.heap.size w w1 := by exact bBel
    clear hb
    go_wp2_with fail
    refine bodyPost_ret (v := .tuple #[.agg #[.int .i64 0, .int .i64 0, S []], .bool false]) (by simp [results, Tryz.results138, go_sem, yc]) rfl ⟨rfl, by exact bBel⟩
  · rw [hk] at HA
    obtain ⟨b0, b1, b2, b3⟩ := okF_in hk
    simp only [if_true]
    have HR := Lib.hid (show rvF s x = ⟨x.a, x.p.length, (s.drop x.a.toNat).take x.c.toNat⟩ from rfl)
    clear hk
    obtain ⟨xa, xc, xp⟩ := x
    simp only at b0 b1 b2 b3 hp
    rw [HR.out]
    unfold chAgg at HA ⊢
    simp only at HA ⊢
    obtain ⟨n, rfl⟩ : ∃ n : Nat, xa = n := ⟨xa.toNat, by omega⟩
    obtain ⟨m, rfl⟩ : ∃ m : Nat, xc = m := ⟨xc.toNat, by omega⟩
    have hwr : IntKind.i64.wrap ((n : Int) + (m : Int)) = (n : Int) + (m : Int) := by rw [IntKind.wrap_i64]; omega
    have hn3 : ((n : Int) + (m : Int)).toNat = n + m := by omega
    have b4 : (0 : Int) ≤ (n : Int) + (m : Int) := by omega
    have b5 : (n : Int) ≤ (n : Int) + (m : Int) := by omega
    go_enter Tryz.func138, Tryz.ntmps138
    go_wp2_with fail
    refine (HA.out _).mono ?_
    rintro e w1 ⟨rfl, hb⟩
    have xc : ∀ o, w1.cell? ⟨w.heap.size, o, none⟩ = #[.int .i64 n, .int .i64 m, S xp][o]? := (fun o => (hb.cell (p := ⟨w.heap.size, o, none⟩) (by simp <;> omega)).trans (by simp [go_sem])); have xf : ∀ o, w1.frozen? ⟨w.heap.size, o, none⟩ = false := (fun o => (hb.frozen (p := ⟨w.heap.size, o, none⟩) (by simp <;> omega)).trans (by simp [go_sem])); have xz : w.heap.size < w1.heap.size := (by have := hb.size; (try simp at this); omega); have xy := xz
    have yc : ∀ o, w1.cell? ⟨w.heap.size + 1, o, none⟩ = #[.int .i64 0, .int .i64 0, S []][o]? := (fun o => (hb.cell (p := ⟨w.heap.size + 1, o, none⟩) (by simp <;> omega)).trans (by simp [go_sem])); have yf : ∀ o, w1.frozen? ⟨w.heap.size + 1, o, none⟩ = false := (fun o => (hb.frozen (p := ⟨w.heap.size + 1, o, none⟩) (by simp <;> omega)).trans (by simp [go_sem])); have yz : w.heap.size + 1 < w1.heap.size := (by have := hb.size; (try simp at this); omega); have yy := yz
    have hW : Below w.heap.size w w1 := by exact bBel
    clear hb HA HR
    have ne1 : ¬ w.heap.size + 1 = w.heap.size := by omega
    have ne2 : ¬ w.heap.size = w.heap.size + 1 := by omega
    go_wp2_with fail
    go_region
    all_goals
      go_wp2_with fail
      refine bodyPost_ret (v := .tuple #[.agg #[.int .i64 n, .int .i64 xp.length, S ((s.drop n).take m)], .bool true]) (by simp [results, Tryz.results138, go_sem, yc, List.drop_take]) rfl ⟨rfl, by exact bBel⟩

end Go.Proofs.YtbjlkdenkmbepaaGreatDoor

namespace Go.Proofs.YtbjlkdenkmbepaaGreatDoor
open Go.RowKit

theorem mo_info : (Tryz.prog.info? 96).map (fun i => (i.zero, i.size, i.bytes)) = some (some (.agg #[.int .i64 0, .int .i64 0, .int .i64 0, S [], .int .i64 0, .int .i64 0, S []]), 7, 72) := by kernel_rfl
/-- a slice of states whose texts are small. -/
def RdM (w : World) (v : Value) (ms : List Mo) : Prop := RdL w 7 moC v ms ∧ ∀ m ∈ ms, m.f.p.length ≤ 1048576 ∧ m.b.p.length ≤ 1048576
theorem RdM.up {w w' : World} {v : Value} {ms : List Mo} (h : RdM w v ms) (hb : Below w.heap.size w w') : RdM w' v ms := ⟨h.1.up hb, h.2⟩
theorem RdM.hup {w w' : World} {v : Value} {ms : List Mo} (h : Hid (RdM w v ms)) (hb : Below w.heap.size w w') : Hid (RdM w' v ms) := Lib.hid (h.out.up hb)
theorem RdM.len {w : World} {v : Value} {ms : List Mo} (h : RdM w v ms) (k : Nat) : (ms.getD k m0).f.p.length ≤ 1048576 ∧ (ms.getD k m0).b.p.length ≤ 1048576 := by
  by_cases hk : k < ms.length
  · rw [List.getD_eq_getElem?_getD, List.getElem?_eq_getElem hk]
    exact h.2 _ (List.getElem_mem hk)
  · rw [List.getD_eq_getElem?_getD, List.getElem?_eq_none (by omega)]
    exact ⟨by decide, by decide⟩
theorem RdM.cells {w : World} {A : Option Addr} {n c : Nat} {ms : List Mo} (h : RdM w (.slice A n c) ms) {k : Nat} (hk : k < ms.length) {m : Mo} (hm : ms.getD k m0 = m) :
    ∃ b o, A = some ⟨b, o, none⟩ ∧ b < w.heap.size ∧ w.cell? ⟨b, o + k * 7, none⟩ = some (.int .i64 m.par) ∧ w.cell? ⟨b, o + k * 7 + 1, none⟩ = some (.int .i64 m.f.a) ∧ w.cell? ⟨b, o + k * 7 + 2, none⟩ = some (.int .i64 m.f.c) ∧
      w.cell? ⟨b, o + k * 7 + 3, none⟩ = some (S m.f.p) ∧ w.cell? ⟨b, o + k * 7 + 4, none⟩ = some (.int .i64 m.b.a) ∧ w.cell? ⟨b, o + k * 7 + 5, none⟩ = some (.int .i64 m.b.c) ∧ w.cell? ⟨b, o + k * 7 + 6, none⟩ = some (S m.b.p) := by
  obtain ⟨b, o, hA, hb, hc⟩ := h.1.cells moC_len hk
  have e : ms[k] = m := by rw [← hm, List.getD_eq_getElem?_getD, List.getElem?_eq_getElem hk]; rfl
  rw [e] at hc
  exact ⟨b, o, hA, hb, hc 0 _ rfl, hc 1 _ rfl, hc 2 _ rfl, hc 3 _ rfl, hc 4 _ rfl, hc 5 _ rfl, hc 6 _ rfl⟩
theorem mo_oneCell (ms : List Mo) : ∀ x ∈ ms.flatMap moC, x.oneCell' = true := by
  intro x hx
  rw [List.mem_flatMap] at hx
  obtain ⟨m, _, hx⟩ := hx
  simp [moC] at hx
  rcases hx with rfl | rfl | rfl | rfl | rfl | rfl | rfl <;> rfl
/-- what a call gives that returns a history of the call's own. -/
abbrev OwnM (w : World) (base : Nat) (v : Value) (ms : List Mo) : Prop := Own w base 96 7 v ms.length (ms.flatMap moC)
def CopyPost (ms : List Mo) (a : Int) (w : World) (e : Ending) (w' : World) : Prop :=
  ∃ v, e = .returned (.agg #[v, .int .i64 a]) ∧ OwnM w' w.heap.size v ms ∧ Below w.heap.size w w'

theorem own_set {w : World} {base size n : Nat} {e : TypeId} {v : Value} {xs : List Value} (h : Own w base e size v n xs) (p : Addr) (u : Value) (hp : p.block < base) : Own (w.setCell p u) base e size v n xs := by
  refine ⟨h.1, ?_⟩
  rcases h.2 with hn | ⟨g, cap, cur, rfl, hbg, hgg, rest⟩
  · exact .inl hn
  · refine .inr ⟨g, cap, cur, rfl, hbg, ?_, rest⟩
    rw [Below.heap_setCell w p u g (by omega)]
    exact hgg

set_option maxRecDepth 100000 in
set_option maxHeartbeats 1000000 in
theorem clone_any (v : Value) (ms : List Mo) (a : Int) (w : World) (h : RdM w v ms) (hn : ms.length ≤ 1048576) :
    Calls Tryz.prog 83 #[.agg #[v, .int .i64 a]] w (CopyPost ms a w) := by
  obtain ⟨A, c, rfl, _, _⟩ := h.1.form
  obtain ⟨i0, hi, hz0, hz1, hz2⟩ := info_parts mo_info
  have H2 := Lib.hid (fun (w' : World) (hb : Below w.heap.size w w') => (h.up hb).1)
  go_enter Tryz.func83, Tryz.ntmps83
  go_wp2_with (at_builtin; refine wpList_append_any _ rfl _ _ 23 rfl (w.heap.size + 2) 96 i0 _ 7 72 Tryz.underlying23 hi hz0 hz1 hz2 rfl (by decide) _ _ _ rfl (World.ownsRow_nil _ _ _ _) _ ms.length _ rfl (H2.out _ (by exact bBel)) (mo_oneCell ms) (by unfold maxLen; omega) (by omega) (by first | (simp; done) | (simp; omega)) ?_; intro v1 w1 how hgr; obtain ⟨A1, c1, rfl, -, -⟩ := (RdL.of_own (f := moC) (bs := ms) (by simpa using how)).form; have hb := up_grown (Below.refl _ _) hgr (fun k hk => by cases hk); have xc : ∀ o, w1.cell? ⟨w.heap.size, o, none⟩ = #[.slice A ms.length c, .int .i64 a][o]? := (fun o => (hb.cell (p := ⟨w.heap.size, o, none⟩) (by simp <;> omega)).trans (by simp [go_sem])); have xf : ∀ o, w1.frozen? ⟨w.heap.size, o, none⟩ = false := (fun o => (hb.frozen (p := ⟨w.heap.size, o, none⟩) (by simp <;> omega)).trans (by simp [go_sem])); have xz : w.heap.size < w1.heap.size := (by have := hb.size; (try simp at this); omega); have xy := xz; have yc : ∀ o, w1.cell? ⟨w.heap.size + 1, o, none⟩ = #[.slice none 0 0, .int .i64 0][o]? := (fun o => (hb.cell (p := ⟨w.heap.size + 1, o, none⟩) (by simp <;> omega)).trans (by simp [go_sem])); have yf : ∀ o, w1.frozen? ⟨w.heap.size + 1, o, none⟩ = false := (fun o => (hb.frozen (p := ⟨w.heap.size + 1, o, none⟩) (by simp <;> omega)).trans (by simp [go_sem])); have yz : w.heap.size + 1 < w1.heap.size := (by have := hb.size; (try simp at this); omega); have yy := yz; have hW : Below w.heap.size w w1 := (by exact bBel); clear hb hgr)
  have HO := Lib.hid how
  refine bodyPost_ret (v := .agg #[.slice A1 ms.length c1, .int .i64 a]) (by simp [results, Tryz.results83, go_sem, yc]) rfl ⟨_, rfl, ?_, by exact bBel⟩
  have h1 := HO.out
  rw [Nat.zero_add, List.nil_append] at h1
  exact own_base (own_set (own_set (own_set h1 _ _ (by simp)) _ _ (by simp)) _ _ (by simp)) (by omega)

end Go.Proofs.YtbjlkdenkmbepaaGreatDoor
