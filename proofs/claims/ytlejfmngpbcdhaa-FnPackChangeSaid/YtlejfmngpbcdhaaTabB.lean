/- What is proved here: what a changed table is, and the program's TableChange where nothing is changed. No condition. -/
import Derived.Test.YtlejfmngpbcdhaaTabA
import Derived.Test.YtlejfmngpbcdhaaHist1
namespace Go.Proofs.Ytlejfmngpbcdhaa
open Go.RowKit
set_option linter.unusedVariables false

theorem tbB_out {f m : List UInt8} {ps : List Pc} (h : tbB f m ps = true) : tv f = true ∧ f.length ≤ 120 ∧ m.length ≤ 400 ∧ m.all okC = true ∧ (∀ p ∈ ps, pcOk f m p = true) ∧ psSum ps ≤ 120 := by
  unfold tbB at h
  simp only [Bool.and_eq_true, decide_eq_true_eq] at h
  have h0 := psOk_sum ps 0 (by omega) h.2
  exact ⟨h.1.1.1, tv_len h.1.1.1, h.1.1.2, h.1.2, psOk_all ps 0 h.2, by omega⟩
theorem tbT_tv {f m : List UInt8} {ps : List Pc} (h : tbB f m ps = true) : tv (tbT f m ps) = true := by
  obtain ⟨h1, h2, h3, h4, h5, h6⟩ := tbB_out h
  have hl := tbT_len ps h5
  unfold tv
  rw [Bool.and_eq_true, decide_eq_true_eq, List.all_eq_true]
  refine ⟨fun c hc => ?_, by omega⟩
  unfold tbT at hc
  rw [List.mem_flatMap] at hc
  obtain ⟨p, hp, hc⟩ := hc
  unfold pcT at hc
  have hc := List.mem_of_mem_drop (List.mem_of_mem_take hc)
  have hf : f.all okC = true := by unfold tv at h1; rw [Bool.and_eq_true] at h1; exact h1.1
  rw [List.all_eq_true] at hf h4
  split at hc
  · exact h4 c hc
  · exact hf c hc
def putP (m p : List UInt8) : List Pc := if p = [] then [] else [⟨true, m.length, p.length⟩]
/-- the pieces of a changed table. -/
def tcP (m : List UInt8) (ps : List Pc) (x : Ch) : List Pc := cutA x.a ps ++ putP m x.p ++ cutB (x.a + x.c) ps
/-- a call that returns a table whose pieces are the call's own, and a word. -/
def TcPost (f m : List UInt8) (ps : List Pc) (ok : Bool) (w : World) (e : Ending) (w' : World) : Prop := ∃ u, e = .returned (.tuple #[tbAgg f m u, .bool ok]) ∧ OwnP w' w.heap.size u ps ∧ Below w.heap.size w w'

set_option maxRecDepth 100000 in
set_option maxHeartbeats 1000000 in
theorem implTableChange_no (f m : List UInt8) (v : Value) (ps : List Pc) (x : Ch) (w : World) (h : RdP w v ps) (hf : f.length ≤ 1048576) (hm : m.length ≤ 1048576) (hv : tbB f m ps = false) :
    Calls Try.prog 23 #[tbAgg f m v, chAgg x] w (TcPost [] [] [] false w) := by
  obtain ⟨A, c, rfl, hpl, _⟩ := h.form
  have T := Lib.hid (fun (w' : World) (hb : Below w.heap.size w w') => implTableValid_any f m (.slice A ps.length c) ps w' (h.up hb) (by unfold maxLen; omega) (by unfold maxLen; omega))
  rw [hv] at T
  clear h hv
  unfold chAgg tbAgg at *
  go_enter Try.func23, Try.ntmps23
  go_wp2_with fail
  refine (T.out _ (by (repeat (first | exact Below.refl _ _ | assumption | refine Below.drew ?_ | refine up_drewN ?_ _ | refine up_alloc ?_ _ | refine up_set ?_ _ _ (by first | exact Nat.le_refl _ | (simp; done) | (simp; omega) | omega) | refine up_trans ?_ (by assumption))))).mono ?_
  rintro e w1 ⟨rfl, hb⟩
  have yc : ∀ o, w1.cell? ⟨w.heap.size + 2, o, none⟩ = #[S [], S [], .slice none 0 0][o]? := (fun o => (hb.cell (p := ⟨w.heap.size + 2, o, none⟩) (by simp <;> omega)).trans (by simp [go_sem])); have yf : ∀ o, w1.frozen? ⟨w.heap.size + 2, o, none⟩ = false := (fun o => (hb.frozen (p := ⟨w.heap.size + 2, o, none⟩) (by simp <;> omega)).trans (by simp [go_sem])); have yz : w.heap.size + 2 < w1.heap.size := (by have := hb.size; (try simp at this); omega); have yy := yz
  have hW : Below w.heap.size w w1 := by (repeat (first | exact Below.refl _ _ | assumption | refine Below.drew ?_ | refine up_drewN ?_ _ | refine up_alloc ?_ _ | refine up_set ?_ _ _ (by first | exact Nat.le_refl _ | (simp; done) | (simp; omega) | omega) | refine up_trans ?_ (by assumption)))
  clear hb T
  go_wp2_with fail
  refine bodyPost_ret (v := .tuple #[tbAgg [] [] (.slice none 0 0), .bool false]) (by simp [results, Try.results23, go_sem, yc, tbAgg]) rfl ⟨_, rfl, World.ownsRow_nil _ _ _ _, by (repeat (first | exact Below.refl _ _ | assumption | refine Below.drew ?_ | refine up_drewN ?_ _ | refine up_alloc ?_ _ | refine up_set ?_ _ _ (by first | exact Nat.le_refl _ | (simp; done) | (simp; omega) | omega) | refine up_trans ?_ (by assumption)))⟩

set_option maxRecDepth 100000 in
set_option maxHeartbeats 1000000 in
theorem implTableChange_bad (f m : List UInt8) (v : Value) (ps : List Pc) (x : Ch) (w : World) (h : RdP w v ps) (hv : tbB f m ps = true) (hp : x.p.length ≤ 1048576) (hbad : okF (tbT f m ps) x = true → 400 < m.length + x.p.length) :
    Calls Try.prog 23 #[tbAgg f m v, chAgg x] w (TcPost f m ps false w) := by
  obtain ⟨-, hf, hm, -, hall, hsum⟩ := tbB_out hv
  have hcount : (ps.length : Int) ≤ 120 := by have := len_sum (fun p hp' => (pcOk_in (hall p hp')).2.1); omega
  obtain ⟨A, c, rfl, hpl, _⟩ := h.form
  have T := Lib.hid (fun (w' : World) (hb : Below w.heap.size w w') => implTableValid_any f m (.slice A ps.length c) ps w' (h.up hb) (by unfold maxLen; omega) (by unfold maxLen; omega))
  have W := Lib.hid (fun (w' : World) (hb : Below w.heap.size w w') => implWhole_any f m (.slice A ps.length c) ps w' (h.up hb) hall hsum (by omega) (by omega))
  have C := Lib.hid (fun (w' : World) (hb : Below w.heap.size w w') => cloneT_any f m (.slice A ps.length c) ps w' (h.up hb) (by omega))
  have F := Lib.hid (fun w' => implFits_any (tbT f m ps) x w' (tbT_tv hv) hp)
  rw [hv] at T
  generalize tbT f m ps = s at *
  generalize okF s x = ok at *
  obtain ⟨fa, fc, fp⟩ := x
  clear h hv
  unfold chAgg TbPost tbAgg at *
  simp only at hp hbad
  have hadd : IntKind.i64.wrap ((m.length : Int) + (fp.length : Int)) = (m.length : Int) + (fp.length : Int) := IntWalk.i64_in _ (by omega)
  go_enter Try.func23, Try.ntmps23
  go_wp2_with fail
  refine (T.out _ (by (repeat (first | exact Below.refl _ _ | assumption | refine Below.drew ?_ | refine up_drewN ?_ _ | refine up_alloc ?_ _ | refine up_set ?_ _ _ (by first | exact Nat.le_refl _ | (simp; done) | (simp; omega) | omega) | refine up_trans ?_ (by assumption))))).mono ?_
  rintro e w1 ⟨rfl, hb⟩
  have xc : ∀ o, w1.cell? ⟨w.heap.size, o, none⟩ = #[S f, S m, .slice A ps.length c][o]? := (fun o => (hb.cell (p := ⟨w.heap.size, o, none⟩) (by simp <;> omega)).trans (by simp [go_sem])); have xf : ∀ o, w1.frozen? ⟨w.heap.size, o, none⟩ = false := (fun o => (hb.frozen (p := ⟨w.heap.size, o, none⟩) (by simp <;> omega)).trans (by simp [go_sem])); have xz : w.heap.size < w1.heap.size := (by have := hb.size; (try simp at this); omega); have xy := xz
  have dc : ∀ o, w1.cell? ⟨w.heap.size + 1, o, none⟩ = #[.int .i64 fa, .int .i64 fc, S fp][o]? := (fun o => (hb.cell (p := ⟨w.heap.size + 1, o, none⟩) (by simp <;> omega)).trans (by simp [go_sem])); have df : ∀ o, w1.frozen? ⟨w.heap.size + 1, o, none⟩ = false := (fun o => (hb.frozen (p := ⟨w.heap.size + 1, o, none⟩) (by simp <;> omega)).trans (by simp [go_sem])); have dz : w.heap.size + 1 < w1.heap.size := (by have := hb.size; (try simp at this); omega); have dy := dz
  have yc : ∀ o, w1.cell? ⟨w.heap.size + 2, o, none⟩ = #[S [], S [], .slice none 0 0][o]? := (fun o => (hb.cell (p := ⟨w.heap.size + 2, o, none⟩) (by simp <;> omega)).trans (by simp [go_sem])); have yf : ∀ o, w1.frozen? ⟨w.heap.size + 2, o, none⟩ = false := (fun o => (hb.frozen (p := ⟨w.heap.size + 2, o, none⟩) (by simp <;> omega)).trans (by simp [go_sem])); have yz : w.heap.size + 2 < w1.heap.size := (by have := hb.size; (try simp at this); omega); have yy := yz
  have hW : Below w.heap.size w w1 := by (repeat (first | exact Below.refl _ _ | assumption | refine Below.drew ?_ | refine up_drewN ?_ _ | refine up_alloc ?_ _ | refine up_set ?_ _ _ (by first | exact Nat.le_refl _ | (simp; done) | (simp; omega) | omega) | refine up_trans ?_ (by assumption)))
  have hs1 : w.heap.size + 3 ≤ w1.heap.size := by omega
  clear hb T xy dy yy
  go_wp2_with fail
  refine (W.out _ (by (repeat (first | exact Below.refl _ _ | assumption | refine Below.drew ?_ | refine up_drewN ?_ _ | refine up_alloc ?_ _ | refine up_set ?_ _ _ (by first | exact Nat.le_refl _ | (simp; done) | (simp; omega) | omega) | refine up_trans ?_ (by assumption))))).mono ?_
  rintro e w2 ⟨rfl, hb⟩
  have hB : Below w1.heap.size w1 w2 := (by (repeat (first | exact Below.refl _ _ | assumption | refine Below.drew ?_ | refine up_drewN ?_ _ | refine up_alloc ?_ _ | refine up_set ?_ _ _ (by first | exact Nat.le_refl _ | (simp; done) | (simp; omega) | omega) | refine up_trans ?_ (by assumption)))); replace xc := up_c hB xz xc; replace xf := up_f hB xz xf; replace xz := Nat.lt_of_lt_of_le xz hB.size; replace dc := up_c hB dz dc; replace df := up_f hB dz df; replace dz := Nat.lt_of_lt_of_le dz hB.size; replace yc := up_c hB yz yc; replace yf := up_f hB yz yf; replace yz := Nat.lt_of_lt_of_le yz hB.size; have sw2 := hB.size; replace hW := up_trans hW hB; clear hB
  clear hb
  go_wp2_with fail
  refine (F.out _).mono ?_
  rintro e w3 ⟨rfl, hb⟩
  have hB : Below w2.heap.size w2 w3 := (by (repeat (first | exact Below.refl _ _ | assumption | refine Below.drew ?_ | refine up_drewN ?_ _ | refine up_alloc ?_ _ | refine up_set ?_ _ _ (by first | exact Nat.le_refl _ | (simp; done) | (simp; omega) | omega) | refine up_trans ?_ (by assumption)))); replace xc := up_c hB xz xc; replace xf := up_f hB xz xf; replace xz := Nat.lt_of_lt_of_le xz hB.size; replace dc := up_c hB dz dc; replace df := up_f hB dz df; replace dz := Nat.lt_of_lt_of_le dz hB.size; replace yc := up_c hB yz yc; replace yf := up_f hB yz yf; replace yz := Nat.lt_of_lt_of_le yz hB.size; have sw3 := hB.size; replace hW := up_trans hW hB; clear hB
  have hs3 : w.heap.size + 3 ≤ w3.heap.size := by omega
  clear hb
  have tail : ∀ w4, ∀ u, OwnP w4 w3.heap.size u ps → Below w3.heap.size w3 w4 → ∃ A4 c4, u = .slice A4 ps.length c4 ∧ OwnP w4 (w.heap.size + 3) (.slice A4 ps.length c4) ps := fun w4 u ho hb => by
    obtain ⟨A4, c4, rfl, -, -⟩ := (RdL.of_own (f := pcC) (bs := ps) ho).form
    exact ⟨A4, c4, rfl, own_base ho hs3⟩
  have TL := Lib.hid tail
  clear tail
  rcases ok with _ | _
  · clear hadd hbad
    go_wp2_with fail
    refine (C.out _ (by (repeat (first | exact Below.refl _ _ | assumption | refine Below.drew ?_ | refine up_drewN ?_ _ | refine up_alloc ?_ _ | refine up_set ?_ _ _ (by first | exact Nat.le_refl _ | (simp; done) | (simp; omega) | omega) | refine up_trans ?_ (by assumption))))).mono ?_
    rintro e w4 ⟨u, rfl, ho, hb⟩
    obtain ⟨A4, c4, rfl, ho4⟩ := TL.out w4 u ho hb
    have HO := Lib.hid ho4
    have hB : Below w3.heap.size w3 w4 := (by (repeat (first | exact Below.refl _ _ | assumption | refine Below.drew ?_ | refine up_drewN ?_ _ | refine up_alloc ?_ _ | refine up_set ?_ _ _ (by first | exact Nat.le_refl _ | (simp; done) | (simp; omega) | omega) | refine up_trans ?_ (by assumption)))); replace yc := up_c hB yz yc; replace yf := up_f hB yz yf; replace yz := Nat.lt_of_lt_of_le yz hB.size; have sw4 := hB.size; replace hW := up_trans hW hB; clear hB
    clear hb ho ho4 TL xc xf dc df
    go_wp2_with fail
    refine bodyPost_ret (v := .tuple #[.agg #[S f, S m, .slice A4 ps.length c4], .bool false]) (by simp [results, Try.results23, go_sem, yc]) rfl ⟨_, rfl, ?_, by (repeat (first | exact Below.refl _ _ | assumption | refine Below.drew ?_ | refine up_drewN ?_ _ | refine up_alloc ?_ _ | refine up_set ?_ _ _ (by first | exact Nat.le_refl _ | (simp; done) | (simp; omega) | omega) | refine up_trans ?_ (by assumption)))⟩
    exact own_base (own_set (own_set (own_set HO.out _ _ (by simp)) _ _ (by simp)) _ _ (by simp)) (by omega)
  · have hlt : (400 : Int) < (m.length : Int) + (fp.length : Int) := by have := hbad rfl; omega
    clear hbad
    go_wp2_with fail
    refine (C.out _ (by (repeat (first | exact Below.refl _ _ | assumption | refine Below.drew ?_ | refine up_drewN ?_ _ | refine up_alloc ?_ _ | refine up_set ?_ _ _ (by first | exact Nat.le_refl _ | (simp; done) | (simp; omega) | omega) | refine up_trans ?_ (by assumption))))).mono ?_
    rintro e w4 ⟨u, rfl, ho, hb⟩
    obtain ⟨A4, c4, rfl, ho4⟩ := TL.out w4 u ho hb
    have HO := Lib.hid ho4
    have hB : Below w3.heap.size w3 w4 := (by (repeat (first | exact Below.refl _ _ | assumption | refine Below.drew ?_ | refine up_drewN ?_ _ | refine up_alloc ?_ _ | refine up_set ?_ _ _ (by first | exact Nat.le_refl _ | (simp; done) | (simp; omega) | omega) | refine up_trans ?_ (by assumption)))); replace yc := up_c hB yz yc; replace yf := up_f hB yz yf; replace yz := Nat.lt_of_lt_of_le yz hB.size; have sw4 := hB.size; replace hW := up_trans hW hB; clear hB
    clear hb ho ho4 TL xc xf dc df
    go_wp2_with fail
    refine bodyPost_ret (v := .tuple #[.agg #[S f, S m, .slice A4 ps.length c4], .bool false]) (by simp [results, Try.results23, go_sem, yc]) rfl ⟨_, rfl, ?_, by (repeat (first | exact Below.refl _ _ | assumption | refine Below.drew ?_ | refine up_drewN ?_ _ | refine up_alloc ?_ _ | refine up_set ?_ _ _ (by first | exact Nat.le_refl _ | (simp; done) | (simp; omega) | omega) | refine up_trans ?_ (by assumption)))⟩
    exact own_base (own_set (own_set (own_set HO.out _ _ (by simp)) _ _ (by simp)) _ _ (by simp)) (by omega)

end Go.Proofs.Ytlejfmngpbcdhaa
