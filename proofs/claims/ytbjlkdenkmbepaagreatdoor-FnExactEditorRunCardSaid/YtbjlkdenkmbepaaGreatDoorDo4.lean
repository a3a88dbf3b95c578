/- What is proved here: the program's EditorDo out of what do does, in one word. No condition. -/
import Derived.Test.YtbjlkdenkmbepaaGreatDoorDo3
import Derived.Test.YtbjlkdenkmbepaaGreatDoorSp2
namespace Go.Proofs.YtbjlkdenkmbepaaGreatDoor
open Go.RowKit
set_option linter.unusedVariables false

set_option maxRecDepth 100000 in
set_option maxHeartbeats 1000000 in
theorem implEditorDo_done (act : Value) (v : Value) (ms : List Mo) (pa : Int) (s : List UInt8) (x : Int) (cl : List UInt8) (w : World) (h : RdM w v ms) (hok : EdOk ms pa s x cl)
    (s2 : List UInt8) (x2 : Int) (cl2 : List UInt8) (ms2 : List Mo) (a2 : Int) (hn2 : ms2.length ≤ 1048576)
    (D : ∀ b w', Below w.heap.size w w' → EdBox w' b s x cl ms pa → Calls Tryz.prog 65 #[.pointer (some ⟨b, 0, none⟩), act] w' (DoPost b s2 x2 cl2 ms2 a2 true w')) :
    Calls Tryz.prog 21 #[edAgg s x cl v pa, act] w (EdDone s2 x2 cl2 ms2 a2 true w) := by
  have hg := hok.1
  have hn : ms.length ≤ 1048576 := by obtain ⟨o, hg⟩ := hg; have := hg.n30; omega
  have hs : s.length ≤ maxLen := by obtain ⟨o, hg⟩ := hg; have := tv_len hg.t; unfold maxLen; omega
  have hc : cl.length ≤ maxLen := by have := tv_len hok.2.2; unfold maxLen; omega
  obtain ⟨A, c, rfl, _, _⟩ := h.1.form
  have T := Lib.hid (fun (w' : World) (hb : Below w.heap.size w w') => implEditorValid_any (.slice A ms.length c) ms pa s x cl w' (h.up hb) hn hs hc)
  have C := Lib.hid (fun (w' : World) (hb : Below w.heap.size w w') => edClone_any (.slice A ms.length c) ms pa s x cl w' (h.up hb) hn)
  have C2 := Lib.hid (fun (v4 : Value) (w' : World) (h4 : RdM w' v4 ms2) => edClone_any v4 ms2 a2 s2 x2 cl2 w' h4 hn2)
  have HD := Lib.hid D
  have HO := Lib.hid hok
  have HP := Lib.hid h.2
  clear h hg D hok hn2
  unfold EdDone
  unfold EdNew at C C2
  unfold edAgg at T C C2 ⊢
  go_enter Tryz.func21, Tryz.ntmps21
  go_wp2_with fail
  refine (T.out _ (by exact bBel)).mono ?_
  rintro e w1 ⟨ok, rfl, hh, hb⟩
  obtain rfl : ok = true := hh.2 HO.out
  have xc : ∀ o, w1.cell? ⟨w.heap.size, o, none⟩ = #[S s, .int .i64 x, S cl, .slice A ms.length c, .int .i64 pa][o]? := (fun o => (hb.cell (p := ⟨w.heap.size, o, none⟩) (by simp <;> omega)).trans (by simp [go_sem])); have xf : ∀ o, w1.frozen? ⟨w.heap.size, o, none⟩ = false := (fun o => (hb.frozen (p := ⟨w.heap.size, o, none⟩) (by simp <;> omega)).trans (by simp [go_sem])); have xz : w.heap.size < w1.heap.size := (by have := hb.size; (try simp at this); omega); have xy := xz
  have yc : ∀ o, w1.cell? ⟨w.heap.size + 1, o, none⟩ = #[S [], .int .i64 0, S [], .slice none 0 0, .int .i64 0][o]? := (fun o => (hb.cell (p := ⟨w.heap.size + 1, o, none⟩) (by simp <;> omega)).trans (by simp [go_sem])); have yf : ∀ o, w1.frozen? ⟨w.heap.size + 1, o, none⟩ = false := (fun o => (hb.frozen (p := ⟨w.heap.size + 1, o, none⟩) (by simp <;> omega)).trans (by simp [go_sem])); have yz : w.heap.size + 1 < w1.heap.size := (by have := hb.size; (try simp at this); omega); have yy := yz
  have hW : Below w.heap.size w w1 := by exact bBel
  clear hb hh T
  go_wp2_with fail
  refine (C.out _ (by exact bBel)).mono ?_
  rintro e w2 ⟨v2, rfl, ho, hb⟩
  have hB : Below w1.heap.size w1 w2 := (by exact bBel); replace xc := up_c hB xz xc; replace xf := up_f hB xz xf; replace xz := Nat.lt_of_lt_of_le xz hB.size; replace yc := up_c hB yz yc; replace yf := up_f hB yz yf; replace yz := Nat.lt_of_lt_of_le yz hB.size; have sw2 := hB.size; replace hW := up_trans hW hB; clear hB
  obtain ⟨A2, c2, rfl, -, -⟩ := (RdL.of_own (f := moC) (bs := ms) ho).form
  have HO2 := Lib.hid ho
  clear hb ho
  go_wp2_with fail
  have hE : EdBox (w2.alloc (.cells #[S s, .int .i64 x, S cl, .slice A2 ms.length c2, .int .i64 pa] 27)) w2.heap.size s x cl ms pa :=
    ⟨_, new_is w2 _ _, RdM.up ⟨RdL.of_own HO2.out, HP.out⟩ (up_alloc (Below.refl _ _) _), (fun e => by have := (HO2.out.lt _ e).2; omega), by simp⟩
  refine (HD.out _ _ (up_alloc hW _) hE).mono ?_
  rintro e w4 ⟨rfl, hgr0, hE4⟩
  have hgr : w2.grownBy w4 (some w2.heap.size) := gb_trans (gb_alloc (World.grownBy.refl _ _) _) hgr0
  have yc4 := gup_c hgr yz (by omega) yc
  have yf4 := gup_f hgr yz (by omega) yf
  have yz4 := Nat.lt_of_lt_of_le yz hgr.size
  have hW4 : Below w.heap.size w w4 := up_grown hW hgr (fun k hk => by injection hk with hk; omega)
  obtain ⟨v4, hI4, hv4, -, hz4⟩ := hE4 rfl
  obtain ⟨A4, c4, rfl, -, -⟩ := hv4.1.form
  have zc4 := hI4.1
  have HV4 := Lib.hid hv4
  clear hgr0 hgr xc xf yc yf xz yz hE hW HO2 HD hv4 hI4 hE4
  go_wp2_with fail
  refine (C2.out _ _ HV4.out).mono ?_
  rintro e w5 ⟨v5, rfl, ho, hb⟩
  have yc := up_c hb yz4 yc4
  have yf := up_f hb yz4 yf4
  have hW := up_trans hW4 hb
  have HO5 := Lib.hid (own_base ho (show w.heap.size + 2 ≤ _ by omega))
  obtain ⟨A5, c5, rfl, -, -⟩ := (RdL.of_own (f := moC) (bs := ms2) ho).form
  clear hb ho hW4 zc4 yc4 yf4
  go_wp2_with fail
  refine bodyPost_ret (v := .tuple #[.agg #[S s2, .int .i64 x2, S cl2, .slice A5 ms2.length c5, .int .i64 a2], .bool true]) (by simp [results, Tryz.results21, go_sem, yc]) rfl ⟨_, rfl, ?_, by (repeat refine up_set ?_ _ _ (by first | exact Nat.le_refl _ | (simp; done) | (simp; omega) | omega)); exact hW⟩
  exact own_base (own_set (own_set (own_set (own_set (own_set HO5.out _ _ (by simp)) _ _ (by simp)) _ _ (by simp)) _ _ (by simp)) _ _ (by simp)) (by omega)

/-- box b holds editor e. -/
def EdB (w : World) (b : Nat) (e : Es) : Prop := EdBox w b e.s e.x e.cl e.ms e.pa
/-- what do leaves: the new editor in box b, if it is done. -/
def DoP (b : Nat) (r : Option Es) (w : World) (en : Ending) (w' : World) : Prop := en = .returned (.bool r.isSome) ∧ w.grownBy w' (some b) ∧ ∀ e2, r = some e2 → EdB w' b e2
/-- what EditorDo gives. -/
def EdGot (e : Es) (ok : Bool) (w : World) (en : Ending) (w' : World) : Prop := EdDone e.s e.x e.cl e.ms e.pa ok w en w'
def edV (e : Es) (v : Value) : Value := edAgg e.s e.x e.cl v e.pa
theorem implEditorDo_lift (act : Value) (v : Value) (e : Es) (r : Option Es) (w : World) (h : RdM w v e.ms) (hok : EdOk e.ms e.pa e.s e.x e.cl) (hr : ∀ e2, r = some e2 → e2.ms.length ≤ 1048576)
    (D : ∀ b w', Below w.heap.size w w' → EdB w' b e → Calls Tryz.prog 65 #[.pointer (some ⟨b, 0, none⟩), act] w' (DoP b r w')) :
    Calls Tryz.prog 21 #[edV e v, act] w (EdGot (r.getD e) r.isSome w) := by
  cases r with
  | none => exact implEditorDo_fail act v e.ms e.pa e.s e.x e.cl w h hok e.s e.x e.cl e.ms e.pa (fun b w' hb hE => (D b w' hb hE).mono fun _ _ ⟨h1, h2, _⟩ => ⟨h1, h2, fun h => by cases h⟩)
  | some e2 => exact implEditorDo_done act v e.ms e.pa e.s e.x e.cl w h hok e2.s e2.x e2.cl e2.ms e2.pa (hr e2 rfl) (fun b w' hb hE => (D b w' hb hE).mono fun _ _ ⟨h1, h2, h3⟩ => ⟨h1, h2, fun _ => h3 e2 rfl⟩)

end Go.Proofs.YtbjlkdenkmbepaaGreatDoor
