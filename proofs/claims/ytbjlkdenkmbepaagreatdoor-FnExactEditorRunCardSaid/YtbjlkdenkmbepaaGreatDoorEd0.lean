/- What is proved here: What is proved here: contracts of EditorValid and EditorFirst in the program and in the reference. What is proved here: contracts of the reference's l1OwnHistory and l1OwnEditor. No condition. -/
import Derived.Test.YtbjlkdenkmbepaaGreatDoorHistF
import Derived.Test.YtbjlkdenkmbepaaGreatDoorHistC
import Derived.Test.YtbjlkdenkmbepaaGreatDoorBase
namespace Go.Proofs.YtbjlkdenkmbepaaGreatDoor
open Go.RowKit
set_option linter.unusedVariables false

/-- an editor as a value: its text, the cursor, what was cut out, its history. -/
def edAgg (s : List UInt8) (at_ : Int) (cl : List UInt8) (v : Value) (pa : Int) : Value := .agg #[S s, .int .i64 at_, S cl, v, .int .i64 pa]
/-- the editor is valid. -/
def EdOk (ms : List Mo) (pa : Int) (s : List UInt8) (at_ : Int) (cl : List UInt8) : Prop := (∃ o, HGood ms pa s o) ∧ inB at_ 0 s.length = true ∧ tv cl = true
def EvPost (ms : List Mo) (pa : Int) (s : List UInt8) (at_ : Int) (cl : List UInt8) (w : World) (e : Ending) (w' : World) : Prop :=
  ∃ ok : Bool, e = .returned (.bool ok) ∧ (ok = true ↔ EdOk ms pa s at_ cl) ∧ Below w.heap.size w w'

set_option maxRecDepth 100000 in
set_option maxHeartbeats 1000000 in
theorem implEditorValid_any (v : Value) (ms : List Mo) (pa : Int) (s : List UInt8) (at_ : Int) (cl : List UInt8) (w : World) (h : RdM w v ms) (hn : ms.length ≤ 1048576) (hs : s.length ≤ maxLen) (hc : cl.length ≤ maxLen) :
    Calls Tryz.prog 17 #[edAgg s at_ cl v pa] w (EvPost ms pa s at_ cl w) := by
  obtain ⟨A, c, rfl, _, _⟩ := h.1.form
  have T := Lib.hid (fun (w' : World) (hb : Below w.heap.size w w') => implHistoryValid_any (.slice A ms.length c) ms pa s w' (h.up hb) hn hs)
  have C := Lib.hid (fun w => implTextValid_any cl w hc)
  clear h
  unfold edAgg
  go_enter Tryz.func17, Tryz.ntmps17
  go_wp2_with fail
  refine (T.out _ (by exact bBel)).mono ?_
  rintro e w1 ⟨ok, rfl, hh, hb⟩
  have xc : ∀ o, w1.cell? ⟨w.heap.size, o, none⟩ = #[S s, .int .i64 at_, S cl, .slice A ms.length c, .int .i64 pa][o]? := (fun o => (hb.cell (p := ⟨w.heap.size, o, none⟩) (by simp <;> omega)).trans (by simp [go_sem])); have xf : ∀ o, w1.frozen? ⟨w.heap.size, o, none⟩ = false := (fun o => (hb.frozen (p := ⟨w.heap.size, o, none⟩) (by simp <;> omega)).trans (by simp [go_sem])); have xz : w.heap.size < w1.heap.size := (by have := hb.size; (try simp at this); omega); have xy := xz
  have hW : Below w.heap.size w w1 := by exact bBel
  clear hb T
  rcases ok with _ | _
  · have HP := Lib.hid (show ¬ EdOk ms pa s at_ cl from fun ⟨h1, _⟩ => by cases hh.2 h1)
    clear hh
    go_wp2_with fail
    go_ret
    exact ⟨false, rfl, ⟨(fun h => by cases h), fun h => absurd h HP.out⟩, hW⟩
  · have hg := hh.1 rfl
    have I := Lib.hid (fun w => isPlace_any s at_ w (by obtain ⟨o, ho⟩ := hg; exact ho.t))
    have HG := Lib.hid hg
    clear hh hg
    rcases hi : inB at_ 0 s.length with _ | _
    · rw [hi] at I
      have HP := Lib.hid (show ¬ EdOk ms pa s at_ cl from fun ⟨_, h1, _⟩ => by rw [hi] at h1; cases h1)
      clear hi
      go_wp2_with fail
      refine (I.out _).mono ?_
      rintro e w2 ⟨rfl, rfl⟩
      go_wp2_with fail
      go_ret
      exact ⟨false, rfl, ⟨(fun h => by cases h), fun h => absurd h HP.out⟩, hW⟩
    · rw [hi] at I
      have HP := Lib.hid (show tv cl = true ↔ EdOk ms pa s at_ cl from ⟨fun h => ⟨HG.out, hi, h⟩, fun h => h.2.2⟩)
      clear hi
      generalize tv cl = y at C HP
      go_wp2_with fail
      refine (I.out _).mono ?_
      rintro e w2 ⟨rfl, rfl⟩
      go_wp2_with fail
      refine (C.out _).mono ?_
      rintro e w3 ⟨rfl, rfl⟩
      go_wp2_with fail
      go_ret
      exact ⟨y, rfl, HP.out, hW⟩

set_option maxRecDepth 100000 in
set_option maxHeartbeats 1000000 in
theorem specEditorValid_any (v : Value) (ms : List Mo) (pa : Int) (s : List UInt8) (at_ : Int) (cl : List UInt8) (w : World) (h : RdM w v ms) (hn : ms.length ≤ 1048576) (hs : s.length ≤ maxLen) (hc : cl.length ≤ maxLen) :
    Calls Tryz.prog 37 #[edAgg s at_ cl v pa] w (EvPost ms pa s at_ cl w) := by
  obtain ⟨A, c, rfl, _, _⟩ := h.1.form
  have T := Lib.hid (fun (w' : World) (hb : Below w.heap.size w w') => specHistoryValid_any (.slice A ms.length c) ms pa s w' (h.up hb) hn hs)
  have C := Lib.hid (fun w => specTextValid_any cl w hc)
  have I := Lib.hid (fun w => l1In_any at_ 0 s.length w)
  clear h
  unfold edAgg
  go_enter Tryz.func37, Tryz.ntmps37
  go_wp2_with fail
  refine (T.out _ (by exact bBel)).mono ?_
  rintro e w1 ⟨ok, rfl, hh, hb⟩
  have xc : ∀ o, w1.cell? ⟨w.heap.size, o, none⟩ = #[S s, .int .i64 at_, S cl, .slice A ms.length c, .int .i64 pa][o]? := (fun o => (hb.cell (p := ⟨w.heap.size, o, none⟩) (by simp <;> omega)).trans (by simp [go_sem])); have xf : ∀ o, w1.frozen? ⟨w.heap.size, o, none⟩ = false := (fun o => (hb.frozen (p := ⟨w.heap.size, o, none⟩) (by simp <;> omega)).trans (by simp [go_sem])); have xz : w.heap.size < w1.heap.size := (by have := hb.size; (try simp at this); omega); have xy := xz
  have hW : Below w.heap.size w w1 := by exact bBel
  clear hb T
  rcases ok with _ | _
  · have HP := Lib.hid (show ¬ EdOk ms pa s at_ cl from fun ⟨h1, _⟩ => by cases hh.2 h1)
    clear hh
    go_wp2_with fail
    go_ret
    exact ⟨false, rfl, ⟨(fun h => by cases h), fun h => absurd h HP.out⟩, hW⟩
  · have HG := Lib.hid (hh.1 rfl)
    clear hh
    rcases hi : inB at_ 0 s.length with _ | _
    · rw [hi] at I
      have HP := Lib.hid (show ¬ EdOk ms pa s at_ cl from fun ⟨_, h1, _⟩ => by rw [hi] at h1; cases h1)
      clear hi
      go_wp2_with fail
      refine (I.out _).mono ?_
      rintro e w2 ⟨rfl, rfl⟩
      go_wp2_with fail
      go_ret
      exact ⟨false, rfl, ⟨(fun h => by cases h), fun h => absurd h HP.out⟩, hW⟩
    · rw [hi] at I
      have HP := Lib.hid (show tv cl = true ↔ EdOk ms pa s at_ cl from ⟨fun h => ⟨HG.out, hi, h⟩, fun h => h.2.2⟩)
      clear hi
      generalize tv cl = y at C HP
      go_wp2_with fail
      refine (I.out _).mono ?_
      rintro e w2 ⟨rfl, rfl⟩
      go_wp2_with fail
      refine (C.out _).mono ?_
      rintro e w3 ⟨rfl, rfl⟩
      go_wp2_with fail
      go_ret
      exact ⟨y, rfl, HP.out, hW⟩

end Go.Proofs.YtbjlkdenkmbepaaGreatDoor

namespace Go.Proofs.YtbjlkdenkmbepaaGreatDoor
open Go.RowKit
set_option linter.unusedVariables false

/-- an editor that was made anew, by the reference. -/
def EdOwn (s : List UInt8) (x : Int) (cl : List UInt8) (ms : List Mo) (pa : Int) (w : World) (e : Ending) (w' : World) : Prop :=
  ∃ u, e = .returned (edAgg s x cl u pa) ∧ OwnM w' w.heap.size u ms ∧ Below w.heap.size w w'
theorem farC2 {w w' : World} {row : Option Nat} (hg : w.grownBy w' row) (a : Addr) (hlt : a.block < w.heap.size) (hne : some a.block ≠ row) : w'.cell? a = w.cell? a := World.cell?_of_block (hg.block _ hlt hne)
theorem farF2 {w w' : World} {row : Option Nat} (hg : w.grownBy w' row) (a : Addr) (hlt : a.block < w.heap.size) (hne : some a.block ≠ row) : w'.frozen? a = w.frozen? a := World.frozen?_of_block (hg.block _ hlt hne)

set_option maxRecDepth 100000 in
set_option maxHeartbeats 2000000 in
theorem l1OwnHistory_any (v : Value) (ms : List Mo) (pa : Int) (w : World) (h : RdM w v ms) (hn : ms.length ≤ 1048576) :
    Calls Tryz.prog 84 #[.agg #[v, .int .i64 pa]] w (CopyPost ms pa w) := by
  obtain ⟨A, c, rfl, hpl, _⟩ := h.1.form
  obtain ⟨i0, hi, hz0, hz1, hz2⟩ := info_parts mo_info
  have H2 := Lib.hid (fun (w' : World) (hb : Below w.heap.size w w') => (h.up hb).1)
  unfold CopyPost
  clear h
  go_enter Tryz.func84, Tryz.ntmps84
  go_upto_region 2 with (fail)
  obtain ⟨w1, hw1⟩ : ∃ z, z = ((w.alloc (.cells #[.slice A ms.length c, .int .i64 pa] 25)).alloc (.cells #[.slice none 0 0, .int .i64 0] 25)).alloc (.cells #[.slice A ms.length c, .int .i64 pa] 25) := ⟨_, rfl⟩
  have hb : Below (((w.alloc (.cells #[.slice A ms.length c, .int .i64 pa] 25)).alloc (.cells #[.slice none 0 0, .int .i64 0] 25)).alloc (.cells #[.slice A ms.length c, .int .i64 pa] 25)).heap.size (((w.alloc (.cells #[.slice A ms.length c, .int .i64 pa] 25)).alloc (.cells #[.slice none 0 0, .int .i64 0] 25)).alloc (.cells #[.slice A ms.length c, .int .i64 pa] 25)) w1 := by rw [hw1]; exact Below.refl _ _
  have sz1 : w1.heap.size = w.heap.size + 3 := by rw [hw1]; simp
  show Code.wp _ _ _ _ (((w.alloc (.cells #[.slice A ms.length c, .int .i64 pa] 25)).alloc (.cells #[.slice none 0 0, .int .i64 0] 25)).alloc (.cells #[.slice A ms.length c, .int .i64 pa] 25))
  rw [← hw1]
  have tc : ∀ o, w1.cell? ⟨w.heap.size, o, none⟩ = #[.slice A ms.length c, .int .i64 pa][o]? := (fun o => (hb.cell (p := ⟨w.heap.size, o, none⟩) (by simp <;> omega)).trans (by simp [go_sem])); have tf : ∀ o, w1.frozen? ⟨w.heap.size, o, none⟩ = false := (fun o => (hb.frozen (p := ⟨w.heap.size, o, none⟩) (by simp <;> omega)).trans (by simp [go_sem])); have tz : w.heap.size < w1.heap.size := (by have := hb.size; (try simp at this); omega); have ty := tz
  have rc : ∀ o, w1.cell? ⟨w.heap.size + 1, o, none⟩ = #[.slice none 0 0, .int .i64 0][o]? := (fun o => (hb.cell (p := ⟨w.heap.size + 1, o, none⟩) (by simp <;> omega)).trans (by simp [go_sem])); have rf : ∀ o, w1.frozen? ⟨w.heap.size + 1, o, none⟩ = false := (fun o => (hb.frozen (p := ⟨w.heap.size + 1, o, none⟩) (by simp <;> omega)).trans (by simp [go_sem])); have rz : w.heap.size + 1 < w1.heap.size := (by have := hb.size; (try simp at this); omega); have ry := rz
  have xc : ∀ o, w1.cell? ⟨w.heap.size + 2, o, none⟩ = #[.slice A ms.length c, .int .i64 pa][o]? := (fun o => (hb.cell (p := ⟨w.heap.size + 2, o, none⟩) (by simp <;> omega)).trans (by simp [go_sem])); have xf : ∀ o, w1.frozen? ⟨w.heap.size + 2, o, none⟩ = false := (fun o => (hb.frozen (p := ⟨w.heap.size + 2, o, none⟩) (by simp <;> omega)).trans (by simp [go_sem])); have xz : w.heap.size + 2 < w1.heap.size := (by have := hb.size; (try simp at this); omega); have xy := xz
  have hW : Below w.heap.size w w1 := by exact bBel
  have SZ := Lib.hid sz1
  have L1 : ∀ z : Obj, w.heap.size + 1 < (w1.alloc z).heap.size := fun z => by simp; omega
  have L2 : ∀ z : Obj, w.heap.size + 2 < (w1.alloc z).heap.size := fun z => by simp; omega
  have L3 : ∀ z : Obj, w.heap.size + 3 ≤ (w1.alloc z).heap.size := fun z => by simp; omega
  have N1 : some (w.heap.size + 1) ≠ some w1.heap.size := fun h => by have := Option.some.inj h; omega
  have N2 : some (w.heap.size + 2) ≠ some w1.heap.size := fun h => by have := Option.some.inj h; omega
  have NK : w.heap.size ≤ w1.heap.size := by omega
  clear hb hw1 sz1
  go_wp2_with (at_builtin; go_loud (
               refine wpList_append_any _ rfl _ _ 23 rfl (w.heap.size + 3) 96 i0 _ 7 72 Tryz.underlying23 hi hz0 hz1 hz2 rfl (by decide) _ _ _ rfl (own_emptyM w1 (w.heap.size + 3) (Nat.le_of_eq SZ.out.symm)) _ ms.length _ rfl (H2.out _ (up_alloc hW _)) (mo_oneCell ms) (by unfold maxLen; omega) (by omega) (L3 _) ?_
               intro v2 w2 how hgr
               obtain ⟨A2, c2, rfl, -, -⟩ := (RdL.of_own (f := moC) (bs := ms) (by simpa using how)).form
               have rc2 : ∀ o, w2.cell? ⟨w.heap.size + 1, o, none⟩ = #[.slice none 0 0, .int .i64 0][o]? := fun o => (farC2 hgr ⟨w.heap.size + 1, o, none⟩ (L1 _) N1).trans ((World.cell?_alloc_lt w1 _ ⟨w.heap.size + 1, o, none⟩ rz).trans (rc o))
               have rf2 : ∀ o, w2.frozen? ⟨w.heap.size + 1, o, none⟩ = false := fun o => (farF2 hgr ⟨w.heap.size + 1, o, none⟩ (L1 _) N1).trans ((World.frozen?_alloc_past _ _ o rz).trans (rf o))
               have xc2 : ∀ o, w2.cell? ⟨w.heap.size + 2, o, none⟩ = #[.slice A ms.length c, .int .i64 pa][o]? := fun o => (farC2 hgr ⟨w.heap.size + 2, o, none⟩ (L2 _) N2).trans ((World.cell?_alloc_lt w1 _ ⟨w.heap.size + 2, o, none⟩ xz).trans (xc o))
               have xf2 : ∀ o, w2.frozen? ⟨w.heap.size + 2, o, none⟩ = false := fun o => (farF2 hgr ⟨w.heap.size + 2, o, none⟩ (L2 _) N2).trans ((World.frozen?_alloc_past _ _ o xz).trans (xf o))
               have hW2 : Below w.heap.size w w2 := up_grown (up_alloc hW _) hgr (fun k hk => (Option.some.inj hk) ▸ NK)
               have HO := Lib.hid (show OwnM w2 (w.heap.size + 3) (.slice A2 ms.length c2) ms by simpa using how)
               clear how hgr rc rf xc xf tc tf))
  refine bodyPost_ret (v := .agg #[.slice A2 ms.length c2, .int .i64 pa]) (by simp [results, Tryz.results84, go_sem, rc2]) rfl ⟨_, rfl, ?_, by (repeat refine up_set ?_ _ _ (by first | exact Nat.le_refl _ | (simp; done) | (simp; omega))); exact hW2⟩
  exact own_base (own_set (own_set (own_set HO.out _ _ (by simp)) _ _ (by simp)) _ _ (by simp)) (by omega)
set_option maxRecDepth 100000 in
set_option maxHeartbeats 1000000 in
theorem l1OwnEditor_any (v : Value) (ms : List Mo) (pa : Int) (s : List UInt8) (x : Int) (cl : List UInt8) (w : World) (h : RdM w v ms) (hn : ms.length ≤ 1048576) :
    Calls Tryz.prog 48 #[edAgg s x cl v pa] w (EdOwn s x cl ms pa w) := by
  obtain ⟨A, c, rfl, _, _⟩ := h.1.form
  have C := Lib.hid (fun (w' : World) (hb : Below w.heap.size w w') => l1OwnHistory_any (.slice A ms.length c) ms pa w' (h.up hb) hn)
  unfold CopyPost at C
  unfold EdOwn edAgg
  clear h
  go_enter Tryz.func48, Tryz.ntmps48
  go_wp2_with fail
  refine (C.out _ (by exact bBel)).mono ?_
  rintro e w1 ⟨v2, rfl, ho, hb⟩
  have yc : ∀ o, w1.cell? ⟨w.heap.size + 2, o, none⟩ = #[S s, .int .i64 x, S cl, .slice A ms.length c, .int .i64 pa][o]? := (fun o => (hb.cell (p := ⟨w.heap.size + 2, o, none⟩) (by simp <;> omega)).trans (by simp [go_sem])); have yf : ∀ o, w1.frozen? ⟨w.heap.size + 2, o, none⟩ = false := (fun o => (hb.frozen (p := ⟨w.heap.size + 2, o, none⟩) (by simp <;> omega)).trans (by simp [go_sem])); have yz : w.heap.size + 2 < w1.heap.size := (by have := hb.size; (try simp at this); omega); have yy := yz
  have zc : ∀ o, w1.cell? ⟨w.heap.size + 1, o, none⟩ = #[S [], .int .i64 0, S [], .slice none 0 0, .int .i64 0][o]? := (fun o => (hb.cell (p := ⟨w.heap.size + 1, o, none⟩) (by simp <;> omega)).trans (by simp [go_sem])); have zf : ∀ o, w1.frozen? ⟨w.heap.size + 1, o, none⟩ = false := (fun o => (hb.frozen (p := ⟨w.heap.size + 1, o, none⟩) (by simp <;> omega)).trans (by simp [go_sem])); have zz : w.heap.size + 1 < w1.heap.size := (by have := hb.size; (try simp at this); omega); have zy := zz
  have hW : Below w.heap.size w w1 := by exact bBel
  have HO := Lib.hid (own_base ho (show w.heap.size + 3 ≤ _ by simp))
  obtain ⟨A2, c2, rfl, -, -⟩ := (RdL.of_own (f := moC) (bs := ms) ho).form
  clear hb ho
  go_wp2_with fail
  refine bodyPost_ret (v := .agg #[S s, .int .i64 x, S cl, .slice A2 ms.length c2, .int .i64 pa]) (by simp [results, Tryz.results48, go_sem, zc]) rfl ⟨_, rfl, ?_, by (repeat refine up_set ?_ _ _ (by first | exact Nat.le_refl _ | (simp; done) | (simp; omega) | omega)); exact hW⟩
  exact own_base (own_set (own_set (own_set (own_set (own_set (own_set (own_set HO.out _ _ (by simp)) _ _ (by simp)) _ _ (by simp)) _ _ (by simp)) _ _ (by simp)) _ _ (by simp)) _ _ (by simp)) (by omega)

end Go.Proofs.YtbjlkdenkmbepaaGreatDoor
