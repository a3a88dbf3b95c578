/- What is proved here: What is proved here: plain facts: what an action does to an editor. What is proved here: contracts of the reference's l25Change. What is proved here: words for the walk of the reference's EditorDo, and plain facts on the names of actions. No condition. -/
import Derived.Test.YtbjlkdenkmbepaaGreatDoorRn0
import Derived.Test.YtbjlkdenkmbepaaGreatDoorHNx
import Derived.Test.YtbjlkdenkmbepaaGreatDoorHistF
import Derived.Test.YtbjlkdenkmbepaaGreatDoorEd0
import Derived.Test.YtbjlkdenkmbepaaGreatDoorAc4
import Derived.Test.YtbjlkdenkmbepaaGreatDoorHistJ
import Derived.Test.YtbjlkdenkmbepaaGreatDoorEverL
import Derived.BigRegion
import Derived.Deep.Cut
import Derived.Lib.IndexLaws
namespace Go.Proofs.YtbjlkdenkmbepaaGreatDoor
open Go.RowKit
set_option linter.unusedVariables false

/-- an editor. -/
structure Es where
  s : List UInt8
  x : Int
  cl : List UInt8
  ms : List Mo
  pa : Int
/-- a valid editor; o are the texts of all states. -/
structure EdIn (e : Es) (o : List (List UInt8)) : Prop where
  g : HGood e.ms e.pa e.s o
  x0 : 0 ≤ e.x
  x1 : e.x ≤ e.s.length
  c : tv e.cl = true
theorem EdIn.ok {e : Es} {o : List (List UInt8)} (h : EdIn e o) : EdOk e.ms e.pa e.s e.x e.cl := ⟨⟨o, h.g⟩, inB_iff.2 ⟨h.x0, h.x1⟩, h.c⟩
theorem edIn_of {e : Es} (h : EdOk e.ms e.pa e.s e.x e.cl) : ∃ o, EdIn e o := by
  obtain ⟨⟨o, hg⟩, hi, hc⟩ := h
  have := inB_iff.1 hi
  exact ⟨o, hg, this.1, this.2, hc⟩
/-- an action. -/
inductive Ak where
  | no
  | put (t : List UInt8)
  | line
  | cut
  | paste
  | right
  | left
  | find (t : List UInt8)
  | run (t : List UInt8)
  | undo
  | redo
def akSp : List UInt8 → Ak
  | 112 :: 117 :: 116 :: 32 :: r => .put r
  | 102 :: 105 :: 110 :: 100 :: 32 :: r => .find r
  | 114 :: 117 :: 110 :: 32 :: r => .run r
  | _ => .no
def akOf (a : List UInt8) : Ak :=
  if a = [108, 105, 110, 101] then .line
  else if a = [99, 117, 116] then .cut
  else if a = [112, 97, 115, 116, 101] then .paste
  else if a = [114, 105, 103, 104, 116] then .right
  else if a = [108, 101, 102, 116] then .left
  else if a = [117, 110, 100, 111] then .undo
  else if a = [114, 101, 100, 111] then .redo
  else akSp a
/-- a change. -/
def edCh (e : Es) (c : Ch) (cl : List UInt8) : Option Es :=
  if okF e.s c = true ∧ e.ms.length ≠ 30 then some ⟨apF e.s c, mvP c e.x, cl, e.ms ++ [⟨e.pa, c, rvF e.s c⟩], e.ms.length⟩ else none
/-- to another state. -/
def edTo (e : Es) (o : List (List UInt8)) (p : Int) : Option Es :=
  if inB p 0 ((e.ms.length : Int) - 1) = true then some ⟨o.getD p.toNat [], min e.x (o.getD p.toNat []).length, e.cl, e.ms, p⟩ else none
def edDo (e : Es) (o : List (List UInt8)) : Ak → Option Es
  | .no => none
  | .put t => if t = [] then none else edCh e ⟨e.x, 0, t⟩ e.cl
  | .line => edCh e ⟨e.x, 0, [10]⟩ e.cl
  | .cut => if waA e.s e.x.toNat = waZ e.s e.x.toNat then none else edCh e ⟨waA e.s e.x.toNat, (waZ e.s e.x.toNat : Int) - waA e.s e.x.toNat, []⟩ ((e.s.take (waZ e.s e.x.toNat)).drop (waA e.s e.x.toNat))
  | .paste => if e.cl = [] then none else edCh e ⟨e.x, 0, e.cl⟩ e.cl
  | .right => some { e with x := moR e.s e.x.toNat }
  | .left => some { e with x := moL e.s e.x.toNat }
  | .find t => if fnx e.s t (e.x.toNat + 1) < 0 then none else some { e with x := fnx e.s t (e.x.toNat + 1) }
  | .run t => match rnL e.s t with
    | none => none
    | some y => edCh e (dfC e.s y) e.cl
  | .undo => edTo e o (e.ms.getD e.pa.toNat m0).par
  | .redo => edTo e o (foTo e.ms e.pa e.ms.length)

theorem mvP_in {s : List UInt8} {c : Ch} {x : Int} (hc : okF s c = true) (h0 : 0 ≤ x) (h1 : x ≤ s.length) : 0 ≤ mvP c x ∧ mvP c x ≤ (apF s c).length := by
  have hi := okF_in hc
  have hci : chIn s c.a c.c = true := by
    unfold okF chOk at hc
    simp only [Bool.and_eq_true] at hc
    exact hc.1.1.2
  have hl := chTo_len c.p hci
  have e : (apF s c).length = (chTo s c.a c.c c.p).length := rfl
  rw [e]
  unfold mvP
  split
  · omega
  · split <;> omega
theorem edCh_in {e e2 : Es} {o : List (List UInt8)} {c : Ch} {cl : List UInt8} (h : EdIn e o) (hcl : tv cl = true) (he : edCh e c cl = some e2) :
    EdIn e2 (o ++ [e2.s]) ∧ e2.ms = e.ms ++ [⟨e.pa, c, rvF e.s c⟩] ∧ e2.pa = e.ms.length ∧ e2.s = apF e.s c ∧ okF e.s c = true ∧ e.ms.length ≠ 30 := by
  unfold edCh at he
  split at he
  · rename_i hc
    injection he with he
    subst he
    have hm := mvP_in hc.1 h.x0 h.x1
    exact ⟨⟨h.g.more c hc.1 hc.2, hm.1, hm.2, hcl⟩, rfl, rfl, rfl, hc.1, hc.2⟩
  · cases he
theorem edTo_in {e e2 : Es} {o : List (List UInt8)} {p : Int} (h : EdIn e o) (he : edTo e o p = some e2) : EdIn e2 o ∧ e2.ms = e.ms := by
  unfold edTo at he
  split at he
  · rename_i hi
    injection he with he
    subst he
    have hg := h.g.go p
    unfold toAt toText at hg
    rw [if_pos hi, if_pos hi] at hg
    have := h.x0
    exact ⟨⟨hg, (by show 0 ≤ min e.x ((o.getD p.toNat []).length : Int); omega), (by show min e.x ((o.getD p.toNat []).length : Int) ≤ ((o.getD p.toNat []).length : Int); omega), h.c⟩, rfl⟩
  · cases he
/-- what an action leads to. -/
theorem edDo_in {e e2 : Es} {o : List (List UInt8)} {k : Ak} (h : EdIn e o) (he : edDo e o k = some e2) :
    (EdIn e2 o ∧ e2.ms = e.ms) ∨ (∃ c, EdIn e2 (o ++ [e2.s]) ∧ e2.ms = e.ms ++ [⟨e.pa, c, rvF e.s c⟩] ∧ e2.pa = e.ms.length ∧ e2.s = apF e.s c ∧ okF e.s c = true ∧ e.ms.length ≠ 30) := by
  have hs := h.g.t
  have x0 := h.x0
  have x1 := h.x1
  cases k with
  | no => cases he
  | put t =>
    simp only [edDo] at he
    split at he
    · cases he
    · exact .inr ⟨_, edCh_in h h.c he⟩
  | line => exact .inr ⟨_, edCh_in h h.c he⟩
  | cut =>
    simp only [edDo] at he
    split at he
    · cases he
    · exact .inr ⟨_, edCh_in h (tv_drop (tv_take2 hs _) _) he⟩
  | paste =>
    simp only [edDo] at he
    split at he
    · cases he
    · exact .inr ⟨_, edCh_in h h.c he⟩
  | right =>
    simp only [edDo, Option.some.injEq] at he
    subst he
    have := moR_le e.s e.x.toNat (by omega)
    exact .inl ⟨⟨h.g, (by show (0 : Int) ≤ (moR e.s e.x.toNat : Int); omega), (by show (moR e.s e.x.toNat : Int) ≤ (e.s.length : Int); omega), h.c⟩, rfl⟩
  | left =>
    simp only [edDo, Option.some.injEq] at he
    subst he
    have := moL_le e.s e.x.toNat
    exact .inl ⟨⟨h.g, (by show (0 : Int) ≤ (moL e.s e.x.toNat : Int); omega), (by show (moL e.s e.x.toNat : Int) ≤ (e.s.length : Int); omega), h.c⟩, rfl⟩
  | find t =>
    simp only [edDo] at he
    split at he
    · cases he
    · rename_i hn
      simp only [Option.some.injEq] at he
      subst he
      rcases fnx_room _ (e.x.toNat + 1) e.s t (Nat.le_refl _) with h1 | ⟨k, h1, h2, h3, h4⟩
      · rw [h1] at hn; omega
      · exact .inl ⟨⟨h.g, (by show (0 : Int) ≤ fnx e.s t (e.x.toNat + 1); omega), (by show fnx e.s t (e.x.toNat + 1) ≤ (e.s.length : Int); rw [h1]; omega), h.c⟩, rfl⟩
  | run t =>
    simp only [edDo] at he
    split at he
    · cases he
    · exact .inr ⟨_, edCh_in h h.c he⟩
  | undo => exact .inl (edTo_in h he)
  | redo => exact .inl (edTo_in h he)
theorem edDo_next {e e2 : Es} {o : List (List UInt8)} {k : Ak} (h : EdIn e o) (he : edDo e o k = some e2) : ∃ o2, EdIn e2 o2 ∧ o2.getD 0 [] = o.getD 0 [] := by
  rcases edDo_in h he with ⟨h1, _⟩ | ⟨c, h1, _⟩
  · exact ⟨o, h1, rfl⟩
  · have := h.g.n1
    have := h.g.len
    exact ⟨_, h1, getD_app o _ _ 0 (by omega)⟩
/-- the kinds of actions. -/
theorem akOf_cases (a : List UInt8) : (a = [108, 105, 110, 101] ∧ akOf a = .line) ∨ (a = [99, 117, 116] ∧ akOf a = .cut) ∨ (a = [112, 97, 115, 116, 101] ∧ akOf a = .paste) ∨ (a = [114, 105, 103, 104, 116] ∧ akOf a = .right) ∨ (a = [108, 101, 102, 116] ∧ akOf a = .left) ∨ (a = [117, 110, 100, 111] ∧ akOf a = .undo) ∨ (a = [114, 101, 100, 111] ∧ akOf a = .redo) ∨ (∃ r, a = 112 :: 117 :: 116 :: 32 :: r ∧ akOf a = .put r) ∨ (∃ r, a = 102 :: 105 :: 110 :: 100 :: 32 :: r ∧ akOf a = .find r) ∨ (∃ r, a = 114 :: 117 :: 110 :: 32 :: r ∧ akOf a = .run r) ∨
    (akOf a = .no ∧ a ≠ [108, 105, 110, 101] ∧ a ≠ [99, 117, 116] ∧ a ≠ [112, 97, 115, 116, 101] ∧ a ≠ [114, 105, 103, 104, 116] ∧ a ≠ [108, 101, 102, 116] ∧ a ≠ [117, 110, 100, 111] ∧ a ≠ [114, 101, 100, 111] ∧ (∀ r, a ≠ 112 :: 117 :: 116 :: 32 :: r) ∧ (∀ r, a ≠ 102 :: 105 :: 110 :: 100 :: 32 :: r) ∧ (∀ r, a ≠ 114 :: 117 :: 110 :: 32 :: r)) := by
  by_cases h1 : a = [108, 105, 110, 101]
  · exact .inl ⟨h1, by rw [h1]; rfl⟩
  by_cases h2 : a = [99, 117, 116]
  · exact .inr (.inl ⟨h2, by rw [h2]; rfl⟩)
  by_cases h3 : a = [112, 97, 115, 116, 101]
  · exact .inr (.inr (.inl ⟨h3, by rw [h3]; rfl⟩))
  by_cases h4 : a = [114, 105, 103, 104, 116]
  · exact .inr (.inr (.inr (.inl ⟨h4, by rw [h4]; rfl⟩)))
  by_cases h5 : a = [108, 101, 102, 116]
  · exact .inr (.inr (.inr (.inr (.inl ⟨h5, by rw [h5]; rfl⟩))))
  by_cases h6 : a = [117, 110, 100, 111]
  · exact .inr (.inr (.inr (.inr (.inr (.inl ⟨h6, by rw [h6]; rfl⟩)))))
  by_cases h7 : a = [114, 101, 100, 111]
  · exact .inr (.inr (.inr (.inr (.inr (.inr (.inl ⟨h7, by rw [h7]; rfl⟩))))))
  have e : akOf a = akSp a := by
    unfold akOf
    rw [if_neg h1, if_neg h2, if_neg h3, if_neg h4, if_neg h5, if_neg h6, if_neg h7]
  unfold akSp at e
  refine .inr (.inr (.inr (.inr (.inr (.inr (.inr ?_))))))
  split at e
  · exact .inl ⟨_, rfl, e⟩
  · exact .inr (.inl ⟨_, rfl, e⟩)
  · exact .inr (.inr (.inl ⟨_, rfl, e⟩))
  · rename_i n1 n2 n3
    exact .inr (.inr (.inr ⟨e, h1, h2, h3, h4, h5, h6, h7, n1, n2, n3⟩))

end Go.Proofs.YtbjlkdenkmbepaaGreatDoor

namespace Go.Proofs.YtbjlkdenkmbepaaGreatDoor
open Go.RowKit
set_option linter.unusedVariables false

def edW (e : Es) (v : Value) : Value := edAgg e.s e.x e.cl v e.pa
/-- what a part of the reference's EditorDo gives: the new editor, or the old one; its row lies behind B. -/
def EdOut (B : Nat) (r : Option Es) (e : Es) (w : World) (en : Ending) (w' : World) : Prop := ∃ u, en = .returned (.tuple #[edW (r.getD e) u, .bool r.isSome]) ∧ OwnM w' B u (r.getD e).ms ∧ Below w.heap.size w w'
theorem specHd_any (s : List UInt8) (ms : List Mo) (pa : Int) (o : List (List UInt8)) (c : Ch) (hg : HGood ms pa s o) (hp : c.p.length ≤ 1048576) (ok : Bool) (hok : ok = (okF s c && decide (ms.length ≠ 30))) :
    Hid (∀ (v : Value) (w' : World), RdM w' v ms → Calls Tryz.prog 90 #[.agg #[v, .int .i64 pa], S s, chAgg c] w' (HRes (if ok = true then ms ++ [⟨pa, c, rvF s c⟩] else ms) (if ok = true then (ms.length : Int) else pa) (if ok = true then apF s c else s) ok w')) := by
  refine Lib.hid fun v w' h => ?_
  subst hok
  rcases h1 : okF s c with _ | _
  · exact specHistoryDo_bad v ms pa s c w' o h hg hp h1
  · by_cases h2 : ms.length = 30
    · rw [decide_eq_false (by omega)]
      exact specHistoryDo_full v ms pa s c w' o h hg hp h1 h2
    · rw [decide_eq_true h2]
      exact specHistoryDo_done v ms pa s c w' o h hg hp h1 h2
def L25P (s : List UInt8) (x : Int) (cl0 : List UInt8) (ms : List Mo) (pa : Int) (y : Int) (cl : List UInt8) (m2 : List Mo) (a2 : Int) (t2 : List UInt8) (ok : Bool) (B : Nat) (w : World) (en : Ending) (w' : World) : Prop :=
  ∃ u, Below w.heap.size w w' ∧ (ok = true → en = .returned (.tuple #[edAgg t2 y cl u a2, .bool true]) ∧ OwnM w' B u m2) ∧ (ok = false → en = .returned (.tuple #[edAgg s x cl0 u pa, .bool false]) ∧ OwnM w' B u ms)
set_option maxRecDepth 100000 in
set_option maxHeartbeats 600000 in
theorem l25_ok (s : List UInt8) (x : Int) (cl0 : List UInt8) (ms : List Mo) (pa : Int) (c : Ch) (cl : List UInt8) (m2 : List Mo) (a2 : Int) (t2 : List UInt8) (ok : Bool) (v : Value) (B : Nat) (w : World) (h : RdM w v ms) (ho : OwnM w B v ms) (hB : B ≤ w.heap.size)
    (HD : Hid (∀ (v : Value) (w' : World), RdM w' v ms → Calls Tryz.prog 90 #[.agg #[v, .int .i64 pa], S s, chAgg c] w' (HRes m2 a2 t2 ok w')))
    (MP : Hid (∀ w, ok = true → Calls Tryz.prog 91 #[chV c.a c.c c.p, .int .i64 x, .bool true] w fun e w' => e = .returned (.int .i64 (mvP c x)) ∧ Below w.heap.size w w')) :
    Calls Tryz.prog 55 #[edAgg s x cl0 v pa, chAgg c, S cl] w (L25P s x cl0 ms pa (mvP c x) cl m2 a2 t2 ok B w) := by
  obtain ⟨A, k, rfl, _, _⟩ := h.1.form
  unfold HRes at HD
  have HD2 := Lib.hid (fun (w' : World) (hb : Below w.heap.size w w') => HD.out (.slice A ms.length k) w' (h.up hb))
  have HOw := Lib.hid ho
  obtain ⟨y, hy⟩ : ∃ y, y = mvP c x := ⟨_, rfl⟩
  rw [← hy] at MP ⊢
  obtain ⟨fa, fc, fp⟩ := c
  unfold chV at MP
  unfold chAgg at HD2 ⊢
  unfold edAgg
  simp only at MP HD2
  clear h ho HD hy
  go_enter Tryz.func55, Tryz.ntmps55
  go_wp2_with fail
  refine (HD2.out _ (by exact bBel)).mono ?_
  rintro en w1 ⟨u, rfl, ho1, hb⟩
  have xc : ∀ o, w1.cell? ⟨w.heap.size, o, none⟩ = #[S s, .int .i64 x, S cl0, .slice A ms.length k, .int .i64 pa][o]? := (fun o => (hb.cell (p := ⟨w.heap.size, o, none⟩) (by simp <;> omega)).trans (by simp [go_sem])); have xf : ∀ o, w1.frozen? ⟨w.heap.size, o, none⟩ = false := (fun o => (hb.frozen (p := ⟨w.heap.size, o, none⟩) (by simp <;> omega)).trans (by simp [go_sem])); have xz : w.heap.size < w1.heap.size := (by have := hb.size; (try simp at this); omega); have xy := xz
  have yc : ∀ o, w1.cell? ⟨w.heap.size + 1, o, none⟩ = #[.int .i64 fa, .int .i64 fc, S fp][o]? := (fun o => (hb.cell (p := ⟨w.heap.size + 1, o, none⟩) (by simp <;> omega)).trans (by simp [go_sem])); have yf : ∀ o, w1.frozen? ⟨w.heap.size + 1, o, none⟩ = false := (fun o => (hb.frozen (p := ⟨w.heap.size + 1, o, none⟩) (by simp <;> omega)).trans (by simp [go_sem])); have yz : w.heap.size + 1 < w1.heap.size := (by have := hb.size; (try simp at this); omega); have yy := yz
  have zc : ∀ o, w1.cell? ⟨w.heap.size + 2, o, none⟩ = #[S [], .int .i64 0, S [], .slice none 0 0, .int .i64 0][o]? := (fun o => (hb.cell (p := ⟨w.heap.size + 2, o, none⟩) (by simp <;> omega)).trans (by simp [go_sem])); have zf : ∀ o, w1.frozen? ⟨w.heap.size + 2, o, none⟩ = false := (fun o => (hb.frozen (p := ⟨w.heap.size + 2, o, none⟩) (by simp <;> omega)).trans (by simp [go_sem])); have zz : w.heap.size + 2 < w1.heap.size := (by have := hb.size; (try simp at this); omega); have zy := zz
  have hW : Below w.heap.size w w1 := by exact bBel
  have HW := Lib.hid hW
  have HO1 := Lib.hid (own_base ho1 (show w.heap.size + 3 ≤ _ by simp))
  obtain ⟨UA, UC, rfl, -, -⟩ := (RdL.of_own (f := moC) (bs := m2) ho1).form
  clear hb ho1 HD2 hW xy yy zy
  rcases ok with _ | _
  · clear MP
    go_upto_region 3 with (fail)
    obtain ⟨W2, hw⟩ : ∃ z, z = w1.alloc (.cells #[.slice UA m2.length UC, .int .i64 a2] 25) := ⟨_, rfl⟩
    rw [← hw]
    have hB2 : Below w1.heap.size w1 W2 := by rw [hw]; exact up_alloc (Below.refl _ _) _
    have hI : Is W2 w1.heap.size #[.slice UA m2.length UC, .int .i64 a2] := by rw [hw]; exact new_is w1 _ _
    have hz : w1.heap.size < W2.heap.size := by rw [hw]; simp
    have hc := hI.1
    replace xc := up_c hB2 xz xc
    replace yc := up_c hB2 yz yc
    replace zc := up_c hB2 zz zc
    replace zf := up_f hB2 zz zf
    have xz2 := Nat.lt_of_lt_of_le xz hB2.size
    have yz2 := Nat.lt_of_lt_of_le yz hB2.size
    have zz2 := Nat.lt_of_lt_of_le zz hB2.size
    have hzz := zz
    have HW2 := Lib.hid (up_trans HW.out hB2)
    have HO2 := Lib.hid (own_up HO1.out hB2)
    clear hw hI HW HO1 xf yf xz yz zz hB2
    clear HO2 yc hc
    go_wp2_with fail
    refine bodyPost_ret (v := .tuple #[.agg #[S s, .int .i64 x, S cl0, .slice A ms.length k, .int .i64 pa], .bool false]) (by simp [results, Tryz.results55, go_sem, zc]) rfl ?_
    refine ⟨.slice A ms.length k, ?_, (fun h => by cases h), fun _ => ⟨rfl, own_up HOw.out ?_⟩⟩
    all_goals
      have hQ := HW2.out
      (repeat (first | exact hQ | refine up_set ?_ _ _ (by first | exact Nat.le_refl _ | (simp; done) | (simp; omega) | omega)))
  · have MP1 := Lib.hid (fun w => MP.out w rfl)
    go_upto_region 4 with (fail)
    obtain ⟨W2, hw⟩ : ∃ z, z = w1.alloc (.cells #[.slice UA m2.length UC, .int .i64 a2] 25) := ⟨_, rfl⟩
    rw [← hw]
    have hB2 : Below w1.heap.size w1 W2 := by rw [hw]; exact up_alloc (Below.refl _ _) _
    have hI : Is W2 w1.heap.size #[.slice UA m2.length UC, .int .i64 a2] := by rw [hw]; exact new_is w1 _ _
    have hz : w1.heap.size < W2.heap.size := by rw [hw]; simp
    have hc := hI.1
    replace xc := up_c hB2 xz xc
    replace yc := up_c hB2 yz yc
    replace zc := up_c hB2 zz zc
    replace zf := up_f hB2 zz zf
    have xz2 := Nat.lt_of_lt_of_le xz hB2.size
    have yz2 := Nat.lt_of_lt_of_le yz hB2.size
    have zz2 := Nat.lt_of_lt_of_le zz hB2.size
    have hzz := zz
    have HW2 := Lib.hid (up_trans HW.out hB2)
    have HO2 := Lib.hid (own_up HO1.out hB2)
    clear hw hI HW HO1 xf yf xz yz zz hB2
    clear MP
    have HM0 : EX5 (w.heap.size + 2) W2.drew := ⟨⟨_, _, _, _, _, (show Is W2.drew (w.heap.size + 2) #[S [], .int .i64 0, S [], .slice none 0 0, .int .i64 0] from ⟨zc, zf⟩)⟩, zz2⟩
    obtain ⟨r, hr⟩ : ∃ r, r = w.heap.size + 2 := ⟨_, rfl⟩
    obtain ⟨qx, hqx⟩ : ∃ q, q = w.heap.size := ⟨_, rfl⟩
    obtain ⟨qy, hqy⟩ : ∃ q, q = w.heap.size + 1 := ⟨_, rfl⟩
    obtain ⟨qh, hqh⟩ : ∃ q, q = w1.heap.size := ⟨_, rfl⟩
    have hw1r : w.heap.size + 2 < w1.heap.size := hzz
    rw [← hqh] at hc hz hw1r ⊢
    rw [← hqy] at yc yz2
    have nyr : qy ≠ r := by omega
    have nxr : qx ≠ r := by omega
    have nhr : qh ≠ r := by omega
    have e2 : qy + 1 = r := by omega
    have e1 : w.heap.size + 1 = qy := hqy.symm
    rw [← hr] at HM0 zz2
    have hrB : w.heap.size ≤ r := by omega
    have hrB3 : r < w.heap.size + 3 := by omega
    simp only [e1, e2]
    rw [← hqx] at xc xz2 ⊢
    clear zc zf hr hqx hqy hqh e1 e2 hw1r
    --EVER{spec.l25Change;4;l25r4}
    refine wp_region_ever (R := RQ r (FB r #[S t2, .int .i64 y, S cl, .slice UA m2.length UC, .int .i64 a2])) (M := fun _ w => EX5 r w) [qEq _ _ (S t2), qEq _ _ (.agg #[.int .i64 fa, .int .i64 fc, S fp]), qEq _ _ (.pointer (some ⟨qx, 1, none⟩)), qEq _ _ (.int .i64 x), qEq _ _ (.int .i64 y), qEq _ _ (S cl), qEq _ _ (.agg #[.slice UA m2.length UC, .int .i64 a2]), qEq _ _ (.agg #[S t2, .int .i64 y, S cl, .slice UA m2.length UC, .int .i64 a2]), qPut _ _, qEq _ _ (.bool true)] (by kernel_rfl) (RQ.refl _ _) (fun _ _ _ => RQ.trans) (by kernel_rfl) (HM0) ?_ ?_
    · refine ⟨?_, ?_, ?_, ?_, ?_, ?_, ?_, ?_, ?_, ?_, trivial⟩
      · intro k' w' ρ hk' hR hM hF
        replace hk' : k' < 10 := hk'
        obtain ⟨f0, -⟩ := hF
        replace f0 : ρ (.tmp 9) = S t2 := f0
        exact ⟨RQ.refl _ _ _, hM, f0⟩
      · intro k' w' ρ hk' hR hM hF
        replace hk' : k' < 10 := hk'
        obtain ⟨f0, -⟩ := hF
        replace f0 : ρ (.tmp 4) = .pointer (some ⟨qy, 0, none⟩) := f0
        refine good_of fun K hK => ?_
        have z0 := gup_c hR.grown yz2 nyr yc 0; have z1 := gup_c hR.grown yz2 nyr yc 1; have z2 := gup_c hR.grown yz2 nyr yc 2; simp only [List.getElem?_toArray, List.getElem?_cons_zero, List.getElem?_cons_succ] at z0 z1 z2; go_simp; exact hK _ _ (RQ.refl _ _ _) hM rfl
      · intro k' w' ρ hk' hR hM hF
        replace hk' : k' < 10 := hk'
        obtain ⟨f0, -⟩ := hF
        replace f0 : ρ (.tmp 3) = .pointer (some ⟨qx, 0, none⟩) := f0
        refine good_of fun K hK => ?_
        go_simp
        exact hK _ _ (RQ.refl _ _ _) (hM) (rfl)
      · intro k' w' ρ hk' hR hM hF
        replace hk' : k' < 10 := hk'
        obtain ⟨f0, -⟩ := hF
        replace f0 : ρ (.tmp 26) = .pointer (some ⟨qx, 1, none⟩) := f0
        refine good_of fun K hK => ?_
        have z1 := gup_c hR.grown xz2 nxr xc 1; simp only [List.getElem?_toArray, List.getElem?_cons_zero, List.getElem?_cons_succ] at z1; go_simp; exact hK _ _ (RQ.refl _ _ _) hM rfl
      · intro k' w' ρ hk' hR hM hF
        replace hk' : k' < 10 := hk'
        obtain ⟨f0, f1, f2, f3, -⟩ := hF
        replace f0 : ρ (.func _) = .func (.func _) #[] #[] := f0
        replace f1 : ρ (.tmp 25) = .agg #[.int .i64 fa, .int .i64 fc, S fp] := f1
        replace f2 : ρ (.tmp 27) = .int .i64 x := f2
        replace f3 : ρ (.const (.bool true)) = .bool true := f3
        refine good_of fun K hK => ?_
        go_simp; refine (MP1.out _).mono ?_; rintro en wc ⟨rfl, hb⟩; exact ⟨_, rfl, hK _ _ (RQ.below hb) (hM.up hb) rfl⟩
      · intro k' w' ρ hk' hR hM hF
        replace hk' : k' < 10 := hk'
        obtain ⟨f0, -⟩ := hF
        replace f0 : ρ (.tmp 2) = S cl := f0
        exact ⟨RQ.refl _ _ _, hM, f0⟩
      · intro k' w' ρ hk' hR hM hF
        replace hk' : k' < 10 := hk'
        obtain ⟨f0, -⟩ := hF
        replace f0 : ρ (.tmp 8) = .pointer (some ⟨qh, 0, none⟩) := f0
        refine good_of fun K hK => ?_
        have z0 := gup_c hR.grown hz nhr hc 0; have z1 := gup_c hR.grown hz nhr hc 1; simp only [List.getElem?_toArray, List.getElem?_cons_zero, List.getElem?_cons_succ] at z0 z1; go_simp; exact hK _ _ (RQ.refl _ _ _) hM rfl
      · intro k' w' ρ hk' hR hM hF
        replace hk' : k' < 10 := hk'
        obtain ⟨f0, f1, f2, f3, -⟩ := hF
        replace f0 : ρ (.tmp 24) = S t2 := f0
        replace f1 : ρ (.tmp 28) = .int .i64 y := f1
        replace f2 : ρ (.tmp 29) = S cl := f2
        replace f3 : ρ (.tmp 30) = .agg #[.slice UA m2.length UC, .int .i64 a2] := f3
        refine good_of fun K hK => ?_
        go_simp
        exact hK _ _ (RQ.refl _ _ _) (hM) (rfl)
      · intro k' w' ρ hk' hR hM hF
        replace hk' : k' < 10 := hk'
        obtain ⟨f0, f1, -⟩ := hF
        replace f0 : ρ (.tmp 6) = .pointer (some ⟨r, 0, none⟩) := f0
        replace f1 : ρ (.tmp 31) = .agg #[S t2, .int .i64 y, S cl, .slice UA m2.length UC, .int .i64 a2] := f1
        refine good_of fun K hK => ?_
        have BB := Lib.hid (q5_put hM (S t2) (.int .i64 y) (S cl) (.slice UA m2.length UC) (.int .i64 a2)); obtain ⟨⟨u0, u1, u2, u3, u4, hI⟩, hrz⟩ := hM; have z0 := hI.1 0; have z1 := hI.1 1; have z2 := hI.1 2; have z3 := hI.1 3; have z4 := hI.1 4; have zf := hI.2; simp only [List.getElem?_toArray, List.getElem?_cons_zero, List.getElem?_cons_succ] at z0 z1 z2 z3 z4; clear hI; go_simp; exact hK _ _ BB.out.1 BB.out.2.1 BB.out.2.2
      · intro k' w' ρ hk' hR hM hF
        replace hk' : k' < 10 := hk'
        obtain ⟨f0, -⟩ := hF
        refine good_of fun K hK => ?_
        replace f0 : ρ (.const (.bool true)) = .bool true := f0; go_simp; exact hK _ _ (RQ.refl _ _ _) hM rfl
    · intro w' hR hM
      rintro _ rfl
      rintro _ rfl
      rintro _ rfl
      rintro _ rfl
      rintro _ rfl
      rintro _ rfl
      rintro _ rfl
      rintro _ rfl
      rintro _ hFB
      rintro _ rfl
    --END
    --END
      dsimp only [EndAll, Act.put]
      simp only [List.setIfInBounds_toArray, List.set_cons_zero, List.set_cons_succ]
      obtain ⟨w3, rfl⟩ : ∃ z, z = w' := ⟨_, rfl⟩
      have zc := hFB.1.1
      have HW3 := Lib.hid (up_grown HW2.out hR.grown (fun k hk => by injection hk with hk; omega))
      have HO3 := Lib.hid (own_base (gup_own HO2.out hR.grown hrB3) (show B ≤ w.heap.size + 3 by omega))
      clear MP1 HW2 HO2 xc yc hc hR hM HM0 hFB
      go_wp2_with fail
      refine bodyPost_ret (v := .tuple #[.agg #[S t2, .int .i64 y, S cl, .slice UA m2.length UC, .int .i64 a2], .bool true]) (by simp [results, Tryz.results55, go_sem, zc]) rfl ?_
      exact ⟨.slice UA m2.length UC, HW3.out, (fun _ => ⟨rfl, HO3.out⟩), (fun h => by cases h)⟩

theorem l25_any (e : Es) (o : List (List UInt8)) (c : Ch) (cl : List UInt8) (v : Value) (B : Nat) (w : World) (h : RdM w v e.ms) (ho : OwnM w B v e.ms) (hB : B ≤ w.heap.size) (hin : EdIn e o) (hp : c.p.length ≤ 1048576) :
    Calls Tryz.prog 55 #[edW e v, chAgg c, S cl] w (EdOut B (edCh e c cl) e w) := by
  have hs := tv_len hin.g.t
  have x0 := hin.x0
  have x1 := hin.x1
  have MP : okF e.s c = true → Hid (∀ w, true = true → Calls Tryz.prog 91 #[chV c.a c.c c.p, .int .i64 e.x, .bool true] w fun en w' => en = .returned (.int .i64 (mvP c e.x)) ∧ Below w.heap.size w w') := fun hk => Lib.hid fun w _ => by
    have hi := okF_in hk
    have hq := okF_put hk
    exact specMovePlace_any c.a c.c e.x c.p w (inB_iff.2 ⟨by omega, by omega⟩) (inB_iff.2 ⟨by omega, by omega⟩) (inB_iff.2 ⟨by omega, by omega⟩) hq
  by_cases hd : okF e.s c = true ∧ e.ms.length ≠ 30
  · have H := specHd_any e.s e.ms e.pa o c hin.g hp true (by rw [hd.1, decide_eq_true hd.2]; rfl)
    simp only [if_true] at H
    refine (l25_ok e.s e.x e.cl e.ms e.pa c cl _ _ _ true v B w h ho hB H (MP hd.1)).mono fun en w' ⟨u, h1, h2, _⟩ => ?_
    obtain ⟨h3, h4⟩ := h2 rfl
    unfold edCh
    rw [if_pos hd]
    exact ⟨u, h3, h4, h1⟩
  · have H := specHd_any e.s e.ms e.pa o c hin.g hp false (by
      rcases h1 : okF e.s c with _ | _
      · rfl
      · rw [decide_eq_false (fun h2 => hd ⟨h1, h2⟩)]; rfl)
    refine (l25_ok e.s e.x e.cl e.ms e.pa c cl _ _ _ false v B w h ho hB H (Lib.hid fun w hk => by cases hk)).mono fun en w' ⟨u, h1, _, h2⟩ => ?_
    obtain ⟨h3, h4⟩ := h2 rfl
    unfold edCh
    rw [if_neg hd]
    exact ⟨u, h3, h4, h1⟩

end Go.Proofs.YtbjlkdenkmbepaaGreatDoor

namespace Go.Proofs.YtbjlkdenkmbepaaGreatDoor
open Go.RowKit
set_option linter.unusedVariables false

/-- box r holds editor e, whose row is the call's own. -/
def FX (r B : Nat) (e : Es) (w : World) : Prop := ∃ u, Is w r #[S e.s, .int .i64 e.x, S e.cl, u, .int .i64 e.pa] ∧ OwnM w B u e.ms ∧ r < w.heap.size
section
variable {r B : Nat} {e : Es} {w w' : World}
theorem FX.up (h : FX r B e w) (hb : Below w.heap.size w w') : FX r B e w' := by
  obtain ⟨u, h1, h2, h3⟩ := h
  exact ⟨u, h1.up h3 hb, own_up h2 hb, Nat.lt_of_lt_of_le h3 hb.size⟩
theorem rx_below (hb : Below w.heap.size w w') : RQ r (FX r B e) w w' := ⟨gb_upQ hb _, fun h => FX.up h hb⟩
theorem own_all5 {u : Value} {ms : List Mo} {r : Nat} (h : OwnM w B u ms) (hr : r < B) (v0 v1 v2 v3 v4 : Value) : OwnM (((((w.setCell ⟨r, 0, none⟩ v0).setCell ⟨r, 1, none⟩ v1).setCell ⟨r, 2, none⟩ v2).setCell ⟨r, 3, none⟩ v3).setCell ⟨r, 4, none⟩ v4) B u ms :=
  own_set (own_set (own_set (own_set (own_set h ⟨r, 0, none⟩ v0 hr) ⟨r, 1, none⟩ v1 hr) ⟨r, 2, none⟩ v2 hr) ⟨r, 3, none⟩ v3 hr) ⟨r, 4, none⟩ v4 hr
theorem x5_put (h : EX5 r w) (hr : r < B) {u : Value} (ho : OwnM w B u e.ms) :
    RQ r (FX r B e) w (((((w.setCell ⟨r, 0, none⟩ (S e.s)).setCell ⟨r, 1, none⟩ (.int .i64 e.x)).setCell ⟨r, 2, none⟩ (S e.cl)).setCell ⟨r, 3, none⟩ u).setCell ⟨r, 4, none⟩ (.int .i64 e.pa)) ∧
    EX5 r (((((w.setCell ⟨r, 0, none⟩ (S e.s)).setCell ⟨r, 1, none⟩ (.int .i64 e.x)).setCell ⟨r, 2, none⟩ (S e.cl)).setCell ⟨r, 3, none⟩ u).setCell ⟨r, 4, none⟩ (.int .i64 e.pa)) ∧
    FX r B e (((((w.setCell ⟨r, 0, none⟩ (S e.s)).setCell ⟨r, 1, none⟩ (.int .i64 e.x)).setCell ⟨r, 2, none⟩ (S e.cl)).setCell ⟨r, 3, none⟩ u).setCell ⟨r, 4, none⟩ (.int .i64 e.pa)) := by
  obtain ⟨q1, q2, q3⟩ := q5_put h (S e.s) (.int .i64 e.x) (S e.cl) u (.int .i64 e.pa)
  have q4 := own_all5 ho hr (S e.s) (.int .i64 e.x) (S e.cl) u (.int .i64 e.pa)
  generalize (((((w.setCell ⟨r, 0, none⟩ (S e.s)).setCell ⟨r, 1, none⟩ (.int .i64 e.x)).setCell ⟨r, 2, none⟩ (S e.cl)).setCell ⟨r, 3, none⟩ u).setCell ⟨r, 4, none⟩ (.int .i64 e.pa)) = W at *
  exact ⟨⟨q1.1, fun _ => ⟨u, q3.1, q4, q3.2⟩⟩, q2, u, q3.1, q4, q3.2⟩
def xTup (r B : Nat) (hr : r < B) (F : World → Prop) (e : Es) (ok : Bool) : Ty (RQ r F) := ⟨fun v w => ∃ u, v = .tuple #[edW e u, .bool ok] ∧ OwnM w B u e.ms, fun _ _ _ hR ⟨u, h1, h2⟩ => ⟨u, h1, gup_own h2 hR.1 hr⟩⟩
def xEd (r B : Nat) (hr : r < B) (F : World → Prop) (e : Es) : Ty (RQ r F) := ⟨fun v w => ∃ u, v = edW e u ∧ OwnM w B u e.ms, fun _ _ _ hR ⟨u, h1, h2⟩ => ⟨u, h1, gup_own h2 hR.1 hr⟩⟩
end
theorem ne32 {a : List UInt8} (h : ∀ c ∈ a, c ≠ 32) {k : Nat} (hk : k < a.length) : (((a[k]).toNat : Int) == 32) = false := by
  rw [beq_eq_false_iff_ne]
  intro e
  exact h a[k] (List.getElem_mem hk) (UInt8.toNat_inj.1 (show (a[k]).toNat = (32 : UInt8).toNat by show _ = 32; omega))
theorem sp_split2 (a : List UInt8) : (∀ c ∈ a, c ≠ 32) ∨ ∃ x y, a = x ++ 32 :: y ∧ ∀ c ∈ x, c ≠ 32 := by
  induction a with
  | nil => exact .inl fun c h => by cases h
  | cons c a ih =>
    by_cases hc : c = 32
    · exact .inr ⟨[], a, by rw [hc]; rfl, fun d h => by cases h⟩
    · rcases ih with h | ⟨x, y, rfl, h⟩
      · exact .inl fun d hd => by
          rcases List.mem_cons.1 hd with rfl | hd
          · exact hc
          · exact h d hd
      · exact .inr ⟨c :: x, y, rfl, fun d hd => by
          rcases List.mem_cons.1 hd with rfl | hd
          · exact hc
          · exact h d hd⟩

end Go.Proofs.YtbjlkdenkmbepaaGreatDoor
