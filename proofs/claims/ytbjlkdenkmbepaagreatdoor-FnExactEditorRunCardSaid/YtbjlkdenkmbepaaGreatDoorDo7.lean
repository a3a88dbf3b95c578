/- What is proved here: What is proved here: contracts of the program's put, and of its actions line, paste, right, left and cut. What is proved here: contracts of the program's actions cut, put, find and of what is no action. Condition: the cell of the library's MaxLen holds an int. No condition. -/
import Derived.Test.YtbjlkdenkmbepaaGreatDoorDo5
import Derived.Test.YtbjlkdenkmbepaaGreatDoorAc4
import Derived.BigQuiet
import Derived.Deep.Cut
import Derived.Test.YtbjlkdenkmbepaaGreatDoorEverL
import Derived.Test.YtbjlkdenkmbepaaGreatDoorAc12i
import Derived.Lib.Split
namespace Go.Proofs.YtbjlkdenkmbepaaGreatDoor
open Go.RowKit
set_option linter.unusedVariables false

/-- what putting a text leads to. -/
def edPut (e : Es) (t : List UInt8) : Option Es := if t = [] then none else edCh e ⟨e.x, 0, t⟩ e.cl
theorem edIn_len {e : Es} {o : List (List UInt8)} (h : EdIn e o) : e.s.length ≤ 120 := tv_len h.g.t
theorem EdBox.rd {w : World} {b : Nat} {s : List UInt8} {x : Int} {cl : List UInt8} {ms : List Mo} {pa : Int} (h : EdBox w b s x cl ms pa) : ∃ B d, Is w b #[S s, .int .i64 x, S cl, .slice B ms.length d, .int .i64 pa] ∧ b < w.heap.size := by
  obtain ⟨v, hI, hv, hvb, hbz⟩ := h
  obtain ⟨B, d, rfl, _, _⟩ := hv.1.form
  exact ⟨B, d, hI, hbz⟩
theorem edBox_set1 {w : World} {b : Nat} {s : List UInt8} {x : Int} {cl : List UInt8} {ms : List Mo} {pa : Int} (h : EdBox w b s x cl ms pa) (y : Int) : EdBox (w.setCell ⟨b, 1, none⟩ (.int .i64 y)) b s y cl ms pa := by
  obtain ⟨v, hI, hv, hvb, hbz⟩ := h
  exact ⟨v, by have := hI.set (i := 1) (by simp) (.int .i64 y); simpa using this, rdM_put hv hvb, hvb, by simpa [World.setCell] using hbz⟩
theorem edBox_set2 {w : World} {b : Nat} {s : List UInt8} {x : Int} {cl : List UInt8} {ms : List Mo} {pa : Int} (h : EdBox w b s x cl ms pa) (t : List UInt8) : EdBox (w.setCell ⟨b, 2, none⟩ (S t)) b s x t ms pa := by
  obtain ⟨v, hI, hv, hvb, hbz⟩ := h
  exact ⟨v, by have := hI.set (i := 2) (by simp) (S t); simpa using this, rdM_put hv hvb, hvb, by simpa [World.setCell] using hbz⟩
theorem edBox_drew {w : World} {b : Nat} {s : List UInt8} {x : Int} {cl : List UInt8} {ms : List Mo} {pa : Int} (h : EdBox w b s x cl ms pa) : EdBox w.drew b s x cl ms pa := by
  obtain ⟨v, hI, hv, hvb, hbz⟩ := h
  exact ⟨v, hI.drew, rdM_drew hv, hvb, hbz⟩

/-- what is in the box when an action is done. -/
def EdS (b : Nat) (r : Option Es) (w : World) : Prop := ∀ e2, r = some e2 → EdB w b e2
theorem EdS.up {b : Nat} {r : Option Es} {w w' : World} (h : EdS b r w) (hb : Below w.heap.size w w') : EdS b r w' := fun e2 he => EdBox.up (h e2 he) hb
/-- only box b changes, and what is done stays. -/
def RP (b : Nat) (F : World → Prop) (a c : World) : Prop := a.grownBy c (some b) ∧ (F a → F c)
theorem RP.refl (b : Nat) (F : World → Prop) (a : World) : RP b F a a := ⟨World.grownBy.refl _ _, fun h => h⟩
theorem RP.trans {b : Nat} {F : World → Prop} {x y z : World} (h : RP b F x y) (k : RP b F y z) : RP b F x z := ⟨gb_trans h.1 k.1, fun q => k.2 (h.2 q)⟩
theorem RP.grown {b : Nat} {F : World → Prop} {a c : World} (h : RP b F a.drew c) : a.grownBy c (some b) := ⟨h.1.os, h.1.tape, h.1.output, h.1.size, h.1.block⟩
theorem RP.of_do {b : Nat} {F : World → Prop} {a c : World} (h : a.grownBy c (some b)) (k : F c) : RP b F a c := ⟨h, fun _ => k⟩
theorem RP.of_below {b : Nat} {r : Option Es} {a c : World} (h : Below a.heap.size a c) : RP b (EdS b r) a c := ⟨gb_of_up h _, fun k => k.up h⟩
def pEq (b : Nat) (F : World → Prop) (u : Value) : Ty (RP b F) := ⟨fun v _ => v = u, fun _ _ _ _ h => h⟩
def pDo (b : Nat) (r : Option Es) : Ty (RP b (EdS b r)) := ⟨fun v w => v = .bool r.isSome ∧ EdS b r w, fun _ _ _ hR ⟨h1, h2⟩ => ⟨h1, hR.2 h2⟩⟩
set_option maxRecDepth 100000 in
set_option maxHeartbeats 1000000 in
theorem put_any (b : Nat) (e : Es) (o : List (List UInt8)) (t : List UInt8) (w : World) (h : EdB w b e) (hin : EdIn e o) (ht : t.length ≤ 1048576) :
    Calls Tryz.prog 107 #[.pointer (some ⟨b, 0, none⟩), S t] w (DoP b (edPut e t) w) := by
  obtain ⟨r, hr⟩ : ∃ r, r = edPut e t := ⟨_, rfl⟩
  rw [← hr]
  by_cases hne : t = []
  · subst hne
    obtain rfl : r = none := by rw [hr]; unfold edPut; rw [if_pos rfl]
    clear hr
    obtain ⟨B, d, hI, hz⟩ := h.rd
    go_enter Tryz.func107, Tryz.ntmps107
    go_wp2_with fail
    go_quiet (fail)
    go_wp2_with fail
    go_ret
    exact ⟨rfl, gb_of_up (up_drewN (Below.refl _ _) _) _, fun e2 he => by cases he⟩
  · have hsl := edIn_len hin
    have x0 := hin.x0
    have x1 := hin.x1
    have CH := Lib.hid (fun (w' : World) (h' : EdB w' b e) => change_any b e o ⟨e.x, 0, t⟩ (e.x + t.length) w' h' hin ht)
    rw [edCy_mv (mvP_put e.x t).symm, show edCh e ⟨e.x, 0, t⟩ e.cl = r by rw [hr]; unfold edPut; rw [if_neg hne]] at CH
    unfold DoP at CH ⊢
    unfold chAgg at CH
    simp only at CH
    have HE0 : EdB w.drew b e := edBox_drew h
    obtain ⟨s, x, cl, ms, pa⟩ := e
    simp only at x0 x1 hsl CH
    have b1 : (t == []) = false := by simpa using hne
    have b2 : t.isEmpty = false := by simpa using hne
    have b3 : (t != []) = true := by simpa using hne
    have a1 : IntKind.i64.wrap (x + (t.length : Int)) = x + (t.length : Int) := by rw [IntWalk.i64_in _ (by omega)]
    clear hr hne h
    go_enter Tryz.func107, Tryz.ntmps107
    go_upto_region 1 with (fail)
    --EVER{(*impl.Editor).put;1;put1}
    refine wp_region_everL (R := RP b (EdS b r)) (M := fun _ _ => True) 17 (fun w => EdB w b ⟨s, x, cl, ms, pa⟩) [(pEq _ _ (S t)).l, (pEq _ _ (.bool true)).l, (pEq _ _ (.bool true)).l, (pEq _ _ (.pointer (some ⟨b, 0, none⟩))).l, (pEq _ _ (.pointer (some ⟨b, 0, none⟩))).l, (pEq _ _ (.pointer (some ⟨b, 0, none⟩))).l, (pEq _ _ (.pointer (some ⟨b, 1, none⟩))).l, (pEq _ _ (.int .i64 x)).l, (pEq _ _ (S t)).l, (pEq _ _ (.agg #[.int .i64 x, .int .i64 0, S t])).l, (pEq _ _ (.pointer (some ⟨b, 0, none⟩))).l, (pEq _ _ (.pointer (some ⟨b, 0, none⟩))).l, (pEq _ _ (.pointer (some ⟨b, 1, none⟩))).l, (pEq _ _ (.int .i64 x)).l, (pEq _ _ (S t)).l, (pEq _ _ (.int .i64 t.length)).l, (pEq _ _ (.int .i64 (x + t.length))).l, (pDo b r).l, (pDo b r).l, (pDo b r).l] (by kernel_rfl) (RP.refl _ _) (fun _ _ _ => RP.trans) (by kernel_rfl) (by kernel_rfl) (trivial) (HE0) ?_ ?_
    · refine ⟨?_, ?_, ?_, ?_, ?_, ?_, ?_, ?_, ?_, ?_, ?_, ?_, ?_, ?_, ?_, ?_, ?_, ?_, ?_, ?_, trivial⟩
      · intro k' w' ρ hk' hR hM hD hF
        replace hk' : k' < 20 := hk'
        obtain ⟨f0, -⟩ := hF
        replace f0 : ρ (.tmp 1) = S t := f0
        exact ⟨RP.refl _ _ _, ⟨trivial, fun _ h => h⟩, f0, trivial⟩
      · intro k' w' ρ hk' hR hM hD hF
        replace hk' : k' < 20 := hk'
        obtain ⟨f0, f1, -⟩ := hF
        replace f0 : ρ (.tmp 5) = S t := f0
        replace f1 : ρ (.const (.string ⟨#[]⟩)) = .string ⟨#[]⟩ := f1
        refine goodL_of (fun _ => trivial) fun K hK => ?_
        go_simp
        exact hK _ _ (RP.refl _ _ _) (⟨trivial, fun _ h => h⟩) (rfl)
      · intro k' w' ρ hk' hR hM hD hF
        replace hk' : k' < 20 := hk'
        obtain ⟨f0, -⟩ := hF
        replace f0 : ρ (.tmp 6) = .bool true := f0
        exact ⟨RP.refl _ _ _, ⟨trivial, fun _ h => h⟩, f0, trivial⟩
      · intro k' w' ρ hk' hR hM hD hF
        replace hk' : k' < 20 := hk'
        obtain ⟨f0, -⟩ := hF
        replace f0 : ρ (.tmp 0) = .pointer (some ⟨b, 0, none⟩) := f0
        refine fun u hu => ⟨fun _ => ?_, fun hn => absurd hu hn⟩
        exact ⟨RP.refl _ _ _, ⟨trivial, fun _ h => h⟩, f0, trivial⟩
      · intro k' w' ρ hk' hR hM hD hF
        replace hk' : k' < 20 := hk'
        obtain ⟨f0, -⟩ := hF
        replace f0 : ρ (.tmp 0) = .pointer (some ⟨b, 0, none⟩) := f0
        refine fun u hu => ⟨fun _ => ?_, fun hn => absurd hu hn⟩
        exact ⟨RP.refl _ _ _, ⟨trivial, fun _ h => h⟩, f0, trivial⟩
      · intro k' w' ρ hk' hR hM hD hF
        replace hk' : k' < 20 := hk'
        obtain ⟨f0, -⟩ := hF
        replace f0 : ρ (.tmp 9) = .pointer (some ⟨b, 0, none⟩) := f0
        refine fun u hu => ⟨fun _ => ?_, fun hn => absurd hu hn⟩
        refine goodL_of (fun _ => trivial) fun K hK => ?_
        go_simp
        exact hK _ _ (RP.refl _ _ _) (⟨trivial, fun _ h => h⟩) (rfl)
      · intro k' w' ρ hk' hR hM hD hF
        replace hk' : k' < 20 := hk'
        obtain ⟨f0, -⟩ := hF
        replace f0 : ρ (.tmp 10) = .pointer (some ⟨b, 0, none⟩) := f0
        refine fun u hu => ⟨fun _ => ?_, fun hn => absurd hu hn⟩
        refine goodL_of (fun _ => trivial) fun K hK => ?_
        go_simp
        exact hK _ _ (RP.refl _ _ _) (⟨trivial, fun _ h => h⟩) (rfl)
      · intro k' w' ρ hk' hR hM hD hF
        replace hk' : k' < 20 := hk'
        obtain ⟨f0, -⟩ := hF
        replace f0 : ρ (.tmp 11) = .pointer (some ⟨b, 1, none⟩) := f0
        refine fun u hu => ⟨fun _ => ?_, fun hn => absurd hu hn⟩
        refine goodL_of (fun _ => trivial) fun K hK => ?_
        obtain ⟨B, d, hI, hz⟩ := (hD (by kernel_rfl)).rd; have z1 := hI.1 1; simp only [List.getElem?_toArray, List.getElem?_cons_zero, List.getElem?_cons_succ] at z1; go_simp; exact hK _ _ (RP.refl _ _ _) (⟨trivial, fun _ h => h⟩) rfl
      · intro k' w' ρ hk' hR hM hD hF
        replace hk' : k' < 20 := hk'
        obtain ⟨f0, -⟩ := hF
        replace f0 : ρ (.tmp 1) = S t := f0
        refine fun u hu => ⟨fun _ => ?_, fun hn => absurd hu hn⟩
        exact ⟨RP.refl _ _ _, ⟨trivial, fun _ h => h⟩, f0, trivial⟩
      · intro k' w' ρ hk' hR hM hD hF
        replace hk' : k' < 20 := hk'
        obtain ⟨f0, f1, -⟩ := hF
        replace f0 : ρ (.tmp 12) = .int .i64 x := f0
        replace f1 : ρ (.tmp 13) = S t := f1
        refine fun u hu => ⟨fun _ => ?_, fun hn => absurd hu hn⟩
        refine goodL_of (fun _ => trivial) fun K hK => ?_
        go_simp
        exact hK _ _ (RP.refl _ _ _) (⟨trivial, fun _ h => h⟩) (rfl)
      · intro k' w' ρ hk' hR hM hD hF
        replace hk' : k' < 20 := hk'
        obtain ⟨f0, -⟩ := hF
        replace f0 : ρ (.tmp 0) = .pointer (some ⟨b, 0, none⟩) := f0
        refine fun u hu => ⟨fun _ => ?_, fun hn => absurd hu hn⟩
        exact ⟨RP.refl _ _ _, ⟨trivial, fun _ h => h⟩, f0, trivial⟩
      · intro k' w' ρ hk' hR hM hD hF
        replace hk' : k' < 20 := hk'
        obtain ⟨f0, -⟩ := hF
        replace f0 : ρ (.tmp 15) = .pointer (some ⟨b, 0, none⟩) := f0
        refine fun u hu => ⟨fun _ => ?_, fun hn => absurd hu hn⟩
        refine goodL_of (fun _ => trivial) fun K hK => ?_
        go_simp
        exact hK _ _ (RP.refl _ _ _) (⟨trivial, fun _ h => h⟩) (rfl)
      · intro k' w' ρ hk' hR hM hD hF
        replace hk' : k' < 20 := hk'
        obtain ⟨f0, -⟩ := hF
        replace f0 : ρ (.tmp 16) = .pointer (some ⟨b, 0, none⟩) := f0
        refine fun u hu => ⟨fun _ => ?_, fun hn => absurd hu hn⟩
        refine goodL_of (fun _ => trivial) fun K hK => ?_
        go_simp
        exact hK _ _ (RP.refl _ _ _) (⟨trivial, fun _ h => h⟩) (rfl)
      · intro k' w' ρ hk' hR hM hD hF
        replace hk' : k' < 20 := hk'
        obtain ⟨f0, -⟩ := hF
        replace f0 : ρ (.tmp 17) = .pointer (some ⟨b, 1, none⟩) := f0
        refine fun u hu => ⟨fun _ => ?_, fun hn => absurd hu hn⟩
        refine goodL_of (fun _ => trivial) fun K hK => ?_
        obtain ⟨B, d, hI, hz⟩ := (hD (by kernel_rfl)).rd; have z1 := hI.1 1; simp only [List.getElem?_toArray, List.getElem?_cons_zero, List.getElem?_cons_succ] at z1; go_simp; exact hK _ _ (RP.refl _ _ _) (⟨trivial, fun _ h => h⟩) rfl
      · intro k' w' ρ hk' hR hM hD hF
        replace hk' : k' < 20 := hk'
        obtain ⟨f0, -⟩ := hF
        replace f0 : ρ (.tmp 1) = S t := f0
        refine fun u hu => ⟨fun _ => ?_, fun hn => absurd hu hn⟩
        exact ⟨RP.refl _ _ _, ⟨trivial, fun _ h => h⟩, f0, trivial⟩
      · intro k' w' ρ hk' hR hM hD hF
        replace hk' : k' < 20 := hk'
        obtain ⟨f0, -⟩ := hF
        replace f0 : ρ (.tmp 19) = S t := f0
        refine fun u hu => ⟨fun _ => ?_, fun hn => absurd hu hn⟩
        refine goodL_of (fun _ => trivial) fun K hK => ?_
        go_simp
        exact hK _ _ (RP.refl _ _ _) (⟨trivial, fun _ h => h⟩) (rfl)
      · intro k' w' ρ hk' hR hM hD hF
        replace hk' : k' < 20 := hk'
        obtain ⟨f0, f1, -⟩ := hF
        replace f0 : ρ (.tmp 18) = .int .i64 x := f0
        replace f1 : ρ (.tmp 20) = .int .i64 t.length := f1
        refine fun u hu => ⟨fun _ => ?_, fun hn => absurd hu hn⟩
        refine goodL_of (fun _ => trivial) fun K hK => ?_
        go_simp
        exact hK _ _ (RP.refl _ _ _) (⟨trivial, fun _ h => h⟩) (rfl)
      · intro k' w' ρ hk' hR hM hD hF
        replace hk' : k' < 20 := hk'
        obtain ⟨f0, f1, f2, f3, -⟩ := hF
        replace f0 : ρ (.func _) = .func (.func _) #[] #[] := f0
        replace f1 : ρ (.tmp 8) = .pointer (some ⟨b, 0, none⟩) := f1
        replace f2 : ρ (.tmp 14) = .agg #[.int .i64 x, .int .i64 0, S t] := f2
        replace f3 : ρ (.tmp 21) = .int .i64 (x + t.length) := f3
        refine fun u hu => ⟨fun _ => ?_, fun hn => absurd hu hn⟩
        refine goodL_of (fun _ => trivial) fun K hK => ?_
        have hE := Lib.hid (hD (by kernel_rfl)); go_simp; refine (CH.out _ hE.out).mono ?_; rintro en wc ⟨rfl, hg2, h2⟩; exact ⟨_, rfl, hK _ _ (RP.of_do hg2 h2) ⟨trivial, fun h => absurd rfl h⟩ ⟨rfl, h2⟩⟩
      · intro k' w' ρ hk' hR hM hD hF
        replace hk' : k' < 20 := hk'
        obtain ⟨f0, f1, f2, -⟩ := hF
        replace f0 : ρ (.tmp 7) = .bool true := f0
        replace f2 : ρ (.const (.bool false)) = .bool false := f2
        refine goodL_of (fun _ => trivial) fun K hK => ?_
        obtain ⟨f1, q1⟩ := f1; replace f1 : ρ (.tmp 22) = .bool r.isSome := f1; have Q1 := Lib.hid q1; clear q1; go_simp; exact hK _ _ (RP.refl _ _ _) ⟨trivial, fun _ h => h⟩ ⟨rfl, Q1.out⟩
      · intro k' w' ρ hk' hR hM hD hF
        replace hk' : k' < 20 := hk'
        obtain ⟨f0, -⟩ := hF
        refine goodL_of (fun _ => trivial) fun K hK => ?_
        obtain ⟨f0, q0⟩ := f0; replace f0 : ρ (.tmp 23) = .bool r.isSome := f0; have Q0 := Lib.hid q0; clear q0; go_simp; exact hK _ _ (RP.refl _ _ _) ⟨trivial, fun _ h => h⟩ ⟨rfl, Q0.out⟩
    · intro w' hR hM
      rintro _ rfl -
      rintro _ rfl -
      rintro _ rfl -
      rintro _ rfl -
      rintro _ rfl -
      rintro _ rfl -
      rintro _ rfl -
      rintro _ rfl -
      rintro _ rfl -
      rintro _ rfl -
      rintro _ rfl -
      rintro _ rfl -
      rintro _ rfl -
      rintro _ rfl -
      rintro _ rfl -
      rintro _ rfl -
      rintro _ rfl -
      rintro _ ⟨rfl, hF17⟩ -
      rintro _ ⟨rfl, -⟩ -
      rintro _ ⟨rfl, -⟩ -
    --END
    --END
      dsimp only [EndAllL, Act.put]
      simp only [List.setIfInBounds_toArray, List.set_cons_zero, List.set_cons_succ]
      have HQ := Lib.hid (And.intro hR.grown hF17)
      obtain ⟨w3, rfl⟩ : ∃ z, z = w' := ⟨_, rfl⟩
      clear hR hM CH HE0
      go_wp2_with fail
      go_ret
      exact ⟨rfl, HQ.out⟩
set_option maxRecDepth 100000 in
set_option maxHeartbeats 1000000 in
theorem do_line (b : Nat) (e : Es) (o : List (List UInt8)) (w : World) (h : EdB w b e) (hin : EdIn e o) :
    Calls Tryz.prog 65 #[.pointer (some ⟨b, 0, none⟩), .string ⟨#[108, 105, 110, 101]⟩] w (DoP b (edDo e o .line) w) := by
  have P := Lib.hid (put_any b e o [10] w h hin (by simp))
  rw [show edPut e [10] = edDo e o .line by unfold edPut; rw [if_neg (by simp)]; rfl] at P
  generalize edDo e o .line = r at *
  clear h hin
  unfold DoP at P ⊢
  go_enter Tryz.func65, Tryz.ntmps65
  go_wp2_with fail
  refine P.out.mono ?_
  rintro en w2 ⟨rfl, hg2, h2⟩
  have HQ := Lib.hid (And.intro hg2 h2)
  clear P hg2 h2
  go_wp2_with fail
  go_ret
  exact ⟨rfl, HQ.out⟩
set_option maxRecDepth 100000 in
set_option maxHeartbeats 1000000 in
theorem do_paste (b : Nat) (e : Es) (o : List (List UInt8)) (w : World) (h : EdB w b e) (hin : EdIn e o) :
    Calls Tryz.prog 65 #[.pointer (some ⟨b, 0, none⟩), .string ⟨#[112, 97, 115, 116, 101]⟩] w (DoP b (edDo e o .paste) w) := by
  have P := Lib.hid (put_any b e o e.cl w h hin (by have := tv_len hin.c; omega))
  rw [show edPut e e.cl = edDo e o .paste from rfl] at P
  generalize edDo e o .paste = r at *
  obtain ⟨B, d, hI, hz⟩ := h.rd
  obtain ⟨s, x, cl, ms, pa⟩ := e
  simp only at hI P
  have xc := hI.1
  clear h hin hI
  unfold DoP at P ⊢
  go_enter Tryz.func65, Tryz.ntmps65
  go_wp2_with fail
  refine P.out.mono ?_
  rintro en w2 ⟨rfl, hg2, h2⟩
  have HQ := Lib.hid (And.intro hg2 h2)
  clear P hg2 h2 xc
  go_wp2_with fail
  go_ret
  exact ⟨rfl, HQ.out⟩
set_option maxRecDepth 100000 in
set_option maxHeartbeats 1000000 in
theorem do_right (b : Nat) (e : Es) (o : List (List UInt8)) (w : World) (h : EdB w b e) (hin : EdIn e o) :
    Calls Tryz.prog 65 #[.pointer (some ⟨b, 0, none⟩), .string ⟨#[114, 105, 103, 104, 116]⟩] w (DoP b (edDo e o .right) w) := by
  obtain ⟨p, hp⟩ : ∃ p : Nat, e.x = p := ⟨e.x.toNat, by have := hin.x0; omega⟩
  have hpl : p ≤ e.s.length := by have := hin.x1; omega
  have T := hin.g.t
  unfold EdB at h
  have HE := Lib.hid h
  obtain ⟨B, d, hI, hz⟩ := h.rd
  obtain ⟨s, x, cl, ms, pa⟩ := e
  simp only at hI hp hpl T HE
  subst hp
  have xc := hI.1
  have xf := hI.2
  rw [show edDo ⟨s, (p : Int), cl, ms, pa⟩ o .right = some ⟨s, (moR s p : Nat), cl, ms, pa⟩ from rfl]
  have WD := Lib.hid (fun w => implWordRight_any s p w T hpl)
  generalize moR s p = q at *
  obtain ⟨r, hr⟩ : ∃ r : Es, r = ⟨s, (q : Int), cl, ms, pa⟩ := ⟨_, rfl⟩
  rw [← hr]
  have HS := Lib.hid (show EdB (w.setCell ⟨b, 1, none⟩ (.int .i64 q)).drew b r by rw [hr]; exact edBox_drew (edBox_set1 HE.out q))
  have HG := Lib.hid (show w.grownBy (w.setCell ⟨b, 1, none⟩ (.int .i64 q)).drew (some b) from gb_drew (gb_here (World.grownBy.refl _ _) rfl _))
  clear hr hI h hin HE hpl T
  unfold DoP
  go_enter Tryz.func65, Tryz.ntmps65
  go_wp2_with fail
  go_region_with (go_at_call 110; refine (WD.out _).mono ?_; rintro en w2 ⟨rfl, rfl⟩)
  all_goals
    clear WD xc xf
    go_wp2_with fail
    go_ret
    exact ⟨rfl, HG.out, fun e2 he => by injection he with he; subst he; exact HS.out⟩
set_option maxRecDepth 100000 in
set_option maxHeartbeats 1000000 in
theorem do_left (b : Nat) (e : Es) (o : List (List UInt8)) (w : World) (h : EdB w b e) (hin : EdIn e o) :
    Calls Tryz.prog 65 #[.pointer (some ⟨b, 0, none⟩), .string ⟨#[108, 101, 102, 116]⟩] w (DoP b (edDo e o .left) w) := by
  obtain ⟨p, hp⟩ : ∃ p : Nat, e.x = p := ⟨e.x.toNat, by have := hin.x0; omega⟩
  have hpl : p ≤ e.s.length := by have := hin.x1; omega
  have T := hin.g.t
  unfold EdB at h
  have HE := Lib.hid h
  obtain ⟨B, d, hI, hz⟩ := h.rd
  obtain ⟨s, x, cl, ms, pa⟩ := e
  simp only at hI hp hpl T HE
  subst hp
  have xc := hI.1
  have xf := hI.2
  rw [show edDo ⟨s, (p : Int), cl, ms, pa⟩ o .left = some ⟨s, (moL s p : Nat), cl, ms, pa⟩ from rfl]
  have WD := Lib.hid (fun w => implWordLeft_any s p w T hpl)
  generalize moL s p = q at *
  obtain ⟨r, hr⟩ : ∃ r : Es, r = ⟨s, (q : Int), cl, ms, pa⟩ := ⟨_, rfl⟩
  rw [← hr]
  have HS := Lib.hid (show EdB (w.setCell ⟨b, 1, none⟩ (.int .i64 q)).drew b r by rw [hr]; exact edBox_drew (edBox_set1 HE.out q))
  have HG := Lib.hid (show w.grownBy (w.setCell ⟨b, 1, none⟩ (.int .i64 q)).drew (some b) from gb_drew (gb_here (World.grownBy.refl _ _) rfl _))
  clear hr hI h hin HE hpl T
  unfold DoP
  go_enter Tryz.func65, Tryz.ntmps65
  go_wp2_with fail
  go_region_with (go_at_call 111; refine (WD.out _).mono ?_; rintro en w2 ⟨rfl, rfl⟩)
  all_goals
    clear WD xc xf
    go_wp2_with fail
    go_ret
    exact ⟨rfl, HG.out, fun e2 he => by injection he with he; subst he; exact HS.out⟩

end Go.Proofs.YtbjlkdenkmbepaaGreatDoor

namespace Go.Proofs.YtbjlkdenkmbepaaGreatDoor
open Go.RowKit Go.Shelf
set_option linter.unusedVariables false

theorem cut_at : ∀ (x y : List UInt8), (∀ c ∈ x, c ≠ 32) → Lib.index (x ++ 32 :: y) [32] = (x.length : Int)
  | [], y, _ => by
    show Lib.index (32 :: y) [32] = 0
    rw [Lib.index]
    rfl
  | c :: x, y, h => by
    have hc : c ≠ 32 := h c (by simp)
    have ih := cut_at x y fun d hd => h d (by simp [hd])
    have hp : [(32 : UInt8)].isPrefixOf (c :: (x ++ 32 :: y)) = false := by
      simp [List.isPrefixOf]
      exact fun e => hc e.symm
    rw [List.cons_append, Lib.index, hp, ih]
    have : ((x.length : Int) == -1) = false := by rw [beq_eq_false_iff_ne]; omega
    simp [this]
theorem cut_no : ∀ (x : List UInt8), (∀ c ∈ x, c ≠ 32) → Lib.index x [32] = -1
  | [], _ => rfl
  | c :: x, h => by
    have hc : c ≠ 32 := h c (by simp)
    have ih := cut_no x fun d hd => h d (by simp [hd])
    have hp : [(32 : UInt8)].isPrefixOf (c :: x) = false := by
      simp [List.isPrefixOf]
      exact fun e => hc e.symm
    rw [Lib.index, hp, ih]
    simp
theorem sp_split (a : List UInt8) : (∀ c ∈ a, c ≠ 32) ∨ ∃ x y, a = x ++ 32 :: y ∧ ∀ c ∈ x, c ≠ 32 := by
  induction a with
  | nil => exact .inl fun c h => by cases h
  | cons c a ih =>
    by_cases hc : c = 32
    · exact .inr ⟨[], a, by rw [hc]; rfl, fun d h => by cases h⟩
    · rcases ih with h | ⟨x, y, rfl, h⟩
      · exact .inl fun d hd => by
          rcases List.mem_cons.1 hd with rfl | hd
          · exact hc
          · exact h d hd
      · exact .inr ⟨c :: x, y, rfl, fun d hd => by
          rcases List.mem_cons.1 hd with rfl | hd
          · exact hc
          · exact h d hd⟩
theorem cut_yes (x y : List UInt8) (h : ∀ c ∈ x, c ≠ 32) : Lib.cut (x ++ 32 :: y) [32] = (x, y, true) := by
  unfold Lib.cut
  rw [cut_at x y h]
  simp
theorem cut_none (x : List UInt8) (h : ∀ c ∈ x, c ≠ 32) : Lib.cut x [32] = (x, [], false) := by
  unfold Lib.cut
  rw [cut_no x h]
  simp
theorem strCut_yes (a x y : List UInt8) (w : World) (ha : a = x ++ 32 :: y) (h : ∀ c ∈ x, c ≠ 32) (hl : a.length ≤ 1048576) (hm : MX w) :
    Calls Tryz.prog 115 #[S a, S [32]] w fun e w' => e = .returned (.tuple #[S x, S y, .bool true]) ∧ Below w.heap.size w w' := by
  obtain ⟨m, hm⟩ := hm
  refine (Tryz.strings_Cut ⟨a.toArray⟩ ⟨[32].toArray⟩ m w (by show a.length < _; omega) hm).mono ?_
  rintro e w' ⟨rfl, n, rfl⟩
  have hc : Lib.cut (⟨a.toArray⟩ : ByteArray).data.toList (⟨[32].toArray⟩ : ByteArray).data.toList = (x, y, true) := by
    show Lib.cut a [32] = _
    rw [ha]
    exact cut_yes x y h
  rw [hc]
  exact ⟨rfl, up_drewN (Below.refl _ _) _⟩
theorem strCut_no (a : List UInt8) (w : World) (h : ∀ c ∈ a, c ≠ 32) (hl : a.length ≤ 1048576) (hm : MX w) :
    Calls Tryz.prog 115 #[S a, S [32]] w fun e w' => e = .returned (.tuple #[S a, S [], .bool false]) ∧ Below w.heap.size w w' := by
  obtain ⟨m, hm⟩ := hm
  refine (Tryz.strings_Cut ⟨a.toArray⟩ ⟨[32].toArray⟩ m w (by show a.length < _; omega) hm).mono ?_
  rintro e w' ⟨rfl, n, rfl⟩
  have hc : Lib.cut (⟨a.toArray⟩ : ByteArray).data.toList (⟨[32].toArray⟩ : ByteArray).data.toList = (a, [], false) := by
    show Lib.cut a [32] = _
    exact cut_none a h
  rw [hc]
  exact ⟨rfl, up_drewN (Below.refl _ _) _⟩
set_option maxRecDepth 100000 in
set_option maxHeartbeats 2000000 in
theorem do_cut (b : Nat) (e : Es) (o : List (List UInt8)) (w : World) (h : EdB w b e) (hin : EdIn e o) :
    Calls Tryz.prog 65 #[.pointer (some ⟨b, 0, none⟩), .string ⟨#[99, 117, 116]⟩] w (DoP b (edDo e o .cut) w) := by
  obtain ⟨p, hp⟩ : ∃ p : Nat, e.x = p := ⟨e.x.toNat, by have := hin.x0; omega⟩
  have hpl : p ≤ e.s.length := by have := hin.x1; omega
  have T := hin.g.t
  have hsl := tv_len T
  have WD := Lib.hid (fun w => implWordAround_any e.s p w T hpl)
  have wa := waA_le e.s p
  have wz := waZ_le e.s p hpl
  have hdo : edDo e o .cut = if waA e.s p = waZ e.s p then none else edCh e ⟨waA e.s p, (waZ e.s p : Int) - waA e.s p, []⟩ ((e.s.take (waZ e.s p)).drop (waA e.s p)) := by
    show (if waA e.s e.x.toNat = waZ e.s e.x.toNat then none else edCh e ⟨waA e.s e.x.toNat, (waZ e.s e.x.toNat : Int) - waA e.s e.x.toNat, []⟩ ((e.s.take (waZ e.s e.x.toNat)).drop (waA e.s e.x.toNat))) = _
    rw [hp, Int.toNat_natCast]
  rw [hdo]
  clear hdo
  obtain ⟨f, hf⟩ : ∃ f, f = waA e.s p := ⟨_, rfl⟩
  obtain ⟨z, hz⟩ : ∃ z, z = waZ e.s p := ⟨_, rfl⟩
  rw [← hf, ← hz] at WD ⊢
  rw [← hf] at wa
  rw [← hz] at wz
  clear hf hz
  have CH := Lib.hid (fun (w' : World) (h' : EdB w' b e) => change_any b e o ⟨f, (z : Int) - f, []⟩ f w' h' hin (by simp))
  unfold DoP at CH ⊢
  unfold chAgg at CH
  simp only at CH
  have HE := Lib.hid h
  obtain ⟨B, d, hI, hbz⟩ := h.rd
  have hmv : (f : Int) = mvP ⟨f, (z : Int) - f, []⟩ p := (mvP_cut (by omega) (by omega)).symm
  have HEY := Lib.hid (show edCy e ⟨f, (z : Int) - f, []⟩ f = edCh e ⟨f, (z : Int) - f, []⟩ e.cl from edCy_mv (by rw [hp]; exact hmv))
  rw [HEY.out] at CH
  clear HEY
  have HC1 := Lib.hid (fun e2 (he : edCh e ⟨f, (z : Int) - f, []⟩ e.cl = some e2) => (show edCh e ⟨f, (z : Int) - f, []⟩ ((e.s.take z).drop f) = some { e2 with cl := (e.s.take z).drop f } by
    unfold edCh at he ⊢
    split at he
    · rename_i hc
      injection he with he
      rw [if_pos hc, ← he]
    · cases he))
  have HC2 := Lib.hid (fun (he : edCh e ⟨f, (z : Int) - f, []⟩ e.cl = none) => (show edCh e ⟨f, (z : Int) - f, []⟩ ((e.s.take z).drop f) = none by
    unfold edCh at he ⊢
    split at he
    · cases he
    · rename_i hc
      rw [if_neg hc]))
  generalize edCh e ⟨f, (z : Int) - f, []⟩ e.cl = r1 at *
  generalize edCh e ⟨f, (z : Int) - f, []⟩ ((e.s.take z).drop f) = r2 at *
  obtain ⟨s, x, cl, ms, pa⟩ := e
  simp only at *
  subst hp
  have xc := hI.1
  have l0 : (0 : Int) ≤ (f : Int) := by omega
  have l1 : (f : Int) ≤ (z : Int) := by omega
  have l2 : (z : Int) ≤ (s.length : Int) := by omega
  clear h hin hI T wa hmv
  by_cases hfz : f = z
  · rw [if_pos hfz]
    have hem : (s.take z).drop f = [] := by rw [hfz]; exact List.drop_eq_nil_of_le (by rw [List.length_take]; omega)
    clear hfz CH HC1 HC2 wz
    go_enter Tryz.func65, Tryz.ntmps65
    go_wp2_with fail
    go_quiet ((go_at_call 108; refine Calls.quiet_of_same ((WD.out _).mono fun _ _ hq => ⟨hq.1, hq.2.symm⟩)))
    go_wp2_with fail
    go_ret
    exact ⟨rfl, gb_of_up (up_drewN (Below.refl _ _) _) _, fun e2 he => by cases he⟩
  · rw [if_neg hfz]
    have hne : (s.take z).drop f ≠ [] := fun hx => by
      have := congrArg List.length hx
      rw [List.length_drop, List.length_take] at this
      simp at this
      omega
    have b1 : ((s.take z).drop f == []) = false := by simpa using hne
    have b2 : ((s.take z).drop f).isEmpty = false := by simpa using hne
    clear hfz wz hne
    go_enter Tryz.func65, Tryz.ntmps65
    go_wp2_with fail
    go_quiet ((go_at_call 108; refine Calls.quiet_of_same ((WD.out _).mono fun _ _ hq => ⟨hq.1, hq.2.symm⟩)))
    have HB := Lib.hid (show Below w.heap.size w (w.drewN nq) from up_drewN (Below.refl _ _) nq)
    go_wp2_with fail
    refine (CH.out _ (EdBox.up HE.out HB.out)).mono ?_
    rintro en w2 ⟨rfl, hg2, h2⟩
    have HG := Lib.hid (gb_trans (gb_of_up HB.out (some b)) hg2)
    have H2 := Lib.hid h2
    clear hg2 h2 xc CH WD
    rcases r1 with _ | e2
    · have HN := Lib.hid (HC2.out rfl)
      go_wp2_with fail
      go_ret
      exact ⟨by rw [HN.out]; rfl, HG.out, fun e3 he => by rw [HN.out] at he; cases he⟩
    · have HY := Lib.hid (HC1.out e2 rfl)
      have hE2 := H2.out e2 rfl
      have HS := Lib.hid (edBox_set2 hE2 ((s.take z).drop f))
      obtain ⟨B2, d2, hI2, hz2⟩ := EdBox.rd hE2
      have xc := hI2.1
      have xf := hI2.2
      have HG2 := Lib.hid (show w.grownBy (w2.setCell ⟨b, 2, none⟩ (S ((s.take z).drop f))) (some b) from gb_here HG.out rfl _)
      clear hE2 hI2 H2
      go_wp2_with fail
      go_ret
      exact ⟨by rw [HY.out]; rfl, HG2.out, fun e3 he => by rw [HY.out] at he; injection he with he; subst he; exact HS.out⟩
set_option maxRecDepth 100000 in
set_option maxHeartbeats 1000000 in
theorem do_put (b : Nat) (e : Es) (o : List (List UInt8)) (a r : List UInt8) (w : World) (h : EdB w b e) (hin : EdIn e o) (ha : a = 112 :: 117 :: 116 :: 32 :: r) (hl : a.length ≤ 1048576) (hm : MX w) :
    Calls Tryz.prog 65 #[.pointer (some ⟨b, 0, none⟩), S a] w (DoP b (edDo e o (.put r)) w) := by
  have C := Lib.hid (strCut_yes a [112, 117, 116] r w ha (by decide) hl hm)
  have P := Lib.hid (fun (w' : World) (h' : EdB w' b e) => put_any b e o r w' h' hin (by have := congrArg List.length ha; simp at this; omega))
  rw [show edPut e r = edDo e o (.put r) from rfl] at P
  generalize edDo e o (.put r) = q at *
  have HE := Lib.hid h
  subst ha
  clear h hin hl hm
  unfold DoP at P ⊢
  go_enter Tryz.func65, Tryz.ntmps65
  go_wp2_with fail
  refine C.out.mono ?_
  rintro en w1 ⟨rfl, hb⟩
  have HB := Lib.hid hb
  clear C hb
  go_wp2_with fail
  refine (P.out _ (EdBox.up HE.out HB.out)).mono ?_
  rintro en w2 ⟨rfl, hg2, h2⟩
  have HQ := Lib.hid (And.intro (gb_trans (gb_of_up HB.out (some b)) hg2) h2)
  clear P hg2 h2
  go_wp2_with fail
  go_ret
  exact ⟨rfl, HQ.out⟩
set_option maxRecDepth 100000 in
set_option maxHeartbeats 1000000 in
theorem do_find (b : Nat) (e : Es) (o : List (List UInt8)) (a r : List UInt8) (w : World) (h : EdB w b e) (hin : EdIn e o) (ha : a = 102 :: 105 :: 110 :: 100 :: 32 :: r) (hl : a.length ≤ 1048576) (hm : MX w) :
    Calls Tryz.prog 65 #[.pointer (some ⟨b, 0, none⟩), S a] w (DoP b (edDo e o (.find r)) w) := by
  have C := Lib.hid (strCut_yes a [102, 105, 110, 100] r w ha (by decide) hl hm)
  obtain ⟨p, hp⟩ : ∃ p : Nat, e.x = p := ⟨e.x.toNat, by have := hin.x0; omega⟩
  have hpl : p ≤ e.s.length := by have := hin.x1; omega
  have T := hin.g.t
  have hsl := tv_len T
  have HM := Lib.hid hm
  have F := Lib.hid (fun w' (hm' : MX w') => implFindNext_any e.s r (p + 1) w' T (by omega) (by have := congrArg List.length ha; simp at this; unfold maxLen; omega) hm')
  have hdo : edDo e o (.find r) = if fnx e.s r (p + 1) < 0 then none else some { e with x := fnx e.s r (p + 1) } := by
    show (if fnx e.s r (e.x.toNat + 1) < 0 then none else some { e with x := fnx e.s r (e.x.toNat + 1) }) = _
    rw [hp, Int.toNat_natCast]
  rw [hdo]
  clear hdo
  generalize fnx e.s r (p + 1) = n at *
  obtain ⟨q, hq⟩ : ∃ q : Option Es, q = if n < 0 then none else some { e with x := n } := ⟨_, rfl⟩
  rw [← hq]
  have HQ1 := Lib.hid (fun (h : n < 0) => show q = none by rw [hq, if_pos h])
  have HQ2 := Lib.hid (fun (h : ¬ n < 0) => show q = some { e with x := n } by rw [hq, if_neg h])
  clear hq
  have HE := Lib.hid h
  obtain ⟨s, x, cl, ms, pa⟩ := e
  simp only at *
  subst hp
  have e1 : IntKind.i64.wrap ((p : Int) + 1) = ((p + 1 : Nat) : Int) := by rw [IntWalk.i64_in _ (by omega)]; omega
  subst ha
  clear h hin hl hm T
  unfold DoP
  go_enter Tryz.func65, Tryz.ntmps65
  go_wp2_with fail
  refine C.out.mono ?_
  rintro en w1 ⟨rfl, hb⟩
  have HB := Lib.hid hb
  have hne1 := UpW.nonempty w1
  have F1 := Lib.hid (fun y : UpW w1 => calls_up ((F.out (y.at w1) ((HM.out.up hb).up y.below)).mono fun _ _ hq => (show _ ∧ Below _ _ _ from ⟨hq.1, by rw [← hq.2]; exact Below.refl _ _⟩)))
  have hE1 := EdBox.up HE.out hb
  obtain ⟨B, d, hI, hz⟩ := hE1.rd
  have HE1 := Lib.hid hE1
  have xc := hI.1
  have xf := hI.2
  clear C hb HE hE1 hI F HM
  go_wp2_with fail
  refine wp_region_up_lit (by kernel_rfl) (by kernel_rfl) ?_
  repeat (go_big_quiet_step ((go_at_call 116; exact F1.out _)))
  refine wpQuiet_nil ?_
  intro w5 hb5
  have HB5 := Lib.hid (up_trans HB.out (UpW.out hb5))
  have hE5 := EdBox.up HE1.out (UpW.out hb5)
  obtain ⟨B5, d5, hI5, hz5⟩ := hE5.rd
  replace xc := hI5.1
  replace xf := hI5.2
  clear hb5 F1 hI5 hne1
  by_cases hn : n < 0
  · have n1 : ¬ (0 : Int) ≤ n := by omega
    have HN := Lib.hid (HQ1.out hn)
    clear hn HQ1 HQ2
    go_wp2_with fail
    go_ret
    exact ⟨by rw [HN.out]; rfl, gb_of_up HB5.out _, fun e2 he => by rw [HN.out] at he; cases he⟩
  · have n1 : (0 : Int) ≤ n := by omega
    have HY := Lib.hid (HQ2.out n1)
    clear HQ1 HQ2
    have HS := Lib.hid (edBox_set1 hE5 n)
    have HG := Lib.hid (show w.grownBy (w5.setCell ⟨b, 1, none⟩ (.int .i64 n)) (some b) from gb_here (gb_of_up HB5.out _) rfl _)
    clear hn hE5
    go_wp2_with fail
    go_ret
    exact ⟨by rw [HY.out]; rfl, HG.out, fun e2 he => by rw [HY.out] at he; injection he with he; subst he; exact HS.out⟩
set_option maxRecDepth 100000 in
set_option maxHeartbeats 1000000 in
theorem do_no (b : Nat) (e : Es) (o : List (List UInt8)) (a : List UInt8) (w : World) (hl : a.length ≤ 1048576) (hm : MX w)
    (h1 : a ≠ [108, 105, 110, 101]) (h2 : a ≠ [99, 117, 116]) (h3 : a ≠ [112, 97, 115, 116, 101]) (h4 : a ≠ [114, 105, 103, 104, 116]) (h5 : a ≠ [108, 101, 102, 116]) (h6 : a ≠ [117, 110, 100, 111]) (h7 : a ≠ [114, 101, 100, 111]) (n1 : ∀ r, a ≠ 112 :: 117 :: 116 :: 32 :: r) (n2 : ∀ r, a ≠ 102 :: 105 :: 110 :: 100 :: 32 :: r) (n3 : ∀ r, a ≠ 114 :: 117 :: 110 :: 32 :: r) :
    Calls Tryz.prog 65 #[.pointer (some ⟨b, 0, none⟩), S a] w (DoP b none w) := by
  have b1 : (a == [108, 105, 110, 101]) = false := by simpa using h1
  have b2 : (a == [99, 117, 116]) = false := by simpa using h2
  have b3 : (a == [112, 97, 115, 116, 101]) = false := by simpa using h3
  have b4 : (a == [114, 105, 103, 104, 116]) = false := by simpa using h4
  have b5 : (a == [108, 101, 102, 116]) = false := by simpa using h5
  have b6 : (a == [117, 110, 100, 111]) = false := by simpa using h6
  have b7 : (a == [114, 101, 100, 111]) = false := by simpa using h7
  unfold DoP
  rcases sp_split a with hs | ⟨x, y, hxy, hs⟩
  · have C := Lib.hid (strCut_no a w hs hl hm)
    clear h1 h2 h3 h4 h5 h6 h7 n1 n2 n3 hs hm
    go_enter Tryz.func65, Tryz.ntmps65
    go_wp2_with fail
    refine C.out.mono ?_
    rintro en w1 ⟨rfl, hb⟩
    have HB := Lib.hid hb
    clear C hb
    go_wp2_with fail
    go_ret
    exact ⟨rfl, gb_of_up HB.out _, fun e2 he => by cases he⟩
  · have C := Lib.hid (strCut_yes a x y w hxy hs hl hm)
    have d1 : (x == [112, 117, 116]) = false := by
      rw [beq_eq_false_iff_ne]
      intro ex
      exact n1 y (by rw [hxy, ex]; rfl)
    have d2 : (x == [102, 105, 110, 100]) = false := by
      rw [beq_eq_false_iff_ne]
      intro ex
      exact n2 y (by rw [hxy, ex]; rfl)
    have d3 : (x == [114, 117, 110]) = false := by
      rw [beq_eq_false_iff_ne]
      intro ex
      exact n3 y (by rw [hxy, ex]; rfl)
    clear h1 h2 h3 h4 h5 h6 h7 n1 n2 n3 hs hm hxy
    go_enter Tryz.func65, Tryz.ntmps65
    go_wp2_with fail
    refine C.out.mono ?_
    rintro en w1 ⟨rfl, hb⟩
    have HB := Lib.hid hb
    clear C hb
    go_wp2_with fail
    go_ret
    exact ⟨rfl, gb_of_up HB.out _, fun e2 he => by cases he⟩

end Go.Proofs.YtbjlkdenkmbepaaGreatDoor
