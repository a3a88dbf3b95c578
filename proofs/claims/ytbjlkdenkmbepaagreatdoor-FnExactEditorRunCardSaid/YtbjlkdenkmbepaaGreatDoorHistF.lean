/- What is proved here: What is proved here: contracts of HistoryTo in the program and in the reference. What is proved here: What is proved here: contracts of the program's HistoryBack and HistoryForth. What is proved here: the contract of the program's HistoryForth. No condition. -/
import Derived.Test.YtbjlkdenkmbepaaGreatDoorHistC
import Derived.StillTailTactics
namespace Go.Proofs.YtbjlkdenkmbepaaGreatDoor
open Go.RowKit
set_option linter.unusedVariables false

/-- what a call gives that returns a history, its text, and whether it was done. -/
def HRes (ms : List Mo) (a : Int) (t : List UInt8) (ok : Bool) (w : World) (e : Ending) (w' : World) : Prop :=
  ∃ v, e = .returned (.tuple #[.agg #[v, .int .i64 a], S t, .bool ok]) ∧ OwnM w' w.heap.size v ms ∧ Below w.heap.size w w'
def toAt (n : Nat) (a to_ : Int) : Int := if inB to_ 0 ((n : Int) - 1) = true then to_ else a
def toText (n : Nat) (o : List (List UInt8)) (s : List UInt8) (to_ : Int) : List UInt8 := if inB to_ 0 ((n : Int) - 1) = true then o.getD to_.toNat [] else s

theorem good_uniq {ms : List Mo} {a : Int} {s : List UInt8} {q o : List (List UInt8)} (hq : HGood ms a s q) (ho : HGood ms a s o) : q = o := by
  have key : ∀ k, k < ms.length → q.getD k [] = o.getD k [] → q.getD 0 [] = o.getD 0 [] := by
    intro k
    induction k using Nat.strongRecOn with
    | ind k ih =>
      intro hk he
      by_cases h0 : k = 0
      · subst h0; exact he
      · obtain ⟨b1, b2, _, b4⟩ := hq.back (by omega) hk
        obtain ⟨_, _, _, c4⟩ := ho.back (by omega) hk
        refine ih (ms.getD k m0).par.toNat (by omega) (by omega) ?_
        rw [b4, c4, he]
  have a0 := ho.a0
  have a1 := ho.a1
  have h0 := key a.toNat (by omega) (hq.at_.trans ho.at_.symm)
  have hs := good_same ho h0.symm (fun k h1 (h2 : k < ms.length) => hq.step k h1 h2)
  apply List.ext_getElem (by rw [hq.len, ho.len])
  intro k h1 h2
  have := hs k (by rw [← hq.len]; exact h1) (by rw [← hq.len]; exact h1)
  rwa [getD_at _ _ _ h1, getD_at _ _ _ h2] at this



set_option maxRecDepth 100000 in
set_option maxHeartbeats 1000000 in
theorem implHistoryTo_yes (v : Value) (ms : List Mo) (a : Int) (s : List UInt8) (to_ : Int) (w : World) (o : List (List UInt8)) (h : RdM w v ms) (hg : HGood ms a s o) :
    Calls Tryz.prog 74 #[.agg #[v, .int .i64 a], S s, .int .i64 to_] w (HRes ms (toAt ms.length a to_) (toText ms.length o s to_) (inB to_ 0 ((ms.length : Int) - 1)) w) := by
  have hn30 := hg.n30
  have hn1 := hg.n1
  have hsl := tv_len hg.t
  obtain ⟨A, c, rfl, _, _⟩ := h.1.form
  have T := Lib.hid (fun (w' : World) (hb : Below w.heap.size w w') => implTexts_any (.slice A ms.length c) ms a s w' (h.up hb) (by omega) (by unfold maxLen; omega))
  have C := Lib.hid (fun (w' : World) (hb : Below w.heap.size w w') => clone_any (.slice A ms.length c) ms a w' (h.up hb) (by omega))
  have I := Lib.hid (fun w => in_any to_ 0 ((ms.length : Int) - 1) w)
  have HG := Lib.hid hg
  have HU : Hid (∀ q, HGood ms a s q → q = o) := Lib.hid (fun q hq => good_uniq hq hg)
  clear h hg
  rcases hi : inB to_ 0 ((ms.length : Int) - 1) with _ | _
  · have hA := Lib.hid (show toAt ms.length a to_ = a by unfold toAt; rw [hi]; rfl)
    have hT := Lib.hid (show toText ms.length o s to_ = s by unfold toText; rw [hi]; rfl)
    rw [hi] at I
    clear hi
    rw [hA.out, hT.out]
    go_enter Tryz.func74, Tryz.ntmps74
    go_wp2_with fail
    refine (T.out _ (by exact bBel)).mono ?_
    rintro e w1 ⟨u, ok, rfl, hb, hh⟩
    obtain rfl : ok = true := by rcases hh with ⟨h, _⟩ | ⟨_, hq⟩; exact h; exact absurd ⟨o, HG.out⟩ hq
    have xc : ∀ o, w1.cell? ⟨w.heap.size, o, none⟩ = #[.slice A ms.length c, .int .i64 a][o]? := (fun o => (hb.cell (p := ⟨w.heap.size, o, none⟩) (by simp <;> omega)).trans (by simp [go_sem])); have xf : ∀ o, w1.frozen? ⟨w.heap.size, o, none⟩ = false := (fun o => (hb.frozen (p := ⟨w.heap.size, o, none⟩) (by simp <;> omega)).trans (by simp [go_sem])); have xz : w.heap.size < w1.heap.size := (by have := hb.size; (try simp at this); omega); have xy := xz
    have yc : ∀ o, w1.cell? ⟨w.heap.size + 1, o, none⟩ = #[.slice none 0 0, .int .i64 0][o]? := (fun o => (hb.cell (p := ⟨w.heap.size + 1, o, none⟩) (by simp <;> omega)).trans (by simp [go_sem])); have yf : ∀ o, w1.frozen? ⟨w.heap.size + 1, o, none⟩ = false := (fun o => (hb.frozen (p := ⟨w.heap.size + 1, o, none⟩) (by simp <;> omega)).trans (by simp [go_sem])); have yz : w.heap.size + 1 < w1.heap.size := (by have := hb.size; (try simp at this); omega); have yy := yz
    have hW : Below w.heap.size w w1 := by exact bBel
    have hs1 : w.heap.size + 2 ≤ w1.heap.size := by omega
    clear hb hh T xy yy
    go_wp2_with fail
    refine (C.out _ (by exact bBel)).mono ?_
    rintro e w2 ⟨v2, rfl, ho2, hb⟩
    have hB : Below w1.heap.size w1 w2 := (by exact bBel); replace xc := up_c hB xz xc; replace xf := up_f hB xz xf; replace xz := Nat.lt_of_lt_of_le xz hB.size; replace yc := up_c hB yz yc; replace yf := up_f hB yz yf; replace yz := Nat.lt_of_lt_of_le yz hB.size; have sw2 := hB.size; replace hW := up_trans hW hB; clear hB
    have HO := Lib.hid (own_base ho2 hs1)
    obtain ⟨A2, c2, rfl, -, -⟩ := (RdL.of_own (f := moC) (bs := ms) ho2).form
    have ne1 : ¬ w2.heap.size = w.heap.size := by omega
    have ne2 : ¬ w2.heap.size = w.heap.size + 1 := by omega
    have ne3 : ¬ w.heap.size = w2.heap.size := by omega
    have ne4 : ¬ w.heap.size + 1 = w2.heap.size := by omega
    clear hb ho2 C
    go_wp2_with fail
    refine (I.out _).mono ?_
    rintro e w3 ⟨rfl, rfl⟩
    go_wp2_with fail
    refine bodyPost_ret (v := .tuple #[.agg #[.slice A2 ms.length c2, .int .i64 a], S s, .bool false]) (by simp [results, Tryz.results74, go_sem, yc, yz]) rfl ⟨_, rfl, ?_, by exact bBel⟩
    exact own_base ((own_set (own_set HO.out _ _ (by simp)) _ _ (by simp)).alloc _) (by omega)
  · have hi2 := inB_iff.1 hi
    obtain ⟨tn, rfl⟩ : ∃ tn : Nat, to_ = tn := ⟨to_.toNat, by omega⟩
    have htn : tn < ms.length := by omega
    have hA := Lib.hid (show toAt ms.length a tn = tn by unfold toAt; rw [hi]; rfl)
    have hT := Lib.hid (show toText ms.length o s tn = o.getD tn [] by unfold toText; rw [hi, Int.toNat_natCast]; rfl)
    rw [hi] at I
    clear hi hi2
    rw [hA.out, hT.out]
    have hol := HG.out.len
    have j1 : (0 : Int) ≤ (tn : Int) := by omega
    have j2 : (tn : Int) < (ms.length : Int) := by omega
    go_enter Tryz.func74, Tryz.ntmps74
    go_wp2_with fail
    refine (T.out _ (by exact bBel)).mono ?_
    rintro e w1 ⟨u, ok, rfl, hb, hh⟩
    obtain rfl : ok = true := by rcases hh with ⟨h, _⟩ | ⟨_, hq⟩; exact h; exact absurd ⟨o, HG.out⟩ hq
    have xc : ∀ o, w1.cell? ⟨w.heap.size, o, none⟩ = #[.slice A ms.length c, .int .i64 a][o]? := (fun o => (hb.cell (p := ⟨w.heap.size, o, none⟩) (by simp <;> omega)).trans (by simp [go_sem])); have xf : ∀ o, w1.frozen? ⟨w.heap.size, o, none⟩ = false := (fun o => (hb.frozen (p := ⟨w.heap.size, o, none⟩) (by simp <;> omega)).trans (by simp [go_sem])); have xz : w.heap.size < w1.heap.size := (by have := hb.size; (try simp at this); omega); have xy := xz
    have yc : ∀ o, w1.cell? ⟨w.heap.size + 1, o, none⟩ = #[.slice none 0 0, .int .i64 0][o]? := (fun o => (hb.cell (p := ⟨w.heap.size + 1, o, none⟩) (by simp <;> omega)).trans (by simp [go_sem])); have yf : ∀ o, w1.frozen? ⟨w.heap.size + 1, o, none⟩ = false := (fun o => (hb.frozen (p := ⟨w.heap.size + 1, o, none⟩) (by simp <;> omega)).trans (by simp [go_sem])); have yz : w.heap.size + 1 < w1.heap.size := (by have := hb.size; (try simp at this); omega); have yy := yz
    have hW : Below w.heap.size w w1 := by exact bBel
    obtain ⟨q, hq, ro⟩ : ∃ q, HGood ms a s q ∧ Own w1 _ 9 1 u q.length (q.flatMap stC) := by rcases hh with ⟨_, q, hq, hr⟩ | ⟨h, _⟩; exact ⟨q, hq, hr⟩; cases h
    rw [HU.out q hq] at ro
    clear hq q
    have hs1 : w.heap.size + 2 ≤ w1.heap.size := by omega
    clear hb hh T xy yy
    go_wp2_with fail
    refine (C.out _ (by exact bBel)).mono ?_
    rintro e w2 ⟨v2, rfl, ho2, hb⟩
    have hB : Below w1.heap.size w1 w2 := (by exact bBel); replace xc := up_c hB xz xc; replace xf := up_f hB xz xf; replace xz := Nat.lt_of_lt_of_le xz hB.size; replace yc := up_c hB yz yc; replace yf := up_f hB yz yf; replace yz := Nat.lt_of_lt_of_le yz hB.size; replace ro := own_up ro hB; have sw2 := hB.size; replace hW := up_trans hW hB; clear hB
    have HO := Lib.hid (own_base ho2 hs1)
    obtain ⟨A2, c2, rfl, -, -⟩ := (RdL.of_own (f := moC) (bs := ms) ho2).form
    have ne1 : ¬ w2.heap.size = w.heap.size := by omega
    have ne2 : ¬ w2.heap.size = w.heap.size + 1 := by omega
    have ne3 : ¬ w.heap.size = w2.heap.size := by omega
    have ne4 : ¬ w.heap.size + 1 = w2.heap.size := by omega
    clear hb ho2 C
    go_wp2_with fail
    refine (I.out _).mono ?_
    rintro e w3 ⟨rfl, rfl⟩
    obtain ⟨RA, rc, rfl, _, _⟩ := (RdL.of_own (f := stC) ro).form
    obtain ⟨b2, o2, he2, hb2, hc2⟩ := RdL.cells stC_len (RdL.of_own (f := stC) ro) (k := tn) (by omega)
    subst he2
    have r0 := hc2 0 _ rfl
    simp only [Nat.mul_one, Nat.add_zero] at r0
    rw [← getD_at o [] tn] at r0
    have hbl := own_lt ro (Nat.le_refl _) b2 rfl
    have ne5 : ¬ b2 = w.heap.size + 1 := by simp at hbl; omega
    have ne6 : ¬ w.heap.size + 1 = b2 := fun e => ne5 e.symm
    clear hbl
    rw [hol] at *
    generalize o.getD tn [] = x at *
    go_wp2_with fail
    go_region
    all_goals
      go_wp2_with fail
      refine bodyPost_ret (v := .tuple #[.agg #[.slice A2 ms.length c2, .int .i64 tn], S x, .bool true]) (by simp [results, Tryz.results74, go_sem, yc, yz]) rfl ⟨_, rfl, ?_, by exact bBel⟩
      exact own_base ((own_set (own_set HO.out _ _ (by simp)) _ _ (by simp)).alloc _) (by omega)


end Go.Proofs.YtbjlkdenkmbepaaGreatDoor

namespace Go.Proofs.YtbjlkdenkmbepaaGreatDoor
open Go.RowKit
set_option linter.unusedVariables false



set_option maxRecDepth 100000 in
set_option maxHeartbeats 1000000 in
theorem implHistoryBack_yes (v : Value) (ms : List Mo) (a : Nat) (s : List UInt8) (w : World) (o : List (List UInt8)) (h : RdM w v ms) (hg : HGood ms a s o) :
    Calls Tryz.prog 113 #[.agg #[v, .int .i64 a], S s] w (HRes ms (toAt ms.length a (ms.getD a m0).par) (toText ms.length o s (ms.getD a m0).par) (inB (ms.getD a m0).par 0 ((ms.length : Int) - 1)) w) := by
  have hn30 := hg.n30
  have ha := hg.a1
  have hsl := tv_len hg.t
  obtain ⟨A, c, rfl, _, _⟩ := h.1.form
  have H := Lib.hid h
  have T := Lib.hid (fun (w' : World) (hb : Below w.heap.size w w') => implHistoryValid_any (.slice A ms.length c) ms a s w' (h.up hb) (by omega) (by unfold maxLen; omega))
  have R := Lib.hid (fun (to_ : Int) (w' : World) (hb : Below w.heap.size w w') => implHistoryTo_yes (.slice A ms.length c) ms a s to_ w' o (h.up hb) hg)
  unfold HRes at R ⊢
  have HG := Lib.hid hg
  clear h hg
  have i1 : (0 : Int) ≤ (a : Int) := by omega
  have i2 : (a : Int) < (ms.length : Int) := by omega
  generalize hp : (ms.getD a m0).par = p
  have HP := Lib.hid hp
  clear hp
  go_enter Tryz.func113, Tryz.ntmps113
  go_wp2_with fail
  refine (T.out _ (by exact bBel)).mono ?_
  rintro e w1 ⟨ok, rfl, hh, hb⟩
  obtain rfl : ok = true := hh.2 ⟨o, HG.out⟩
  have xc : ∀ o, w1.cell? ⟨w.heap.size, o, none⟩ = #[.slice A ms.length c, .int .i64 a][o]? := (fun o => (hb.cell (p := ⟨w.heap.size, o, none⟩) (by simp <;> omega)).trans (by simp [go_sem])); have xf : ∀ o, w1.frozen? ⟨w.heap.size, o, none⟩ = false := (fun o => (hb.frozen (p := ⟨w.heap.size, o, none⟩) (by simp <;> omega)).trans (by simp [go_sem])); have xz : w.heap.size < w1.heap.size := (by have := hb.size; (try simp at this); omega); have xy := xz
  have yc : ∀ o, w1.cell? ⟨w.heap.size + 1, o, none⟩ = #[.slice none 0 0, .int .i64 0][o]? := (fun o => (hb.cell (p := ⟨w.heap.size + 1, o, none⟩) (by simp <;> omega)).trans (by simp [go_sem])); have yf : ∀ o, w1.frozen? ⟨w.heap.size + 1, o, none⟩ = false := (fun o => (hb.frozen (p := ⟨w.heap.size + 1, o, none⟩) (by simp <;> omega)).trans (by simp [go_sem])); have yz : w.heap.size + 1 < w1.heap.size := (by have := hb.size; (try simp at this); omega); have yy := yz
  have hW : Below w.heap.size w w1 := by exact bBel
  clear hb hh T xy yy
  obtain ⟨b, q, rfl, hb, q0, -, -, -, -, -, -⟩ := (H.out.up hW).cells (k := a) (by omega) rfl
  rw [HP.out] at q0
  have HR := Lib.hid (R.out p w1.drew (by exact bBel))
  have hs1 : w.heap.size + 2 ≤ w1.drew.heap.size := by show _ ≤ w1.heap.size; omega
  clear R
  go_wp2_with fail
  go_region_with (go_at_call 74; refine HR.out.mono ?_; rintro e w2 ⟨v2, rfl, ho2, hb2⟩; go_must (have hb3 : Below w1.heap.size w1 w2 := (⟨hb2.os, hb2.tape, hb2.output, hb2.size, hb2.block⟩); replace yc := up_c hb3 yz yc; replace yf := up_f hb3 yz yf; replace yz := Nat.lt_of_lt_of_le yz hb3.size; have hW2 := Lib.hid (up_trans hW hb3); have HO := Lib.hid ho2; obtain ⟨A2, c2, rfl, -, -⟩ := (RdL.of_own (f := moC) (bs := ms) ho2).form; clear hb2 hb3 ho2))
  all_goals
    go_wp2_with fail
    refine bodyPost_ret (v := .tuple #[.agg #[.slice A2 ms.length c2, .int .i64 (toAt ms.length a p)], S (toText ms.length o s p), .bool (inB p 0 ((ms.length : Int) - 1))]) (by simp [results, Tryz.results113, go_sem, yc]) rfl ⟨_, rfl, ?_, by have hQ := hW2.out; exact bBel⟩
    exact own_base (own_set (own_set (own_base HO.out hs1) _ _ (by simp)) _ _ (by simp)) (by omega)

end Go.Proofs.YtbjlkdenkmbepaaGreatDoor

namespace Go.Proofs.YtbjlkdenkmbepaaGreatDoor
open Go.RowKit
set_option linter.unusedVariables false

/-- the last of the first k states whose Parent is a. -/
def foTo (ms : List Mo) (a : Int) : Nat → Int
  | 0 => -1
  | k + 1 => if (ms.getD k m0).par = a then (k : Int) else foTo ms a k
set_option maxRecDepth 100000 in
set_option maxHeartbeats 1000000 in
theorem implHistoryForth_yes (v : Value) (ms : List Mo) (a : Nat) (s : List UInt8) (w : World) (o : List (List UInt8)) (h : RdM w v ms) (hg : HGood ms a s o) :
    Calls Tryz.prog 114 #[.agg #[v, .int .i64 a], S s] w (HRes ms (toAt ms.length a (foTo ms a ms.length)) (toText ms.length o s (foTo ms a ms.length)) (inB (foTo ms a ms.length) 0 ((ms.length : Int) - 1)) w) := by
  have hn30 := hg.n30
  have ha := hg.a1
  have hsl := tv_len hg.t
  obtain ⟨A, c, rfl, _, _⟩ := h.1.form
  have H := Lib.hid h
  have T := Lib.hid (fun (w' : World) (hb : Below w.heap.size w w') => implHistoryValid_any (.slice A ms.length c) ms a s w' (h.up hb) (by omega) (by unfold maxLen; omega))
  have R := Lib.hid (fun (to_ : Int) (w' : World) (hb : Below w.heap.size w w') => implHistoryTo_yes (.slice A ms.length c) ms a s to_ w' o (h.up hb) hg)
  unfold HRes at R ⊢
  have HG := Lib.hid hg
  clear h hg
  generalize hF : foTo ms a ms.length = F
  have HFF := Lib.hid hF
  clear hF
  go_enter Tryz.func114, Tryz.ntmps114
  go_wp2_with fail
  refine (T.out _ (by exact bBel)).mono ?_
  rintro e w1 ⟨ok, rfl, hh, hb⟩
  obtain rfl : ok = true := hh.2 ⟨o, HG.out⟩
  have xc : ∀ o, w1.cell? ⟨w.heap.size, o, none⟩ = #[.slice A ms.length c, .int .i64 a][o]? := (fun o => (hb.cell (p := ⟨w.heap.size, o, none⟩) (by simp <;> omega)).trans (by simp [go_sem])); have xf : ∀ o, w1.frozen? ⟨w.heap.size, o, none⟩ = false := (fun o => (hb.frozen (p := ⟨w.heap.size, o, none⟩) (by simp <;> omega)).trans (by simp [go_sem])); have xz : w.heap.size < w1.heap.size := (by have := hb.size; (try simp at this); omega); have xy := xz
  have yc : ∀ o, w1.cell? ⟨w.heap.size + 1, o, none⟩ = #[.slice none 0 0, .int .i64 0][o]? := (fun o => (hb.cell (p := ⟨w.heap.size + 1, o, none⟩) (by simp <;> omega)).trans (by simp [go_sem])); have yf : ∀ o, w1.frozen? ⟨w.heap.size + 1, o, none⟩ = false := (fun o => (hb.frozen (p := ⟨w.heap.size + 1, o, none⟩) (by simp <;> omega)).trans (by simp [go_sem])); have yz : w.heap.size + 1 < w1.heap.size := (by have := hb.size; (try simp at this); omega); have yy := yz
  have hW : Below w.heap.size w w1 := by exact bBel
  have HW := Lib.hid hW
  have HH := Lib.hid (H.out.up hW)
  have X := Lib.hid (show Is w1 w.heap.size #[.slice A ms.length c, .int .i64 a] from ⟨xc, xf⟩)
  have Y := Lib.hid (show Is w1 (w.heap.size + 1) #[.slice none 0 0, .int .i64 0] from ⟨yc, yf⟩)
  have hs1 : w.heap.size + 2 ≤ w1.heap.size := by omega
  have xc0 := xc 0
  simp only [List.getElem?_toArray, List.getElem?_cons_zero] at xc0
  clear hb hh T xy yy hW H xc xf yc yf
  go_wp2_with fail
  go_loopw [7, 18] (fun v i wr => ∃ k : Nat, k ≤ ms.length ∧ i = .int .i64 k ∧ v = .int .i64 (foTo ms a k) ∧ Hid (Below w1.heap.size w1 wr)) (fun _ i _ => ms.length - (intOf i).toNat)
  case atStart => exact ⟨0, Nat.zero_le _, by first | rfl | go_num, rfl, Lib.hid (Below.refl _ _)⟩
  case round =>
    obtain ⟨k, hk, rfl, rfl, HB⟩ := hrel
    clear xc0
    have xI := X.out.up xz HB.out
    have x0 := xI.1 0
    have x1 := xI.1 1
    simp only [List.getElem?_toArray, List.getElem?_cons_zero, List.getElem?_cons_succ] at x0 x1
    clear xI
    have xz2 : w.heap.size < wr.heap.size := Nat.lt_of_lt_of_le xz HB.out.size
    by_cases hlt : k < ms.length
    · have i1 : (0 : Int) ≤ (k : Int) := by omega
      have i2 : (k : Int) < (ms.length : Int) := by omega
      obtain ⟨b, q, rfl, hb, q0, q1, q2, q3, q4, q5, q6⟩ := (HH.out.up HB.out).cells (k := k) hlt rfl
      have hst := Lib.hid (show foTo ms a (k + 1) = if (ms.getD k m0).par = a then (k : Int) else foTo ms a k from rfl)
      generalize ms.getD k m0 = m at *
      obtain ⟨p, ⟨fa, fc, fp⟩, ⟨ba, bc, bp⟩⟩ := m
      simp only at q0 q1 q2 q3 q4 q5 q6 hst
      generalize foTo ms a k = f at *
      have hne : ¬ wr.heap.size = w.heap.size := by omega
      have hne' : ¬ w.heap.size = wr.heap.size := by omega
      by_cases hp : p = a
      · subst hp
        have HF := Lib.hid (hst.out.trans (if_pos rfl))
        clear hst
        go_wp2_with fail
        go_roundw
        case rel => exact ⟨k + 1, by omega, by go_num, by rw [HF.out], Lib.hid (have hQ := HB.out; by exact bBel)⟩
        case measure => simp [intOf]; omega
      · have HF := Lib.hid (hst.out.trans (if_neg hp))
        have hp2 : (p == (a : Int)) = false := beq_eq_false_iff_ne.2 hp
        clear hst hp
        go_wp2_with fail
        go_roundw
        case rel => exact ⟨k + 1, by omega, by go_num, by rw [HF.out], Lib.hid (have hQ := HB.out; by exact bBel)⟩
        case measure => simp [intOf]; omega
    · obtain rfl : k = ms.length := by omega
      rw [HFF.out]
      have HR := Lib.hid (R.out F wr (up_trans HW.out HB.out))
      have yI := Y.out.up yz HB.out
      have hs2 : w.heap.size + 2 ≤ wr.heap.size := Nat.le_trans hs1 HB.out.size
      have HWr := Lib.hid (up_trans HW.out HB.out)
      clear R HB
      go_wp2_with fail
      refine HR.out.mono ?_
      rintro e w2 ⟨v2, rfl, ho2, hb2⟩
      obtain ⟨yc, yf⟩ := yI.up (by omega) hb2
      have yz2 : w.heap.size + 1 < w2.heap.size := by have := hb2.size; omega
      have hW2 := Lib.hid (up_trans HWr.out hb2)
      have HO := Lib.hid ho2
      obtain ⟨A2, c2, rfl, -, -⟩ := (RdL.of_own (f := moC) (bs := ms) ho2).form
      clear hb2 ho2 HR yI
      go_wp2_with fail
      refine bodyPost_ret (v := .tuple #[.agg #[.slice A2 ms.length c2, .int .i64 (toAt ms.length a F)], S (toText ms.length o s F), .bool (inB F 0 ((ms.length : Int) - 1))]) (by simp [results, Tryz.results114, go_sem, yc]) rfl ⟨_, rfl, ?_, by have hQ := hW2.out; exact bBel⟩
      exact own_base (own_set (own_set (own_base HO.out hs2) _ _ (by simp)) _ _ (by simp)) (by omega)

end Go.Proofs.YtbjlkdenkmbepaaGreatDoor
