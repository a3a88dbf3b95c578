/- What is proved here: the contract of the program's TablePack at a valid table: the packed table is valid, and has the same text. No condition. -/
import Derived.Test.YtlejfmngpbcdhaaTabG
import Derived.Test.YtlejfmngpbcdhaaGK
import Derived.Test.YtlejfmngpbcdhaaEverX
namespace Go.Proofs.Ytlejfmngpbcdhaa
open Go.RowKit
set_option linter.unusedVariables false
set_option linter.unusedSimpArgs false

/-- a piece is packed onto pieces. -/
def pkS (acc : List Pc) (p : Pc) : List Pc := match acc.getLast? with
  | some l => if l.ad = p.ad ∧ l.st + l.sz = p.st then acc.dropLast ++ [⟨l.ad, l.st, l.sz + p.sz⟩] else acc ++ [p]
  | none => acc ++ [p]
theorem pkS_nil (p : Pc) : pkS [] p = [] ++ [p] := rfl
theorem pkS_join {init : List Pc} {l p : Pc} (h1 : l.ad = p.ad) (h2 : l.st + l.sz = p.st) : pkS (init ++ [l]) p = init ++ [⟨l.ad, l.st, l.sz + p.sz⟩] := by
  unfold pkS
  simp [h1, h2]
theorem pkS_add {init : List Pc} {l p : Pc} (h : ¬ (l.ad = p.ad ∧ l.st + l.sz = p.st)) : pkS (init ++ [l]) p = (init ++ [l]) ++ [p] := by
  unfold pkS
  simp only [List.getLast?_append, List.getLast?_singleton, Option.some_or]
  rw [if_neg h]
def pkF (ps : List Pc) : List Pc := ps.foldl pkS []
def PK (f m : List UInt8) (ps : List Pc) (k : Nat) (acc : List Pc) : Prop := (∀ p ∈ acc, pcOk f m p = true) ∧ tbT f m acc = tbT f m (ps.take k) ∧ psSum acc = psSum (ps.take k) ∧ acc.length ≤ k ∧ acc = (ps.take k).foldl pkS []
theorem psSum_app (a b : List Pc) : psSum (a ++ b) = psSum a + psSum b := by
  induction a with
  | nil => show psSum b = 0 + psSum b; omega
  | cons p l ih => show p.sz + psSum (l ++ b) = p.sz + psSum l + psSum b; omega
theorem take_one (ps : List Pc) (k : Nat) (hk : k < ps.length) : ps.take (k + 1) = ps.take k ++ [ps[k]] := by rw [List.take_succ_eq_append_getElem hk]
theorem pk_add {f m : List UInt8} {ps acc : List Pc} {k : Nat} (h : PK f m ps k acc) (hk : k < ps.length) (hp : ∀ p ∈ ps, pcOk f m p = true) (hs : pkS acc ps[k] = acc ++ [ps[k]]) : PK f m ps (k + 1) (acc ++ [ps[k]]) := by
  obtain ⟨h1, h2, h3, h4, h5⟩ := h
  refine ⟨fun p hp' => ?_, ?_, ?_, by simp; omega, by rw [take_one ps k hk, List.foldl_append, ← h5]; exact hs.symm⟩
  · rw [List.mem_append, List.mem_singleton] at hp'
    rcases hp' with hp' | rfl
    · exact h1 p hp'
    · exact hp _ (List.getElem_mem hk)
  · rw [take_one ps k hk, tbT_app, tbT_app, h2]
  · rw [take_one ps k hk, psSum_app, psSum_app, h3]
theorem pc_join {f m : List UInt8} {l p : Pc} (hl : pcOk f m l = true) (hp : pcOk f m p = true) (ha : l.ad = p.ad) (hs : l.st + l.sz = p.st) : pcOk f m ⟨l.ad, l.st, l.sz + p.sz⟩ = true ∧ pcT f m ⟨l.ad, l.st, l.sz + p.sz⟩ = pcT f m l ++ pcT f m p := by
  have i1 := pcOk_in hl
  have i2 := pcOk_in hp
  have e1 : rmT f m ⟨l.ad, l.st, l.sz + p.sz⟩ = rmT f m l := rfl
  have e2 : rmT f m p = rmT f m l := by unfold rmT; rw [ha]
  constructor
  · unfold pcOk
    rw [e1]
    simp only [Bool.and_eq_true]
    exact ⟨inB_iff.2 (by omega), inB_iff.2 (by omega)⟩
  · unfold pcT
    simp only
    rw [← ha, show (l.sz + p.sz).toNat = l.sz.toNat + p.sz.toNat by omega, List.take_add, List.drop_drop, show l.st.toNat + l.sz.toNat = p.st.toNat by omega]
theorem pk_merge {f m : List UInt8} {ps init : List Pc} {k : Nat} {l : Pc} (h : PK f m ps k (init ++ [l])) (hk : k < ps.length) (hp : ∀ p ∈ ps, pcOk f m p = true) (ha : l.ad = ps[k].ad) (hs : l.st + l.sz = ps[k].st) : PK f m ps (k + 1) (init ++ [⟨l.ad, l.st, l.sz + ps[k].sz⟩]) := by
  obtain ⟨h1, h2, h3, h4, h5⟩ := h
  obtain ⟨j1, j2⟩ := pc_join (h1 l (by simp)) (hp _ (List.getElem_mem hk)) ha hs
  refine ⟨fun p hp' => ?_, ?_, ?_, by simp at h4 ⊢; omega, by rw [take_one ps k hk, List.foldl_append, ← h5]; exact (pkS_join ha hs).symm⟩
  · rw [List.mem_append, List.mem_singleton] at hp'
    rcases hp' with hp' | rfl
    · exact h1 p (by simp [hp'])
    · exact j1
  · rw [take_one ps k hk, tbT_app, tbT_app, ← h2, tbT_app]
    simp only [tbT_cons, j2]
    simp [tbT]
  · rw [take_one ps k hk, psSum_app, psSum_app, ← h3, psSum_app]
    show psSum init + (l.sz + ps[k].sz + 0) = psSum init + (l.sz + 0) + (ps[k].sz + 0)
    omega
theorem pk_all {f m : List UInt8} {ps : List Pc} (hp : ∀ p ∈ ps, pcOk f m p = true) : ∀ k, k ≤ ps.length → PK f m ps k ((ps.take k).foldl pkS [])
  | 0, _ => ⟨by simp, rfl, rfl, by simp, rfl⟩
  | k + 1, hk => by
    have ih := pk_all hp k (by omega)
    have hlt : k < ps.length := by omega
    rw [take_one ps k hlt, List.foldl_append]
    show PK f m ps (k + 1) (pkS ((ps.take k).foldl pkS []) ps[k])
    generalize (ps.take k).foldl pkS [] = acc at ih
    rcases List.eq_nil_or_concat acc with rfl | ⟨init, l, h0⟩
    · exact pk_add ih hlt hp rfl
    · rw [List.concat_eq_append] at h0
      subst h0
      by_cases hj : l.ad = ps[k].ad ∧ l.st + l.sz = ps[k].st
      · rw [pkS_join hj.1 hj.2]
        exact pk_merge ih hlt hp hj.1 hj.2
      · have := pk_add ih hlt hp (pkS_add hj)
        rw [pkS_add hj]
        exact this
/-- a packed table is valid, and has the same text. -/
theorem pkF_ok {f m : List UInt8} {ps : List Pc} (hv : tbB f m ps = true) : tbB f m (pkF ps) = true ∧ tbT f m (pkF ps) = tbT f m ps ∧ (pkF ps).length ≤ ps.length := by
  obtain ⟨h1, _, h3, h4, hall, hs⟩ := tbB_out hv
  obtain ⟨a1, a2, a3, a4, _⟩ := pk_all hall ps.length (Nat.le_refl _)
  rw [List.take_length] at a1 a2 a3 a4
  exact ⟨tbB_mk h1 h3 h4 a1 (by show psSum (ps.foldl pkS []) ≤ 120; rw [a3]; exact hs), a2, a4⟩
theorem pc_set (init : List Pc) (l : Pc) (z : Int) : ((init ++ [l]).flatMap pcC).set (init.length * 3 + 2) (.int .i64 z) = (init ++ [(⟨l.ad, l.st, z⟩ : Pc)]).flatMap pcC := by
  rw [List.flatMap_append, List.flatMap_append, List.set_append_right _ _ (by rw [flat_len pcC 3 pcC_len]; omega), flat_len pcC 3 pcC_len, show init.length * 3 + 2 - init.length * 3 = 2 by omega]
  rfl
theorem split_last {acc : List Pc} (h : acc ≠ []) : ∃ init l, acc = init ++ [l] := by
  rcases List.eq_nil_or_concat acc with h0 | ⟨init, l, h0⟩
  · exact absurd h0 h
  · exact ⟨init, l, by rw [h0]; simp⟩

def PackPost (f m : List UInt8) (ps : List Pc) (w : World) (e : Ending) (w' : World) : Prop := ∃ u, e = .returned (tbAgg f m u) ∧ OwnP w' w.heap.size u (pkF ps) ∧ Below w.heap.size w w'
set_option maxRecDepth 100000 in
set_option maxHeartbeats 4000000 in
theorem implTablePack_yes (f m : List UInt8) (v : Value) (ps : List Pc) (w : World) (h : RdP w v ps) (hv : tbB f m ps = true) :
    Calls Try.prog 33 #[tbAgg f m v] w (PackPost f m ps w) := by
  obtain ⟨hf1, hf, hm, hm1, hall, hsum⟩ := tbB_out hv
  have hcount : (ps.length : Int) ≤ 120 := by have := len_sum (fun p hp' => (pcOk_in (hall p hp')).2.1); omega
  obtain ⟨A, c, rfl, hpl, _⟩ := h.form
  obtain ⟨i0, hi0, hz0, hz1, hz2⟩ := info_parts piece_info
  have T := Lib.hid (fun (w' : World) (hb : Below w.heap.size w w') => implTableValid_any f m (.slice A ps.length c) ps w' (h.up hb) (by unfold maxLen; omega) (by unfold maxLen; omega))
  rw [hv] at T
  have H := Lib.hid h
  have PS := Lib.hid hall
  have HF := Lib.hid (And.intro hf1 (And.intro hm (And.intro hm1 hsum)))
  unfold PackPost tbAgg at *
  clear h hv hall hf1 hm1
  go_enter Try.func33, Try.ntmps33
  go_wp2_with fail
  refine (T.out _ (by (repeat (first | exact Below.refl _ _ | assumption | refine Below.drew ?_ | refine up_drewN ?_ _ | refine up_alloc ?_ _ | refine up_set ?_ _ _ (by first | exact Nat.le_refl _ | (simp; done) | (simp; omega) | omega) | refine up_trans ?_ (by assumption))))).mono ?_
  rintro e w1 ⟨rfl, hb⟩
  have xc : ∀ o, w1.cell? ⟨w.heap.size, o, none⟩ = #[S f, S m, .slice A ps.length c][o]? := (fun o => (hb.cell (p := ⟨w.heap.size, o, none⟩) (by simp <;> omega)).trans (by simp [go_sem])); have xf : ∀ o, w1.frozen? ⟨w.heap.size, o, none⟩ = false := (fun o => (hb.frozen (p := ⟨w.heap.size, o, none⟩) (by simp <;> omega)).trans (by simp [go_sem])); have xz : w.heap.size < w1.heap.size := (by have := hb.size; (try simp at this); omega); have xy := xz
  have yc : ∀ o, w1.cell? ⟨w.heap.size + 1, o, none⟩ = #[S [], S [], .slice none 0 0][o]? := (fun o => (hb.cell (p := ⟨w.heap.size + 1, o, none⟩) (by simp <;> omega)).trans (by simp [go_sem])); have yf : ∀ o, w1.frozen? ⟨w.heap.size + 1, o, none⟩ = false := (fun o => (hb.frozen (p := ⟨w.heap.size + 1, o, none⟩) (by simp <;> omega)).trans (by simp [go_sem])); have yz : w.heap.size + 1 < w1.heap.size := (by have := hb.size; (try simp at this); omega); have yy := yz
  have hW : Below w.heap.size w w1 := by (repeat (first | exact Below.refl _ _ | assumption | refine Below.drew ?_ | refine up_drewN ?_ _ | refine up_alloc ?_ _ | refine up_set ?_ _ _ (by first | exact Nat.le_refl _ | (simp; done) | (simp; omega) | omega) | refine up_trans ?_ (by assumption)))
  clear hb T xy yy
  go_upto_region 4 with (fail)
  obtain ⟨w2, hw2⟩ : ∃ z, z = w1.alloc (.cells #[S f, S m, .slice none 0 0] 48) := ⟨_, rfl⟩
  rw [← hw2]
  have hB2 : Below w1.heap.size w1 w2 := by rw [hw2]; exact up_alloc (Below.refl _ _) _
  have HD := Lib.hid (show Is w2 w1.heap.size #[S f, S m, .slice none 0 0] by rw [hw2]; exact new_is w1 _ _)
  have hdz : w1.heap.size < w2.heap.size := by rw [hw2]; simp
  have HY := Lib.hid (Is.up (show Is w1 (w.heap.size + 1) #[S [], S [], .slice none 0 0] from ⟨yc, yf⟩) yz hB2)
  have xc2 := up_c hB2 xz xc
  have HW := Lib.hid (up_trans hW hB2)
  obtain ⟨d, hd⟩ : ∃ d, d = w1.heap.size := ⟨_, rfl⟩
  rw [← hd] at HD hdz ⊢
  have hyd : w.heap.size + 1 < d := by omega
  clear hw2 hB2 xc xf yc yf xz yz hW hd
  go_wp2_with fail
  clear xc2
  go_loopw [5, 6, 19] (fun p6 l6 i wr => ∃ (k : Nat) (acc : List Pc) (OA : Option Addr) (OC : Nat), k ≤ ps.length ∧ i = .int .i64 k ∧ acc.length ≤ k ∧ Hid (PK f m ps k acc) ∧ Hid (Is wr d #[S f, S m, .slice OA acc.length OC]) ∧ Hid (Is wr (w.heap.size + 1) #[S [], S [], .slice none 0 0]) ∧ Hid (OwnP wr (d + 1) (.slice OA acc.length OC) acc) ∧ Hid (Below w.heap.size w wr) ∧ d < wr.heap.size) (fun _ _ i _ => ps.length - (intOf i).toNat)
  case atStart => exact ⟨0, [], none, 0, Nat.zero_le _, rfl, by simp, Lib.hid ⟨by simp, rfl, rfl, by simp, rfl⟩, HD, HY, Lib.hid (World.ownsRow_nil _ _ _ _), HW, hdz⟩
  case round =>
    obtain ⟨k, acc, OA, OC, hk, rfl, hak, HPK, HDr, HYr, HOr, HWr, hzr⟩ := hrel
    clear HD HY HW hdz
    have hal : acc.length ≤ 120 := by omega
    by_cases hlt : k < ps.length
    · have i1 : (0 : Int) ≤ (k : Int) := by omega
      have i2 : (k : Int) < (ps.length : Int) := by omega
      obtain ⟨b, o, rfl, hbz, c0, c1, c2⟩ := rdP_cells (H.out.up HWr.out) hlt
      have hin := pcOk_in (PS.out _ (List.getElem_mem hlt))
      have hrm : rmT f m ps[k] ≤ 1048576 := by unfold rmT; split <;> omega
      obtain ⟨x, hx⟩ : ∃ x, x = ps[k] := ⟨_, rfl⟩
      rw [← hx] at c0 c1 c2 hin hrm
      have HX := Lib.hid hx
      clear hx
      obtain ⟨ad, st, sz⟩ := x
      simp only at c0 c1 c2 hin hrm
      obtain ⟨w3, hw3⟩ : ∃ z, z = wr.alloc (.cells #[.bool ad, .int .i64 st, .int .i64 sz] 79) := ⟨_, rfl⟩
      go_upto_region 7 with (fail)
      rw [← hw3]
      have hB3 : Below wr.heap.size wr w3 := by rw [hw3]; exact up_alloc (Below.refl _ _) _
      have HP3 := Lib.hid (show Is w3 wr.heap.size #[.bool ad, .int .i64 st, .int .i64 sz] by rw [hw3]; exact new_is wr _ _)
      have hpz : wr.heap.size < w3.heap.size := by rw [hw3]; simp
      have HD3 := Lib.hid (HDr.out.up hzr hB3)
      have HY3 := Lib.hid (HYr.out.up (by omega) hB3)
      have HO3 := Lib.hid (own_up HOr.out hB3)
      have HW3 := Lib.hid (up_trans HWr.out hB3)
      have hdz3 : d < w3.heap.size := by omega
      obtain ⟨q, hq⟩ : ∃ q, q = wr.heap.size := ⟨_, rfl⟩
      rw [← hq] at HP3 hpz ⊢
      have hdq : d < q := by omega
      have hnq : Hid (∀ g, (Value.slice OA acc.length OC).ownBlock = some g → g < q) := Lib.hid (fun g e => by have := (HOr.out.lt g e).2; omega)
      clear hw3 hB3 hq c0 c1 c2 HDr HYr HOr HWr hzr hbz
      obtain ⟨dc, df⟩ := HD3.out
      obtain ⟨pc, pf⟩ := HP3.out
      by_cases hacc : acc = []
      · subst hacc
        have HADD := Lib.hid (pkS_nil ⟨ad, st, sz⟩)
        simp only [List.length_nil] at *
        go_upto_region 8 with (fail)
        go_quiet (fail)
        obtain ⟨w4, hw4⟩ : ∃ z, z = w3.drewN nq := ⟨_, rfl⟩
        rw [← hw4]
        have hB4 : Below w3.heap.size w3 w4 := by rw [hw4]; exact up_drewN (Below.refl _ _) _
        have HD4 := Lib.hid (HD3.out.up hdz3 hB4)
        have HY4 := Lib.hid (HY3.out.up (by omega) hB4)
        have HP4 := Lib.hid (HP3.out.up hpz hB4)
        have HO4 := Lib.hid (own_up HO3.out hB4)
        have HW4 := Lib.hid (up_trans HW3.out hB4)
        have hdz : d < w4.heap.size := Nat.lt_of_lt_of_le hdz3 hB4.size
        have hdq2 : ¬ d = q := by omega
        clear hw4 hB4 HD3 HY3 HP3 HO3 HW3 dc df pc pf
        obtain ⟨dc, df⟩ := HD4.out
        obtain ⟨pc, pf⟩ := HP4.out
        go_wp2_with (at_builtin; go_loud (
                     refine wpList_append_own _ rfl _ _ 46 rfl (d + 1) 79 i0 (.agg #[.bool false, .int .i64 0, .int .i64 0]) 3 24 Try.underlying46 hi0 hz0 hz1 hz2 rfl (by decide) _ _ _ rfl (HO4.out.alloc _) ⟨w4.heap.size, 0, none⟩ 1 1 [.bool ad, .int .i64 st, .int .i64 sz] rfl rfl (cells_new _ _ _) (by intro u hu; simp at hu; rcases hu with rfl | rfl | rfl <;> rfl) (by unfold maxLen; omega) (by omega) (by first | omega | (simp; done) | (simp; omega)) ?_
                     intro v9 w9 how hgr _
                     obtain ⟨ns, hns, HPK9, HO9⟩ : ∃ ns : List Pc, ns.length ≤ k + 1 ∧ Hid (PK f m ps (k + 1) ns) ∧ Hid (OwnP w9 (d + 1) v9 ns) := ⟨([] : List Pc) ++ [(⟨ad, st, sz⟩ : Pc)], by first | (simp; done) | (simp; omega), Lib.hid (by have := pk_add HPK.out hlt PS.out (by rw [← HX.out]; exact HADD.out); rw [← HX.out] at this; exact this), Lib.hid (own_pieces (by simpa [pcC] using how) (by simp))⟩
                     obtain ⟨A9, c9, rfl, -, -⟩ := (RdL.of_own (f := pcC) (bs := ns) HO9.out).form
                     have HD9 := Lib.hid (show Is w9 d #[S f, S m, .slice OA 0 OC] from is_grown (is_alloc HD4.out hdz _) hgr (by first | omega | (simp; done) | (simp; omega)) (fun e => by have := (HO4.out.lt _ e.symm).1; omega))
                     have HY9 := Lib.hid (show Is w9 (w.heap.size + 1) #[S [], S [], .slice none 0 0] from is_grown (is_alloc HY4.out (by omega) _) hgr (by first | omega | (simp; done) | (simp; omega)) (fun e => by have := (HO4.out.lt _ e.symm).1; omega))
                     have HW9 := Lib.hid (up_grown (up_alloc HW4.out _) hgr (fun g hg => by have := (HO4.out.lt g hg).1; omega))
                     have hdz9 : d < w9.heap.size := Nat.lt_of_lt_of_le hdz (by have := hgr.size; simp at this; omega)
                     clear dc df pc pf how hgr
                     obtain ⟨dc, df⟩ := HD9.out))
        go_roundw
        case rel => exact ⟨k + 1, ns, A9, c9, by omega, by go_num, hns, HPK9, Lib.hid (is_set (k := 2) HD9.out (by simp) (.slice A9 ns.length c9)), Lib.hid (is_far HY9.out (by omega) _), Lib.hid (own_setn HO9.out ⟨d, 2, none⟩ _ (fun g hg => by have := (HO9.out.lt g hg).1; show g ≠ d; omega)), Lib.hid (up_set HW9.out ⟨d, 2, none⟩ _ (by show w.heap.size ≤ d; omega)), by simpa [World.setCell] using hdz9⟩
        case measure => simp [intOf]; omega
      · obtain ⟨init, l, hil⟩ := split_last hacc
        have hlen : acc.length = init.length + 1 := by rw [hil]; simp
        have w1s : IntKind.i64.wrap ((acc.length : Int) - 1) = (init.length : Int) := by rw [IntWalk.i64_in _ (by omega)]; omega
        have j1 : (0 : Int) ≤ (init.length : Int) := by omega
        have j2 : (init.length : Int) < (acc.length : Int) := by omega
        have hlk := HPK.out.1 l (by rw [hil]; simp)
        have hinl := pcOk_in hlk
        have hrl : rmT f m l ≤ 1048576 := by unfold rmT; split <;> omega
        obtain ⟨b2, o2, hOA, hbz2, r0, r1, r2⟩ := rdP_cells (RdL.of_own (f := pcC) (bs := acc) HO3.out) (show init.length < acc.length by omega)
        have hgl : acc[init.length]'(by omega) = l := by subst hil; simp
        rw [hgl] at r0 r1 r2
        obtain ⟨hb2, ho2⟩ : o2 = 0 ∧ b2 ≠ d := by
          rcases HO3.out.2 with ⟨he, _⟩ | ⟨g, cap, cur, he, hbg, _⟩
          · rw [hOA] at he; cases he
          · rw [hOA] at he
            injection he with he1 _ _
            injection he1 with he1
            injection he1 with he1 he2 _
            exact ⟨he2, by omega⟩
        subst hOA
        subst hb2
        rw [Nat.zero_add] at r0 r1 r2
        have hHIL := Lib.hid hil
        have hHL := Lib.hid hlen
        clear hil hlen hacc hlk hgl
        obtain ⟨la, ls, lz⟩ := l
        simp only at r0 r1 r2 hinl hrl
        have w2s : IntKind.i64.wrap (ls + lz) = ls + lz := IntWalk.i64_in _ (by omega)
        have w3s : IntKind.i64.wrap (lz + sz) = lz + sz := IntWalk.i64_in _ (by omega)
        clear hrl hrm hinl hin
        obtain ⟨bb, hbb⟩ : ∃ bb : Bool, bb = ((la == ad) && decide (ls + lz = st)) := ⟨_, rfl⟩
        have HBB := Lib.hid hbb
        clear hbb
        go_upto_region 8 with (fail)
        go_cut [57] from 27 to 57 (fun b wx => b = .bool bb ∧ Hid (Below w3.heap.size w3 wx))
        case first =>
          by_cases h1 : la = ad
          · subst h1
            have e1 : (la == la) = true := by simp
            by_cases h2 : ls + lz = st
            · have e2 : (ls + lz == st) = true := by simp [h2]
              have hbt : bb = true := by rw [HBB.out]; simp [h2]
              have HBT := Lib.hid hbt
              clear h2 hbt
              go_quiet (fail)
              go_wp2_with fail
              go_meet
              exact ⟨by rw [HBT.out], Lib.hid (by (repeat (first | exact Below.refl _ _ | assumption | refine Below.drew ?_ | refine up_drewN ?_ _ | refine up_alloc ?_ _ | refine up_set ?_ _ _ (by first | exact Nat.le_refl _ | (simp; done) | (simp; omega) | omega) | refine up_trans ?_ (by assumption))))⟩
            · have e2 : (ls + lz == st) = false := by simp [h2]
              have hbt : bb = false := by rw [HBB.out]; simp [h2]
              have HBT := Lib.hid hbt
              clear hbt
              go_quiet (fail)
              go_wp2_with fail
              go_meet
              exact ⟨by rw [HBT.out], Lib.hid (by (repeat (first | exact Below.refl _ _ | assumption | refine Below.drew ?_ | refine up_drewN ?_ _ | refine up_alloc ?_ _ | refine up_set ?_ _ _ (by first | exact Nat.le_refl _ | (simp; done) | (simp; omega) | omega) | refine up_trans ?_ (by assumption))))⟩
          · have e1 : (la == ad) = false := by simp [h1]
            have hbt : bb = false := by rw [HBB.out]; simp [h1]
            have HBT := Lib.hid hbt
            clear hbt
            go_quiet (fail)
            go_wp2_with fail
            go_meet
            exact ⟨by rw [HBT.out], Lib.hid (by (repeat (first | exact Below.refl _ _ | assumption | refine Below.drew ?_ | refine up_drewN ?_ _ | refine up_alloc ?_ _ | refine up_set ?_ _ _ (by first | exact Nat.le_refl _ | (simp; done) | (simp; omega) | omega) | refine up_trans ?_ (by assumption))))⟩
        case rest =>
        obtain ⟨rfl, HB4⟩ := hcut
        obtain ⟨w4, rfl⟩ : ∃ z, z = wc := ⟨_, rfl⟩
        have r24 := (HB4.out.cell (p := ⟨b2, init.length * 3 + 2, none⟩) hbz2).trans r2
        have hne2 : ¬ b2 = d := ho2
        have hne3 : ¬ d = b2 := fun e => ho2 e.symm
        have hbz4 := Nat.lt_of_lt_of_le hbz2 HB4.out.size
        have hB4 : Below w3.heap.size w3 w4 := by exact HB4.out
        have HD4 := Lib.hid (HD3.out.up hdz3 hB4)
        have HY4 := Lib.hid (HY3.out.up (by omega) hB4)
        have HP4 := Lib.hid (HP3.out.up hpz hB4)
        have HO4 := Lib.hid (own_up HO3.out hB4)
        have HW4 := Lib.hid (up_trans HW3.out hB4)
        have hdz : d < w4.heap.size := Nat.lt_of_lt_of_le hdz3 hB4.size
        have hdq2 : ¬ d = q := by omega
        clear HB4 r0 r1 r2 hB4 HD3 HY3 HP3 HO3 HW3 dc df pc pf
        obtain ⟨dc, df⟩ := HD4.out
        obtain ⟨pc, pf⟩ := HP4.out
        rcases bb with _ | _
        · have HADD := Lib.hid (show pkS acc ⟨ad, st, sz⟩ = acc ++ [(⟨ad, st, sz⟩ : Pc)] by
            rw [hHIL.out]
            refine pkS_add fun hj => ?_
            have h9 := HBB.out
            simp only at hj
            rw [hj.1, hj.2] at h9
            simp at h9)
          clear r24
          go_wp2_with (at_builtin; go_loud (
                       refine wpList_append_own _ rfl _ _ 46 rfl (d + 1) 79 i0 (.agg #[.bool false, .int .i64 0, .int .i64 0]) 3 24 Try.underlying46 hi0 hz0 hz1 hz2 rfl (by decide) _ _ _ rfl (HO4.out.alloc _) ⟨w4.heap.size, 0, none⟩ 1 1 [.bool ad, .int .i64 st, .int .i64 sz] rfl rfl (cells_new _ _ _) (by intro u hu; simp at hu; rcases hu with rfl | rfl | rfl <;> rfl) (by unfold maxLen; omega) (by omega) (by first | omega | (simp; done) | (simp; omega)) ?_
                       intro v9 w9 how hgr _
                       obtain ⟨ns, hns, HPK9, HO9⟩ : ∃ ns : List Pc, ns.length ≤ k + 1 ∧ Hid (PK f m ps (k + 1) ns) ∧ Hid (OwnP w9 (d + 1) v9 ns) := ⟨acc ++ [(⟨ad, st, sz⟩ : Pc)], by first | (simp; done) | (simp; omega), Lib.hid (by have := pk_add HPK.out hlt PS.out (by rw [← HX.out]; exact HADD.out); rw [← HX.out] at this; exact this), Lib.hid (own_pieces (by simpa [pcC] using how) (by simp))⟩
                       obtain ⟨A9, c9, rfl, -, -⟩ := (RdL.of_own (f := pcC) (bs := ns) HO9.out).form
                       have HD9 := Lib.hid (show Is w9 d #[S f, S m, .slice (some ⟨b2, 0, none⟩) acc.length OC] from is_grown (is_alloc HD4.out hdz _) hgr (by first | omega | (simp; done) | (simp; omega)) (fun e => by have := (HO4.out.lt _ e.symm).1; omega))
                       have HY9 := Lib.hid (show Is w9 (w.heap.size + 1) #[S [], S [], .slice none 0 0] from is_grown (is_alloc HY4.out (by omega) _) hgr (by first | omega | (simp; done) | (simp; omega)) (fun e => by have := (HO4.out.lt _ e.symm).1; omega))
                       have HW9 := Lib.hid (up_grown (up_alloc HW4.out _) hgr (fun g hg => by have := (HO4.out.lt g hg).1; omega))
                       have hdz9 : d < w9.heap.size := Nat.lt_of_lt_of_le hdz (by have := hgr.size; simp at this; omega)
                       clear dc df pc pf how hgr
                       obtain ⟨dc, df⟩ := HD9.out))
          go_roundw
          case rel => exact ⟨k + 1, ns, A9, c9, by omega, by go_num, hns, HPK9, Lib.hid (is_set (k := 2) HD9.out (by simp) (.slice A9 ns.length c9)), Lib.hid (is_far HY9.out (by omega) _), Lib.hid (own_setn HO9.out ⟨d, 2, none⟩ _ (fun g hg => by have := (HO9.out.lt g hg).1; show g ≠ d; omega)), Lib.hid (up_set HW9.out ⟨d, 2, none⟩ _ (by show w.heap.size ≤ d; omega)), by simpa [World.setCell] using hdz9⟩
          case measure => simp [intOf]; omega
        · obtain ⟨h1, h2⟩ : la = ad ∧ ls + lz = st := by
            have := HBB.out.symm
            simp only [Bool.and_eq_true, beq_iff_eq, decide_eq_true_eq] at this
            exact this
          obtain ⟨ns, hns, HPK9, HSET⟩ : ∃ ns : List Pc, ns.length = acc.length ∧ Hid (PK f m ps (k + 1) ns) ∧ Hid ((acc.flatMap pcC).set (init.length * 3 + 2) (.int .i64 (lz + sz)) = ns.flatMap pcC) := by
            refine ⟨init ++ [(⟨la, ls, lz + sz⟩ : Pc)], by rw [hHL.out]; simp, Lib.hid ?_, Lib.hid ?_⟩
            · have hk2 := HPK.out
              rw [hHIL.out] at hk2
              have := pk_merge hk2 hlt PS.out (by rw [← HX.out]; exact h1) (by rw [← HX.out]; exact h2)
              rw [← HX.out] at this
              exact this
            · rw [hHIL.out]
              exact pc_set init ⟨la, ls, lz⟩ (lz + sz)
          have fr := HO4.out.frozenAt (init.length * 3 + 2)
          have HO9 := Lib.hid (HO4.out.stored (init.length * 3 + 2) (.int .i64 (lz + sz))).1
          clear h1 h2 HBB
          go_upto_region 9 with (fail)
          go_region
          obtain ⟨w9, hw9⟩ : ∃ z, z = (w4.setCell ⟨b2, init.length * 3 + 2, none⟩ (.int .i64 (lz + sz))).drew := ⟨_, rfl⟩
          rw [← hw9]
          have HDN := Lib.hid (show Is w9 d #[S f, S m, .slice (some ⟨b2, 0, none⟩) ns.length OC] by rw [hns, hw9]; exact (is_far HD4.out (fun e => ho2 e.symm) _).of_block rfl)
          have hb2y : w.heap.size + 1 ≠ b2 := fun e => by have := (HO4.out.lt b2 rfl).1; omega
          have HYN := Lib.hid (show Is w9 (w.heap.size + 1) #[S [], S [], .slice none 0 0] by rw [hw9]; exact (is_far HY4.out hb2y _).of_block rfl)
          have HON := Lib.hid (show OwnP w9 (d + 1) (.slice (some ⟨b2, 0, none⟩) ns.length OC) ns by
            have := own_up HO9.out (Below.drew (Below.refl _ _))
            rw [HSET.out] at this
            rw [OwnP, hns, hw9]
            exact this)
          have HWN := Lib.hid (show Below w.heap.size w w9 by rw [hw9]; exact Below.drew (up_set HW4.out _ _ (by have := (HO4.out.lt b2 rfl).1; show w.heap.size ≤ b2; omega)))
          have hdzN : d < w9.heap.size := by rw [hw9]; simpa [World.setCell] using hdz
          have hns2 : ns.length ≤ k + 1 := by omega
          clear hw9 HD4 HY4 HP4 HO4 HW4 HO9 dc df pc pf hns fr r24
          go_wp2_with fail
          go_roundw
          case rel => exact ⟨k + 1, ns, _, OC, by omega, by go_num, hns2, HPK9, HDN, HYN, HON, HWN, hdzN⟩
          case measure => simp [intOf]; omega
    · obtain rfl : k = ps.length := by omega
      obtain ⟨-, -, -, -, h5⟩ := HPK.out
      rw [List.take_length] at h5
      have HPF := Lib.hid (show acc = pkF ps from h5)
      obtain ⟨dc, df⟩ := HDr.out
      obtain ⟨yc, yf⟩ := HYr.out
      have hyd2 : ¬ w.heap.size + 1 = d := by omega
      have hyd3 : ¬ d = w.heap.size + 1 := by omega
      clear h5 hak
      go_wp2_with fail
      refine bodyPost_ret (v := .agg #[S f, S m, .slice OA acc.length OC]) (by simp [results, Try.results33, go_sem, yc]) rfl ⟨_, rfl, ?_, by have := HWr.out; (repeat (first | exact Below.refl _ _ | assumption | refine Below.drew ?_ | refine up_drewN ?_ _ | refine up_alloc ?_ _ | refine up_set ?_ _ _ (by first | exact Nat.le_refl _ | (simp; done) | (simp; omega) | omega) | refine up_trans ?_ (by assumption)))⟩
      rw [← HPF.out]
      exact own_base (own_setCells (w := wr) (fun e => by have := (HOr.out.lt _ e).1; omega) [S f, S m, .slice OA acc.length OC] 0 wr HOr.out) (by omega)

end Go.Proofs.Ytlejfmngpbcdhaa
