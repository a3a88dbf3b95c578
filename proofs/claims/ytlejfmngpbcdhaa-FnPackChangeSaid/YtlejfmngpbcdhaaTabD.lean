/- What is proved here: the reference's TableChange where it refuses. No condition. -/
import Derived.Test.YtlejfmngpbcdhaaTabC
namespace Go.Proofs.Ytlejfmngpbcdhaa
open Go.RowKit
set_option linter.unusedVariables false
set_option linter.unusedSimpArgs false
attribute [local go_sem ↓] Go.wp_at_zero Go.wp_at_succ

theorem pcB_of {f m : List UInt8} {p : Pc} (h : pcOk f m p = true) (hf : f.length ≤ 120) (hm : m.length ≤ 400) : PcB p := by
  have := pcOk_in h
  unfold rmT at this
  refine ⟨this.2.1, this.1, ?_⟩
  split at this <;> omega
theorem cutB_pcB (t : Int) : ∀ ps : List Pc, (∀ p ∈ ps, PcB p) → ∀ p ∈ cutB t ps, PcB p
  | [], _, p, hp => by cases hp
  | q :: l, h, p, hp => by
    unfold cutB at hp
    rw [List.mem_append] at hp
    rcases hp with hp | hp
    · have hq := h q (List.mem_cons_self ..)
      unfold PcB at hq
      have hc : 0 ≤ cutN t q := by unfold cutN; omega
      split at hp
      · rename_i hlt
        rw [List.mem_singleton] at hp
        subst hp
        refine ⟨?_, ?_, ?_⟩ <;> simp only <;> omega
      · cases hp
    · exact cutB_pcB _ l (fun x hx => h x (List.mem_cons_of_mem _ hx)) p hp
theorem cutB_sum (t : Int) : ∀ ps : List Pc, (∀ p ∈ ps, 1 ≤ p.sz) → psSum (cutB t ps) ≤ psSum ps
  | [], _ => Int.le_refl _
  | q :: l, h => by
    have hq := h q (List.mem_cons_self ..)
    have := cutB_sum (t - q.sz) l (fun x hx => h x (List.mem_cons_of_mem _ hx))
    have hc : 0 ≤ cutN t q := by unfold cutN; omega
    unfold cutB
    by_cases hlt : cutN t q < q.sz
    · rw [if_pos hlt]
      show q.sz - cutN t q + psSum (cutB (t - q.sz) l) ≤ q.sz + psSum l
      omega
    · rw [if_neg hlt]
      show psSum (cutB (t - q.sz) l) ≤ q.sz + psSum l
      omega
theorem own_nil_at {w : World} {g B : Nat} (hg : w.heap[g]? = some (.cells #[] 79 (0, 0))) (hB : B ≤ g) : Own w B 79 3 (.slice (some ⟨g, 0, none⟩) 0 0) 0 [] :=
  ⟨rfl, .inr ⟨g, 0, #[], rfl, hB, hg, Nat.le_refl _, Nat.zero_le _, rfl, rfl⟩⟩

def TS (w wx : World) (X D Y : Array Value) : Prop := Is wx w.heap.size X ∧ Is wx (w.heap.size + 1) D ∧ Is wx (w.heap.size + 2) Y ∧ w.heap.size + 3 ≤ wx.heap.size ∧ Below w.heap.size w wx
section
variable {w a b : World} {X D Y : Array Value}
theorem TS.new (X D Y : Array Value) (w : World) {t1 t2 t3 : TypeId} : TS w (((w.alloc (.cells X t1)).alloc (.cells D t2)).alloc (.cells Y t3)) X D Y :=
  ⟨is_alloc (is_alloc (new_is w X t1) (by simp) _) (by simp; omega) _, by have := is_alloc (new_is (w.alloc (.cells X t1)) D t2) (by simp) (.cells Y t3); simpa using this, by have := new_is ((w.alloc (.cells X t1)).alloc (.cells D t2)) Y t3; simpa using this, by simp, up_alloc (up_alloc (up_alloc (Below.refl _ _) _) _) _⟩
theorem TS.up (h : TS w a X D Y) (hb : Below a.heap.size a b) : TS w b X D Y := by
  obtain ⟨h1, h2, h3, h5, h7⟩ := h
  exact ⟨h1.up (by omega) hb, h2.up (by omega) hb, h3.up (by omega) hb, Nat.le_trans h5 hb.size, up_trans h7 hb⟩
theorem TS.alloc (h : TS w a X D Y) (z : Obj) : TS w (a.alloc z) X D Y := h.up (up_alloc (Below.refl _ _) z)
theorem TS.grown (h : TS w a X D Y) {v : Value} {n : Nat} {xs : List Value} {B : Nat} (ho : Own a B 79 3 v n xs) (hB : w.heap.size + 3 ≤ B) (hg : a.grownBy b v.ownBlock) : TS w b X D Y := by
  obtain ⟨h1, h2, h3, h5, h7⟩ := h
  have ne : ∀ i, i < w.heap.size + 3 → some i ≠ v.ownBlock := fun i hi e => by have := (ho.lt i e.symm).1; omega
  exact ⟨is_grown h1 hg (by omega) (ne _ (by omega)), is_grown h2 hg (by omega) (ne _ (by omega)), is_grown h3 hg (by omega) (ne _ (by omega)), Nat.le_trans h5 hg.size, up_grown h7 hg fun k hk => by have := (ho.lt k hk).1; omega⟩
theorem TS.put (h : TS w a X D Y) {k : Nat} (hk : k < X.size) (u : Value) : TS w (a.setCell ⟨w.heap.size, k, none⟩ u) (X.setIfInBounds k u) D Y := by
  obtain ⟨h1, h2, h3, h5, h7⟩ := h
  exact ⟨is_set h1 hk u, is_far h2 (by omega) u, is_far h3 (by omega) u, by simpa [World.setCell] using h5, up_set h7 _ u (by show w.heap.size ≤ w.heap.size; omega)⟩
theorem TS.far (h : TS w a X D Y) {g k : Nat} (hg : w.heap.size + 3 ≤ g) (u : Value) : TS w (a.setCell ⟨g, k, none⟩ u) X D Y := by
  obtain ⟨h1, h2, h3, h5, h7⟩ := h
  exact ⟨is_far h1 (by omega) u, is_far h2 (by omega) u, is_far h3 (by omega) u, by simpa [World.setCell] using h5, up_set h7 _ u (by show w.heap.size ≤ g; omega)⟩
end

theorem own_ne_box {w : World} {B n q : Nat} {v : Value} {xs : List Value} {C : Array Value} (ho : Own w B 79 3 v n xs) (hq : w.heap[q]? = some (.cells C 48 (0, 0))) : ∀ g, v.ownBlock = some g → g ≠ q := fun g he e => by
  rcases ho.2 with ⟨rfl, _⟩ | ⟨g', cap, cur, rfl, _, hgg, _⟩
  · cases he
  · injection he with he
    simp only at he
    subst he
    subst e
    rw [hq] at hgg
    injection hgg with hgg
    injection hgg with _ h3 _
    exact absurd h3 (by decide)
/-- a table is stored in a new box. -/
theorem same_fin {w a : World} {X D Y C : Array Value} {q B n k : Nat} {u v b0 b1 b2 : Value} {xs ys : List Value} (hT : TS w a X D Y) (hq : w.heap.size + 3 ≤ q) (hz : q < a.heap.size) (hC : a.heap[q]? = some (.cells C 48 (0, 0))) (hI : Is a q C) (hn : C.size = 3) (h1 : Own a B 79 3 u n xs) (h2 : Own a B 79 3 v k ys) :
    q < (((a.setCell ⟨q, 0, none⟩ b0).setCell ⟨q, 1, none⟩ b1).setCell ⟨q, 2, none⟩ b2).heap.size ∧ Is (((a.setCell ⟨q, 0, none⟩ b0).setCell ⟨q, 1, none⟩ b1).setCell ⟨q, 2, none⟩ b2) q #[b0, b1, b2] ∧ TS w (((a.setCell ⟨q, 0, none⟩ b0).setCell ⟨q, 1, none⟩ b1).setCell ⟨q, 2, none⟩ b2) X D Y ∧
      Own (((a.setCell ⟨q, 0, none⟩ b0).setCell ⟨q, 1, none⟩ b1).setCell ⟨q, 2, none⟩ b2) B 79 3 u n xs ∧ Own (((a.setCell ⟨q, 0, none⟩ b0).setCell ⟨q, 1, none⟩ b1).setCell ⟨q, 2, none⟩ b2) B 79 3 v k ys :=
  ⟨by simpa [World.setCell] using hz, put_is (V := #[b0, b1, b2]) hI hn, ((hT.far hq b0).far hq b1).far hq b2,
   own_setn (own_setn (own_setn h1 ⟨q, 0, none⟩ b0 (own_ne_box h1 hC)) ⟨q, 1, none⟩ b1 (own_ne_box h1 hC)) ⟨q, 2, none⟩ b2 (own_ne_box h1 hC),
   own_setn (own_setn (own_setn h2 ⟨q, 0, none⟩ b0 (own_ne_box h2 hC)) ⟨q, 1, none⟩ b1 (own_ne_box h2 hC)) ⟨q, 2, none⟩ b2 (own_ne_box h2 hC)⟩
theorem heap_kept {a b : World} {row : Option Nat} (hg : a.grownBy b row) {q : Nat} (hz : q < a.heap.size) (hn : some q ≠ row) : b.heap[q]? = a.heap[q]? := hg.block q hz hn
theorem heap_old (w : World) (z : Obj) {i : Nat} (hi : i < w.heap.size) : (w.alloc z).heap[i]? = w.heap[i]? := (up_alloc (Below.refl w.heap.size w) z).block i hi

set_option maxRecDepth 100000 in
set_option maxHeartbeats 2000000 in
theorem specTableChange_no (f m : List UInt8) (v : Value) (ps : List Pc) (x : Ch) (w : World) (h : RdP w v ps) (hn : ps.length ≤ 1048576) (hf : f.length ≤ 1048576) (hm : m.length ≤ 1048576) (hv : tbB f m ps = false) :
    Calls Try.prog 20 #[tbAgg f m v, chAgg x] w (TcPost [] [] [] false w) := by
  obtain ⟨A, c, rfl, hpl, _⟩ := h.form
  have O := Lib.hid (fun (w' : World) (hb : Below w.heap.size w w') => l1OwnTable_any f m (.slice A ps.length c) ps w' (h.up hb) hn)
  have T := Lib.hid (fun (u : Value) (w' : World) (h : RdP w' u ps) => specTableValid_any f m u ps w' h hf hm)
  rw [hv] at T
  clear h hv
  obtain ⟨fa, fc, fp⟩ := x
  unfold TbPost chAgg tbAgg at *
  simp only at *
  go_enter Try.func20, Try.ntmps20
  go_wp2_with fail
  refine (O.out _ (by (repeat (first | exact Below.refl _ _ | assumption | refine Below.drew ?_ | refine up_drewN ?_ _ | refine up_alloc ?_ _ | refine up_set ?_ _ _ (by first | exact Nat.le_refl _ | (simp; done) | (simp; omega) | omega) | refine up_trans ?_ (by assumption))))).mono ?_
  rintro e w1 ⟨u, rfl, ho, hb⟩
  have HO := Lib.hid (own_base ho (show w.heap.size + 3 ≤ _ by simp))
  obtain ⟨A1, c1, rfl, -, -⟩ := (RdL.of_own (f := pcC) (bs := ps) ho).form
  have CS := Lib.hid (TS.up (TS.new #[S f, S m, .slice A ps.length c] #[.int .i64 fa, .int .i64 fc, S fp] #[S [], S [], .slice none 0 0] w) hb)
  have HO1 := Lib.hid (own_set (own_set (own_set HO.out ⟨w.heap.size, 0, none⟩ (S f) (by simp)) ⟨w.heap.size, 1, none⟩ (S m) (by simp)) ⟨w.heap.size, 2, none⟩ (.slice A1 ps.length c1) (by simp))
  have CS1 := Lib.hid (show TS w (((w1.setCell ⟨w.heap.size, 0, none⟩ (S f)).setCell ⟨w.heap.size, 1, none⟩ (S m)).setCell ⟨w.heap.size, 2, none⟩ (.slice A1 ps.length c1)) #[S f, S m, .slice A1 ps.length c1] #[.int .i64 fa, .int .i64 fc, S fp] #[S [], S [], .slice none 0 0] from ((CS.out.put (k := 0) (by simp) (S f)).put (k := 1) (by simp) (S m)).put (k := 2) (by simp) (.slice A1 ps.length c1))
  obtain ⟨⟨xc, xf⟩, -⟩ := CS.out
  clear hb ho O HO
  go_upto_region 2 with (fail)
  obtain ⟨w2, hw2⟩ : ∃ z, z = (((w1.setCell ⟨w.heap.size, 0, none⟩ (S f)).setCell ⟨w.heap.size, 1, none⟩ (S m)).setCell ⟨w.heap.size, 2, none⟩ (.slice A1 ps.length c1)) := ⟨_, rfl⟩
  rw [← hw2] at CS1 HO1 ⊢
  clear hw2 CS xc xf
  obtain ⟨⟨xc, xf⟩, ⟨dc, df⟩, ⟨yc, yf⟩, -⟩ := CS1.out
  go_wp2_with fail
  refine (T.out _ _ (RdL.of_own HO1.out)).mono ?_
  rintro e w3 ⟨rfl, hb⟩
  have CS3 := Lib.hid (CS1.out.up hb)
  have HO3 := Lib.hid (own_up HO1.out hb)
  clear hb T CS1 HO1 xc xf dc df yc yf
  obtain ⟨⟨xc, xf⟩, ⟨dc, df⟩, ⟨yc, yf⟩, -⟩ := CS3.out
  have hW := CS3.out.2.2.2.2
  go_wp2_with fail
  refine bodyPost_ret (v := .tuple #[tbAgg [] [] (.slice none 0 0), .bool false]) (by simp [results, Try.results20, go_sem, yc, tbAgg]) rfl ⟨_, rfl, World.ownsRow_nil _ _ _ _, by (repeat (first | exact Below.refl _ _ | assumption | refine Below.drew ?_ | refine up_drewN ?_ _ | refine up_alloc ?_ _ | refine up_set ?_ _ _ (by first | exact Nat.le_refl _ | (simp; done) | (simp; omega) | omega) | refine up_trans ?_ (by assumption)))⟩

set_option maxRecDepth 100000 in
set_option maxHeartbeats 2000000 in
theorem specTableChange_bad (f m : List UInt8) (v : Value) (ps : List Pc) (x : Ch) (w : World) (h : RdP w v ps) (hv : tbB f m ps = true) (hp : x.p.length ≤ 1048576) (hbad : okF (tbT f m ps) x = true → 400 < m.length + x.p.length) :
    Calls Try.prog 20 #[tbAgg f m v, chAgg x] w (TcPost f m ps false w) := by
  obtain ⟨-, hf, hm, -, hall, hsum⟩ := tbB_out hv
  have h1s : ∀ p ∈ ps, 1 ≤ p.sz := fun p hp' => (pcOk_in (hall p hp')).2.1
  have hcount : (ps.length : Int) ≤ 120 := by have := len_sum h1s; omega
  obtain ⟨A, c, rfl, hpl, _⟩ := h.form
  have O := Lib.hid (fun (w' : World) (hb : Below w.heap.size w w') => l1OwnTable_any f m (.slice A ps.length c) ps w' (h.up hb) (by omega))
  have T := Lib.hid (fun (u : Value) (w' : World) (h : RdP w' u ps) => specTableValid_any f m u ps w' h (by omega) (by omega))
  have W := Lib.hid (fun (u : Value) (w' : World) (h : RdP w' u ps) => specTableText_yes f m u ps w' h hv (by omega) (by omega))
  have F := Lib.hid (fun w' => specFits_any (tbT f m ps) x w' (tbT_tv hv) (by omega))
  obtain ⟨i0, hi0, hz0, hz1, hz2⟩ := info_parts piece_info
  rw [hv] at T
  have hsl : (tbT f m ps).length ≤ 120 := by have := tbT_len ps hall; omega
  generalize tbT f m ps = s at *
  generalize okF s x = ok at *
  obtain ⟨fa, fc, fp⟩ := x
  clear h hv
  unfold TbPost chAgg tbAgg at *
  simp only at *
  have hadd : IntKind.i64.wrap ((m.length : Int) + (fp.length : Int)) = (m.length : Int) + (fp.length : Int) := IntWalk.i64_in _ (by omega)
  go_enter Try.func20, Try.ntmps20
  go_wp2_with fail
  refine (O.out _ (by (repeat (first | exact Below.refl _ _ | assumption | refine Below.drew ?_ | refine up_drewN ?_ _ | refine up_alloc ?_ _ | refine up_set ?_ _ _ (by first | exact Nat.le_refl _ | (simp; done) | (simp; omega) | omega) | refine up_trans ?_ (by assumption))))).mono ?_
  rintro e w1 ⟨u, rfl, ho, hb⟩
  have HO := Lib.hid (own_base ho (show w.heap.size + 3 ≤ _ by simp))
  obtain ⟨A1, c1, rfl, -, -⟩ := (RdL.of_own (f := pcC) (bs := ps) ho).form
  have CS := Lib.hid (TS.up (TS.new #[S f, S m, .slice A ps.length c] #[.int .i64 fa, .int .i64 fc, S fp] #[S [], S [], .slice none 0 0] w) hb)
  have HO1 := Lib.hid (own_set (own_set (own_set HO.out ⟨w.heap.size, 0, none⟩ (S f) (by simp)) ⟨w.heap.size, 1, none⟩ (S m) (by simp)) ⟨w.heap.size, 2, none⟩ (.slice A1 ps.length c1) (by simp))
  have CS1 := Lib.hid (show TS w (((w1.setCell ⟨w.heap.size, 0, none⟩ (S f)).setCell ⟨w.heap.size, 1, none⟩ (S m)).setCell ⟨w.heap.size, 2, none⟩ (.slice A1 ps.length c1)) #[S f, S m, .slice A1 ps.length c1] #[.int .i64 fa, .int .i64 fc, S fp] #[S [], S [], .slice none 0 0] from ((CS.out.put (k := 0) (by simp) (S f)).put (k := 1) (by simp) (S m)).put (k := 2) (by simp) (.slice A1 ps.length c1))
  obtain ⟨⟨xc, xf⟩, -⟩ := CS.out
  clear hb ho O HO
  go_upto_region 2 with (fail)
  obtain ⟨w2, hw2⟩ : ∃ z, z = (((w1.setCell ⟨w.heap.size, 0, none⟩ (S f)).setCell ⟨w.heap.size, 1, none⟩ (S m)).setCell ⟨w.heap.size, 2, none⟩ (.slice A1 ps.length c1)) := ⟨_, rfl⟩
  rw [← hw2] at CS1 HO1 ⊢
  clear hw2 CS xc xf
  obtain ⟨⟨xc, xf⟩, ⟨dc, df⟩, ⟨yc, yf⟩, -⟩ := CS1.out
  go_wp2_with fail
  refine (T.out _ _ (RdL.of_own HO1.out)).mono ?_
  rintro e w3 ⟨rfl, hb⟩
  have CS3 := Lib.hid (CS1.out.up hb)
  have HO3 := Lib.hid (own_up HO1.out hb)
  clear hb T CS1 HO1 xc xf dc df yc yf
  obtain ⟨⟨xc, xf⟩, ⟨dc, df⟩, ⟨yc, yf⟩, -⟩ := CS3.out
  have hs3 : w.heap.size + 3 ≤ w3.heap.size := CS3.out.2.2.2.1
  have SZ3 := Lib.hid hs3
  go_upto_region 4 with (fail)
  go_cut [6] from 17 to 25 (fun t6 wx => ∃ (q : Nat) (A4 : Option Addr) (C4 : Nat), t6 = .pointer (some ⟨q, 0, none⟩) ∧ w.heap.size + 3 ≤ q ∧ q < wx.heap.size ∧ Hid (OwnP wx (w.heap.size + 3) (.slice A4 ps.length C4) ps) ∧ Hid (Is wx q #[S f, S m, .slice A4 ps.length C4]) ∧ Hid (TS w wx #[S f, S m, .slice A1 ps.length c1] #[.int .i64 fa, .int .i64 fc, S fp] #[S [], S [], .slice none 0 0]) ∧ Hid (OwnP wx (w.heap.size + 3) (.slice A1 ps.length c1) ps))
  case first =>
    go_region_held3 (fun w' => w'.cell? ⟨w.heap.size, 0, none⟩ = some (.string ⟨f.toArray⟩) ∧ w'.cell? ⟨w.heap.size, 1, none⟩ = some (.string ⟨m.toArray⟩) ∧ w'.cell? ⟨w.heap.size, 2, none⟩ = some (.slice A1 ps.length c1))
      (first
        | exact ⟨FN.out.2.2.1.1.1 0, FN.out.2.2.1.1.1 1, FN.out.2.2.1.1.1 2⟩
        | exact ⟨TS8.out.1.1 0, TS8.out.1.1 1, TS8.out.1.1 2⟩
        | exact ⟨(TS8.out.alloc _).1.1 0, (TS8.out.alloc _).1.1 1, (TS8.out.alloc _).1.1 2⟩
        | go_keep)
      (first
        | (
           have hN : Own (w3.drew.alloc (.cells #[] 79)) (w.heap.size + 3) 79 3 (.slice (some ⟨w3.heap.size, 0, none⟩) 0 0) 0 [] := own_nil_at (heap_alloc_new _ _) SZ3.out
           have hB3 : Below w3.heap.size w3 (w3.drew.alloc (.cells #[] 79)) := by (repeat (first | exact Below.refl _ _ | assumption | refine Below.drew ?_ | refine up_drewN ?_ _ | refine up_alloc ?_ _ | refine up_set ?_ _ _ (by first | exact Nat.le_refl _ | (simp; done) | (simp; omega) | omega) | refine up_trans ?_ (by assumption)))
           refine step_append_any (w3.drew.alloc (.cells #[] 79)) (by rfl) _ _ 46 (by rfl) (w.heap.size + 3) 79 i0 _ 3 24 Try.underlying46 hi0 hz0 hz1 hz2 rfl (by decide) (.slice (some ⟨w3.heap.size, 0, none⟩) 0 0) 0 [] (by rfl) hN (.slice A1 ps.length c1) ps.length _ (by rfl) (RdL.of_own (f := pcC) (own_up HO3.out hB3)) (pc_oneCell ps) (by unfold maxLen; omega) (by omega) (by simp; omega) ?_
           intro v8 w8 how hgr
           have HO8 := Lib.hid (show OwnP w8 (w.heap.size + 3) v8 ps by simpa using how)
           obtain ⟨A8, c8, rfl, -, -⟩ := (RdL.of_own (f := pcC) (bs := ps) HO8.out).form
           have TS8 := Lib.hid ((CS3.out.up hB3).grown hN (Nat.le_refl _) hgr)
           have H18 := Lib.hid ((own_up HO3.out hB3).kept hgr (.inr (fun e => by have : w3.heap.size < w3.heap.size := (HO3.out.lt _ e).2; omega)))
           have tc8 := TS8.out.1.1
           have FN := Lib.hid (show w8.heap.size < (w8.alloc (.cells #[S f, S m, .slice A8 ps.length c8] 48)).heap.size ∧ Is (w8.alloc (.cells #[S f, S m, .slice A8 ps.length c8] 48)) w8.heap.size #[S f, S m, .slice A8 ps.length c8] ∧ TS w (w8.alloc (.cells #[S f, S m, .slice A8 ps.length c8] 48)) #[S f, S m, .slice A1 ps.length c1] #[.int .i64 fa, .int .i64 fc, S fp] #[S [], S [], .slice none 0 0] ∧ OwnP (w8.alloc (.cells #[S f, S m, .slice A8 ps.length c8] 48)) (w.heap.size + 3) (.slice A8 ps.length c8) ps ∧ OwnP (w8.alloc (.cells #[S f, S m, .slice A8 ps.length c8] 48)) (w.heap.size + 3) (.slice A1 ps.length c1) ps from ⟨by simp, new_is w8 _ _, TS8.out.alloc _, HO8.out.alloc _, H18.out.alloc _⟩)
           have hne8 : ¬ w8.heap.size = w.heap.size := (by have := TS8.out.2.2.2.1; omega)
           clear how hgr hN hB3)
        | (
           have hN : Own ((w3.drew.alloc (.cells #[] 79)).alloc (.cells #[S [], S [], .slice none 0 0] 48)) (w.heap.size + 3) 79 3 (.slice (some ⟨w3.heap.size, 0, none⟩) 0 0) 0 [] := own_nil_at ((heap_old _ _ (by simp)).trans (heap_alloc_new w3.drew _)) SZ3.out
           have hB3 : Below w3.heap.size w3 ((w3.drew.alloc (.cells #[] 79)).alloc (.cells #[S [], S [], .slice none 0 0] 48)) := by (repeat (first | exact Below.refl _ _ | assumption | refine Below.drew ?_ | refine up_drewN ?_ _ | refine up_alloc ?_ _ | refine up_set ?_ _ _ (by first | exact Nat.le_refl _ | (simp; done) | (simp; omega) | omega) | refine up_trans ?_ (by assumption)))
           refine step_append_any ((w3.drew.alloc (.cells #[] 79)).alloc (.cells #[S [], S [], .slice none 0 0] 48)) (by rfl) _ _ 46 (by rfl) (w.heap.size + 3) 79 i0 _ 3 24 Try.underlying46 hi0 hz0 hz1 hz2 rfl (by decide) (.slice (some ⟨w3.heap.size, 0, none⟩) 0 0) 0 [] (by rfl) hN (.slice A1 ps.length c1) ps.length _ (by rfl) (RdL.of_own (f := pcC) (own_up HO3.out hB3)) (pc_oneCell ps) (by unfold maxLen; omega) (by omega) (by simp; omega) ?_
           intro v8 w8 how hgr
           have HO8 := Lib.hid (show OwnP w8 (w.heap.size + 3) v8 ps by simpa using how)
           obtain ⟨A8, c8, rfl, -, -⟩ := (RdL.of_own (f := pcC) (bs := ps) HO8.out).form
           have TS8 := Lib.hid ((CS3.out.up hB3).grown hN (Nat.le_refl _) hgr)
           have H18 := Lib.hid ((own_up HO3.out hB3).kept hgr (.inr (fun e => by have : w3.heap.size < w3.heap.size := (HO3.out.lt _ e).2; omega)))
           have tc8 := TS8.out.1.1
           have QI := Lib.hid (show Is w8 (w3.heap.size + 1) #[S [], S [], .slice none 0 0] from is_grown (by have := new_is (w3.drew.alloc (.cells #[] 79)) #[S [], S [], .slice none 0 0] 48; rw [show (w3.drew.alloc (.cells #[] 79)).heap.size = w3.heap.size + 1 by simp] at this; exact this) hgr (by simp) (by simp [Value.ownBlock]))
           have QC := Lib.hid (show w8.heap[(w3.heap.size + 1)]? = some (.cells #[S [], S [], .slice none 0 0] 48 (0, 0)) from (heap_kept hgr (by simp) (by simp [Value.ownBlock])).trans (by have := heap_alloc_new (w3.drew.alloc (.cells #[] 79)) (.cells #[S [], S [], .slice none 0 0] 48); rw [show (w3.drew.alloc (.cells #[] 79)).heap.size = w3.heap.size + 1 by simp] at this; exact this))
           obtain ⟨qc, qf⟩ := QI.out
           have hqz : (w3.heap.size + 1) < w8.heap.size := (by have := hgr.size; simp at this; omega)
           have FN := Lib.hid (same_fin (b0 := S f) (b1 := S m) (b2 := .slice A8 ps.length c8) TS8.out (show w.heap.size + 3 ≤ (w3.heap.size + 1) by omega) hqz QC.out QI.out rfl HO8.out H18.out)
           clear how hgr hN hB3)
        | (
           have hN : Own ((w3.drew.alloc (.cells #[S [], S [], .slice none 0 0] 48)).alloc (.cells #[] 79)) (w.heap.size + 3) 79 3 (.slice (some ⟨(w3.heap.size + 1), 0, none⟩) 0 0) 0 [] := own_nil_at (by have := heap_alloc_new (w3.drew.alloc (.cells #[S [], S [], .slice none 0 0] 48)) (.cells #[] 79); rw [show (w3.drew.alloc (.cells #[S [], S [], .slice none 0 0] 48)).heap.size = w3.heap.size + 1 by simp] at this; exact this) (by omega)
           have hB3 : Below w3.heap.size w3 ((w3.drew.alloc (.cells #[S [], S [], .slice none 0 0] 48)).alloc (.cells #[] 79)) := by (repeat (first | exact Below.refl _ _ | assumption | refine Below.drew ?_ | refine up_drewN ?_ _ | refine up_alloc ?_ _ | refine up_set ?_ _ _ (by first | exact Nat.le_refl _ | (simp; done) | (simp; omega) | omega) | refine up_trans ?_ (by assumption)))
           refine step_append_any ((w3.drew.alloc (.cells #[S [], S [], .slice none 0 0] 48)).alloc (.cells #[] 79)) (by rfl) _ _ 46 (by rfl) (w.heap.size + 3) 79 i0 _ 3 24 Try.underlying46 hi0 hz0 hz1 hz2 rfl (by decide) (.slice (some ⟨(w3.heap.size + 1), 0, none⟩) 0 0) 0 [] (by rfl) hN (.slice A1 ps.length c1) ps.length _ (by rfl) (RdL.of_own (f := pcC) (own_up HO3.out hB3)) (pc_oneCell ps) (by unfold maxLen; omega) (by omega) (by simp; omega) ?_
           intro v8 w8 how hgr
           have HO8 := Lib.hid (show OwnP w8 (w.heap.size + 3) v8 ps by simpa using how)
           obtain ⟨A8, c8, rfl, -, -⟩ := (RdL.of_own (f := pcC) (bs := ps) HO8.out).form
           have TS8 := Lib.hid ((CS3.out.up hB3).grown hN (Nat.le_refl _) hgr)
           have H18 := Lib.hid ((own_up HO3.out hB3).kept hgr (.inr (fun e => by have : w3.heap.size + 1 < w3.heap.size := (HO3.out.lt _ e).2; omega)))
           have tc8 := TS8.out.1.1
           have QI := Lib.hid (show Is w8 w3.heap.size #[S [], S [], .slice none 0 0] from is_grown (is_alloc (new_is w3.drew #[S [], S [], .slice none 0 0] 48) (by simp) _) hgr (by simp; omega) (by simp [Value.ownBlock]))
           have QC := Lib.hid (show w8.heap[w3.heap.size]? = some (.cells #[S [], S [], .slice none 0 0] 48 (0, 0)) from (heap_kept hgr (by simp; omega) (by simp [Value.ownBlock])).trans ((heap_old _ _ (by simp)).trans (heap_alloc_new w3.drew _)))
           obtain ⟨qc, qf⟩ := QI.out
           have hqz : w3.heap.size < w8.heap.size := (by have := hgr.size; simp at this; omega)
           have FN := Lib.hid (same_fin (b0 := S f) (b1 := S m) (b2 := .slice A8 ps.length c8) TS8.out (show w.heap.size + 3 ≤ w3.heap.size by omega) hqz QC.out QI.out rfl HO8.out H18.out)
           clear how hgr hN hB3))
    all_goals
      go_wp2_with fail
      go_meet
      obtain ⟨f1, f2, f3, f4, f5⟩ := FN.out
      exact ⟨_, A8, c8, rfl, by first | omega | (have := TS8.out.2.2.2.1; omega), f1, Lib.hid f4, Lib.hid f2, Lib.hid f3, Lib.hid f5⟩
  case rest =>
  clear CS3 HO3 hs3 SZ3 xc xf dc df yc yf
  obtain ⟨q, A4, C4, rfl, hq, hqz, HO4, QI, CS4, HO1⟩ := hcut
  obtain ⟨w5, rfl⟩ : ∃ z, z = wc := ⟨_, rfl⟩
  obtain ⟨⟨xc, xf⟩, ⟨dc, df⟩, -⟩ := CS4.out
  have hs5 := CS4.out.2.2.2.1
  have xz : w.heap.size < w5.heap.size := by omega
  have dz : w.heap.size + 1 < w5.heap.size := by omega
  have hne := UpW.nonempty w5
  have C1 := Lib.hid (fun y : UpW w5 => calls_up (W.out (.slice A1 ps.length c1) (y.at w5) (RdL.of_own (own_up HO1.out y.2))))
  have C2 := Lib.hid (fun y : UpW w5 => calls_up (F.out (y.at w5)))
  clear W F
  rcases ok with _ | _
  · clear hadd hbad
    go_upto_region 5 with (fail)
    refine wp_region_up_lit (by kernel_rfl) (by kernel_rfl) ?_
    repeat (go_big_quiet_step (first | (go_at_call 54; exact C1.out _) | (go_at_call 53; exact C2.out _)))
    refine wpQuiet_nil ?_
    intro w6 hb1
    replace hb1 := UpW.out hb1
    have CS6 := Lib.hid (CS4.out.up hb1)
    have HO6 := Lib.hid (own_up HO4.out hb1)
    obtain ⟨qc, qf⟩ := QI.out.up hqz hb1
    obtain ⟨-, -, ⟨yc, yf⟩, hs6, hW⟩ := CS6.out
    clear hne C1 C2 hb1 xc xf dc df
    go_wp2_with fail
    refine bodyPost_ret (v := .tuple #[.agg #[S f, S m, .slice A4 ps.length C4], .bool false]) (by simp [results, Try.results20, go_sem, yc]) rfl ⟨_, rfl, ?_, by (repeat (first | exact Below.refl _ _ | assumption | refine Below.drew ?_ | refine up_drewN ?_ _ | refine up_alloc ?_ _ | refine up_set ?_ _ _ (by first | exact Nat.le_refl _ | (simp; done) | (simp; omega) | omega) | refine up_trans ?_ (by assumption)))⟩
    exact own_base (own_set (own_set (own_set HO6.out _ _ (by simp)) _ _ (by simp)) _ _ (by simp)) (by omega)
  · have hlt : (400 : Int) < (m.length : Int) + (fp.length : Int) := by have := hbad rfl; omega
    clear hbad
    go_upto_region 5 with (fail)
    refine wp_region_up_lit (by kernel_rfl) (by kernel_rfl) ?_
    repeat (go_big_quiet_step (first | (go_at_call 54; exact C1.out _) | (go_at_call 53; exact C2.out _)))
    refine wpQuiet_nil ?_
    intro w6 hb1
    replace hb1 := UpW.out hb1
    have CS6 := Lib.hid (CS4.out.up hb1)
    have HO6 := Lib.hid (own_up HO4.out hb1)
    obtain ⟨qc, qf⟩ := QI.out.up hqz hb1
    obtain ⟨-, -, ⟨yc, yf⟩, hs6, hW⟩ := CS6.out
    clear hne C1 C2 hb1 xc xf dc df
    go_wp2_with fail
    refine bodyPost_ret (v := .tuple #[.agg #[S f, S m, .slice A4 ps.length C4], .bool false]) (by simp [results, Try.results20, go_sem, yc]) rfl ⟨_, rfl, ?_, by (repeat (first | exact Below.refl _ _ | assumption | refine Below.drew ?_ | refine up_drewN ?_ _ | refine up_alloc ?_ _ | refine up_set ?_ _ _ (by first | exact Nat.le_refl _ | (simp; done) | (simp; omega) | omega) | refine up_trans ?_ (by assumption)))⟩
    exact own_base (own_set (own_set (own_set HO6.out _ _ (by simp)) _ _ (by simp)) _ _ (by simp)) (by omega)

end Go.Proofs.Ytlejfmngpbcdhaa
