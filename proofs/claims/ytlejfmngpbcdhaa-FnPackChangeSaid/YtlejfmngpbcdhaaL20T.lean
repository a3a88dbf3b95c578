/- What is proved here: the draw of tables: the contract of l20Table. No condition but that the code is a slice of bytes. -/
import Derived.Test.YtlejfmngpbcdhaaTabG
import Derived.Test.YtlejfmngpbcdhaaDrawC
import Derived.Test.YtlejfmngpbcdhaaEverX
import Derived.Test.YtlejfmngpbcdhaaGK
namespace Go.Proofs.Ytlejfmngpbcdhaa
open Go.RowKit
set_option linter.unusedVariables false
set_option linter.unusedSimpArgs false

theorem specTc_good (f m : List UInt8) (v : Value) (ps : List Pc) (x : Ch) (w : World) (h : RdP w v ps) (hv : tbB f m ps = true) (hp : x.p.length ≤ 1048576) :
    Calls Try.prog 20 #[tbAgg f m v, chAgg x] w fun e w' => ∃ f' m' ps' u ok, e = .returned (.tuple #[tbAgg f' m' u, .bool ok]) ∧ tbB f' m' ps' = true ∧ OwnP w' w.heap.size u ps' ∧ Below w.heap.size w w' := by
  by_cases hok : okF (tbT f m ps) x = true ∧ m.length + x.p.length ≤ 400
  · refine (specTableChange_yes f m v ps x w h hv hok.1 hok.2).mono ?_
    rintro e w' ⟨u, rfl, ho, hb⟩
    exact ⟨_, _, _, u, true, rfl, tcP_tb hv hok.1 hok.2, ho, hb⟩
  · have hbad : okF (tbT f m ps) x = true → 400 < m.length + x.p.length := fun h => by
      rcases Nat.lt_or_ge 400 (m.length + x.p.length) with h4 | h4
      · exact h4
      · exact absurd ⟨h, h4⟩ hok
    refine (specTableChange_bad f m v ps x w h hv hp hbad).mono ?_
    rintro e w' ⟨u, rfl, ho, hb⟩
    exact ⟨_, _, _, u, false, rfl, hv, ho, hb⟩

theorem rs_ownT {L : List Nat} {a b : World} {bs n : Nat} {v : Value} {e : TypeId} {size : Nat} {xs : List Value} (h : RS L a b) (ho : Own a bs e size v n xs) (h1 : ∀ x, v.ownBlock = some x → x ∉ L) : Own b bs e size v n xs := by
  refine ⟨ho.1, ?_⟩
  rcases ho.2 with hn | ⟨x, cap, cur, rfl, hbg, hgg, rest⟩
  · exact .inl hn
  · refine .inr ⟨x, cap, cur, rfl, hbg, ?_, rest⟩
    rw [h.block x (Array.getElem?_eq_some_iff.1 hgg).1 (h1 x rfl)]
    exact hgg
/-- block d is a box that holds a valid table, whose row is neither g nor d. -/
def TBx (B g d : Nat) (w : World) : Prop := (B ≤ w.heap.size ∧ g < w.heap.size ∧ d < w.heap.size) ∧ ∃ f m ps u, Is w d #[S f, S m, u] ∧ tbB f m ps = true ∧ OwnP w B u ps ∧ u.ownBlock ≠ some g ∧ u.ownBlock ≠ some d
/-- the running fact of the draw of tables. -/
def MT (B g d n : Nat) (zs : List Int) (q k : Nat) (w : World) : Prop := MR g n zs q 60 k w ∧ TBx B g d w
section
variable {B g d n q k : Nat} {zs : List Int} {w w' : World}
theorem TBx.kept (h : TBx B g d w) (hb : w.grownBy w' (some g)) (hgd : g < d) : TBx B g d w' := by
  obtain ⟨⟨h1, h2, h3⟩, f, m, ps, u, hI, hv, ho, hng, hnd⟩ := h
  refine ⟨⟨Nat.le_trans h1 hb.size, Nat.lt_of_lt_of_le h2 hb.size, Nat.lt_of_lt_of_le h3 hb.size⟩, f, m, ps, u, is_grown hI hb h3 (fun e => by injection e; omega), hv, ho.kept hb ?_, hng, hnd⟩
  cases hu : u.ownBlock with
  | none => exact .inl rfl
  | some x => exact .inr fun e => hng (by rw [hu, e])
theorem TBx.below (h : TBx B g d w) (hb : Below w.heap.size w w') : TBx B g d w' := by
  obtain ⟨⟨h1, h2, h3⟩, f, m, ps, u, hI, hv, ho, hng, hnd⟩ := h
  exact ⟨⟨Nat.le_trans h1 hb.size, Nat.lt_of_lt_of_le h2 hb.size, Nat.lt_of_lt_of_le h3 hb.size⟩, f, m, ps, u, hI.up h3 hb, hv, own_up ho hb, hng, hnd⟩
theorem MT.next (h : MT B g d n zs q k w) : MT B g d n zs q (k + 1) w := ⟨h.1.next, h.2⟩
theorem MT.below (h : MT B g d n zs q k w) (hb : Below w.heap.size w w') : MT B g d n zs q k w' := by
  obtain ⟨⟨x, hx, hr⟩, h2⟩ := h
  exact ⟨⟨x, hx, hr.up hb⟩, h2.below hb⟩
theorem MT.base_le (h : MT B g d n zs q k w) : B ≤ w.heap.size := h.2.1.1
theorem MT.ne_new {u : Value} {ps : List Pc} {w2 : World} (h : MT B g d n zs q k w) (ho : OwnP w2 w.heap.size u ps) : u.ownBlock ≠ some g ∧ u.ownBlock ≠ some d := by
  have h1 := h.2.1
  exact ⟨fun e => by have := (ho.lt _ e).1; omega, fun e => by have := (ho.lt _ e).1; omega⟩
theorem tput_mk {f m : List UInt8} {ps : List Pc} {u : Value} (hM : MT B g d n zs q k w) (hv : tbB f m ps = true) (ho : OwnP w B u ps) (hng : u.ownBlock ≠ some g) (hnd : u.ownBlock ≠ some d) (hgd : g < d) :
    RS [g, d] w (((w.setCell ⟨d, 0, none⟩ (S f)).setCell ⟨d, 1, none⟩ (S m)).setCell ⟨d, 2, none⟩ u) ∧ MT B g d n zs q k (((w.setCell ⟨d, 0, none⟩ (S f)).setCell ⟨d, 1, none⟩ (S m)).setCell ⟨d, 2, none⟩ u) := by
  obtain ⟨⟨x, hx, hr⟩, ⟨h1, h2, h3⟩, f', m', ps', u', hI, -, -, -, -⟩ := hM
  have hs : (((w.setCell ⟨d, 0, none⟩ (S f)).setCell ⟨d, 1, none⟩ (S m)).setCell ⟨d, 2, none⟩ u).heap.size = w.heap.size := by simp [World.setCell]
  refine ⟨(((RS.refl _ w).set _ _ (by simp)).set _ _ (by simp)).set _ _ (by simp), ⟨x, hx, Rdr.below hr ?_⟩, ⟨by rw [hs]; exact h1, by rw [hs]; exact h2, by rw [hs]; exact h3⟩, f, m, ps, u, put_is (V := #[S f, S m, u]) hI rfl, hv, own_setCells (w := w) hnd [S f, S m, u] 0 w ho, hng, hnd⟩
  refine Below.setCell (Below.setCell (Below.setCell (Below.refl _ _) ?_ _) ?_ _) ?_ _ <;> (show g + 1 ≤ d; omega)
end
theorem own_setn2 {w : World} {base size n : Nat} {e : TypeId} {v : Value} {xs : List Value} (h : Own w base e size v n xs) (p : Addr) (u : Value) (hp : v.ownBlock ≠ some p.block) : Own (w.setCell p u) base e size v n xs := by
  refine ⟨h.1, ?_⟩
  rcases h.2 with hn | ⟨g, cap, cur, rfl, hbg, hgg, rest⟩
  · exact .inl hn
  · refine .inr ⟨g, cap, cur, rfl, hbg, ?_, rest⟩
    rw [Below.heap_setCell w p u g (fun e => hp (by rw [← e]; rfl))]
    exact hgg
theorem row_or {v : Value} {g : Nat} (h : v.ownBlock ≠ some g) : v.ownBlock = none ∨ v.ownBlock ≠ some g := .inr h
/-- a valid table of the region's own. -/
def tTb (B g d : Nat) : Ty (RS [g, d]) := ⟨fun v w => ∃ f m ps u, v = .agg #[S f, S m, u] ∧ tbB f m ps = true ∧ OwnP w B u ps ∧ u.ownBlock ≠ some g ∧ u.ownBlock ≠ some d,
  fun _ _ _ hR ⟨f, m, ps, u, hv, h1, ho, h2, h3⟩ => ⟨f, m, ps, u, hv, h1, rs_ownT hR ho (fun x hx hm => by
    simp only [List.mem_cons, List.not_mem_nil, or_false] at hm
    rcases hm with rfl | rfl
    · exact h2 hx
    · exact h3 hx), h2, h3⟩⟩
def tTbT (B g d : Nat) : Ty (RS [g, d]) := ⟨fun v w => ∃ f m ps u ok, v = .tuple #[.agg #[S f, S m, u], .bool ok] ∧ tbB f m ps = true ∧ OwnP w B u ps ∧ u.ownBlock ≠ some g ∧ u.ownBlock ≠ some d,
  fun _ _ _ hR ⟨f, m, ps, u, ok, hv, h1, ho, h2, h3⟩ => ⟨f, m, ps, u, ok, hv, h1, rs_ownT hR ho (fun x hx hm => by
    simp only [List.mem_cons, List.not_mem_nil, or_false] at hm
    rcases hm with rfl | rfl
    · exact h2 hx
    · exact h3 hx), h2, h3⟩⟩
def isCg (v : Value) : Prop := ∃ (a c : Int) (t : List UInt8), v = .agg #[.int .i64 a, .int .i64 c, S t] ∧ t.length ≤ 260
def isBo (v : Value) : Prop := ∃ b : Bool, v = .bool b

theorem own_ne_is {w : World} {B d : Nat} {v : Value} {ns : List Pc} {f m : List UInt8} {u : Value} (ho : OwnP w B v ns) (hn : ns ≠ []) (hI : Is w d #[S f, S m, u]) : v.ownBlock ≠ some d := fun e => by
  obtain ⟨x, l, rfl⟩ : ∃ x l, ns = x :: l := by
    cases ns with
    | nil => exact absurd rfl hn
    | cons x l => exact ⟨x, l, rfl⟩
  have h1 := ho.cells (g := d) e 0 (.bool x.ad) rfl
  have h2 : w.cell? ⟨d, 0, none⟩ = some (S f) := hI.1 0
  have hadd : (⟨d, 0, none⟩ : Addr).add 0 = ⟨d, 0, none⟩ := rfl
  rw [hadd, h2] at h1
  cases h1
theorem at2g (x : Int) (a : 0 ≤ x) (b : x < 2) (y : Int) (hy : (#[Value.int .i64 (-1), .int .i64 9223372036854775807] : Array Value)[x.toNat]? = some (.int .i64 y)) : ∀ (h : x.toNat < [Value.int .i64 (-1), Value.int .i64 9223372036854775807].length), [Value.int .i64 (-1), Value.int .i64 9223372036854775807][x.toNat]'h = .int .i64 y := by
  intro h
  rcases (show x = 0 ∨ x = 1 by omega) with rfl | rfl
  · exact Option.some.inj hy
  · exact Option.some.inj hy
theorem at2 (x : Int) (a : 0 ≤ x) (b : x < 2) : ∃ y : Int, (#[Value.int .i64 (-1), .int .i64 9223372036854775807] : Array Value)[x.toNat]? = some (.int .i64 y) := by
  rcases (show x = 0 ∨ x = 1 by omega) with rfl | rfl
  · exact ⟨-1, rfl⟩
  · exact ⟨9223372036854775807, rfl⟩
theorem rd_new3 (w : World) (a b c : Value) (t : TypeId) (k : Nat) (hk : k = w.heap.size) : Rd (w.alloc (.cells #[a, b, c] t)) 3 (.slice (some ⟨k, 0, none⟩) 1 1) 1 [a, b, c] := by
  subst hk
  exact ⟨rfl, by decide, some ⟨w.heap.size, 0, none⟩, 1, rfl, Nat.le_refl _, fun _ => ⟨w.heap.size, 0, rfl, by simp, fun j u hu => by
    rw [Nat.zero_add, World.cell?_alloc_new]
    simpa using hu⟩⟩
/-- a call that draws a table. -/
def TblPost (g n : Nat) (zs : List Int) (p : Nat) (w : World) (e : Ending) (w' : World) : Prop :=
  ∃ f m ps u, e = .returned (tbAgg f m u) ∧ f.length ≤ 130 ∧ m.length ≤ 400 ∧ ps.length ≤ 130 ∧ OwnP w' w.heap.size u ps ∧ (∃ q, q ≤ p + 4000 ∧ Rdr w' g n zs q) ∧ w.grownBy w' (some g)

set_option maxRecDepth 100000 in
set_option maxHeartbeats 4000000 in
theorem l20Table_any (g n : Nat) (zs : List Int) (p : Nat) (m0 : Int) (w : World) (hr : Rdr w g n zs p) (hp : p < 700000000) :
    Calls Try.prog 64 #[.pointer (some ⟨g, 0, none⟩), .int .i64 m0] w (TblPost g n zs p w) := by
  have hg := hr.lt
  obtain ⟨i0, hi0, hz0, hz1, hz2⟩ := info_parts piece_info
  unfold TblPost
  have hW := World.grownBy.refl w (some g)
  go_enter Try.func64, Try.ntmps64
  go_wp2_with fail
  refine (l20Text_any _ _ _ _ _ _ (hr.up (by (repeat (first | exact Below.refl _ _ | assumption | refine Below.drew ?_ | refine up_drewN ?_ _ | refine up_alloc ?_ _ | refine up_set ?_ _ _ (by first | exact Nat.le_refl _ | (simp; done) | (simp; omega) | omega) | refine up_trans ?_ (by assumption))))) (by omega)).mono ?_
  rintro e w1 ⟨s, rfl, hs, ⟨q1, hq1, hr1⟩, hb⟩
  have hG : w.grownBy w1 (some g) := (by (repeat (first | exact World.grownBy.refl _ _ | assumption | refine gb_drew ?_ | refine gb_drewN ?_ _ | refine gb_alloc ?_ _ | refine gb_here ?_ rfl _ | refine gb_set ?_ _ _ (by first | exact Nat.le_refl _ | (simp; done) | (simp; omega) | omega) | refine gb_trans ?_ (by assumption) | refine gb_below ?_ (by assumption)))); have sw1 := hG.size; replace hW := gb_trans hW hG; clear hG
  have yc : ∀ o, w1.cell? ⟨w.heap.size, o, none⟩ = #[S [], S [], .slice none 0 0][o]? := gup_c hb (by simp <;> omega) (by omega) (fun o => by simp [go_sem]); have yf : ∀ o, w1.frozen? ⟨w.heap.size, o, none⟩ = false := gup_f hb (by simp <;> omega) (by omega) (fun o => by simp [go_sem]); have yz : w.heap.size < w1.heap.size := (by have := hb.size; (try simp at this); omega); have yy := yz
  have hw1 : w.heap.size < w1.heap.size := yz
  clear hb hr yy
  go_wp2_with fail
  refine (specTableOf_any s _ (by unfold maxLen; omega)).mono ?_
  rintro e w2 ⟨f, m, ps, u, rfl, hv, ho, hb⟩
  have hb2 : w1.grownBy w2 (some g) := by (repeat (first | exact World.grownBy.refl _ _ | assumption | refine gb_drew ?_ | refine gb_drewN ?_ _ | refine gb_alloc ?_ _ | refine gb_here ?_ rfl _ | refine gb_set ?_ _ _ (by first | exact Nat.le_refl _ | (simp; done) | (simp; omega) | omega) | refine gb_trans ?_ (by assumption) | refine gb_below ?_ (by assumption)))
  have hr2 := hr1.up hb
  have ho2 := own_base ho (show w.heap.size + 1 ≤ _ by omega)
  have hgy : ¬ w.heap.size = g := by omega
  have hG : w1.grownBy w2 (some g) := (by (repeat (first | exact World.grownBy.refl _ _ | assumption | refine gb_drew ?_ | refine gb_drewN ?_ _ | refine gb_alloc ?_ _ | refine gb_here ?_ rfl _ | refine gb_set ?_ _ _ (by first | exact Nat.le_refl _ | (simp; done) | (simp; omega) | omega) | refine gb_trans ?_ (by assumption) | refine gb_below ?_ (by assumption)))); replace yc := gup_c hG yz (by omega) yc; replace yf := gup_f hG yz (by omega) yf; replace yz := Nat.lt_of_lt_of_le yz hG.size; have sw2 := hG.size; replace hW := gb_trans hW hG; clear hG
  obtain ⟨A2, c2, rfl, -, -⟩ := (RdL.of_own (f := pcC) (bs := ps) ho).form
  have hnd := ho_gt ho (Nat.le_refl _)
  have hng : (Value.slice A2 ps.length c2).ownBlock ≠ some g := fun e => by have := (ho2.lt _ e).1; omega
  have TB := Lib.hid (show TBx (w.heap.size + 1) g w2.heap.size (w2.alloc (.cells #[S f, S m, .slice A2 ps.length c2] 48)) from ⟨⟨by simp; omega, by simp; omega, by simp⟩, f, m, ps, _, new_is w2 _ _, hv, ho2.alloc _, hng, hnd⟩)
  clear hb ho ho2 hv hnd hng hr1 hb2
  unfold tbAgg
  go_upto_region 2 with (fail)
  obtain ⟨w3, hw3⟩ : ∃ z, z = w2.alloc (.cells #[S f, S m, .slice A2 ps.length c2] 48) := ⟨_, rfl⟩
  rw [← hw3] at TB ⊢
  have hb3 : w2.grownBy w3 (some g) := by rw [hw3]; exact World.grownBy_alloc _ _ _
  have hr3 : Rdr w3 g n zs q1 := by rw [hw3]; exact hr2.alloc _
  have hG : w2.grownBy w3 (some g) := (by (repeat (first | exact World.grownBy.refl _ _ | assumption | refine gb_drew ?_ | refine gb_drewN ?_ _ | refine gb_alloc ?_ _ | refine gb_here ?_ rfl _ | refine gb_set ?_ _ _ (by first | exact Nat.le_refl _ | (simp; done) | (simp; omega) | omega) | refine gb_trans ?_ (by assumption) | refine gb_below ?_ (by assumption)))); replace yc := gup_c hG yz (by omega) yc; replace yf := gup_f hG yz (by omega) yf; replace yz := Nat.lt_of_lt_of_le yz hG.size; have sw3 := hG.size; replace hW := gb_trans hW hG; clear hG
  clear hw3 hr2 hb3
  obtain ⟨d, hd⟩ : ∃ d, d = w2.heap.size := ⟨_, rfl⟩
  rw [← hd] at TB ⊢
  have hwd : w.heap.size < d := by omega
  have hgd : g < d := by omega
  have HR3 := Lib.hid (show MR g n zs q1 60 0 w3 from ⟨q1, by omega, hr3⟩)
  have HW3 := Lib.hid hW
  have HY := Lib.hid (show Is w3 w.heap.size #[S [], S [], .slice none 0 0] from ⟨yc, yf⟩)
  clear hr3 hW yc yf hd sw1 sw2 sw3
  obtain ⟨w0s, hw0s⟩ : ∃ z, z = w.heap.size + 1 := ⟨_, rfl⟩
  rw [← hw0s] at TB
  go_wp2_with fail
  have hr3 := HR3.out
  obtain ⟨x3, hx3, hr3⟩ := hr3
  refine (pick_any _ _ _ _ _ _ hr3 (by omega)).mono ?_
  rintro e w4 ⟨kk, rfl, h1, h2, hr4, hb⟩
  have hk := h1 (by omega)
  have TB4 := Lib.hid (TB.out.kept hb hgd)
  have HY4 := Lib.hid (is_grown HY.out hb yz (fun e => by injection e; omega))
  have HW4 := Lib.hid (gb_trans HW3.out hb)
  have HR4 := Lib.hid hr4
  have hz4 := Nat.lt_of_lt_of_le yz hb.size
  obtain ⟨k0, rfl⟩ : ∃ k0 : Nat, kk = k0 := ⟨kk.toNat, by omega⟩
  clear h1 h2 hr4 hb hr3 HR3 TB HY HW3 yz
  go_wp2_with fail
  go_loopw [6] (fun i wr => ∃ (k qq : Nat), k ≤ 6 ∧ i = .int .i64 k ∧ qq ≤ q1 + 1 + 600 * (6 - k) ∧ Hid (Rdr wr g n zs qq) ∧ Hid (TBx w0s g d wr) ∧ Hid (Is wr w.heap.size #[S [], S [], .slice none 0 0]) ∧ Hid (w.grownBy wr (some g)) ∧ w.heap.size < wr.heap.size) (fun i _ => (intOf i).toNat)
  case atStart => exact ⟨k0, x3 + 1, by omega, rfl, by omega, HR4, TB4, HY4, HW4, hz4⟩
  case round =>
    obtain ⟨k, qq, hk6, rfl, hqq, HR, TB, HYr, HWr, hzr⟩ := hrel
    clear HR4 TB4 HY4 HW4 hz4 hk
    by_cases hlt : 0 < k
    · have i1 : (0 : Int) < (k : Int) := by omega
      go_upto_region 5 with (fail)
      have MM : MT w0s g d n zs qq 0 wr.drew := ⟨⟨qq, by omega, HR.out.up (Below.drew (Below.refl _ _))⟩, TB.out.below (Below.drew (Below.refl _ _))⟩
      --EVER{spec.l20Table;5;l20t5}
      refine wp_region_ever (R := RS [g, d]) (M := fun k w => MT w0s g d n zs qq k w) [tTb w0s g d, tEq _ (.pointer (some ⟨g, 0, none⟩)), tTb w0s g d, tOf _ (isS 120), tOf _ isCg, tTbT w0s g d, tTbT w0s g d, tTb w0s g d, tOf _ isBo, tyAny _] (by kernel_rfl) (RS.refl _) (fun _ _ _ => RS.trans) (by kernel_rfl) (MM) ?_ ?_
      · refine ⟨?_, ?_, ?_, ?_, ?_, ?_, ?_, ?_, ?_, ?_, trivial⟩
        · intro k' w' ρ hk' hR hM hF
          replace hk' : k' < 10 := hk'
          obtain ⟨f0, -⟩ := hF
          replace f0 : ρ (.tmp 5) = .pointer (some ⟨d, 0, none⟩) := f0
          refine good_of fun K hK => ?_
          have HM := Lib.hid hM; obtain ⟨-, -, f, m, ps, u, hI, hv, ho, hng, hnd⟩ := hM; have z0 := hI.1 0; have z1 := hI.1 1; have z2 := hI.1 2; simp only [List.getElem?_toArray, List.getElem?_cons_zero, List.getElem?_cons_succ] at z0 z1 z2; have Q := Lib.hid (And.intro hv (And.intro ho (And.intro hng hnd))); clear hI hv ho hng hnd; go_simp; exact hK _ _ (RS.refl _ _) HM.out.next ⟨f, m, ps, u, rfl, Q.out⟩
        · intro k' w' ρ hk' hR hM hF
          replace hk' : k' < 10 := hk'
          obtain ⟨f0, -⟩ := hF
          replace f0 : ρ (.tmp 0) = .pointer (some ⟨g, 0, none⟩) := f0
          exact ⟨RS.refl _ _, hM.next, f0⟩
        · intro k' w' ρ hk' hR hM hF
          replace hk' : k' < 10 := hk'
          obtain ⟨f0, -⟩ := hF
          replace f0 : ρ (.tmp 5) = .pointer (some ⟨d, 0, none⟩) := f0
          refine good_of fun K hK => ?_
          have HM := Lib.hid hM; obtain ⟨-, -, f, m, ps, u, hI, hv, ho, hng, hnd⟩ := hM; have z0 := hI.1 0; have z1 := hI.1 1; have z2 := hI.1 2; simp only [List.getElem?_toArray, List.getElem?_cons_zero, List.getElem?_cons_succ] at z0 z1 z2; have Q := Lib.hid (And.intro hv (And.intro ho (And.intro hng hnd))); clear hI hv ho hng hnd; go_simp; exact hK _ _ (RS.refl _ _) HM.out.next ⟨f, m, ps, u, rfl, Q.out⟩
        · intro k' w' ρ hk' hR hM hF
          replace hk' : k' < 10 := hk'
          obtain ⟨f0, f1, -⟩ := hF
          replace f0 : ρ (.func _) = .func (.func _) #[] #[] := f0
          refine good_of fun K hK => ?_
          have HM := Lib.hid hM; clear hM; obtain ⟨f, m, ps, u, f1, hv, ho, hng, hnd⟩ := f1; obtain ⟨-, hf, hm, -⟩ := tbB_out hv; replace f1 : ρ (.tmp 19) = .agg #[S f, S m, u] := f1; have Q := Lib.hid (RdL.of_own (f := pcC) (bs := ps) ho); clear hv ho hng hnd; go_simp; refine (specTableText_any f m _ ps _ Q.out (by omega) (by omega)).mono ?_; rintro e wc ⟨rfl, hb⟩; exact ⟨_, rfl, hK _ _ ((RS.refl _ _).below hb) (HM.out.below hb).next ⟨_, rfl, tbX_len f m ps⟩⟩
        · intro k' w' ρ hk' hR hM hF
          replace hk' : k' < 10 := hk'
          obtain ⟨f0, f1, f2, f3, -⟩ := hF
          replace f0 : ρ (.func _) = .func (.func _) #[] #[] := f0
          replace f1 : ρ (.tmp 18) = .pointer (some ⟨g, 0, none⟩) := f1
          replace f3 : ρ (.const (.int .i64 0)) = .int .i64 0 := f3
          refine good_of fun K hK => ?_
          obtain ⟨s, f2, hs⟩ := f2; replace f2 : ρ (.tmp 20) = S s := f2; have HM := Lib.hid hM; obtain ⟨⟨q, hq, hr⟩, -⟩ := hM; have HR := Lib.hid hr; clear hr; go_simp; refine (l20Change_any g n zs q 0 s _ HR.out (by omega) (by omega)).mono ?_; rintro e wc ⟨qa, qc, ct, rfl, hct, ⟨q', hq', hr'⟩, hb⟩; exact ⟨_, rfl, hK _ _ ((RS.refl _ _).grown hb (by intro x hx; injection hx with hx; exact .inl (by simp [hx]))) ⟨⟨q', by rw [Nat.mul_add]; omega, hr'⟩, HM.out.2.kept hb hgd⟩ ⟨qa, qc, ct, rfl, hct⟩⟩
        · intro k' w' ρ hk' hR hM hF
          replace hk' : k' < 10 := hk'
          obtain ⟨f0, f1, f2, -⟩ := hF
          replace f0 : ρ (.func _) = .func (.func _) #[] #[] := f0
          refine good_of fun K hK => ?_
          have HM := Lib.hid hM; clear hM; obtain ⟨f, m, ps, u, f1, hv, ho, hng, hnd⟩ := f1; replace f1 : ρ (.tmp 17) = .agg #[S f, S m, u] := f1; obtain ⟨qa, qc, ct, f2, hct⟩ := f2; replace f2 : ρ (.tmp 21) = .agg #[.int .i64 qa, .int .i64 qc, S ct] := f2; have Q := Lib.hid (And.intro hv (RdL.of_own (f := pcC) (bs := ps) ho)); clear hv ho hng hnd; go_simp; refine (specTc_good f m _ ps ⟨qa, qc, ct⟩ _ Q.out.2 Q.out.1 (by show ct.length ≤ _; omega)).mono ?_; rintro e wc ⟨f', m', ps', u', ok, rfl, hv', ho', hb⟩; exact ⟨_, rfl, hK _ _ ((RS.refl _ _).below hb) (HM.out.below hb).next ⟨f', m', ps', u', ok, rfl, hv', own_base ho' HM.out.base_le, HM.out.ne_new ho'⟩⟩
        · intro k' w' ρ hk' hR hM hF
          replace hk' : k' < 10 := hk'
          obtain ⟨f0, -⟩ := hF
          exact ⟨RS.refl _ _, hM.next, f0⟩
        · intro k' w' ρ hk' hR hM hF
          replace hk' : k' < 10 := hk'
          obtain ⟨f0, -⟩ := hF
          refine good_of fun K hK => ?_
          have HM := Lib.hid hM; clear hM; obtain ⟨f, m, ps, u, ok, f0, h1⟩ := f0; replace f0 : ρ (.tmp 16) = .tuple #[.agg #[S f, S m, u], .bool ok] := f0; have Q := Lib.hid h1; clear h1; go_simp; exact hK _ _ (RS.refl _ _) HM.out.next ⟨f, m, ps, u, rfl, Q.out⟩
        · intro k' w' ρ hk' hR hM hF
          replace hk' : k' < 10 := hk'
          obtain ⟨f0, -⟩ := hF
          refine good_of fun K hK => ?_
          have HM := Lib.hid hM; clear hM; obtain ⟨f, m, ps, u, ok, f0, h1⟩ := f0; replace f0 : ρ (.tmp 16) = .tuple #[.agg #[S f, S m, u], .bool ok] := f0; clear h1; go_simp; exact hK _ _ (RS.refl _ _) HM.out.next ⟨ok, rfl⟩
        · intro k' w' ρ hk' hR hM hF
          replace hk' : k' < 10 := hk'
          obtain ⟨f0, f1, -⟩ := hF
          replace f0 : ρ (.tmp 5) = .pointer (some ⟨d, 0, none⟩) := f0
          refine good_of fun K hK => ?_
          obtain ⟨f, m, ps, u, f1, hv, ho, hng, hnd⟩ := f1; obtain ⟨A1, c1, rfl, -, -⟩ := (RdL.of_own (f := pcC) (bs := ps) ho).form; replace f1 : ρ (.tmp 23) = .agg #[S f, S m, .slice A1 ps.length c1] := f1; have BB := Lib.hid (tput_mk hM hv ho hng hnd hgd); obtain ⟨-, -, f', m', ps', u', hI, -⟩ := hM; have z0 := hI.1 0; have z1 := hI.1 1; have z2 := hI.1 2; have qf := hI.2; simp only [List.getElem?_toArray, List.getElem?_cons_zero, List.getElem?_cons_succ] at z0 z1 z2; clear hI hv ho hng hnd; go_simp; exact hK _ _ BB.out.1 BB.out.2.next trivial
      · intro w' hR hM
        rintro _ ⟨_, _, _, _, rfl, -⟩
        rintro _ rfl
        rintro _ ⟨_, _, _, _, rfl, -⟩
        rintro _ ⟨v3, rfl, hi3⟩
        rintro _ ⟨_, _, _, rfl, -⟩
        rintro _ ⟨_, _, _, _, _, rfl, -⟩
        rintro _ ⟨_, _, _, _, _, rfl, -⟩
        rintro _ ⟨_, _, _, _, rfl, -⟩
        rintro _ ⟨_, rfl⟩
        rintro _ -
      --END
      --END
        dsimp only [EndAll, Act.put]
        obtain ⟨w6, rfl⟩ : ∃ z, z = w' := ⟨_, rfl⟩
        have hR0 := hR.of_drew
        obtain ⟨⟨q6, hq6, hr6⟩, TB6⟩ := hM
        have TB6 := Lib.hid TB6
        have HR6 := Lib.hid hr6
        have HY6 := Lib.hid (HYr.out.of_block (hR0.block _ hzr (by simp; omega)))
        have HW6 := Lib.hid (show w.grownBy w6 (some g) from ⟨hR0.os.trans HWr.out.os, hR0.tape.trans HWr.out.tape, hR0.output.trans HWr.out.output, Nat.le_trans HWr.out.size hR0.size, fun i hi hn => (hR0.block i (Nat.lt_of_lt_of_le hi HWr.out.size) (by simp only [List.mem_cons, List.not_mem_nil, or_false]; rintro (rfl | rfl); exact hn rfl; omega)).trans (HWr.out.block i hi hn)⟩)
        have hz6 := Nat.lt_of_lt_of_le hzr hR0.size
        clear hR hR0 hr6 HR TB HYr HWr hzr MM
        go_wp2_with fail
        go_roundw
        case rel => exact ⟨k - 1, q6, by omega, by first | (rw [show ((k - 1 : Nat) : Int) = (k : Int) - 1 by omega]; done) | (rw [show ((k - 1 : Nat) : Int) = (k : Int) - 1 by omega]; go_num), by have hq7 : q6 ≤ qq + 60 * 10 := hq6; omega, HR6, TB6, HY6, HW6, hz6⟩
        case measure => simp [intOf]; omega
    · obtain rfl : k = 0 := by omega
      obtain ⟨-, f, m, ps, u, hI, hv, ho, hng, hnd⟩ := TB.out
      obtain ⟨-, hf, hm, -, hall, hsum⟩ := tbB_out hv
      have hcount : (ps.length : Int) ≤ 120 := by have := len_sum (fun p hp' => (pcOk_in (hall p hp')).2.1); omega
      obtain ⟨A, c, rfl, -, -⟩ := (RdL.of_own (f := pcC) (bs := ps) ho).form
      have hdz : d < wr.heap.size := TB.out.1.2.2
      have hr := HR.out
      have HT := Lib.hid hI
      have HO := Lib.hid ho
      have hW := HWr.out
      have HN := Lib.hid (And.intro hng hnd)
      clear TB HR HWr hI ho hng hnd hall hsum hv
      obtain ⟨xc, xf⟩ := HT.out
      obtain ⟨yc, yf⟩ := HYr.out
      go_wp2_with fail
      refine (odd_any _ _ _ _ _ _ hr (by omega)).mono ?_
      rintro e w7 ⟨x7, rfl, ⟨q7, hq7, hr7⟩, hb⟩
      have HT7 := Lib.hid (is_grown HT.out hb hdz (fun e => by injection e; omega))
      have HY7 := Lib.hid (is_grown HYr.out hb hzr (fun e => by injection e; omega))
      have HO7 := Lib.hid (HO.out.kept hb (row_or HN.out.1))
      replace hdz := Nat.lt_of_lt_of_le hdz hb.size
      replace hzr := Nat.lt_of_lt_of_le hzr hb.size
      replace hW := gb_trans hW hb
      clear hb hr HT HO HYr xc xf yc yf
      obtain ⟨xc, xf⟩ := HT7.out
      obtain ⟨yc, yf⟩ := HY7.out
      have hgw : g < w7.heap.size := hr7.lt
      rcases x7 with _ | _
      · go_wp2_with fail
        refine bodyPost_ret (v := .agg #[S f, S m, .slice A ps.length c]) (by simp [results, Try.results64, go_sem, yc]) rfl ⟨f, m, ps, _, rfl, by omega, hm, by omega, ?_, ⟨q7, by omega, ?_⟩, by (repeat (first | exact World.grownBy.refl _ _ | assumption | refine gb_drew ?_ | refine gb_drewN ?_ _ | refine gb_alloc ?_ _ | refine gb_here ?_ rfl _ | refine gb_set ?_ _ _ (by first | exact Nat.le_refl _ | (simp; done) | (simp; omega) | omega) | refine gb_trans ?_ (by assumption) | refine gb_below ?_ (by assumption)))⟩
        · exact own_base (own_setCells (w := w7) (fun e => by have := (HO7.out.lt _ e).1; omega) [S f, S m, .slice A ps.length c] 0 w7 HO7.out) (by omega)
        · refine Rdr.below hr7 ?_; repeat (first | exact Below.refl _ _ | refine Below.drew ?_ | refine Below.setCell ?_ (by first | (simp; done) | (simp; omega) | omega) _ | refine Below.alloc ?_ (by first | (simp; done) | (simp; omega) | omega) _)
      · go_wp2_with fail
        refine (pick_any _ _ _ _ _ _ hr7 (by omega)).mono ?_
        rintro e w8 ⟨x8, rfl, h1, h2, hr8, hb⟩
        have hx8 := h1 (by omega)
        have HT8 := Lib.hid (is_grown HT7.out hb hdz (fun e => by injection e; omega))
        have HY8 := Lib.hid (is_grown HY7.out hb hzr (fun e => by injection e; omega))
        have HO8 := Lib.hid (HO7.out.kept hb (row_or HN.out.1))
        replace hdz := Nat.lt_of_lt_of_le hdz hb.size
        replace hzr := Nat.lt_of_lt_of_le hzr hb.size
        replace hgw := Nat.lt_of_lt_of_le hgw hb.size
        replace hW := gb_trans hW hb
        clear hb hr7 h1 h2 HT7 HO7 HY7 xc xf yc yf
        obtain ⟨xc, xf⟩ := HT8.out
        obtain ⟨yc, yf⟩ := HY8.out
        have hwd2 : ¬ w.heap.size = d := by omega
        have hdw2 : ¬ d = w.heap.size := by omega
        by_cases e0 : x8 = 0
        · subst e0
          have hcl : ¬ 9223372036854775807 < f.length + 1 := by omega
          go_wp2_with fail
          refine bodyPost_ret (v := .agg #[S (f ++ [9]), S m, .slice A ps.length c]) (by simp [results, Try.results64, go_sem, yc]) rfl ⟨f ++ [9], m, ps, _, rfl, by simp; omega, hm, by omega, ?_, ⟨q7 + 1, by omega, ?_⟩, by (repeat (first | exact World.grownBy.refl _ _ | assumption | refine gb_drew ?_ | refine gb_drewN ?_ _ | refine gb_alloc ?_ _ | refine gb_here ?_ rfl _ | refine gb_set ?_ _ _ (by first | exact Nat.le_refl _ | (simp; done) | (simp; omega) | omega) | refine gb_trans ?_ (by assumption) | refine gb_below ?_ (by assumption)))⟩
          · exact own_base (own_setCells (w := w8) (fun e => by have := (HO8.out.lt _ e).1; omega) [S (f ++ [9]), S m, .slice A ps.length c] 0 _ (own_setCells (w := w8) HN.out.2 [S (f ++ [9])] 0 w8 HO8.out)) (by omega)
          · refine Rdr.below hr8 ?_; repeat (first | exact Below.refl _ _ | refine Below.drew ?_ | refine Below.setCell ?_ (by first | (simp; done) | (simp; omega) | omega) _ | refine Below.alloc ?_ (by first | (simp; done) | (simp; omega) | omega) _)
        by_cases e1 : x8 = 1
        · subst e1
          go_wp2_with (at_builtin; go_loud (
                   refine wpList_append_own_at _ rfl _ _ 46 rfl w0s 79 i0 (.agg #[.bool false, .int .i64 0, .int .i64 0]) 3 24 Try.underlying46 hi0 hz0 hz1 hz2 rfl (by decide) _ _ _ rfl (HO8.out.alloc _) ⟨w8.heap.size, 0, none⟩ 1 1 [.bool false, .int .i64 0, .int .i64 0] rfl rfl (cells_new _ _ _) (by intro u hu; simp at hu; rcases hu with rfl | rfl | rfl <;> rfl) (by unfold maxLen; omega) (by omega) (by first | omega | (simp; done) | (simp; omega)) ?_
                   intro v9 w9 how hgr _ hob
                   obtain ⟨ns, hns, HO9⟩ : ∃ ns : List Pc, ns.length ≤ 130 ∧ Hid (OwnP w9 w0s v9 ns) := ⟨ps ++ [(⟨false, 0, 0⟩ : Pc)], by simp; omega, Lib.hid (own_pieces (by simpa [pcC] using how) (by simp))⟩
                   obtain ⟨A9, c9, rfl, -, -⟩ := (RdL.of_own (f := pcC) (bs := ns) HO9.out).form
                   have HT9 := Lib.hid (show Is w9 d #[S f, S m, .slice A ps.length c] from is_grown (is_alloc HT8.out hdz _) hgr (by first | omega | (simp; done) | (simp; omega)) (fun e => HN.out.2 e.symm))
                   have HY9 := Lib.hid (show Is w9 w.heap.size #[S [], S [], .slice none 0 0] from is_grown (is_alloc HY8.out hzr _) hgr (by first | omega | (simp; done) | (simp; omega)) (fun e => by have := (HO8.out.lt _ e.symm).1; omega))
                   have hr9 := (hr8.alloc _).grown hgr (fun k hk => by have := (HO8.out.lt k hk).1; omega)
                   replace hW := gb_own (gb_alloc hW _) hgr (fun k hk => by have := (HO8.out.lt k hk).1; omega)
                   have hnd9 : (Value.slice A9 ns.length c9).ownBlock ≠ some d := fun e => by
                     rcases hob with h9 | h9
                     · exact HN.out.2 (h9.symm.trans e)
                     · have := Option.some.inj (h9.symm.trans e)
                       simp at this
                       omega
                   clear xc xf yc yf how hgr hob
                   obtain ⟨xc, xf⟩ := HT9.out
                   obtain ⟨yc, yf⟩ := HY9.out))
          refine bodyPost_ret (v := .agg #[S f, S m, .slice A9 ns.length c9]) (by simp [results, Try.results64, go_sem, yc]) rfl ⟨f, m, ns, _, rfl, by omega, hm, hns, ?_, ⟨q7 + 1, by omega, ?_⟩, by (repeat (first | exact World.grownBy.refl _ _ | assumption | refine gb_drew ?_ | refine gb_drewN ?_ _ | refine gb_alloc ?_ _ | refine gb_here ?_ rfl _ | refine gb_set ?_ _ _ (by first | exact Nat.le_refl _ | (simp; done) | (simp; omega) | omega) | refine gb_trans ?_ (by assumption) | refine gb_below ?_ (by assumption)))⟩
          · exact own_base (own_setCells (w := w9) (fun e => by have := (HO9.out.lt _ e).1; omega) [S f, S m, .slice A9 ns.length c9] 0 _ (own_setn2 HO9.out ⟨d, 2, none⟩ _ hnd9)) (by omega)
          · refine Rdr.below hr9 ?_; repeat (first | exact Below.refl _ _ | refine Below.drew ?_ | refine Below.setCell ?_ (by first | (simp; done) | (simp; omega) | omega) _ | refine Below.alloc ?_ (by first | (simp; done) | (simp; omega) | omega) _)
        by_cases e2 : x8 = 2
        · subst e2
          go_wp2_with (at_builtin; go_loud (
                   refine wpList_append_own_at _ rfl _ _ 46 rfl w0s 79 i0 (.agg #[.bool false, .int .i64 0, .int .i64 0]) 3 24 Try.underlying46 hi0 hz0 hz1 hz2 rfl (by decide) _ _ _ rfl (HO8.out.alloc _) ⟨w8.heap.size, 0, none⟩ 1 1 [.bool true, .int .i64 m.length, .int .i64 1] rfl rfl (cells_new _ _ _) (by intro u hu; simp at hu; rcases hu with rfl | rfl | rfl <;> rfl) (by unfold maxLen; omega) (by omega) (by first | omega | (simp; done) | (simp; omega)) ?_
                   intro v9 w9 how hgr _ hob
                   obtain ⟨ns, hns, HO9⟩ : ∃ ns : List Pc, ns.length ≤ 130 ∧ Hid (OwnP w9 w0s v9 ns) := ⟨ps ++ [(⟨true, m.length, 1⟩ : Pc)], by simp; omega, Lib.hid (own_pieces (by simpa [pcC] using how) (by simp))⟩
                   obtain ⟨A9, c9, rfl, -, -⟩ := (RdL.of_own (f := pcC) (bs := ns) HO9.out).form
                   have HT9 := Lib.hid (show Is w9 d #[S f, S m, .slice A ps.length c] from is_grown (is_alloc HT8.out hdz _) hgr (by first | omega | (simp; done) | (simp; omega)) (fun e => HN.out.2 e.symm))
                   have HY9 := Lib.hid (show Is w9 w.heap.size #[S [], S [], .slice none 0 0] from is_grown (is_alloc HY8.out hzr _) hgr (by first | omega | (simp; done) | (simp; omega)) (fun e => by have := (HO8.out.lt _ e.symm).1; omega))
                   have hr9 := (hr8.alloc _).grown hgr (fun k hk => by have := (HO8.out.lt k hk).1; omega)
                   replace hW := gb_own (gb_alloc hW _) hgr (fun k hk => by have := (HO8.out.lt k hk).1; omega)
                   have hnd9 : (Value.slice A9 ns.length c9).ownBlock ≠ some d := fun e => by
                     rcases hob with h9 | h9
                     · exact HN.out.2 (h9.symm.trans e)
                     · have := Option.some.inj (h9.symm.trans e)
                       simp at this
                       omega
                   clear xc xf yc yf how hgr hob
                   obtain ⟨xc, xf⟩ := HT9.out
                   obtain ⟨yc, yf⟩ := HY9.out))
          refine bodyPost_ret (v := .agg #[S f, S m, .slice A9 ns.length c9]) (by simp [results, Try.results64, go_sem, yc]) rfl ⟨f, m, ns, _, rfl, by omega, hm, hns, ?_, ⟨q7 + 1, by omega, ?_⟩, by (repeat (first | exact World.grownBy.refl _ _ | assumption | refine gb_drew ?_ | refine gb_drewN ?_ _ | refine gb_alloc ?_ _ | refine gb_here ?_ rfl _ | refine gb_set ?_ _ _ (by first | exact Nat.le_refl _ | (simp; done) | (simp; omega) | omega) | refine gb_trans ?_ (by assumption) | refine gb_below ?_ (by assumption)))⟩
          · exact own_base (own_setCells (w := w9) (fun e => by have := (HO9.out.lt _ e).1; omega) [S f, S m, .slice A9 ns.length c9] 0 _ (own_setn2 HO9.out ⟨d, 2, none⟩ _ hnd9)) (by omega)
          · refine Rdr.below hr9 ?_; repeat (first | exact Below.refl _ _ | refine Below.drew ?_ | refine Below.setCell ?_ (by first | (simp; done) | (simp; omega) | omega) _ | refine Below.alloc ?_ (by first | (simp; done) | (simp; omega) | omega) _)
        have hx5 : x8 = 3 := by omega
        subst hx5
        clear e0 e1 e2
        go_upto_region 8 with (fail)
        have x2 := HT8.out.1 2
        go_region_law
          (first
            | (go_simp
               go_at_call 78
               refine (pick_any g n zs _ 2 _ (Rdr.up hr8 (by first | exact Below.drew (Below.refl _ _) | exact up_alloc (Below.drew (Below.refl _ _)) _)) (by omega)).mono ?_
               rintro e w9 ⟨x9, rfl, h1, h2, hr9, hb⟩
               have hx9 := h1 (by omega)
               have hBz := hb.size
               have HT9 := Lib.hid (is_grown (HT8.out.up hdz (by first | exact Below.drew (Below.refl _ _) | exact up_alloc (Below.drew (Below.refl _ _)) _)) hb (by first | exact hdz | (simp; omega)) (fun e => by injection e; omega))
               have HY9 := Lib.hid (is_grown (HY8.out.up hzr (by first | exact Below.drew (Below.refl _ _) | exact up_alloc (Below.drew (Below.refl _ _)) _)) hb (by first | exact hzr | (simp; omega)) (fun e => by injection e; omega))
               have HO9 := Lib.hid ((own_up HO8.out (by first | exact Below.drew (Below.refl _ _) | exact up_alloc (Below.drew (Below.refl _ _)) _)).kept hb (row_or HN.out.1))
               replace hW := gb_trans (gb_below hW (by first | exact Below.drew (Below.refl _ _) | exact up_alloc (Below.drew (Below.refl _ _)) _)) hb
               obtain ⟨y, hy2⟩ := at2 x9 hx9.1 hx9.2
               have hz9 : d < w9.heap.size := Nat.lt_of_lt_of_le hdz (by first | exact hBz | (simp at hBz; omega))
               have hzy9 : w.heap.size < w9.heap.size := Nat.lt_of_lt_of_le hzr (by first | exact hBz | (simp at hBz; omega))
               have ly := Lib.hid hy2
               (first
                 | (replace hy2 : w9.cell? ⟨w8.heap.size, x9.toNat, none⟩ = some (.int .i64 y) := ((is_grown (new_is w8.drew #[.int .i64 (-1), .int .i64 9223372036854775807] 3) hb (by simp) (fun e => by injection e with e; have e2 : w8.heap.size = g := e; omega)).1 x9.toNat).trans ly.out)
                 | (have ly3 : ∀ (h : x9.toNat < [Value.int .i64 (-1), Value.int .i64 9223372036854775807].length), [Value.int .i64 (-1), Value.int .i64 9223372036854775807][x9.toNat]'h = .int .i64 y := at2g x9 hx9.1 hx9.2 y ly.out
                    clear hy2))
               clear h1 h2 hb hr8 HT8 HY8 HO8 xc xf yc yf hBz
               obtain ⟨xc, xf⟩ := HT9.out)
            | (refine step_append_any _ (by rfl) _ _ 46 (by rfl) w0s 79 i0 _ 3 24 Try.underlying46 hi0 hz0 hz1 hz2 rfl (by decide) (.slice A ps.length c) ps.length _ (by rfl) (by first | exact HO9.out.alloc _ | exact (HO9.out.alloc _).alloc _) _ 1 [.bool false, .int .i64 y, .int .i64 9223372036854775807] (by rfl) (by exact rd_new3 _ _ _ _ _ _ (by first | rfl | simp)) (by intro u hu; simp at hu; rcases hu with rfl | rfl | rfl <;> rfl) (by unfold maxLen; omega) (by omega) (by first | omega | (simp; omega)) ?_
               intro vA wA how hgr
               obtain ⟨ns, hns, hnn, HOA⟩ : ∃ ns : List Pc, ns.length ≤ 130 ∧ ns ≠ [] ∧ Hid (OwnP wA w0s vA ns) := ⟨ps ++ [(⟨false, y, 9223372036854775807⟩ : Pc)], by simp; omega, by simp, Lib.hid (own_pieces (by simpa [pcC] using how) (by simp))⟩
               obtain ⟨AA, cA, rfl, -, -⟩ := (RdL.of_own (f := pcC) (bs := ns) HOA.out).form
               have HTA := Lib.hid (show Is wA d #[S f, S m, .slice A ps.length c] from is_grown (HT9.out.up hz9 (by first | exact up_alloc (Below.refl _ _) _ | exact up_alloc (up_alloc (Below.refl _ _) _) _)) hgr (by first | omega | (simp; done) | (simp; omega)) (fun e => HN.out.2 e.symm))
               have HYA := Lib.hid (show Is wA w.heap.size #[S [], S [], .slice none 0 0] from is_grown (HY9.out.up hzy9 (by first | exact up_alloc (Below.refl _ _) _ | exact up_alloc (up_alloc (Below.refl _ _) _) _)) hgr (by first | omega | (simp; done) | (simp; omega)) (fun e => by have := (HO9.out.lt _ e.symm).1; omega))
               have hrA := Rdr.grown (hr9.up (by first | exact up_alloc (Below.refl _ _) _ | exact up_alloc (up_alloc (Below.refl _ _) _) _)) hgr (fun k hk => by have := (HO9.out.lt k hk).1; omega)
               replace hW := gb_own (gb_below hW (by first | exact up_alloc (Below.refl _ _) _ | exact up_alloc (up_alloc (Below.refl _ _) _) _)) hgr (fun k hk => by have := (HO9.out.lt k hk).1; omega)
               have hndA := Lib.hid (own_ne_is HOA.out hnn HTA.out)
               obtain ⟨xc, xf⟩ := HTA.out
               obtain ⟨yc, yf⟩ := HYA.out
               clear how hgr))
        all_goals
          go_wp2_with fail
          refine bodyPost_ret (v := .agg #[S f, S m, .slice AA ns.length cA]) (by simp [results, Try.results64, go_sem, yc]) rfl ⟨f, m, ns, _, rfl, by omega, hm, hns, ?_, ⟨q7 + 1 + 1, by omega, ?_⟩, by (repeat (first | exact World.grownBy.refl _ _ | assumption | refine gb_drew ?_ | refine gb_drewN ?_ _ | refine gb_alloc ?_ _ | refine gb_here ?_ rfl _ | refine gb_set ?_ _ _ (by first | exact Nat.le_refl _ | (simp; done) | (simp; omega) | omega) | refine gb_trans ?_ (by assumption) | refine gb_below ?_ (by assumption)))⟩
          · exact own_base (own_setCells (w := wA) (fun e => by have := (HOA.out.lt _ e).1; omega) [S f, S m, .slice AA ns.length cA] 0 _ (own_setn2 HOA.out ⟨d, 2, none⟩ _ hndA.out)) (by omega)
          · refine Rdr.below hrA ?_; repeat (first | exact Below.refl _ _ | refine Below.drew ?_ | refine Below.setCell ?_ (by first | (simp; done) | (simp; omega) | omega) _ | refine Below.alloc ?_ (by first | (simp; done) | (simp; omega) | omega) _)

end Go.Proofs.Ytlejfmngpbcdhaa
