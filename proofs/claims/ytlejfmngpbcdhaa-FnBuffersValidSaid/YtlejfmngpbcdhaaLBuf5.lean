/- What is proved here: the walk of the law FnBuffersValid. No condition. -/
import Derived.Test.YtlejfmngpbcdhaaRegA
import Derived.Test.YtlejfmngpbcdhaaDrawB2
import Derived.Test.YtlejfmngpbcdhaaPBuf
import Derived.Test.YtlejfmngpbcdhaaBuf2
import Derived.Test.YtlejfmngpbcdhaaAlive
namespace Go.Proofs.Ytlejfmngpbcdhaa
open Go.RowKit
set_option linter.unusedVariables false

theorem bvB_drop {bs : List Bf} (h : bvB bs = true) (k : Nat) : bvB (bs.drop k) = true := bvB_iff.2 ((bvB_iff.1 h).sub (List.drop_sublist k bs))
theorem bvB_twice {bs : List Bf} {x : Bf} (hx : x ∈ bs) : bvB (bs ++ [x]) = false := by
  rw [Bool.eq_false_iff]
  intro h
  have hv := (bvB_iff.1 h).2.1
  rw [List.map_append, List.nodup_append] at hv
  exact hv.2.2 x.name (List.mem_map_of_mem hx) x.name (by simp) rfl

set_option maxRecDepth 100000 in
set_option maxHeartbeats 4000000 in
theorem buffersValid_walk (v : Value) (n : Nat) (zs : List Int) (w : World) (h : Bytes w w.heap.size v n zs) :
    Calls Try.prog 4 #[v] w fun e w' => e = .returned (.bool true) ∧ Below w.heap.size w w' := by
  have h' := h
  obtain ⟨h1, h2, A0, c0, rfl, h3, h4, h5⟩ := h
  clear h5 h2 h1 h4
  by_cases hn : n ≤ 1048576
  case neg =>
    go_enter Try.func4, Try.ntmps4
    go_wp2_with fail
    go_ret
    exact ⟨rfl, Below.refl _ _⟩
  have hW := Below.refl w.heap.size w
  go_enter Try.func4, Try.ntmps4
  go_wp2_with fail
  refine (drawBuffersValid_any _ n zs _ (h'.to (by (repeat (first | exact Below.refl _ _ | assumption | refine Below.drew ?_ | refine up_drewN ?_ _ | refine up_alloc ?_ _ | refine up_set ?_ _ _ (by first | exact Nat.le_refl _ | (simp; done) | (simp; omega) | omega) | refine up_trans ?_ (by assumption)))))).mono ?_
  rintro e w1 ⟨lv, bs, rfl, H1, hs, hb⟩
  have hB : Below w.heap.size w w1 := (by (repeat (first | exact Below.refl _ _ | assumption | refine Below.drew ?_ | refine up_drewN ?_ _ | refine up_alloc ?_ _ | refine up_set ?_ _ _ (by first | exact Nat.le_refl _ | (simp; done) | (simp; omega) | omega) | refine up_trans ?_ (by assumption)))); have sw1 := hB.size; replace hW := up_trans hW hB; clear hB
  obtain ⟨A, c, rfl, hm, hlc⟩ := H1.1.form
  have H := Lib.hid H1
  have hb8 := hs.1
  clear hb h' H1 hm
  have IV := Lib.hid (fun v w h => implBuffersValid_any v bs w h)
  have SV := Lib.hid (fun v w h => specBuffersValid_any v bs w h)
  rcases hv : bvB bs with _ | _
  · rw [hv] at IV SV
    clear hv
    go_wp2_with fail
    refine (IV.out _ _ H.out).mono ?_
    rintro e w2 ⟨rfl, hb⟩
    replace H := Lib.hid (H.out.up hb)
    have hB : Below w1.heap.size w1 w2 := (by (repeat (first | exact Below.refl _ _ | assumption | refine Below.drew ?_ | refine up_drewN ?_ _ | refine up_alloc ?_ _ | refine up_set ?_ _ _ (by first | exact Nat.le_refl _ | (simp; done) | (simp; omega) | omega) | refine up_trans ?_ (by assumption)))); have sw2 := hB.size; replace hW := up_trans hW hB; clear hB
    clear hb
    go_wp2_with fail
    refine (SV.out _ _ H.out).mono ?_
    rintro e w3 ⟨rfl, hb⟩
    have hB : Below w2.heap.size w2 w3 := (by (repeat (first | exact Below.refl _ _ | assumption | refine Below.drew ?_ | refine up_drewN ?_ _ | refine up_alloc ?_ _ | refine up_set ?_ _ _ (by first | exact Nat.le_refl _ | (simp; done) | (simp; omega) | omega) | refine up_trans ?_ (by assumption)))); have sw3 := hB.size; replace hW := up_trans hW hB; clear hB
    clear hb H
    go_wp2_with fail
    refine (alive_any _).mono ?_
    rintro e w4 ⟨rfl, rfl⟩
    go_wp2_with fail
    go_ret
    exact ⟨rfl, hW⟩
  · rw [hv] at IV SV
    go_wp2_with fail
    refine (IV.out _ _ H.out).mono ?_
    rintro e w2 ⟨rfl, hb⟩
    replace H := Lib.hid (H.out.up hb)
    have hB : Below w1.heap.size w1 w2 := (by (repeat (first | exact Below.refl _ _ | assumption | refine Below.drew ?_ | refine up_drewN ?_ _ | refine up_alloc ?_ _ | refine up_set ?_ _ _ (by first | exact Nat.le_refl _ | (simp; done) | (simp; omega) | omega) | refine up_trans ?_ (by assumption)))); have sw2 := hB.size; replace hW := up_trans hW hB; clear hB
    clear hb
    go_wp2_with fail
    refine (SV.out _ _ H.out).mono ?_
    rintro e w3 ⟨rfl, hb⟩
    replace H := Lib.hid (H.out.up hb)
    have hB : Below w2.heap.size w2 w3 := (by (repeat (first | exact Below.refl _ _ | assumption | refine Below.drew ?_ | refine up_drewN ?_ _ | refine up_alloc ?_ _ | refine up_set ?_ _ _ (by first | exact Nat.le_refl _ | (simp; done) | (simp; omega) | omega) | refine up_trans ?_ (by assumption)))); have sw3 := hB.size; replace hW := up_trans hW hB; clear hB
    clear hb IV SV
    by_cases h0 : bs.length = 0
    · have i0 : ((bs.length : Int) == 0) = true := by rw [h0]; rfl
      clear h0
      go_wp2_with fail
      refine (alive_any _).mono ?_
      rintro e w4 ⟨rfl, rfl⟩
      go_wp2_with fail
      go_ret
      exact ⟨rfl, hW⟩
    · have hn1 : 1 ≤ bs.length := by omega
      have i0 : ((bs.length : Int) == 0) = false := beq_eq_false_iff_ne.2 (by omega)
      obtain ⟨x0, hx0⟩ : ∃ x, x = bs[0]'(by omega) := ⟨_, rfl⟩
      have hxm : x0 ∈ bs := by rw [hx0]; exact List.getElem_mem _
      obtain ⟨b, o, rfl, hbz, e0, e1, e2⟩ := H.out.cells (k := 0) (by omega)
      rw [← hx0] at e0 e1 e2
      simp only [Nat.zero_mul, Nat.add_zero] at e0 e1 e2
      obtain ⟨k, hk⟩ : ∃ k, k = bs.length / 2 := ⟨_, rfl⟩
      have hk1 : k < bs.length := by omega
      have hq : IntKind.i64.wrap ((bs.length : Int) / 2) = (k : Int) := by rw [IntWalk.i64_in _ (by omega)]; omega
      have hdv := bvB_drop hv k
      have hdup := bvB_twice hxm
      have hfl : (bs.flatMap bfC).length = bs.length * 3 := flat_len bfC 3 bfC_len bs
      have hll : ∀ y ∈ bs ++ [x0], y.name.length ≤ maxLen ∧ y.body.length ≤ maxLen ∧ y.saved.length ≤ maxLen := fun y hy => by
        rw [List.mem_append, List.mem_singleton] at hy
        rcases hy with hy | rfl
        · exact H.out.2 y hy
        · exact H.out.2 _ hxm
      obtain ⟨W0, rfl⟩ : ∃ z, z = w3 := ⟨_, rfl⟩
      have HW := Lib.hid hW
      clear hx0 hk hv hxm h0 hW hs
      go_upto_region 9 with (fail)
      --EVER{laws.FnBuffersValid;9;lbvA}
      refine wp_region_ever (R := RA W0.heap.size bs.length (bfC x0)) (M := fun _ _ => True) [raEq _ _ _ (.slice (some ⟨b, o, none⟩) bs.length c), raEq _ _ _ (.slice (some ⟨b, o, none⟩) bs.length c), raEq _ _ _ (.int .i64 bs.length), raEq _ _ _ (.int .i64 (k : Int)), raEq _ _ _ (.slice (some ⟨b, o + k * 3, none⟩) (bs.length - k) (c - k)), raEq _ _ _ (.bool true), raEq _ _ _ (.bool true), raEmp _ _ _, raEq _ _ _ (.slice (some ⟨b, o, none⟩) bs.length c), raOwn _ _ _ bs.length (Nat.le_refl _) (bs.flatMap bfC), raEq _ _ _ (.slice (some ⟨b, o, none⟩) bs.length c), raEq _ _ _ (.pointer (some ⟨b, o, none⟩)), raEq _ _ _ (.agg #[S x0.name, S x0.body, S x0.saved]), raOwn _ _ _ 1 hn1 (bfC x0), raMore _ _ _ (bs.flatMap bfC) hfl rfl, raEq _ _ _ (.bool false), raEq _ _ _ (.bool true), raEq _ _ _ (.bool true), raEq _ _ _ (.bool true)] (by kernel_rfl) (RA.refl _ _ _) (fun _ _ _ => RA.trans) (by kernel_rfl) (trivial) ?_ ?_
      · refine ⟨?_, ?_, ?_, ?_, ?_, ?_, ?_, ?_, ?_, ?_, ?_, ?_, ?_, ?_, ?_, ?_, ?_, ?_, ?_, trivial⟩
        · intro k' w' ρ hk' hR hM hF
          replace hk' : k' < 19 := hk'
          obtain ⟨f0, -⟩ := hF
          replace f0 : ρ (.tmp 3) = .slice (some ⟨b, o, none⟩) bs.length c := f0
          exact ⟨RA.refl _ _ _ _, trivial, f0⟩
        · intro k' w' ρ hk' hR hM hF
          replace hk' : k' < 19 := hk'
          obtain ⟨f0, -⟩ := hF
          replace f0 : ρ (.tmp 3) = .slice (some ⟨b, o, none⟩) bs.length c := f0
          exact ⟨RA.refl _ _ _ _, trivial, f0⟩
        · intro k' w' ρ hk' hR hM hF
          replace hk' : k' < 19 := hk'
          obtain ⟨f0, -⟩ := hF
          replace f0 : ρ (.tmp 25) = .slice (some ⟨b, o, none⟩) bs.length c := f0
          refine good_of fun K hK => ?_
          go_simp
          exact hK _ _ (RA.refl _ _ _ _) (trivial) (rfl)
        · intro k' w' ρ hk' hR hM hF
          replace hk' : k' < 19 := hk'
          obtain ⟨f0, f1, -⟩ := hF
          replace f0 : ρ (.tmp 26) = .int .i64 bs.length := f0
          replace f1 : ρ (.const (.int .i64 2)) = .int .i64 2 := f1
          refine good_of fun K hK => ?_
          go_simp; exact hK _ _ (RA.refl _ _ _ _) trivial rfl
        · intro k' w' ρ hk' hR hM hF
          replace hk' : k' < 19 := hk'
          obtain ⟨f0, f1, -⟩ := hF
          replace f0 : ρ (.tmp 24) = .slice (some ⟨b, o, none⟩) bs.length c := f0
          replace f1 : ρ (.tmp 27) = .int .i64 (k : Int) := f1
          refine good_of fun K hK => ?_
          have k1 : k ≤ bs.length := (by omega); have k2 : ¬ c = k := (by omega); go_simp; exact hK _ _ (RA.refl _ _ _ _) trivial rfl
        · intro k' w' ρ hk' hR hM hF
          replace hk' : k' < 19 := hk'
          obtain ⟨f0, f1, -⟩ := hF
          replace f0 : ρ (.func _) = .func (.func _) #[] #[] := f0
          replace f1 : ρ (.tmp 28) = .slice (some ⟨b, o + k * 3, none⟩) (bs.length - k) (c - k) := f1
          refine good_of fun K hK => ?_
          have DR := Lib.hid (rdB_drop (k := k) (H.out.up hR.of_drew.to_below) rfl hk1); go_simp; refine (implBuffersValid_any _ (bs.drop k) _ DR.out).mono ?_; rw [hdv]; rintro e wc ⟨rfl, hb⟩; exact ⟨_, rfl, hK _ _ (RA.of_below hb) trivial rfl⟩
        · intro k' w' ρ hk' hR hM hF
          replace hk' : k' < 19 := hk'
          obtain ⟨f0, -⟩ := hF
          replace f0 : ρ (.tmp 29) = .bool true := f0
          exact ⟨RA.refl _ _ _ _, trivial, f0⟩
        · intro k' w' ρ hk' hR hM hF
          replace hk' : k' < 19 := hk'
          refine fun u hu => ⟨fun _ => ?_, fun hn => absurd hu hn⟩
          refine good_of fun K hK => ?_
          go_simp; exact hK _ _ (RA.of_below (up_alloc (Below.refl _ _) _)) trivial ⟨_, rfl⟩
        · intro k' w' ρ hk' hR hM hF
          replace hk' : k' < 19 := hk'
          obtain ⟨f0, -⟩ := hF
          replace f0 : ρ (.tmp 3) = .slice (some ⟨b, o, none⟩) bs.length c := f0
          refine fun u hu => ⟨fun _ => ?_, fun hn => absurd hu hn⟩
          exact ⟨RA.refl _ _ _ _, trivial, f0⟩
        · intro k' w' ρ hk' hR hM hF
          replace hk' : k' < 19 := hk'
          obtain ⟨f0, f1, -⟩ := hF
          replace f1 : ρ (.tmp 32) = .slice (some ⟨b, o, none⟩) bs.length c := f1
          refine fun u hu => ⟨fun _ => ?_, fun hn => absurd hu hn⟩
          refine good_of fun K hK => ?_
          obtain ⟨blk, f0⟩ := f0; replace f0 : ρ (.tmp 31) = .slice (some ⟨blk, 0, none⟩) 0 0 := f0; obtain ⟨v1, w1, hrun, hO, hA⟩ := app_first (B := W0.heap.size) (n := bs.length) (tgt := bfC x0) (w := w') hR.size 32 blk (by omega) _ _ (H.out.up hR.of_drew.to_below).1 (bf_oneA bs) (by omega); unfold execOp; simp only [resolve, invoke, builtin, Sem.run_bind, Sem.run_pure, Result.andThen_ok, List.map_toArray, List.map_cons, List.map_nil, f0, f1, hrun]; exact hK _ _ hA trivial hO
        · intro k' w' ρ hk' hR hM hF
          replace hk' : k' < 19 := hk'
          obtain ⟨f0, -⟩ := hF
          replace f0 : ρ (.tmp 3) = .slice (some ⟨b, o, none⟩) bs.length c := f0
          refine fun u hu => ⟨fun _ => ?_, fun hn => absurd hu hn⟩
          exact ⟨RA.refl _ _ _ _, trivial, f0⟩
        · intro k' w' ρ hk' hR hM hF
          replace hk' : k' < 19 := hk'
          obtain ⟨f0, f1, -⟩ := hF
          replace f0 : ρ (.tmp 34) = .slice (some ⟨b, o, none⟩) bs.length c := f0
          replace f1 : ρ (.const (.int .i64 0)) = .int .i64 0 := f1
          refine fun u hu => ⟨fun _ => ?_, fun hn => absurd hu hn⟩
          refine good_of fun K hK => ?_
          have k1 : 0 < bs.length := (by omega); go_simp; exact hK _ _ (RA.refl _ _ _ _) trivial rfl
        · intro k' w' ρ hk' hR hM hF
          replace hk' : k' < 19 := hk'
          obtain ⟨f0, -⟩ := hF
          replace f0 : ρ (.tmp 35) = .pointer (some ⟨b, o, none⟩) := f0
          refine fun u hu => ⟨fun _ => ?_, fun hn => absurd hu hn⟩
          refine good_of fun K hK => ?_
          have hB := hR.of_drew.to_below; have z0 := (hB.cell (p := ⟨b, o, none⟩) hbz).trans e0; have z1 := (hB.cell (p := ⟨b, o + 1, none⟩) hbz).trans e1; have z2 := (hB.cell (p := ⟨b, o + 2, none⟩) hbz).trans e2; clear hB; go_simp; exact hK _ _ (RA.refl _ _ _ _) trivial rfl
        · intro k' w' ρ hk' hR hM hF
          replace hk' : k' < 19 := hk'
          obtain ⟨f0, -⟩ := hF
          replace f0 : ρ (.tmp 36) = .agg #[S x0.name, S x0.body, S x0.saved] := f0
          refine fun u hu => ⟨fun _ => ?_, fun hn => absurd hu hn⟩
          refine good_of fun K hK => ?_
          have hw := World.ownsRow_lit (base := W0.heap.size) (e := 37) (size := 3) w' (bfC x0).toArray 1 hR.size (by decide) rfl; go_simp; exact hK _ _ (RA.of_below (up_alloc (Below.refl _ _) _)) trivial hw
        · intro k' w' ρ hk' hR hM hF
          replace hk' : k' < 19 := hk'
          obtain ⟨f0, f1, -⟩ := hF
          refine fun u hu => ⟨fun _ => ?_, fun hn => absurd hu hn⟩
          refine good_of fun K hK => ?_
          obtain ⟨v1, w1, hrun, hO, hA⟩ := app_second (B := W0.heap.size) (n := bs.length) (tgt := bfC x0) (w := w') hR.size 32 (by omega) _ _ _ f0 f1 (fun x hx => bf_oneA [x0] x (by simpa using hx)) rfl (by omega); unfold execOp; simp only [resolve, invoke, builtin, Sem.run_bind, Sem.run_pure, Result.andThen_ok, List.map_toArray, List.map_cons, List.map_nil, hrun]; exact hK _ _ hA trivial hO
        · intro k' w' ρ hk' hR hM hF
          replace hk' : k' < 19 := hk'
          obtain ⟨f0, f1, -⟩ := hF
          replace f0 : ρ (.func _) = .func (.func _) #[] #[] := f0
          refine fun u hu => ⟨fun _ => ?_, fun hn => absurd hu hn⟩
          refine good_of fun K hK => ?_
          obtain ⟨u, hu, q1⟩ : ∃ u, ρ (.tmp 38) = u ∧ Own w' W0.heap.size 37 3 u (bs.length + 1) (bs.flatMap bfC ++ bfC x0) := ⟨_, rfl, f1⟩; clear f1; have Q := Lib.hid (rdB_snoc q1 rfl hll); clear q1; go_simp; refine (implBuffersValid_any _ (bs ++ [x0]) _ Q.out).mono ?_; rw [hdup]; rintro e wc ⟨rfl, hb⟩; exact ⟨_, rfl, hK _ _ (RA.of_below hb) trivial rfl⟩
        · intro k' w' ρ hk' hR hM hF
          replace hk' : k' < 19 := hk'
          obtain ⟨f0, -⟩ := hF
          replace f0 : ρ (.tmp 39) = .bool false := f0
          refine fun u hu => ⟨fun _ => ?_, fun hn => absurd hu hn⟩
          refine good_of fun K hK => ?_
          go_simp
          exact hK _ _ (RA.refl _ _ _ _) (trivial) (rfl)
        · intro k' w' ρ hk' hR hM hF
          replace hk' : k' < 19 := hk'
          obtain ⟨f0, f1, f2, -⟩ := hF
          replace f0 : ρ (.tmp 30) = .bool true := f0
          replace f1 : ρ (.tmp 40) = .bool true := f1
          replace f2 : ρ (.const (.bool false)) = .bool false := f2
          refine good_of fun K hK => ?_
          go_simp
          exact hK _ _ (RA.refl _ _ _ _) (trivial) (rfl)
        · intro k' w' ρ hk' hR hM hF
          replace hk' : k' < 19 := hk'
          obtain ⟨f0, -⟩ := hF
          replace f0 : ρ (.tmp 41) = .bool true := f0
          exact ⟨RA.refl _ _ _ _, trivial, f0⟩
      · intro w' hR hM
        rintro _ rfl
        rintro _ rfl
        rintro _ rfl
        rintro _ rfl
        rintro _ rfl
        rintro _ rfl
        rintro _ rfl
        rintro _ ⟨_, rfl⟩
        rintro _ rfl
        rintro _ -
        rintro _ rfl
        rintro _ rfl
        rintro _ rfl
        rintro _ -
        rintro _ -
        rintro _ rfl
        rintro _ rfl
        rintro _ rfl
        rintro _ rfl
      --END
      --END
        dsimp only [EndAll, Act.put]
        simp only [List.setIfInBounds_toArray, List.set_cons_zero, List.set_cons_succ]
        obtain ⟨w8, rfl⟩ : ∃ z, z = w' := ⟨_, rfl⟩
        have hQ := up_trans HW.out hR.of_drew.to_below
        clear hR hM HW
        go_wp2_with fail
        go_ret
        exact ⟨rfl, hQ⟩

end Go.Proofs.Ytlejfmngpbcdhaa
