/- What is proved here: the contracts of l20Record and DrawReadRecord. No condition but that the code is a slice of bytes. -/
import Derived.Test.YtdngdlcibaiekaaGreatDoorDrawRc
import Derived.Test.YtdngdlcibaiekaaGreatDoorRc8
import Derived.IntWalk
namespace Go.Proofs.YtdngdlcibaiekaaGreatDoor
open Go.RowKit
set_option linter.unusedVariables false

theorem recT_len2 (a b : Int) (p : List UInt8) : (recT a b p).length ≤ 252 := by
  unfold recT
  split
  · rename_i hk
    unfold recOk at hk
    simp only [Bool.and_eq_true, inB_iff] at hk
    exact (recX_len (by omega) (by omega) (tv_len hk.2)).2
  · simp
def RecPost (g n : Nat) (zs : List Int) (p : Nat) (w : World) (e : Ending) (w' : World) : Prop :=
  ∃ s : List UInt8, e = .returned (S s) ∧ s.length ≤ 505 ∧ (∃ q, q ≤ p + 1100 ∧ Rdr w' g n zs q) ∧ w.grownBy w' (some g)

set_option maxRecDepth 100000 in
set_option maxHeartbeats 4000000 in
theorem l20Record_any (g n : Nat) (zs : List Int) (p : Nat) (m : Int) (s : List UInt8) (w : World) (hr : Rdr w g n zs p) (hp : p < 700000000) (hs : s.length ≤ 130) :
    Calls Tryz.prog 55 #[.pointer (some ⟨g, 0, none⟩), S s, .int .i64 m] w (RecPost g n zs p w) := by
  have hg := hr.lt
  have hW := World.grownBy.refl w (some g)
  go_enter Tryz.func55, Tryz.ntmps55
  go_wp2_with fail
  refine (l20Change_any g n zs p 0 s _ hr (by omega) hs).mono ?_
  rintro e w1 ⟨qa, qc, qt, rfl, hqt, ⟨q1, hq1, hr1⟩, hb⟩
  have hs1 := hb.size
  replace hW := gb_trans hW hb
  have R1 := Lib.hid (fun w => specRecordText_any ⟨qa, qc, qt⟩ w (by show qt.length ≤ _; omega))
  have hxs := recT_len2 qa qc qt
  unfold chAgg at R1
  simp only at R1
  generalize recT qa qc qt = xs at *
  clear hb hr
  go_wp2_with fail
  refine (R1.out _).mono ?_
  rintro e w2 ⟨rfl, hb⟩
  have hr2 := hr1.up hb
  have hs2 := hb.size
  replace hW := gb_below hW hb
  clear hb hr1 R1
  go_wp2_with fail
  refine (odd_any _ _ _ _ _ _ hr2 (by omega)).mono ?_
  rintro e w3 ⟨x3, rfl, ⟨q3, hq3, hr3⟩, hb⟩
  have hs3 := hb.size
  replace hW := gb_trans hW hb
  clear hb hr2
  rcases x3 with _ | _
  · go_wp2_with fail
    go_ret
    exact ⟨xs, rfl, by omega, ⟨q3, by omega, hr3⟩, hW⟩
  · have em : min (256 : Int) ((xs.length : Int) + 1) = (xs.length : Int) + 1 := by omega
    go_wp2_with fail
    refine (pick_any _ _ _ _ _ _ hr3 (by omega)).mono ?_
    rintro e w4 ⟨x4, rfl, h1, h2, hr4, hb⟩
    have hs4 := hb.size
    replace hW := gb_trans hW hb
    have hx4 := h1 (by omega)
    obtain ⟨a, rfl⟩ : ∃ a : Nat, x4 = a := ⟨x4.toNat, by omega⟩
    have ha1 : (0 : Int) ≤ (a : Int) := by omega
    have ha2 : (a : Int) ≤ (xs.length : Int) := by omega
    have ha3 : a ≤ xs.length := by omega
    obtain ⟨mm, emm⟩ : ∃ mm : Int, (if (a : Int) + 1 < (xs.length : Int) then (a : Int) + 1 else (xs.length : Int)) = mm := ⟨_, rfl⟩
    have hm0 : (0 : Int) ≤ mm := by rw [← emm]; split <;> omega
    have hm1 : mm ≤ (xs.length : Int) := by rw [← emm]; split <;> omega
    obtain ⟨q0, hq0, hrw⟩ : ∃ q0, q0 ≤ p + 90 ∧ Rdr w4 g n zs q0 := ⟨q3 + 1, by omega, hr4⟩
    have ew : IntKind.i64.wrap ((a : Int) + 1) = (a : Int) + 1 := IntWalk.i64_in _ (by omega)
    clear hb hr3 hr4 h1 h2 hx4 em
    go_wp2_with fail
    --EVER{spec.l20Record;4;lrec4}
    refine wp_region_ever (R := RS [g]) (M := MR g n zs q0 30) [tEq _ (S xs), tOf _ (isS 505), tEq _ (S xs), tEq _ (.int .i64 (a : Int)), tOf _ (isS 252), tEq _ (S xs), tEq _ (.int .i64 (a : Int)), tOf _ (isS 252), tOf _ (isS 253), tEq _ (S xs), tEq _ (.int .i64 (a : Int)), tOf _ (isS 252), tOf _ (isS 505), tEq _ (S xs), tOf _ (isS 505), tEq _ (S xs), tEq _ (.int .i64 (a : Int)), tOf _ (isS 252), tEq _ (S xs), tEq _ (S xs), tEq _ (.int .i64 (xs.length : Int)), tEq _ (.int .i64 (a : Int)), tEq _ (.int .i64 ((a : Int) + 1)), tEq _ (.int .i64 mm), tOf _ (isS 252), tOf _ (isS 505), tRow _ (isS 505) 7, tEq _ (.pointer (some ⟨g, 0, none⟩)), tOf _ (isI (0) (6)), tPtr _ (isS 505), tOf _ (isS 505), tOf _ (isS 505)] (by kernel_rfl) (RS.refl _) (fun _ _ _ => RS.trans) (by kernel_rfl) (MR.drew ⟨q0, by omega, hrw⟩) ?_ ?_
    · refine ⟨?_, ?_, ?_, ?_, ?_, ?_, ?_, ?_, ?_, ?_, ?_, ?_, ?_, ?_, ?_, ?_, ?_, ?_, ?_, ?_, ?_, ?_, ?_, ?_, ?_, ?_, ?_, ?_, ?_, ?_, ?_, ?_, trivial⟩
      · intro k' w' ρ hk' hR hM hF
        replace hk' : k' < 32 := hk'
        obtain ⟨f0, -⟩ := hF
        replace f0 : ρ (.tmp 7) = S xs := f0
        exact ⟨RS.refl _ _, hM.next, f0⟩
      · intro k' w' ρ hk' hR hM hF
        replace hk' : k' < 32 := hk'
        obtain ⟨f0, f1, -⟩ := hF
        replace f0 : ρ (.tmp 22) = S xs := f0
        replace f1 : ρ (.const (.string ⟨#[32]⟩)) = .string ⟨#[32]⟩ := f1
        have : ¬ 9223372036854775807 < (xs).length + 1 := by omega
        have : ¬ 9223372036854775807 < 1 + (xs).length := by omega
        refine good_of fun K hK => ?_
        go_simp
        exact hK _ _ (RS.refl _ _) (hM.next) (⟨_, rfl, by first | omega | (simp; omega) | (simp; done) | skip⟩)
      · intro k' w' ρ hk' hR hM hF
        replace hk' : k' < 32 := hk'
        obtain ⟨f0, -⟩ := hF
        replace f0 : ρ (.tmp 7) = S xs := f0
        exact ⟨RS.refl _ _, hM.next, f0⟩
      · intro k' w' ρ hk' hR hM hF
        replace hk' : k' < 32 := hk'
        obtain ⟨f0, -⟩ := hF
        replace f0 : ρ (.tmp 8) = .int .i64 (a : Int) := f0
        exact ⟨RS.refl _ _, hM.next, f0⟩
      · intro k' w' ρ hk' hR hM hF
        replace hk' : k' < 32 := hk'
        obtain ⟨f0, f1, -⟩ := hF
        replace f0 : ρ (.tmp 24) = S xs := f0
        replace f1 : ρ (.tmp 25) = .int .i64 (a : Int) := f1
        refine good_of fun K hK => ?_
        go_simp
        exact hK _ _ (RS.refl _ _) (hM.next) (⟨_, rfl, by first | omega | (simp; omega) | (simp; done) | skip⟩)
      · intro k' w' ρ hk' hR hM hF
        replace hk' : k' < 32 := hk'
        obtain ⟨f0, -⟩ := hF
        replace f0 : ρ (.tmp 7) = S xs := f0
        exact ⟨RS.refl _ _, hM.next, f0⟩
      · intro k' w' ρ hk' hR hM hF
        replace hk' : k' < 32 := hk'
        obtain ⟨f0, -⟩ := hF
        replace f0 : ρ (.tmp 8) = .int .i64 (a : Int) := f0
        exact ⟨RS.refl _ _, hM.next, f0⟩
      · intro k' w' ρ hk' hR hM hF
        replace hk' : k' < 32 := hk'
        obtain ⟨f0, f1, -⟩ := hF
        replace f0 : ρ (.tmp 27) = S xs := f0
        replace f1 : ρ (.tmp 28) = .int .i64 (a : Int) := f1
        refine good_of fun K hK => ?_
        go_simp
        exact hK _ _ (RS.refl _ _) (hM.next) (⟨_, rfl, by first | omega | (simp; omega) | (simp; done) | skip⟩)
      · intro k' w' ρ hk' hR hM hF
        replace hk' : k' < 32 := hk'
        obtain ⟨f0, f1, -⟩ := hF
        replace f1 : ρ (.const (.string ⟨#[48]⟩)) = .string ⟨#[48]⟩ := f1
        obtain ⟨x0, f0, hi0⟩ := f0
        replace f0 : ρ (.tmp 29) = S x0 := f0
        have : ¬ 9223372036854775807 < 1 + x0.length := by omega
        have : ¬ 9223372036854775807 < x0.length + 1 := by omega
        refine good_of fun K hK => ?_
        go_simp
        exact hK _ _ (RS.refl _ _) (hM.next) (⟨_, rfl, by first | omega | (simp; omega) | (simp; done) | skip⟩)
      · intro k' w' ρ hk' hR hM hF
        replace hk' : k' < 32 := hk'
        obtain ⟨f0, -⟩ := hF
        replace f0 : ρ (.tmp 7) = S xs := f0
        exact ⟨RS.refl _ _, hM.next, f0⟩
      · intro k' w' ρ hk' hR hM hF
        replace hk' : k' < 32 := hk'
        obtain ⟨f0, -⟩ := hF
        replace f0 : ρ (.tmp 8) = .int .i64 (a : Int) := f0
        exact ⟨RS.refl _ _, hM.next, f0⟩
      · intro k' w' ρ hk' hR hM hF
        replace hk' : k' < 32 := hk'
        obtain ⟨f0, f1, -⟩ := hF
        replace f0 : ρ (.tmp 31) = S xs := f0
        replace f1 : ρ (.tmp 32) = .int .i64 (a : Int) := f1
        refine good_of fun K hK => ?_
        go_simp
        exact hK _ _ (RS.refl _ _) (hM.next) (⟨_, rfl, by first | omega | (simp; omega) | (simp; done) | skip⟩)
      · intro k' w' ρ hk' hR hM hF
        replace hk' : k' < 32 := hk'
        obtain ⟨f0, f1, -⟩ := hF
        obtain ⟨x0, f0, hi0⟩ := f0
        replace f0 : ρ (.tmp 30) = S x0 := f0
        obtain ⟨x1, f1, hi1⟩ := f1
        replace f1 : ρ (.tmp 33) = S x1 := f1
        have : ¬ 9223372036854775807 < x1.length + x0.length := by omega
        have : ¬ 9223372036854775807 < x0.length + x1.length := by omega
        refine good_of fun K hK => ?_
        go_simp
        exact hK _ _ (RS.refl _ _) (hM.next) (⟨_, rfl, by first | omega | (simp; omega) | (simp; done) | skip⟩)
      · intro k' w' ρ hk' hR hM hF
        replace hk' : k' < 32 := hk'
        obtain ⟨f0, -⟩ := hF
        replace f0 : ρ (.tmp 7) = S xs := f0
        exact ⟨RS.refl _ _, hM.next, f0⟩
      · intro k' w' ρ hk' hR hM hF
        replace hk' : k' < 32 := hk'
        obtain ⟨f0, f1, -⟩ := hF
        replace f0 : ρ (.const (.string ⟨#[48]⟩)) = .string ⟨#[48]⟩ := f0
        replace f1 : ρ (.tmp 35) = S xs := f1
        have : ¬ 9223372036854775807 < (xs).length + 1 := by omega
        have : ¬ 9223372036854775807 < 1 + (xs).length := by omega
        refine good_of fun K hK => ?_
        go_simp
        exact hK _ _ (RS.refl _ _) (hM.next) (⟨_, rfl, by first | omega | (simp; omega) | (simp; done) | skip⟩)
      · intro k' w' ρ hk' hR hM hF
        replace hk' : k' < 32 := hk'
        obtain ⟨f0, -⟩ := hF
        replace f0 : ρ (.tmp 7) = S xs := f0
        exact ⟨RS.refl _ _, hM.next, f0⟩
      · intro k' w' ρ hk' hR hM hF
        replace hk' : k' < 32 := hk'
        obtain ⟨f0, -⟩ := hF
        replace f0 : ρ (.tmp 8) = .int .i64 (a : Int) := f0
        exact ⟨RS.refl _ _, hM.next, f0⟩
      · intro k' w' ρ hk' hR hM hF
        replace hk' : k' < 32 := hk'
        obtain ⟨f0, f1, -⟩ := hF
        replace f0 : ρ (.tmp 37) = S xs := f0
        replace f1 : ρ (.tmp 38) = .int .i64 (a : Int) := f1
        refine good_of fun K hK => ?_
        go_simp
        exact hK _ _ (RS.refl _ _) (hM.next) (⟨_, rfl, by first | omega | (simp; omega) | (simp; done) | skip⟩)
      · intro k' w' ρ hk' hR hM hF
        replace hk' : k' < 32 := hk'
        obtain ⟨f0, -⟩ := hF
        replace f0 : ρ (.tmp 7) = S xs := f0
        exact ⟨RS.refl _ _, hM.next, f0⟩
      · intro k' w' ρ hk' hR hM hF
        replace hk' : k' < 32 := hk'
        obtain ⟨f0, -⟩ := hF
        replace f0 : ρ (.tmp 7) = S xs := f0
        exact ⟨RS.refl _ _, hM.next, f0⟩
      · intro k' w' ρ hk' hR hM hF
        replace hk' : k' < 32 := hk'
        obtain ⟨f0, -⟩ := hF
        replace f0 : ρ (.tmp 41) = S xs := f0
        refine good_of fun K hK => ?_
        go_simp
        exact hK _ _ (RS.refl _ _) (hM.next) (rfl)
      · intro k' w' ρ hk' hR hM hF
        replace hk' : k' < 32 := hk'
        obtain ⟨f0, -⟩ := hF
        replace f0 : ρ (.tmp 8) = .int .i64 (a : Int) := f0
        exact ⟨RS.refl _ _, hM.next, f0⟩
      · intro k' w' ρ hk' hR hM hF
        replace hk' : k' < 32 := hk'
        obtain ⟨f0, f1, -⟩ := hF
        replace f0 : ρ (.tmp 43) = .int .i64 (a : Int) := f0
        replace f1 : ρ (.const (.int .i64 1)) = .int .i64 1 := f1
        refine good_of fun K hK => ?_
        go_simp
        exact hK _ _ (RS.refl _ _) (hM.next) (rfl)
      · intro k' w' ρ hk' hR hM hF
        replace hk' : k' < 32 := hk'
        obtain ⟨f0, f1, -⟩ := hF
        replace f0 : ρ (.tmp 42) = .int .i64 (xs.length : Int) := f0
        replace f1 : ρ (.tmp 44) = .int .i64 ((a : Int) + 1) := f1
        refine good_of fun K hK => ?_
        go_simp
        exact hK _ _ (RS.refl _ _) (hM.next) (rfl)
      · intro k' w' ρ hk' hR hM hF
        replace hk' : k' < 32 := hk'
        obtain ⟨f0, f1, -⟩ := hF
        replace f0 : ρ (.tmp 40) = S xs := f0
        replace f1 : ρ (.tmp 45) = .int .i64 mm := f1
        refine good_of fun K hK => ?_
        go_simp
        exact hK _ _ (RS.refl _ _) (hM.next) (⟨_, rfl, by first | omega | (simp; omega) | (simp; done) | skip⟩)
      · intro k' w' ρ hk' hR hM hF
        replace hk' : k' < 32 := hk'
        obtain ⟨f0, f1, -⟩ := hF
        obtain ⟨x0, f0, hi0⟩ := f0
        replace f0 : ρ (.tmp 39) = S x0 := f0
        obtain ⟨x1, f1, hi1⟩ := f1
        replace f1 : ρ (.tmp 46) = S x1 := f1
        have : ¬ 9223372036854775807 < x1.length + x0.length := by omega
        have : ¬ 9223372036854775807 < x0.length + x1.length := by omega
        refine good_of fun K hK => ?_
        go_simp
        exact hK _ _ (RS.refl _ _) (hM.next) (⟨_, rfl, by first | omega | (simp; omega) | (simp; done) | skip⟩)
      · intro k' w' ρ hk' hR hM hF
        replace hk' : k' < 32 := hk'
        obtain ⟨f0, f1, f2, f3, f4, f5, f6, -⟩ := hF
        replace f0 : ρ (.const (.string ⟨#[]⟩)) = .string ⟨#[]⟩ := f0
        replace f5 : ρ (.const (.string ⟨#[49, 32, 49, 32, 32, 53]⟩)) = .string ⟨#[49, 32, 49, 32, 32, 53]⟩ := f5
        obtain ⟨x1, f1, hi1⟩ := f1
        replace f1 : ρ (.tmp 23) = S x1 := f1
        obtain ⟨x2, f2, hi2⟩ := f2
        replace f2 : ρ (.tmp 26) = S x2 := f2
        obtain ⟨x3, f3, hi3⟩ := f3
        replace f3 : ρ (.tmp 34) = S x3 := f3
        obtain ⟨x4, f4, hi4⟩ := f4
        replace f4 : ρ (.tmp 36) = S x4 := f4
        obtain ⟨x6, f6, hi6⟩ := f6
        replace f6 : ρ (.tmp 47) = S x6 := f6
        have bnew : w'.heap.size ∉ [g] := (by have := hR.size; simp at this ⊢; omega)
        refine good_of fun K hK => ?_
        go_simp
        refine hK _ _ ((RS.refl _ _).alloc _) ((hM.alloc _).next) ⟨w'.heap.size, rfl, bnew, by simp, fun j hj => row_new w' _ _ _ ?_ j hj⟩
        intro x hx; simp only [List.mem_cons, List.not_mem_nil, or_false] at hx
        rcases hx with rfl | rfl | rfl | rfl | rfl | rfl | rfl
        · exact ⟨[], rfl, by decide⟩
        · exact ⟨x1, rfl, by omega⟩
        · exact ⟨x2, rfl, by omega⟩
        · exact ⟨x3, rfl, by omega⟩
        · exact ⟨x4, rfl, by omega⟩
        · exact ⟨[49, 32, 49, 32, 32, 53], rfl, by decide⟩
        · exact ⟨x6, rfl, by omega⟩
      · intro k' w' ρ hk' hR hM hF
        replace hk' : k' < 32 := hk'
        obtain ⟨f0, -⟩ := hF
        replace f0 : ρ (.tmp 0) = .pointer (some ⟨g, 0, none⟩) := f0
        exact ⟨RS.refl _ _, hM.next, f0⟩
      · intro k' w' ρ hk' hR hM hF
        replace hk' : k' < 32 := hk'
        obtain ⟨f0, f1, f2, -⟩ := hF
        replace f0 : ρ (.func _) = .func (.func _) #[] #[] := f0
        replace f1 : ρ (.tmp 49) = .pointer (some ⟨g, 0, none⟩) := f1
        replace f2 : ρ (.const (.int .i64 7)) = .int .i64 7 := f2
        refine good_of fun K hK => ?_
        obtain ⟨q, hq, hr⟩ := hM; go_simp; refine (pick_any _ _ _ _ _ _ hr (by omega)).mono ?_; rintro e w4 ⟨x, rfl, h1, -, hr4, hb⟩; have hx := h1 (by omega); exact ⟨_, rfl, hK _ _ ((RS.refl _ _).grown hb (by simp)) ⟨q + 1, by rw [Nat.mul_add]; omega, hr4⟩ ⟨x, rfl, by omega, by omega⟩⟩
      · intro k' w' ρ hk' hR hM hF
        replace hk' : k' < 32 := hk'
        obtain ⟨f0, f1, -⟩ := hF
        obtain ⟨b0, f0, bn0, bz0, bc0⟩ := f0
        replace f0 : ρ (.tmp 48) = .slice (some ⟨b0, 0, none⟩) 7 7 := f0
        obtain ⟨x1, f1, lo1, hi1⟩ := f1
        replace f1 : ρ (.tmp 50) = .int .i64 x1 := f1
        obtain ⟨u, hu, he⟩ := bc0 x1.toNat (by omega)
        clear bc0
        have ix0 : 0 ≤ x1 := by omega
        have ix1 : x1 < 7 := by omega
        refine good_of fun K hK => ?_
        go_simp
        exact hK _ _ (RS.refl _ _) (hM.next) ⟨b0, _, rfl, bn0, bz0, u, hu, he⟩
      · intro k' w' ρ hk' hR hM hF
        replace hk' : k' < 32 := hk'
        obtain ⟨f0, -⟩ := hF
        obtain ⟨b0, o0, f0, bn0, bz0, u0, bc0, be0⟩ := f0
        replace f0 : ρ (.tmp 51) = .pointer (some ⟨b0, o0, none⟩) := f0
        refine good_of fun K hK => ?_
        go_simp
        exact hK _ _ (RS.refl _ _) (hM.next) be0
      · intro k' w' ρ hk' hR hM hF
        replace hk' : k' < 32 := hk'
        obtain ⟨f0, -⟩ := hF
        exact ⟨RS.refl _ _, hM.next, f0⟩
    · intro w' hR hM
      rintro _ rfl
      rintro _ ⟨v1, rfl, hi1⟩
      rintro _ rfl
      rintro _ rfl
      rintro _ ⟨v4, rfl, hi4⟩
      rintro _ rfl
      rintro _ rfl
      rintro _ ⟨v7, rfl, hi7⟩
      rintro _ ⟨v8, rfl, hi8⟩
      rintro _ rfl
      rintro _ rfl
      rintro _ ⟨v11, rfl, hi11⟩
      rintro _ ⟨v12, rfl, hi12⟩
      rintro _ rfl
      rintro _ ⟨v14, rfl, hi14⟩
      rintro _ rfl
      rintro _ rfl
      rintro _ ⟨v17, rfl, hi17⟩
      rintro _ rfl
      rintro _ rfl
      rintro _ rfl
      rintro _ rfl
      rintro _ rfl
      rintro _ rfl
      rintro _ ⟨v24, rfl, hi24⟩
      rintro _ ⟨v25, rfl, hi25⟩
      rintro _ ⟨_, rfl, -, -, -⟩
      rintro _ rfl
      rintro _ ⟨v28, rfl, lo28, hi28⟩
      rintro _ ⟨_, _, rfl, -, -, -⟩
      rintro _ ⟨v30, rfl, hi30⟩
      rintro _ ⟨v31, rfl, hi31⟩
    --END
    --END
      dsimp only [EndAll, Act.put]
      obtain ⟨w5, rfl⟩ : ∃ z, z = w' := ⟨_, rfl⟩
      obtain ⟨q5, hq5, hr5⟩ := hM
      replace hq5 : q5 ≤ q0 + 30 * 32 := hq5
      have hW5 := gb_trans hW hR.of_drew.to_grown
      clear hR hW hrw emm ew
      simp only [List.setIfInBounds_toArray, List.set_cons_zero, List.set_cons_succ]
      go_wp2_with fail
      go_ret
      exact ⟨v31, rfl, by omega, ⟨q5, by omega, hr5⟩, hW5⟩

def DrrPost (w : World) (e : Ending) (w' : World) : Prop := ∃ s : List UInt8, e = .returned (S s) ∧ s.length ≤ 505 ∧ Below w.heap.size w w'
set_option maxRecDepth 100000 in
set_option maxHeartbeats 1000000 in
theorem drawReadRecord_any (v : Value) (n : Nat) (zs : List Int) (w : World) (h : Bytes w w.heap.size v n zs) :
    Calls Tryz.prog 17 #[v] w (DrrPost w) := by
  unfold DrrPost
  go_enter Tryz.func17, Tryz.ntmps17
  go_wp2_with fail
  refine (open_any v n zs _ (h.to (by (repeat (first | exact Below.refl _ _ | assumption | refine Below.drew ?_ | refine up_drewN ?_ _ | refine up_alloc ?_ _ | refine up_set ?_ _ _ (by first | exact Nat.le_refl _ | (simp; done) | (simp; omega) | omega) | refine up_trans ?_ (by assumption)))))).mono ?_
  rintro e w1 ⟨g, m, ys, rfl, hr, hb, hg⟩
  have hW : Below w.heap.size w w1 := by (repeat (first | exact Below.refl _ _ | assumption | refine Below.drew ?_ | refine up_drewN ?_ _ | refine up_alloc ?_ _ | refine up_set ?_ _ _ (by first | exact Nat.le_refl _ | (simp; done) | (simp; omega) | omega) | refine up_trans ?_ (by assumption)))
  clear hb h
  go_wp2_with fail
  refine (l20Text_any _ _ _ _ _ _ hr (by omega)).mono ?_
  rintro e w2 ⟨s, rfl, hs, ⟨q2, hq2, hr2⟩, hb⟩
  replace hW : w.grownBy w2 (some g) := gb_trans (gb_below (World.grownBy.refl _ _) hW) hb
  clear hb hr
  go_wp2_with fail
  refine (l20Record_any _ _ _ _ _ s _ hr2 (by omega) hs).mono ?_
  rintro e w3 ⟨t, rfl, ht, ⟨q3, hq3, hr3⟩, hb⟩
  replace hW := gb_trans hW hb
  have hWB := Lib.hid (below_of_gb hW (by omega))
  clear hb hr2 hr3 hW
  go_wp2_with fail
  go_ret
  exact ⟨t, rfl, ht, hWB.out⟩

end Go.Proofs.YtdngdlcibaiekaaGreatDoor
