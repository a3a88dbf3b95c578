/- What is proved here: contracts of the pressing of several keys. No condition. -/
import Derived.Test.YtcjgllbhmghkeaaDoorKey5
import Derived.Test.YtcjgllbhmghkeaaDoorEverL
namespace Go.Proofs.YtcjgllbhmghkeaaDoor
open Go.RowKit

/-- one key more: the desk, and how many keys did something. -/
def pressF (r : Dk × Nat) (c : UInt8) : Dk × Nat := ((pressK r.1 ((c.toNat : Nat) : Int)).1, r.2 + if (pressK r.1 ((c.toNat : Nat) : Int)).2 = true then 1 else 0)
def pressesK (d : Dk) (l : List UInt8) : Dk × Nat := l.foldl pressF (d, 0)
theorem pressesK_take (d : Dk) (l : List UInt8) (k : Nat) (h : k < l.length) : pressesK d (l.take (k + 1)) = pressF (pressesK d (l.take k)) l[k] := by
  unfold pressesK
  rw [List.take_succ_eq_append_getElem h, List.foldl_append]; rfl
theorem keyK_len {d : Dk} (h : dkOk d = true) (c : Int) : (keyK d c).1.body.length ≤ 120 := (dkOk_out (keyK_ok h c)).2.2.2.2.2
theorem pressK_len (d : Dk) (c : Int) : (pressK d c).1.body.length ≤ 120 := by
  unfold pressK
  split
  · rename_i h
    exact keyK_len h c
  · simp [dk0]
theorem pressesK_len (d : Dk) (l : List UInt8) : (pressesK d l).1.body.length ≤ max d.body.length 120 := by
  unfold pressesK
  have key : ∀ (l : List UInt8) (r : Dk × Nat), r.1.body.length ≤ max d.body.length 120 → (l.foldl pressF r).1.body.length ≤ max d.body.length 120 := by
    intro l
    induction l with
    | nil => intro r h; exact h
    | cons c l ih =>
      intro r h
      exact ih _ (by have := pressK_len r.1 ((c.toNat : Nat) : Int); show (pressK r.1 _).1.body.length ≤ _; omega)
  exact key l (d, 0) (by simp; omega)
theorem pressesK_many (d : Dk) (l : List UInt8) : (pressesK d l).2 ≤ l.length := by
  unfold pressesK
  have key : ∀ (l : List UInt8) (r : Dk × Nat), (l.foldl pressF r).2 ≤ r.2 + l.length := by
    intro l
    induction l with
    | nil => intro r; simp
    | cons c l ih =>
      intro r
      have := ih (pressF r c)
      have h2 : (pressF r c).2 ≤ r.2 + 1 := by unfold pressF; split <;> simp
      rw [List.foldl_cons, List.length_cons]
      omega
  have := key l (d, 0)
  simpa using this
theorem pressesK_ok {d : Dk} (h : dkOk d = true) (l : List UInt8) : dkOk (pressesK d l).1 = true := by
  unfold pressesK
  have key : ∀ (l : List UInt8) (r : Dk × Nat), dkOk r.1 = true → dkOk (l.foldl pressF r).1 = true := by
    intro l
    induction l with
    | nil => intro r h; exact h
    | cons c l ih => intro r h; exact ih _ (pressK_ok h _)
  exact key l (d, 0) h

def DnPost (r : Dk × Int) (w : World) (e : Ending) (w' : World) : Prop := e = .returned (.tuple #[dkV r.1, .int .i64 r.2]) ∧ Below w.heap.size w w'

/-- what the loop of presses keeps. -/
def PressRel (d : Dk) (l : List UInt8) (w : World) (k m : Nat) (d' : Dk) (wr : World) : Prop :=
  pressesK d (l.take k) = (d', m) ∧ Below w.heap.size w wr ∧ Is wr w.heap.size #[S d'.body, .int .i64 d'.place, .int .i64 d'.want] ∧ Is wr (w.heap.size + 1) #[S [], .int .i64 0, .int .i64 0]
theorem pressRel_step {d : Dk} {l : List UInt8} {w w5 : World} {k m : Nat} {b2 : List UInt8} {p2 x2 : Int} {ok : Bool} {d' : Dk} (hk : pressesK d (l.take (k + 1)) = (⟨b2, p2, x2⟩, m + if ok = true then 1 else 0))
    (hb : Below w.heap.size w w5) (h1 : Is w5 w.heap.size #[S d'.body, .int .i64 d'.place, .int .i64 d'.want]) (h2 : Is w5 (w.heap.size + 1) #[S [], .int .i64 0, .int .i64 0]) :
    PressRel d l w (k + 1) (m + if ok = true then 1 else 0) ⟨b2, p2, x2⟩ (putV w5 w.heap.size #[S b2, .int .i64 p2, .int .i64 x2]) :=
  ⟨hk, putV_below _ hb (Nat.le_refl _), put_is h1 rfl, putV_is_other _ h2 (by omega)⟩

set_option maxRecDepth 100000 in
set_option maxHeartbeats 1000000 in
theorem implPress_any (d : Dk) (l : List UInt8) (w : World) (hs : d.body.length ≤ maxLen) (hl : l.length ≤ maxLen) :
    Calls Tryd.prog 43 #[dkV d, S l] w (DnPost ((pressesK d l).1, ((pressesK d l).2 : Nat)) w) := by
  have hs' : l.length ≤ 9223372036854775807 := by unfold maxLen at hl; omega
  have R0 : Hid (PressRel d l w 0 0 d ((w.alloc (.cells #[S d.body, .int .i64 d.place, .int .i64 d.want] 38)).alloc (.cells #[S [], .int .i64 0, .int .i64 0] 38))) :=
    Lib.hid ⟨rfl, by (repeat (first | exact Below.refl _ _ | assumption | refine Below.drew ?_ | refine up_drewN ?_ _ | refine up_alloc ?_ _ | refine up_set ?_ _ _ (by first | exact Nat.le_refl _ | (simp; done) | (simp; omega) | omega) | refine up_trans ?_ (by assumption))), (new_is _ _ _).up (by simp) (up_alloc (Below.refl _ _) _), by have := new_is (w.alloc (.cells #[S d.body, .int .i64 d.place, .int .i64 d.want] 38)) #[S [], .int .i64 0, .int .i64 0] 38; simpa using this⟩
  unfold dkV
  go_enter Tryd.func43, Tryd.ntmps43
  go_wp2_with fail
  go_loopw [6, 12] (fun n i wr => ∃ (k : Nat) (d' : Dk) (m : Nat), k ≤ l.length ∧ i = .int .i64 k ∧ n = .int .i64 m ∧ m ≤ k ∧ d'.body.length ≤ max d.body.length 120 ∧ w.heap.size + 1 < wr.heap.size ∧ Hid (PressRel d l w k m d' wr)) (fun _ i _ => l.length - (intOf i).toNat)
  case atStart => exact ⟨0, d, 0, Nat.zero_le _, rfl, rfl, Nat.le_refl _, by omega, by simp, R0⟩
  case round =>
    obtain ⟨k, d', m, hk, rfl, rfl, hm, hdl, rz, HR0⟩ := hrel
    clear R0
    by_cases hlt : k < l.length
    · have i1 : (0 : Int) ≤ (k : Int) := by omega
      have i2 : (k : Int) < (l.length : Int) := by omega
      have hb255 : l[k].toNat < 256 := l[k].toNat_lt
      have HT := Lib.hid (pressesK_take d l k hlt)
      have HP := Lib.hid (fun w => implPressKey_any d' ((l[k].toNat : Nat) : Int) w (by unfold maxLen; unfold maxLen at hs; omega) (by omega) (by omega))
      have hpl := pressK_len d' ((l[k].toNat : Nat) : Int)
      generalize hr : pressK d' ((l[k].toNat : Nat) : Int) = r at *
      have HR := Lib.hid hr
      clear hr
      obtain ⟨⟨b2, p2, x2⟩, ok⟩ := r
      unfold DkPost dkV at HP
      simp only at HP hpl
      have zz : w.heap.size < wr.heap.size := by omega
      have HKK : Hid (pressesK d (l.take (k + 1)) = (⟨b2, p2, x2⟩, m + if ok = true then 1 else 0)) := Lib.hid (by rw [HT.out, HR0.out.1]; show ((pressK d' _).1, m + if (pressK d' _).2 = true then 1 else 0) = _; rw [HR.out])
      have rc := HR0.out.2.2.1.1
      clear HT HR
      go_wp2_with fail
      --EVER{(impl.Desk).press;5;press5}
      refine wp_region_everL (R := RV wr.heap.size [] #[S b2, .int .i64 p2, .int .i64 x2]) (M := fun _ _ => True) 0 (fun _ => True) [(vEq _ _ _ (.agg #[S d'.body, .int .i64 d'.place, .int .i64 d'.want])).l, (vEq _ _ _ (S l)).l, (vEq _ _ _ (.int .i64 k)).l, (vEq _ _ _ (.int .u8 ((l[k].toNat : Nat) : Int))).l, (vEq _ _ _ (.tuple #[.agg #[S b2, .int .i64 p2, .int .i64 x2], .bool ok])).l, (vEq _ _ _ (.tuple #[.agg #[S b2, .int .i64 p2, .int .i64 x2], .bool ok])).l, (vEq _ _ _ (.agg #[S b2, .int .i64 p2, .int .i64 x2])).l, (vEq _ _ _ (.bool ok)).l, (vBox wr.heap.size [] #[S b2, .int .i64 p2, .int .i64 x2]).l, vPut wr.heap.size [] #[S b2, .int .i64 p2, .int .i64 x2] 8, (vEq _ _ _ (.bool ok)).l] (by kernel_rfl) (RV.refl _ _ _) (fun _ _ _ => RV.trans) (by kernel_rfl) (by kernel_rfl) (trivial) (trivial) ?_ ?_
      · refine ⟨?_, ?_, ?_, ?_, ?_, ?_, ?_, ?_, ?_, ?_, ?_, trivial⟩
        · intro k' w' ρ hk' hR hM hD hF
          replace hk' : k' < 11 := hk'
          obtain ⟨f0, -⟩ := hF
          replace f0 : ρ (.tmp 2) = .pointer (some ⟨w.heap.size, 0, none⟩) := f0
          refine goodL_of (fun _ => trivial) fun K hK => ?_
          have z0 := (hR.of_drew.cell zz zz (by simp) 0).trans (rc 0); have z1 := (hR.of_drew.cell zz zz (by simp) 1).trans (rc 1); have z2 := (hR.of_drew.cell zz zz (by simp) 2).trans (rc 2); go_simp; exact hK _ _ (RV.refl _ _ _ _) (⟨trivial, fun _ h => h⟩) rfl
        · intro k' w' ρ hk' hR hM hD hF
          replace hk' : k' < 11 := hk'
          obtain ⟨f0, -⟩ := hF
          replace f0 : ρ (.tmp 1) = S l := f0
          exact ⟨RV.refl _ _ _ _, ⟨trivial, fun _ h => h⟩, f0, trivial⟩
        · intro k' w' ρ hk' hR hM hD hF
          replace hk' : k' < 11 := hk'
          obtain ⟨f0, -⟩ := hF
          replace f0 : ρ (.tmp 7) = .int .i64 k := f0
          exact ⟨RV.refl _ _ _ _, ⟨trivial, fun _ h => h⟩, f0, trivial⟩
        · intro k' w' ρ hk' hR hM hD hF
          replace hk' : k' < 11 := hk'
          obtain ⟨f0, f1, -⟩ := hF
          replace f0 : ρ (.tmp 17) = S l := f0
          replace f1 : ρ (.tmp 18) = .int .i64 k := f1
          refine goodL_of (fun _ => trivial) fun K hK => ?_
          go_simp
          exact hK _ _ (RV.refl _ _ _ _) (⟨trivial, fun _ h => h⟩) (rfl)
        · intro k' w' ρ hk' hR hM hD hF
          replace hk' : k' < 11 := hk'
          obtain ⟨f0, f1, f2, -⟩ := hF
          replace f0 : ρ (.func _) = .func (.func _) #[] #[] := f0
          replace f1 : ρ (.tmp 16) = .agg #[S d'.body, .int .i64 d'.place, .int .i64 d'.want] := f1
          replace f2 : ρ (.tmp 19) = .int .u8 ((l[k].toNat : Nat) : Int) := f2
          refine goodL_of (fun _ => trivial) fun K hK => ?_
          go_simp; refine (HP.out _).mono ?_; rintro e wc ⟨rfl, hb⟩; exact ⟨_, rfl, hK _ _ (RV.of_below hb) (⟨trivial, fun _ _ => trivial⟩) rfl⟩
        · intro k' w' ρ hk' hR hM hD hF
          replace hk' : k' < 11 := hk'
          obtain ⟨f0, -⟩ := hF
          replace f0 : ρ (.tmp 20) = .tuple #[.agg #[S b2, .int .i64 p2, .int .i64 x2], .bool ok] := f0
          exact ⟨RV.refl _ _ _ _, ⟨trivial, fun _ h => h⟩, f0, trivial⟩
        · intro k' w' ρ hk' hR hM hD hF
          replace hk' : k' < 11 := hk'
          obtain ⟨f0, -⟩ := hF
          replace f0 : ρ (.tmp 15) = .tuple #[.agg #[S b2, .int .i64 p2, .int .i64 x2], .bool ok] := f0
          refine goodL_of (fun _ => trivial) fun K hK => ?_
          go_simp
          exact hK _ _ (RV.refl _ _ _ _) (⟨trivial, fun _ h => h⟩) (rfl)
        · intro k' w' ρ hk' hR hM hD hF
          replace hk' : k' < 11 := hk'
          obtain ⟨f0, -⟩ := hF
          replace f0 : ρ (.tmp 15) = .tuple #[.agg #[S b2, .int .i64 p2, .int .i64 x2], .bool ok] := f0
          refine goodL_of (fun _ => trivial) fun K hK => ?_
          go_simp
          exact hK _ _ (RV.refl _ _ _ _) (⟨trivial, fun _ h => h⟩) (rfl)
        · intro k' w' ρ hk' hR hM hD hF
          replace hk' : k' < 11 := hk'
          refine goodL_of (fun _ => trivial) fun K hK => ?_
          have hBz : _ ≤ w'.heap.size := hR.size
          go_simp
          exact hK _ _ (RV.alloc _ _) (⟨trivial, fun _ _ => trivial⟩) ⟨_, rfl, hBz, by simp, vbox_mk (by rfl)⟩
        · intro k' w' ρ hk' hR hM hD hF
          replace hk' : k' < 11 := hk'
          obtain ⟨f0, f1, -⟩ := hF
          replace f1 : ρ (.tmp 21) = .agg #[S b2, .int .i64 p2, .int .i64 x2] := f1
          refine goodL_ofs fun K hK => ?_
          obtain ⟨bi, f0, bB, bz, A, bA, bI⟩ := f0
          replace f0 : ρ (.tmp 8) = .pointer (some ⟨bi, 0, none⟩) := f0
          have bI2 := put_is (V := #[S b2, .int .i64 p2, .int .i64 x2]) bI bA
          have bG := put_rv (B := wr.heap.size) (L := []) bI bA (.inl bB)
          obtain ⟨a0, a1, a2, q0, q1, q2⟩ := bI.three bA; have qf := bI.2
          clear bI bA
          go_simp
          refine hK _ _ bG (⟨trivial, fun _ _ => trivial⟩) trivial ?_
          intro i hi; replace hi := hi.symm.trans f0; cases hi; exact ⟨by simpa [putV] using bz, bI2⟩
        · intro k' w' ρ hk' hR hM hD hF
          replace hk' : k' < 11 := hk'
          obtain ⟨f0, -⟩ := hF
          replace f0 : ρ (.tmp 22) = .bool ok := f0
          exact ⟨RV.refl _ _ _ _, ⟨trivial, fun _ h => h⟩, f0, trivial⟩
      · intro w' hR hM
        rintro _ rfl -
        rintro _ rfl -
        rintro _ rfl -
        rintro _ rfl -
        rintro _ rfl -
        rintro _ rfl -
        rintro _ rfl -
        rintro _ rfl -
        rintro _ ⟨nb, rfl, nbB, nbz, -⟩ -
        rintro _ - nbS
        rintro _ rfl -
      --END
      --END
        dsimp only [EndAllL, Act.put]
        obtain ⟨w5, rfl⟩ : ∃ z, z = w' := ⟨_, rfl⟩
        have hb5 : Below wr.heap.size wr w5 := hR.to_below
        obtain ⟨nz, nI⟩ := nbS nb rfl
        have HS := Lib.hid (pressRel_step HKK.out (up_trans HR0.out.2.1 hb5) (HR0.out.2.2.1.up zz hb5) (HR0.out.2.2.2.up rz hb5))
        have c0 := nI.1 0
        have c1 := nI.1 1
        have c2 := nI.1 2
        have e0 := (hb5.cell (p := ⟨w.heap.size, 0, none⟩) zz).trans (rc 0)
        have e1 := (hb5.cell (p := ⟨w.heap.size, 1, none⟩) zz).trans (rc 1)
        have e2 := (hb5.cell (p := ⟨w.heap.size, 2, none⟩) zz).trans (rc 2)
        have ef : ∀ o, w5.frozen? ⟨w.heap.size, o, none⟩ = false := (HR0.out.2.2.1.up zz hb5).2
        simp only [List.getElem?_toArray, List.getElem?_cons_zero, List.getElem?_cons_succ] at c0 c1 c2 e0 e1 e2
        have rz5 : w.heap.size + 1 < w5.heap.size := Nat.lt_of_lt_of_le rz hb5.size
        have hne : ¬ nb = w.heap.size := by omega
        have hne' : ¬ w.heap.size = nb := by omega
        clear hR nbS nI HR0 HKK rc hb5 HP
        rcases ok with _ | _
        · go_wp2_with fail
          go_roundw
          case rel => exact ⟨k + 1, ⟨b2, p2, x2⟩, m, by omega, by go_num, rfl, by omega, by show b2.length ≤ _; omega, by simp; omega, HS⟩
          case measure => simp [intOf]; omega
        · go_wp2_with fail
          go_roundw
          case rel => exact ⟨k + 1, ⟨b2, p2, x2⟩, m + 1, by omega, by go_num, by go_num, by omega, by show b2.length ≤ _; omega, by simp; omega, HS⟩
          case measure => simp [intOf]; omega
    · obtain rfl : k = l.length := by omega
      obtain ⟨HK, hQ, rI, qI⟩ := HR0.out
      rw [List.take_length] at HK
      have HK1 := Lib.hid (congrArg Prod.fst HK)
      have HK2 := Lib.hid (congrArg Prod.snd HK)
      clear HK HR0
      have HF : Hid (Below w.heap.size w (putV wr (w.heap.size + 1) #[S d'.body, .int .i64 d'.place, .int .i64 d'.want])) := Lib.hid (putV_below _ hQ (by omega))
      have z := put_is (V := #[S d'.body, .int .i64 d'.place, .int .i64 d'.want]) qI rfl
      have z0 := z.1 0
      have z1 := z.1 1
      have z2 := z.1 2
      have e0 := rI.1 0
      have e1 := rI.1 1
      have e2 := rI.1 2
      have q0 := qI.1 0
      have q1 := qI.1 1
      have q2 := qI.1 2
      have qf := qI.2
      simp only [putV, World.setCells, List.getElem?_toArray, List.getElem?_cons_zero, List.getElem?_cons_succ] at z0 z1 z2 e0 e1 e2 q0 q1 q2
      clear rI qI z hQ
      go_wp2_with fail
      refine bodyPost_ret (v := .tuple #[.agg #[S d'.body, .int .i64 d'.place, .int .i64 d'.want], .int .i64 m]) (by simp [results, Tryd.results43, go_sem, z0, z1, z2]) rfl ⟨by show _ = Ending.returned (.tuple #[dkV (pressesK d l).1, .int .i64 ((pressesK d l).2 : Nat)]); rw [HK1.out, HK2.out]; rfl, HF.out⟩

end Go.Proofs.YtcjgllbhmghkeaaDoor
