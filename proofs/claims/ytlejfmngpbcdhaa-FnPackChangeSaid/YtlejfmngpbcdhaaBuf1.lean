/- What is proved here: contracts of l24Find, bufferAt and BuffersValid. No condition. -/
import Derived.Test.YtlejfmngpbcdhaaCls
import Derived.Test.YtlejfmngpbcdhaaReg
namespace Go.Proofs.Ytlejfmngpbcdhaa
open Go.RowKit

/-- an open file: its name, its text, its saved text. -/
structure Bf where
  name : List UInt8
  body : List UInt8
  saved : List UInt8
def bfC (b : Bf) : List Value := [S b.name, S b.body, S b.saved]
theorem bfC_len (b : Bf) : (bfC b).length = 3 := rfl
/-- a slice of open files, whose texts are no longer than the form allows. -/
def RdB (w : World) (v : Value) (bs : List Bf) : Prop := RdL w 3 bfC v bs ∧ ∀ b ∈ bs, b.name.length ≤ maxLen ∧ b.body.length ≤ maxLen ∧ b.saved.length ≤ maxLen
theorem RdB.up {w w' : World} {v : Value} {bs : List Bf} (h : RdB w v bs) (hb : Below w.heap.size w w') : RdB w' v bs := ⟨h.1.up hb, h.2⟩
theorem RdB.cells {w : World} {A : Option Addr} {n c : Nat} {bs : List Bf} (h : RdB w (.slice A n c) bs) {k : Nat} (hk : k < bs.length) :
    ∃ b o, A = some ⟨b, o, none⟩ ∧ b < w.heap.size ∧ w.cell? ⟨b, o + k * 3, none⟩ = some (S bs[k].name) ∧ w.cell? ⟨b, o + k * 3 + 1, none⟩ = some (S bs[k].body) ∧ w.cell? ⟨b, o + k * 3 + 2, none⟩ = some (S bs[k].saved) := by
  obtain ⟨b, o, hA, hb, hc⟩ := h.1.cells bfC_len hk
  exact ⟨b, o, hA, hb, hc 0 _ rfl, hc 1 _ rfl, hc 2 _ rfl⟩

/-- the place of the first file with a name, or -1. -/
def bfAt : List Bf → List UInt8 → Int
  | [], _ => -1
  | b :: bs, nm => if b.name == nm then 0 else if bfAt bs nm = -1 then -1 else bfAt bs nm + 1
theorem bfAt_ge (bs : List Bf) (nm : List UInt8) : -1 ≤ bfAt bs nm ∧ bfAt bs nm < bs.length := by
  induction bs with
  | nil => simp [bfAt]
  | cons b bs ih =>
    unfold bfAt
    rw [List.length_cons]
    split
    · omega
    · split <;> omega
theorem bfAt_hit (bs : List Bf) (nm : List UInt8) : ∀ (k : Nat) (hk : k < bs.length), bfAt (bs.take k) nm = -1 → bs[k].name = nm → bfAt bs nm = k := by
  induction bs with
  | nil => intro k hk; simp at hk
  | cons b bs ih =>
    intro k hk h1 h2
    cases k with
    | zero => simp at h2; simp [bfAt, h2]
    | succ k =>
      rw [List.take_succ_cons] at h1
      unfold bfAt at h1 ⊢
      have hb := bfAt_ge (bs.take k) nm
      by_cases hn : (b.name == nm) = true
      · rw [if_pos hn] at h1; omega
      · rw [if_neg hn] at h1 ⊢
        have h3 : bfAt (bs.take k) nm = -1 := by split at h1 <;> omega
        have := ih k (by simpa using hk) h3 (by simpa using h2)
        rw [this, if_neg (by omega)]; omega
theorem bfAt_take (bs : List Bf) (nm : List UInt8) : ∀ (k : Nat) (hk : k < bs.length), bfAt (bs.take k) nm = -1 → bs[k].name ≠ nm → bfAt (bs.take (k + 1)) nm = -1 := by
  induction bs with
  | nil => intro k hk; simp at hk
  | cons b bs ih =>
    intro k hk h1 h2
    cases k with
    | zero => simp at h2; simp [bfAt, h2]
    | succ k =>
      rw [List.take_succ_cons] at h1 ⊢
      unfold bfAt at h1 ⊢
      have hb := bfAt_ge (bs.take k) nm
      by_cases hn : (b.name == nm) = true
      · rw [if_pos hn] at h1; omega
      · rw [if_neg hn] at h1 ⊢
        have h3 : bfAt (bs.take k) nm = -1 := by split at h1 <;> omega
        rw [ih k (by simpa using hk) h3 (by simpa using h2)]; simp

theorem l24Find_any (v : Value) (bs : List Bf) (nm : List UInt8) (w : World) (h : RdB w v bs) :
    Calls Try.prog 49 #[v, .string ⟨nm.toArray⟩] w fun e w' => e = .returned (.int .i64 (bfAt bs nm)) ∧ w = w' := by
  obtain ⟨A, c, rfl, hm, hcap⟩ := h.1.form
  unfold maxLen at hm
  clear hcap
  go_enter Try.func49, Try.ntmps49
  go_wp2_with fail
  go_loop [5] (fun i => ∃ q : Nat, q ≤ bs.length ∧ i = .int .i64 q ∧ Hid (bfAt (bs.take q) nm = -1)) (fun i => bs.length - (intOf i).toNat)
  case atStart => exact ⟨0, Nat.zero_le _, rfl, Lib.hid (by simp [bfAt])⟩
  case round =>
    obtain ⟨q, hq, rfl, heq⟩ := hrel
    by_cases hlt : q < bs.length
    · have i1 : (0 : Int) ≤ (q : Int) := by omega
      have i2 : (q : Int) < (bs.length : Int) := by omega
      obtain ⟨b, o, rfl, hb, c0, c1, c2⟩ := h.cells hlt
      rcases hc : (bs[q].name == nm) with _ | _
      · have hst := Lib.hid (bfAt_take bs nm q hlt heq.out (by simpa using hc))
        go_wp2_with fail
        go_round
        case rel => exact ⟨q + 1, by omega, by go_num, hst⟩
        case measure => simp [intOf]; omega
      · have hst := Lib.hid (bfAt_hit bs nm q hlt heq.out (by simpa using hc))
        go_wp2_with fail
        go_ret
        exact ⟨ret_int hst.out.symm, rfl⟩
    · obtain rfl : q = bs.length := by omega
      have hst := Lib.hid (show bfAt bs nm = -1 by have := heq.out; rwa [List.take_length] at this)
      go_wp2_with fail
      go_ret
      exact ⟨ret_int hst.out.symm, rfl⟩

theorem bufferAt1_any (x : Bf) (nm : List UInt8) (g : Nat) (w : World) (hc : w.cell? ⟨g, 0, none⟩ = some (S nm)) (hg : g < w.heap.size) :
    Calls Try.prog 85 #[.agg #[S x.name, S x.body, S x.saved], .pointer (some ⟨g, 0, none⟩)] w fun e w' => e = .returned (.bool (x.name == nm)) ∧ Below w.heap.size w w' := by
  go_enter Try.func85, Try.ntmps85
  go_wp2_with fail
  go_ret
  exact ⟨rfl, by (repeat (first | exact Below.refl _ _ | assumption | refine Below.drew ?_ | refine up_drewN ?_ _ | refine up_alloc ?_ _ | refine up_set ?_ _ _ (by first | exact Nat.le_refl _ | (simp; done) | (simp; omega) | omega) | refine up_trans ?_ (by assumption)))⟩

def FindPost (bs : List Bf) (nm : List UInt8) (w : World) (e : Ending) (w' : World) : Prop := e = .returned (.int .i64 (bfAt bs nm)) ∧ Below w.heap.size w w'

set_option maxHeartbeats 800000 in
theorem indexFunc_any (v : Value) (bs : List Bf) (nm : List UInt8) (g : Nat) (w : World) (h : RdB w v bs) (hc : w.cell? ⟨g, 0, none⟩ = some (S nm)) (hg : g < w.heap.size) :
    Calls Try.prog 84 #[v, .func (.func 85) #[] #[.pointer (some ⟨g, 0, none⟩)]] w (FindPost bs nm w) := by
  obtain ⟨A, c, rfl, hm, hcap⟩ := h.1.form
  unfold maxLen at hm
  clear hcap
  go_enter Try.func84, Try.ntmps84
  go_wp2_with fail
  go_loopw [8] (fun i wr => ∃ q : Nat, q ≤ bs.length ∧ i = .int .i64 q ∧ Hid (bfAt (bs.take q) nm = -1) ∧ Below w.heap.size w wr) (fun i _ => bs.length - (intOf i).toNat)
  case atStart => exact ⟨0, Nat.zero_le _, rfl, Lib.hid (by simp [bfAt]), Below.refl _ _⟩
  case round =>
    obtain ⟨q, hq, rfl, heq, hW⟩ := hrel
    by_cases hlt : q < bs.length
    · have i1 : (0 : Int) ≤ (q : Int) := by omega
      have i2 : (q : Int) < (bs.length : Int) := by omega
      have hg' := (hW.cell (p := ⟨g, 0, none⟩) hg).trans hc
      have hgz : g < wr.heap.size := Nat.lt_of_lt_of_le hg hW.size
      obtain ⟨b, o, rfl, hb, c0, c1, c2⟩ := (h.up hW).cells hlt
      clear hc
      rcases hn : (bs[q].name == nm) with _ | _
      · have hst := Lib.hid (bfAt_take bs nm q hlt heq.out (by simpa using hn))
        go_wp2_with fail
        refine (bufferAt1_any bs[q] nm g _ hg' hgz).mono ?_
        rintro e w1 ⟨rfl, hb1⟩
        go_wp2_with fail
        go_roundw
        case rel => exact ⟨q + 1, by omega, by go_num, hst, by (repeat (first | exact Below.refl _ _ | assumption | refine Below.drew ?_ | refine up_drewN ?_ _ | refine up_alloc ?_ _ | refine up_set ?_ _ _ (by first | exact Nat.le_refl _ | (simp; done) | (simp; omega) | omega) | refine up_trans ?_ (by assumption)))⟩
        case measure => simp [intOf]; omega
      · have hst := Lib.hid (bfAt_hit bs nm q hlt heq.out (by simpa using hn))
        go_wp2_with fail
        refine (bufferAt1_any bs[q] nm g _ hg' hgz).mono ?_
        rintro e w1 ⟨rfl, hb1⟩
        go_wp2_with fail
        go_ret
        exact ⟨ret_int hst.out.symm, by (repeat (first | exact Below.refl _ _ | assumption | refine Below.drew ?_ | refine up_drewN ?_ _ | refine up_alloc ?_ _ | refine up_set ?_ _ _ (by first | exact Nat.le_refl _ | (simp; done) | (simp; omega) | omega) | refine up_trans ?_ (by assumption)))⟩
    · obtain rfl : q = bs.length := by omega
      have hst := Lib.hid (show bfAt bs nm = -1 by have := heq.out; rwa [List.take_length] at this)
      go_wp2_with fail
      go_ret
      exact ⟨ret_int hst.out.symm, hW⟩

theorem bufferAt_any (v : Value) (bs : List Bf) (nm : List UInt8) (w : World) (h : RdB w v bs) :
    Calls Try.prog 47 #[v, .string ⟨nm.toArray⟩] w (FindPost bs nm w) := by
  go_enter Try.func47, Try.ntmps47
  go_wp2_with fail
  refine (indexFunc_any v bs nm w.heap.size _ (h.up (by (repeat (first | exact Below.refl _ _ | assumption | refine Below.drew ?_ | refine up_drewN ?_ _ | refine up_alloc ?_ _ | refine up_set ?_ _ _ (by first | exact Nat.le_refl _ | (simp; done) | (simp; omega) | omega) | refine up_trans ?_ (by assumption))))) (by simp [go_sem]) (by simp)).mono ?_
  rintro e w1 ⟨rfl, hb⟩
  go_wp2_with fail
  go_ret
  exact ⟨rfl, by (repeat (first | exact Below.refl _ _ | assumption | refine Below.drew ?_ | refine up_drewN ?_ _ | refine up_alloc ?_ _ | refine up_set ?_ _ _ (by first | exact Nat.le_refl _ | (simp; done) | (simp; omega) | omega) | refine up_trans ?_ (by assumption)))⟩

/-- file number k is valid. -/
def okAt (bs : List Bf) (k : Nat) (b : Bf) : Bool := nv b.name && (bfAt bs b.name == (k : Int)) && tv b.body && tv b.saved
/-- files from the k-th on are valid. -/
def okFrom (bs : List Bf) : Nat → List Bf → Bool
  | _, [] => true
  | k, b :: l => okAt bs k b && okFrom bs (k + 1) l
def bvB (bs : List Bf) : Bool := okFrom bs 0 bs && decide (bs.length ≤ 8)
theorem okFrom_drop (bs : List Bf) (k : Nat) (hk : k < bs.length) : okFrom bs k (bs.drop k) = (okAt bs k bs[k] && okFrom bs (k + 1) (bs.drop (k + 1))) := by
  rw [List.drop_eq_getElem_cons hk, okFrom]
theorem okFrom_all (bs : List Bf) (h : okFrom bs 0 bs = true) : ∀ k (hk : k < bs.length), okAt bs k bs[k] = true := by
  have key : ∀ n k (hk : k < bs.length), n ≤ k → okFrom bs n (bs.drop n) = true → okAt bs k bs[k] = true := by
    intro n k hk hn
    induction hd : k - n generalizing n with
    | zero =>
      intro ho
      obtain rfl : n = k := by omega
      rw [okFrom_drop bs n hk, Bool.and_eq_true] at ho
      exact ho.1
    | succ d ih =>
      intro ho
      rw [okFrom_drop bs n (by omega), Bool.and_eq_true] at ho
      exact ih (n + 1) (by omega) (by omega) ho.2
  intro k hk
  exact key 0 k hk (Nat.zero_le _) (by simpa using h)

set_option maxHeartbeats 1000000 in
theorem implBuffersValid_any (v : Value) (bs : List Bf) (w : World) (h : RdB w v bs) :
    Calls Try.prog 15 #[v] w fun e w' => e = .returned (.bool (bvB bs)) ∧ Below w.heap.size w w' := by
  obtain ⟨A, c, rfl, hm, hcap⟩ := h.1.form
  unfold maxLen at hm
  clear hcap
  go_enter Try.func15, Try.ntmps15
  go_wp2_with fail
  go_loopw [7] (fun i wr => ∃ q : Nat, q ≤ bs.length ∧ i = .int .i64 q ∧ Hid (okFrom bs 0 bs = okFrom bs q (bs.drop q)) ∧ Below w.heap.size w wr) (fun i _ => bs.length - (intOf i).toNat)
  case atStart => exact ⟨0, Nat.zero_le _, rfl, Lib.hid (by simp), Below.refl _ _⟩
  case round =>
    obtain ⟨q, hq, rfl, heq, hW⟩ := hrel
    by_cases hlt : q < bs.length
    · have i1 : (0 : Int) ≤ (q : Int) := by omega
      have i2 : (q : Int) < (bs.length : Int) := by omega
      have hmem := h.2 _ (List.getElem_mem hlt)
      obtain ⟨b, o, rfl, hb, c0, c1, c2⟩ := (h.up hW).cells hlt
      have hstep := Lib.hid (okFrom_drop bs q hlt)
      obtain ⟨x, hx⟩ : ∃ x, x = bs[q] := ⟨_, rfl⟩
      rw [← hx] at c0 c1 c2 hmem
      have HX := Lib.hid hx
      clear hx
      have hqz : wr.heap.size < wr.heap.size + 1 := by omega
      rcases hok : okAt bs q x with _ | _
      · have hfin := Lib.hid (show bvB bs = false by unfold bvB; rw [heq.out, hstep.out, ← HX.out, hok]; rfl)
        simp only [okAt] at hok
        have HK := Lib.hid hok
        clear hok
        rcases hn : nv x.name with _ | _
        · go_wp2_with (go_at_call 46; refine (nameValid_any _ _ hmem.1).mono ?_; rintro e w1 ⟨rfl, rfl⟩)
          go_ret
          exact ⟨ret_bool hfin.out.symm, by (repeat (first | exact Below.refl _ _ | assumption | refine Below.drew ?_ | refine up_drewN ?_ _ | refine up_alloc ?_ _ | refine up_set ?_ _ _ (by first | exact Nat.le_refl _ | (simp; done) | (simp; omega) | omega) | refine up_trans ?_ (by assumption)))⟩
        · go_wp2_with fail
          refine (nameValid_any _ _ hmem.1).mono ?_
          rintro e w1 ⟨rfl, rfl⟩
          go_wp2_with fail
          refine (bufferAt_any _ bs _ _ (h.up (by (repeat (first | exact Below.refl _ _ | assumption | refine Below.drew ?_ | refine up_drewN ?_ _ | refine up_alloc ?_ _ | refine up_set ?_ _ _ (by first | exact Nat.le_refl _ | (simp; done) | (simp; omega) | omega) | refine up_trans ?_ (by assumption)))))).mono ?_
          rintro e w2 ⟨rfl, hb2⟩
          have hW2 : Below w.heap.size w w2 := by (repeat (first | exact Below.refl _ _ | assumption | refine Below.drew ?_ | refine up_drewN ?_ _ | refine up_alloc ?_ _ | refine up_set ?_ _ _ (by first | exact Nat.le_refl _ | (simp; done) | (simp; omega) | omega) | refine up_trans ?_ (by assumption)))
          have yc : ∀ o, w2.cell? ⟨wr.heap.size, o, none⟩ = #[S x.name, S x.body, S x.saved][o]? := (fun o => (hb2.cell (p := ⟨wr.heap.size, o, none⟩) (by simp <;> omega)).trans (by simp [go_sem])); have yf : ∀ o, w2.frozen? ⟨wr.heap.size, o, none⟩ = false := (fun o => (hb2.frozen (p := ⟨wr.heap.size, o, none⟩) (by simp <;> omega)).trans (by simp [go_sem])); have yz : wr.heap.size < w2.heap.size := (by have := hb2.size; (try simp at this); omega); have yy := yz
          clear hb2 hW
          rcases ha : (bfAt bs x.name == (q : Int)) with _ | _
          · have ha' : (bfAt bs x.name != (q : Int)) = true := by simpa using ha
            clear ha
            go_wp2_with fail
            go_ret
            exact ⟨ret_bool hfin.out.symm, by (repeat (first | exact Below.refl _ _ | assumption | refine Below.drew ?_ | refine up_drewN ?_ _ | refine up_alloc ?_ _ | refine up_set ?_ _ _ (by first | exact Nat.le_refl _ | (simp; done) | (simp; omega) | omega) | refine up_trans ?_ (by assumption)))⟩
          · have ha' : (bfAt bs x.name != (q : Int)) = false := by simpa using ha
            rcases hbo : tv x.body with _ | _
            · clear ha
              go_wp2_with (go_at_call 39; refine (implTextValid_any _ _ hmem.2.1).mono ?_; rintro e w1 ⟨rfl, rfl⟩)
              go_ret
              exact ⟨ret_bool hfin.out.symm, by (repeat (first | exact Below.refl _ _ | assumption | refine Below.drew ?_ | refine up_drewN ?_ _ | refine up_alloc ?_ _ | refine up_set ?_ _ _ (by first | exact Nat.le_refl _ | (simp; done) | (simp; omega) | omega) | refine up_trans ?_ (by assumption)))⟩
            · have hsv : tv x.saved = false := by
                have := HK.out
                rw [hn, ha, hbo] at this
                simpa using this
              clear ha
              go_wp2_with fail
              refine (implTextValid_any _ _ hmem.2.1).mono ?_
              rintro e w1 ⟨rfl, rfl⟩
              go_wp2_with fail
              refine (implTextValid_any _ _ hmem.2.2).mono ?_
              rintro e w1 ⟨rfl, rfl⟩
              go_wp2_with fail
              go_ret
              exact ⟨ret_bool hfin.out.symm, by (repeat (first | exact Below.refl _ _ | assumption | refine Below.drew ?_ | refine up_drewN ?_ _ | refine up_alloc ?_ _ | refine up_set ?_ _ _ (by first | exact Nat.le_refl _ | (simp; done) | (simp; omega) | omega) | refine up_trans ?_ (by assumption)))⟩
      · have hfin := Lib.hid (show okFrom bs 0 bs = okFrom bs (q + 1) (bs.drop (q + 1)) by rw [heq.out, hstep.out, ← HX.out, hok]; rfl)
        simp only [okAt, Bool.and_eq_true] at hok
        obtain ⟨⟨⟨hn, ha⟩, hbo⟩, hsv⟩ := hok
        have ha' : (bfAt bs x.name != (q : Int)) = false := by simpa using ha
        clear ha
        go_wp2_with fail
        refine (nameValid_any _ _ hmem.1).mono ?_
        rintro e w1 ⟨rfl, rfl⟩
        go_wp2_with fail
        refine (bufferAt_any _ bs _ _ (h.up (by (repeat (first | exact Below.refl _ _ | assumption | refine Below.drew ?_ | refine up_drewN ?_ _ | refine up_alloc ?_ _ | refine up_set ?_ _ _ (by first | exact Nat.le_refl _ | (simp; done) | (simp; omega) | omega) | refine up_trans ?_ (by assumption)))))).mono ?_
        rintro e w2 ⟨rfl, hb2⟩
        have hW2 : Below w.heap.size w w2 := by (repeat (first | exact Below.refl _ _ | assumption | refine Below.drew ?_ | refine up_drewN ?_ _ | refine up_alloc ?_ _ | refine up_set ?_ _ _ (by first | exact Nat.le_refl _ | (simp; done) | (simp; omega) | omega) | refine up_trans ?_ (by assumption)))
        have yc : ∀ o, w2.cell? ⟨wr.heap.size, o, none⟩ = #[S x.name, S x.body, S x.saved][o]? := (fun o => (hb2.cell (p := ⟨wr.heap.size, o, none⟩) (by simp <;> omega)).trans (by simp [go_sem])); have yf : ∀ o, w2.frozen? ⟨wr.heap.size, o, none⟩ = false := (fun o => (hb2.frozen (p := ⟨wr.heap.size, o, none⟩) (by simp <;> omega)).trans (by simp [go_sem])); have yz : wr.heap.size < w2.heap.size := (by have := hb2.size; (try simp at this); omega); have yy := yz
        clear hb2 hW
        go_wp2_with fail
        refine (implTextValid_any _ _ hmem.2.1).mono ?_
        rintro e w1 ⟨rfl, rfl⟩
        go_wp2_with fail
        refine (implTextValid_any _ _ hmem.2.2).mono ?_
        rintro e w1 ⟨rfl, rfl⟩
        go_wp2_with fail
        go_roundw
        case rel => exact ⟨q + 1, by omega, by go_num, hfin, by (repeat (first | exact Below.refl _ _ | assumption | refine Below.drew ?_ | refine up_drewN ?_ _ | refine up_alloc ?_ _ | refine up_set ?_ _ _ (by first | exact Nat.le_refl _ | (simp; done) | (simp; omega) | omega) | refine up_trans ?_ (by assumption)))⟩
        case measure => simp [intOf]; omega
    · obtain rfl : q = bs.length := by omega
      have hst := Lib.hid (show okFrom bs 0 bs = true by have := heq.out; rwa [List.drop_length] at this)
      go_wp2_with fail
      go_ret
      refine ⟨ret_bool ?_, hW⟩
      unfold bvB
      rw [hst.out]
      simp
      try omega

end Go.Proofs.Ytlejfmngpbcdhaa
