/- What is proved here: contracts of RepeatKeys in the program and in the reference. No condition. -/
import Derived.Test.YtndmidcilbghkaaKey7
namespace Go.Proofs.Ytndmidcilbghkaa
open Go.RowKit

/-- presses again and again: what is left, the desk, how many times it was done. -/
def repK (l : List UInt8) : Nat → Dk → Nat → Dk × Nat
  | 0, d, k => (d, k)
  | f + 1, d, k => if (pressesK d l).2 < l.length then ((pressesK d l).1, k + 1) else repK l f (pressesK d l).1 (k + 1)
def repeatK (d : Dk) (l : List UInt8) (t : Int) : Dk × Int := if dkOk d = true ∧ l.length ≤ 60 ∧ inB t 0 20 = true then ((repK l t.toNat d 0).1, ((repK l t.toNat d 0).2 : Nat)) else (dk0, -1)
theorem repK_ok (l : List UInt8) : ∀ (f : Nat) (d : Dk) (k : Nat), dkOk d = true → dkOk (repK l f d k).1 = true
  | 0, d, k, h => h
  | f + 1, d, k, h => by
    unfold repK
    split
    · exact pressesK_ok h l
    · exact repK_ok l f _ _ (pressesK_ok h l)
theorem repeatK_len (d : Dk) (l : List UInt8) (t : Int) : (repeatK d l t).1.body.length ≤ 120 := by
  unfold repeatK
  split
  · rename_i h
    exact (dkOk_out (repK_ok l _ d 0 h.1)).2.2.2.2.2
  · simp [dk0]
def RepRel (w : World) (d' : Dk) (wr : World) : Prop :=
  Below w.heap.size w wr ∧ Is wr w.heap.size #[S d'.body, .int .i64 d'.place, .int .i64 d'.want] ∧ Is wr (w.heap.size + 1) #[S [], .int .i64 0, .int .i64 0]
theorem repRel_step {w wr w2 : World} {d' : Dk} {b2 : List UInt8} {p2 x2 : Int} {ob : Obj} (h : RepRel w d' wr) (hz : w.heap.size + 1 < wr.heap.size) (hb : Below wr.heap.size wr w2) :
    RepRel w ⟨b2, p2, x2⟩ ((putV w2 w.heap.size #[S b2, .int .i64 p2, .int .i64 x2]).alloc ob) := by
  have h1 : Below w.heap.size w (putV w2 w.heap.size #[S b2, .int .i64 p2, .int .i64 x2]) := putV_below _ (up_trans h.1 hb) (Nat.le_refl _)
  have hs := hb.size
  have h2 : Is (putV w2 w.heap.size #[S b2, .int .i64 p2, .int .i64 x2]) w.heap.size #[S b2, .int .i64 p2, .int .i64 x2] := put_is (h.2.1.up (by omega) hb) rfl
  have h3 := putV_is_other (b := w.heap.size) #[S b2, .int .i64 p2, .int .i64 x2] (h.2.2.up hz hb) (by omega)
  have h4 := putV_size w2 w.heap.size #[S b2, .int .i64 p2, .int .i64 x2]
  generalize putV w2 w.heap.size #[S b2, .int .i64 p2, .int .i64 x2] = w3 at h1 h2 h3 h4 ⊢
  have hB := up_alloc (Below.refl w3.heap.size w3) ob
  exact ⟨up_trans h1 hB, h2.up (by omega) hB, h3.up (by omega) hB⟩
theorem repRel_end {w wr w2 : World} {d' : Dk} {b2 : List UInt8} {p2 x2 : Int} {ob : Obj} (h : RepRel w d' wr) (hb : Below wr.heap.size wr w2) (V : Array Value) : Below w.heap.size w ((putV (putV w2 w.heap.size #[S b2, .int .i64 p2, .int .i64 x2]) (w.heap.size + 1) V).alloc ob) :=
  up_alloc (putV_below _ (putV_below _ (up_trans h.1 hb) (Nat.le_refl _)) (by omega)) _

set_option maxRecDepth 100000 in
set_option maxHeartbeats 1000000 in
theorem implRepeatKeys_no (d : Dk) (l : List UInt8) (t : Int) (w : World) (hs : d.body.length ≤ maxLen) (hl : l.length ≤ maxLen) (hno : (dkOk d = false ∨ 60 < l.length) ∨ (dkOk d = true ∧ l.length ≤ 60 ∧ inB t 0 20 = false)) :
    Calls Try.prog 19 #[dkV d, S l, .int .i64 t] w (DnPost (dk0, -1) w) := by
  have hW := Below.refl w.heap.size w
  have hs' : l.length ≤ 9223372036854775807 := by unfold maxLen at hl; omega
  have V := Lib.hid (fun w => implDeskValid_any d w hs)
  have N := Lib.hid (fun w => in_any t 0 20 w)
  unfold DnPost
  unfold dkV at V ⊢
  simp only [dk0]
  rcases hno with hno | ⟨hd, hlen, ht⟩
  · rcases hno with hd | hlen
    case' inr => rcases hd : dkOk d with _ | _
    all_goals
      rw [hd] at V
      clear hd
      go_enter Try.func19, Try.ntmps19
      go_wp2_with fail
      refine (V.out _).mono ?_
      rintro e w1 ⟨rfl, hb⟩
      have hB : Below w.heap.size w w1 := (by (repeat (first | exact Below.refl _ _ | assumption | refine Below.drew ?_ | refine up_drewN ?_ _ | refine up_alloc ?_ _ | refine up_set ?_ _ _ (by first | exact Nat.le_refl _ | (simp; done) | (simp; omega) | omega) | refine up_trans ?_ (by assumption)))); have sw1 := hB.size; replace hW := up_trans hW hB; clear hB
      have xc : ∀ o, w1.cell? ⟨w.heap.size, o, none⟩ = #[S d.body, .int .i64 d.place, .int .i64 d.want][o]? := (fun o => (hb.cell (p := ⟨w.heap.size, o, none⟩) (by simp <;> omega)).trans (by simp [go_sem])); have xf : ∀ o, w1.frozen? ⟨w.heap.size, o, none⟩ = false := (fun o => (hb.frozen (p := ⟨w.heap.size, o, none⟩) (by simp <;> omega)).trans (by simp [go_sem])); have xz : w.heap.size < w1.heap.size := (by have := hb.size; (try simp at this); omega); have xy := xz
      have yc : ∀ o, w1.cell? ⟨w.heap.size + 1, o, none⟩ = #[S [], .int .i64 0, .int .i64 0][o]? := (fun o => (hb.cell (p := ⟨w.heap.size + 1, o, none⟩) (by simp <;> omega)).trans (by simp [go_sem])); have yf : ∀ o, w1.frozen? ⟨w.heap.size + 1, o, none⟩ = false := (fun o => (hb.frozen (p := ⟨w.heap.size + 1, o, none⟩) (by simp <;> omega)).trans (by simp [go_sem])); have yz : w.heap.size + 1 < w1.heap.size := (by have := hb.size; (try simp at this); omega); have yy := yz
      clear hb
      go_wp2_with fail
      refine bodyPost_ret (v := .tuple #[.agg #[S [], .int .i64 0, .int .i64 0], .int .i64 (-1)]) (by simp [results, Try.results19, go_sem, yc]) rfl ⟨rfl, by (repeat (first | exact Below.refl _ _ | assumption | refine Below.drew ?_ | refine up_drewN ?_ _ | refine up_alloc ?_ _ | refine up_set ?_ _ _ (by first | exact Nat.le_refl _ | (simp; done) | (simp; omega) | omega) | refine up_trans ?_ (by assumption)))⟩
  · rw [hd] at V
    rw [ht] at N
    clear hd ht
    go_enter Try.func19, Try.ntmps19
    go_wp2_with fail
    refine (V.out _).mono ?_
    rintro e w1 ⟨rfl, hb⟩
    have hB : Below w.heap.size w w1 := (by (repeat (first | exact Below.refl _ _ | assumption | refine Below.drew ?_ | refine up_drewN ?_ _ | refine up_alloc ?_ _ | refine up_set ?_ _ _ (by first | exact Nat.le_refl _ | (simp; done) | (simp; omega) | omega) | refine up_trans ?_ (by assumption)))); have sw1 := hB.size; replace hW := up_trans hW hB; clear hB
    have xc : ∀ o, w1.cell? ⟨w.heap.size, o, none⟩ = #[S d.body, .int .i64 d.place, .int .i64 d.want][o]? := (fun o => (hb.cell (p := ⟨w.heap.size, o, none⟩) (by simp <;> omega)).trans (by simp [go_sem])); have xf : ∀ o, w1.frozen? ⟨w.heap.size, o, none⟩ = false := (fun o => (hb.frozen (p := ⟨w.heap.size, o, none⟩) (by simp <;> omega)).trans (by simp [go_sem])); have xz : w.heap.size < w1.heap.size := (by have := hb.size; (try simp at this); omega); have xy := xz
    have yc : ∀ o, w1.cell? ⟨w.heap.size + 1, o, none⟩ = #[S [], .int .i64 0, .int .i64 0][o]? := (fun o => (hb.cell (p := ⟨w.heap.size + 1, o, none⟩) (by simp <;> omega)).trans (by simp [go_sem])); have yf : ∀ o, w1.frozen? ⟨w.heap.size + 1, o, none⟩ = false := (fun o => (hb.frozen (p := ⟨w.heap.size + 1, o, none⟩) (by simp <;> omega)).trans (by simp [go_sem])); have yz : w.heap.size + 1 < w1.heap.size := (by have := hb.size; (try simp at this); omega); have yy := yz
    clear hb
    go_wp2_with fail
    refine (N.out _).mono ?_
    rintro e w2 ⟨rfl, rfl⟩
    go_wp2_with fail
    refine bodyPost_ret (v := .tuple #[.agg #[S [], .int .i64 0, .int .i64 0], .int .i64 (-1)]) (by simp [results, Try.results19, go_sem, yc]) rfl ⟨rfl, by (repeat (first | exact Below.refl _ _ | assumption | refine Below.drew ?_ | refine up_drewN ?_ _ | refine up_alloc ?_ _ | refine up_set ?_ _ _ (by first | exact Nat.le_refl _ | (simp; done) | (simp; omega) | omega) | refine up_trans ?_ (by assumption)))⟩

set_option maxRecDepth 100000 in
set_option maxHeartbeats 1000000 in
theorem implRepeatKeys_yes (d : Dk) (l : List UInt8) (t : Nat) (w : World) (hl : l.length ≤ maxLen) (hd : dkOk d = true) (hlen : l.length ≤ 60) (ht : t ≤ 20) :
    Calls Try.prog 19 #[dkV d, S l, .int .i64 t] w (DnPost ((repK l t d 0).1, ((repK l t d 0).2 : Nat)) w) := by
  have hs' : l.length ≤ 9223372036854775807 := by unfold maxLen at hl; omega
  have hW := Below.refl w.heap.size w
  have hdl := (dkOk_out hd).2.2.2.2.2
  have V := Lib.hid (fun w => implDeskValid_any d w (by unfold maxLen; omega))
  have N := Lib.hid (fun w => in_any t 0 20 w)
  have hi : inB (t : Int) 0 20 = true := inB_iff.2 ⟨by omega, by omega⟩
  rw [hi] at N
  rw [hd] at V
  have HD := Lib.hid hd
  clear hd hi
  unfold dkV at V ⊢
  go_enter Try.func19, Try.ntmps19
  go_wp2_with fail
  refine (V.out _).mono ?_
  rintro e w1 ⟨rfl, hb⟩
  have hB : Below w.heap.size w w1 := (by (repeat (first | exact Below.refl _ _ | assumption | refine Below.drew ?_ | refine up_drewN ?_ _ | refine up_alloc ?_ _ | refine up_set ?_ _ _ (by first | exact Nat.le_refl _ | (simp; done) | (simp; omega) | omega) | refine up_trans ?_ (by assumption)))); have sw1 := hB.size; replace hW := up_trans hW hB; clear hB
  have xc : ∀ o, w1.cell? ⟨w.heap.size, o, none⟩ = #[S d.body, .int .i64 d.place, .int .i64 d.want][o]? := (fun o => (hb.cell (p := ⟨w.heap.size, o, none⟩) (by simp <;> omega)).trans (by simp [go_sem])); have xf : ∀ o, w1.frozen? ⟨w.heap.size, o, none⟩ = false := (fun o => (hb.frozen (p := ⟨w.heap.size, o, none⟩) (by simp <;> omega)).trans (by simp [go_sem])); have xz : w.heap.size < w1.heap.size := (by have := hb.size; (try simp at this); omega); have xy := xz
  have yc : ∀ o, w1.cell? ⟨w.heap.size + 1, o, none⟩ = #[S [], .int .i64 0, .int .i64 0][o]? := (fun o => (hb.cell (p := ⟨w.heap.size + 1, o, none⟩) (by simp <;> omega)).trans (by simp [go_sem])); have yf : ∀ o, w1.frozen? ⟨w.heap.size + 1, o, none⟩ = false := (fun o => (hb.frozen (p := ⟨w.heap.size + 1, o, none⟩) (by simp <;> omega)).trans (by simp [go_sem])); have yz : w.heap.size + 1 < w1.heap.size := (by have := hb.size; (try simp at this); omega); have yy := yz
  have R0 : Hid (RepRel w d w1) := Lib.hid ⟨hW, ⟨xc, xf⟩, ⟨yc, yf⟩⟩
  clear hb hW V xc xf yc yf
  go_wp2_with fail
  refine (N.out _).mono ?_
  rintro e w2 ⟨rfl, rfl⟩
  clear N
  go_wp2_with fail
  go_loopw [8] (fun i wr => ∃ (k : Nat) (d' : Dk), k ≤ t ∧ i = .int .i64 ((k : Int) + 1) ∧ Hid (dkOk d' = true) ∧ w.heap.size + 1 < wr.heap.size ∧ Hid (repK l t d 0 = repK l (t - k) d' k) ∧ Hid (RepRel w d' wr)) (fun i _ => t + 1 - (intOf i).toNat)
  case atStart => exact ⟨0, d, Nat.zero_le _, by first | rfl | go_num, HD, yz, Lib.hid rfl, R0⟩
  case round =>
    obtain ⟨k, d', hk, rfl, HD', rz, HK, HR0⟩ := hrel
    clear R0
    obtain ⟨c0, c1, c2, cf⟩ : wr.cell? ⟨w.heap.size, 0, none⟩ = some (S d'.body) ∧ wr.cell? ⟨w.heap.size, 1, none⟩ = some (.int .i64 d'.place) ∧ wr.cell? ⟨w.heap.size, 2, none⟩ = some (.int .i64 d'.want) ∧ ∀ o, wr.frozen? ⟨w.heap.size, o, none⟩ = false := ⟨HR0.out.2.1.1 0, HR0.out.2.1.1 1, HR0.out.2.1.1 2, HR0.out.2.1.2⟩
    by_cases hlt : k < t
    · have hdl' := (dkOk_out HD'.out).2.2.2.2.2
      have HP := Lib.hid (fun w => implPress_any d' l w (by unfold maxLen; omega) hl)
      have hok := Lib.hid (pressesK_ok HD'.out l)
      have HST : Hid (repK l (t - k) d' k = if (pressesK d' l).2 < l.length then ((pressesK d' l).1, k + 1) else repK l (t - (k + 1)) (pressesK d' l).1 (k + 1)) := Lib.hid (by
        obtain ⟨f, hf⟩ : ∃ f, t - k = f + 1 := ⟨t - k - 1, by omega⟩
        rw [hf, show t - (k + 1) = f by omega, repK])
      have hmany := pressesK_many d' l
      generalize pressesK d' l = r at *
      obtain ⟨⟨b2, p2, x2⟩, m⟩ := r
      unfold DnPost dkV at HP
      simp only at HP hmany
      have zz : w.heap.size < wr.heap.size := by omega
      go_wp2_with fail
      refine (HP.out _).mono ?_
      rintro e w3 ⟨rfl, hb⟩
      have HS := Lib.hid (fun ob => repRel_step (b2 := b2) (p2 := p2) (x2 := x2) (ob := ob) HR0.out rz hb)
      have HF := Lib.hid (fun ob => repRel_end (b2 := b2) (p2 := p2) (x2 := x2) (ob := ob) HR0.out hb #[S b2, .int .i64 p2, .int .i64 x2])
      have z0 := (hb.cell (p := ⟨w.heap.size, 0, none⟩) zz).trans c0
      have z1 := (hb.cell (p := ⟨w.heap.size, 1, none⟩) zz).trans c1
      have z2 := (hb.cell (p := ⟨w.heap.size, 2, none⟩) zz).trans c2
      have zf : ∀ o, w3.frozen? ⟨w.heap.size, o, none⟩ = false := fun o => (hb.frozen (p := ⟨w.heap.size, o, none⟩) zz).trans (cf o)
      have qI := HR0.out.2.2.up rz hb
      have q0 := qI.1 0
      have q1 := qI.1 1
      have q2 := qI.1 2
      have qf := qI.2
      simp only [List.getElem?_toArray, List.getElem?_cons_zero, List.getElem?_cons_succ] at q0 q1 q2
      have rz3 : w.heap.size + 1 < w3.heap.size := Nat.lt_of_lt_of_le rz hb.size
      have zz3 : w.heap.size < w3.heap.size := by omega
      have ne1 : ¬ w3.heap.size = w.heap.size := by omega
      have ne2 : ¬ w.heap.size = w3.heap.size := by omega
      have ne3 : ¬ w3.heap.size = w.heap.size + 1 := by omega
      have ne4 : ¬ w.heap.size + 1 = w3.heap.size := by omega
      clear hb c0 c1 c2 cf qI HR0 HP rz zz
      by_cases hm : m < l.length
      · have HE : Hid (repK l t d 0 = (⟨b2, p2, x2⟩, k + 1)) := Lib.hid (by rw [HK.out, HST.out]; exact if_pos hm)
        have hm' : ((m : Nat) : Int) < (l.length : Int) := by omega
        have hkk : ((k : Nat) : Int) ≤ 20 := by omega
        clear HST HK
        go_wp2_with fail
        refine bodyPost_ret (v := .tuple #[.agg #[S b2, .int .i64 p2, .int .i64 x2], .int .i64 ((k : Int) + 1)]) (by simp [results, Try.results19, go_sem, q0, q1, q2, rz3]) rfl ⟨by show _ = Ending.returned (.tuple #[dkV (repK l t d 0).1, .int .i64 ((repK l t d 0).2 : Nat)]); rw [HE.out]; rfl, HF.out _⟩
      · have HE : Hid (repK l t d 0 = repK l (t - (k + 1)) ⟨b2, p2, x2⟩ (k + 1)) := Lib.hid (by rw [HK.out, HST.out]; exact if_neg hm)
        have hm' : ¬ ((m : Nat) : Int) < (l.length : Int) := by omega
        have hkk : ((k : Nat) : Int) ≤ 20 := by omega
        clear HST HK q0 q1 q2 qf
        go_wp2_with fail
        go_roundw
        case rel => exact ⟨k + 1, ⟨b2, p2, x2⟩, by omega, by go_num, hok, by simp; omega, HE, HS.out _⟩
        case measure => simp [intOf]; omega
    · obtain rfl : k = t := by omega
      have HE : Hid (repK l k d 0 = (d', k)) := Lib.hid (by rw [HK.out, Nat.sub_self, repK])
      have HF := Lib.hid (putV_below #[S d'.body, .int .i64 d'.place, .int .i64 d'.want] HR0.out.1 (show w.heap.size ≤ w.heap.size + 1 by omega))
      have qI := HR0.out.2.2
      have q0 := qI.1 0
      have q1 := qI.1 1
      have q2 := qI.1 2
      have qf := qI.2
      simp only [List.getElem?_toArray, List.getElem?_cons_zero, List.getElem?_cons_succ] at q0 q1 q2
      clear qI HR0 HK
      go_wp2_with fail
      refine bodyPost_ret (v := .tuple #[.agg #[S d'.body, .int .i64 d'.place, .int .i64 d'.want], .int .i64 k]) (by simp [results, Try.results19, go_sem, q0, q1, q2]) rfl ⟨by show _ = Ending.returned (.tuple #[dkV (repK l k d 0).1, .int .i64 ((repK l k d 0).2 : Nat)]); rw [HE.out]; rfl, HF.out⟩

theorem implRepeatKeys_any (d : Dk) (l : List UInt8) (t : Int) (w : World) (hs : d.body.length ≤ maxLen) (hl : l.length ≤ maxLen) :
    Calls Try.prog 19 #[dkV d, S l, .int .i64 t] w (DnPost (repeatK d l t) w) := by
  by_cases h : dkOk d = true ∧ l.length ≤ 60 ∧ inB t 0 20 = true
  · unfold repeatK
    rw [if_pos h]
    have hi := inB_iff.1 h.2.2
    obtain ⟨n, rfl⟩ : ∃ n : Nat, t = n := ⟨t.toNat, by omega⟩
    rw [Int.toNat_natCast]
    exact implRepeatKeys_yes d l n w hl h.1 h.2.1 (by omega)
  · unfold repeatK
    rw [if_neg h]
    refine implRepeatKeys_no d l t w hs hl ?_
    by_cases h1 : dkOk d = true
    · by_cases h2 : l.length ≤ 60
      · exact .inr ⟨h1, h2, by rw [Bool.eq_false_iff]; exact fun h3 => h ⟨h1, h2, h3⟩⟩
      · exact .inl (.inr (by omega))
    · exact .inl (.inl (by simpa using h1))

end Go.Proofs.Ytndmidcilbghkaa
