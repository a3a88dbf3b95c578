/- What is proved here: What is proved here: plain facts: the words of a record, and the numbers that they spell. What is proved here: contracts of strings.SplitN at one space and of strconv.Atoi, in plain words. Condition: what the library's variables hold. No condition. -/
import Derived.Test.YtbjlkdenkmbepaaGreatDoorRc9
import Derived.Lib.Split
import Derived.Lib.AtoiAll
import Derived.Test.YtbjlkdenkmbepaaGreatDoorLaidW
import Derived.Test.YtbjlkdenkmbepaaGreatDoorStrC
import Derived.Test.YtbjlkdenkmbepaaGreatDoorShelf
namespace Go.Proofs.YtbjlkdenkmbepaaGreatDoor
open Go.RowKit

theorem index_first (c : UInt8) : ∀ (x y : List UInt8), (∀ b ∈ x, b ≠ c) → Lib.index (x ++ c :: y) [c] = (x.length : Int)
  | [], y, _ => by
    rw [List.nil_append, Lib.index]
    simp [List.isPrefixOf]
  | b :: x, y, h => by
    have ih := index_first c x y fun d hd => h d (by simp [hd])
    have hb : b ≠ c := h b (by simp)
    have hp : [c].isPrefixOf (b :: (x ++ c :: y)) = false := by
      simp [List.isPrefixOf]
      exact fun e => hb e.symm
    rw [List.cons_append, Lib.index, hp, ih]
    simp
theorem split_first (c : UInt8) (k : Nat) (x y : List UInt8) (h : ∀ b ∈ x, b ≠ c) : Lib.splitK [c] 0 (k + 1) (x ++ c :: y) = x :: Lib.splitK [c] 0 k y := by
  rw [Lib.splitK, index_first c x y h, if_neg (by simp)]
  simp
/-- the words of a text: three at most. -/
def wds (s : List UInt8) : List (List UInt8) := Lib.splitK [32] 0 (min 3 (s.length + 1) - 1) s
theorem wds_rec {s : List UInt8} {a b : Nat} {p : List UInt8} (h : IsRec s a b p) : wds s = [nm a, nm b, esc p ++ 32 :: nm (smS 0 (recB a b p))] := by
  obtain ⟨_, _, _, rfl⟩ := h
  have e : recX a b p = nm a ++ 32 :: (nm b ++ 32 :: (esc p ++ 32 :: nm (smS 0 (recB a b p)))) := by simp [recX, recB]
  have h2 : min 3 ((recX a b p).length + 1) - 1 = 2 := by
    rw [e]
    simp only [List.length_append, List.length_cons]
    omega
  unfold wds
  rw [h2, e, split_first 32 1 _ _ (no32 a), split_first 32 0 _ _ (no32 b)]
  rfl
theorem splitK_len (c : UInt8) : ∀ (k : Nat) (s : List UInt8), (Lib.splitK [c] 0 k s).length ≤ k + 1
  | 0, s => Nat.le_refl _
  | k + 1, s => by
    rw [Lib.splitK]
    split
    · simp
    · have := splitK_len c k (s.drop ((Lib.index s [c]).toNat + [c].length))
      rw [List.length_cons]
      omega
theorem splitK_word (c : UInt8) : ∀ (k : Nat) (s t : List UInt8), t ∈ Lib.splitK [c] 0 k s → t.length ≤ s.length
  | 0, s, t, h => by
    rw [Lib.splitK, List.mem_singleton] at h
    rw [h]
    exact Nat.le_refl _
  | k + 1, s, t, h => by
    rw [Lib.splitK] at h
    split at h
    · rw [List.mem_singleton] at h
      rw [h]
      exact Nat.le_refl _
    · rw [List.mem_cons] at h
      rcases h with h | h
      · rw [h, List.length_take]; omega
      · have := splitK_word c k _ t h
        rw [List.length_drop] at this
        omega
theorem wds_len (s : List UInt8) : (wds s).length ≤ 3 := by
  have := splitK_len 32 (min 3 (s.length + 1) - 1) s
  unfold wds
  omega
theorem wds_word {s t : List UInt8} (h : t ∈ wds s) : t.length ≤ s.length := splitK_word 32 _ s t h
/-- the number that strconv.Atoi returns. -/
def atV (l : List UInt8) : Int := match Lib.atoiAll l with
  | .ok v => v
  | .range => Lib.atoiSat l
  | _ => 0
theorem vl_ge : ∀ (l : List UInt8) (n : Nat), n ≤ vl n l
  | [], n => Nat.le_refl _
  | c :: l, n => by
    have := vl_ge l (10 * n + (c.toNat - 48))
    show n ≤ vl (10 * n + (c.toNat - 48)) l
    omega
theorem parse_digits : ∀ (l : List UInt8) (n : Nat), (∀ c ∈ l, 48 ≤ c.toNat ∧ c.toNat ≤ 57) → vl n l < 1000000000000000000 → Lib.parseUint10 n l = .ok (vl n l)
  | [], n, _, _ => rfl
  | c :: l, n, hd, hv => by
    have hc := hd c (by simp)
    have h1 : vl n (c :: l) = vl (10 * n + (c.toNat - 48)) l := rfl
    rw [h1] at hv
    have h2 := vl_ge l (10 * n + (c.toNat - 48))
    rw [Lib.parseUint10, if_pos hc, if_neg (by omega), if_neg (by omega), h1, Nat.mul_comm n 10]
    exact parse_digits l _ (fun d hd2 => hd d (by simp [hd2])) hv
theorem atV_nm {a : Nat} (h : a < 1000) : atV (nm a) = a := by
  have hd := nm_digits a
  have hp := nm_pos a
  have hv : vl 0 (nm a) = a := vl_nm a
  have key : Lib.atoiAll (nm a) = .ok (a : Int) := by
    cases hl : nm a with
    | nil => rw [hl] at hp; simp at hp
    | cons c r =>
      rw [hl] at hd hv
      have hc := hd c (by simp)
      have hm : Lib.parseMag (c :: r) = .ok a := by
        unfold Lib.parseMag
        rw [if_neg (by simp), parse_digits (c :: r) 0 hd (by rw [hv]; omega), hv]
      unfold Lib.atoiAll
      simp only
      rw [if_neg (by omega), hm]
      simp only
      rw [if_neg (by omega), if_neg (by omega), if_neg (by omega)]
  unfold atV
  rw [key]
/-- what the words lead to. -/
def wCh (s : List UInt8) : List UInt8 := uneA ((wds s).getD 2 []) (lsp ((wds s).getD 2 []) - 1) 0
theorem wd_no1 {s : List UInt8} (h : (wds s).length < 3) : rdM s = none := not_rec fun a b p k => by
  rw [wds_rec k] at h
  simp at h
theorem wd_no2 {s : List UInt8} (h : lsp ((wds s).getD 2 []) = 0) : rdM s = none := not_rec fun a b p k => by
  rw [wds_rec k] at h
  have h2 : lsp (esc p ++ 32 :: nm (smS 0 (recB a b p))) = 0 := h
  rw [lsp_tail _ _ (no32 _)] at h2
  omega
theorem wd_no3 {s : List UInt8} (h : recT (atV ((wds s).getD 0 [])) (atV ((wds s).getD 1 [])) (wCh s) ≠ s) : rdM s = none := not_rec fun a b p k => by
  refine h ?_
  unfold wCh
  rw [wds_rec k]
  show recT (atV (nm a)) (atV (nm b)) (uneA (esc p ++ 32 :: nm (smS 0 (recB a b p))) (lsp (esc p ++ 32 :: nm (smS 0 (recB a b p))) - 1) 0) = s
  have h1 := k.1
  have h2 := k.2.1
  rw [lsp_tail _ _ (no32 _), Nat.add_sub_cancel, atV_nm (by omega), atV_nm (by omega)]
  unfold uneA
  rw [List.take_left, List.drop_zero, une_esc]
  exact k.text.1

end Go.Proofs.YtbjlkdenkmbepaaGreatDoor

namespace Go.Proofs.YtbjlkdenkmbepaaGreatDoor
open Go.RowKit
set_option linter.unusedVariables false

def WdsPost (s : List UInt8) (w : World) (e : Ending) (w' : World) : Prop := ∃ c, e = .returned (.slice (some ⟨w.heap.size, 0, none⟩) (wds s).length c) ∧ (∀ j, j < (wds s).length → w'.cell? ⟨w.heap.size, j, none⟩ = some (S ((wds s).getD j []))) ∧ w.heap.size < w'.heap.size ∧ Below w.heap.size w w'
theorem splitN_any (s : List UInt8) (w : World) (h : MX w) (hs : s.length ≤ 1048577) :
    Calls Tryz.prog 154 #[S s, S [32], .int .i64 3] w (WdsPost s w) := by
  obtain ⟨m, hm⟩ := h
  refine (Tryz.strings_SplitN ⟨s.toArray⟩ ⟨[32].toArray⟩ 3 m w (show s.length < 4294967281 by omega) hm (by decide) (by omega) (by omega)).mono ?_
  rintro e w' ⟨he, hw⟩
  have hd := Lib.splitB_data ⟨[32].toArray⟩ 0 (min 3 (s.length + 1) - 1) ⟨s.toArray⟩
  have hz : (⟨s.toArray⟩ : ByteArray).size = s.length := rfl
  rw [hz] at he hw
  generalize Lib.splitB ⟨[32].toArray⟩ 0 (min 3 (s.length + 1) - 1) ⟨s.toArray⟩ = W at *
  have hwd : wds s = W.map (·.data.toList) := hd.symm
  have hlen : (wds s).length = W.length := by rw [hwd, List.length_map]
  refine ⟨_, by rw [hlen]; exact he, fun j hj => ?_, by rw [hw]; simp, by rw [hw]; exact up_alloc (Below.refl _ _) _⟩
  rw [hlen] at hj
  have hg : (wds s).getD j [] = W[j].data.toList := by
    rw [hwd, List.getD_eq_getElem?_getD, List.getElem?_map, List.getElem?_eq_getElem hj]
    rfl
  rw [hw, hg]
  have hc : (w.alloc (.cells (Lib.cellsOf W (min 3 (s.length + 1))) 9)).cell? ⟨w.heap.size, j, none⟩ = (Lib.cellsOf W (min 3 (s.length + 1)))[j]? := by simp only [go_sem]
  rw [hc]
  unfold Lib.cellsOf
  rw [List.getElem?_toArray, List.getElem?_append_left (by rw [List.length_map]; exact hj), List.getElem?_map, List.getElem?_eq_getElem hj]
  rfl
def AtPost (v : Int) (w : World) (e : Ending) (w' : World) : Prop := ∃ er, e = .returned (.tuple #[.int .i64 v, er]) ∧ Below w.heap.size w w'
theorem atoi_any (l : List UInt8) (w : World) (h : LW w) (hl : l.length ≤ 1048577) :
    Calls Tryz.prog 156 #[S l] w (AtPost (atV l) w) := by
  have hsz : (⟨l.toArray⟩ : ByteArray).size ≤ 281474976710656 := show l.length ≤ _ by omega
  cases hk : Lib.atoiAll l
  · rename_i v
    refine (Tryz.strconv_Atoi_ok ⟨l.toArray⟩ (show l.length ≤ _ by omega) v hk w).mono ?_
    rintro e w' ⟨he, hw⟩
    refine ⟨.nilIface, by rw [he]; unfold atV; rw [hk], ?_⟩
    rcases hw with rfl | ⟨t, rfl⟩
    · exact Below.refl _ _
    · exact Lib.bytesWorld_below w _ _
  · obtain ⟨ev, hv, hev⟩ := h.syn
    refine (Any.strconv_Atoi_syntax Tryz.laysC172 ⟨l.toArray⟩ hsz hk ev w hv hev).mono ?_
    rintro e w' ⟨N, he, _, _, hb⟩
    exact ⟨_, by rw [he]; unfold atV; rw [hk], hb⟩
  · obtain ⟨ev, hv, hev⟩ := h.rng
    refine (Tryz.strconv_Atoi_range ⟨l.toArray⟩ hsz hk ev w hv hev).mono ?_
    rintro e w' ⟨N, he, _, _, hb⟩
    exact ⟨_, by rw [he]; unfold atV; rw [hk], hb⟩

end Go.Proofs.YtbjlkdenkmbepaaGreatDoor
