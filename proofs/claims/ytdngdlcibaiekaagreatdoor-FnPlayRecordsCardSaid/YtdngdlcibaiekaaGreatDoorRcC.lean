/- What is proved here: contracts of strings.SplitN at one space and of strconv.Atoi, in plain words. Condition: what the library's variables hold. -/
import Derived.Test.YtdngdlcibaiekaaGreatDoorRcB
import Derived.Test.YtdngdlcibaiekaaGreatDoorLaidW
import Derived.Test.YtdngdlcibaiekaaGreatDoorStrC
import Derived.Test.YtdngdlcibaiekaaGreatDoorShelf
namespace Go.Proofs.YtdngdlcibaiekaaGreatDoor
open Go.RowKit
set_option linter.unusedVariables false

def WdsPost (s : List UInt8) (w : World) (e : Ending) (w' : World) : Prop := ∃ c, e = .returned (.slice (some ⟨w.heap.size, 0, none⟩) (wds s).length c) ∧ (∀ j, j < (wds s).length → w'.cell? ⟨w.heap.size, j, none⟩ = some (S ((wds s).getD j []))) ∧ w.heap.size < w'.heap.size ∧ Below w.heap.size w w'
theorem splitN_any (s : List UInt8) (w : World) (h : MX w) (hs : s.length ≤ 1048577) :
    Calls Tryz.prog 38 #[S s, S [32], .int .i64 3] w (WdsPost s w) := by
  obtain ⟨m, hm⟩ := h
  refine (Tryz.strings_SplitN ⟨s.toArray⟩ ⟨[32].toArray⟩ 3 m w (show s.length < 4294967281 by omega) hm (by decide) (by omega) (by omega)).mono ?_
  rintro e w' ⟨he, hw⟩
  have hd := Lib.splitB_data ⟨[32].toArray⟩ 0 (min 3 (s.length + 1) - 1) ⟨s.toArray⟩
  have hz : (⟨s.toArray⟩ : ByteArray).size = s.length := rfl
  rw [hz] at he hw
  generalize Lib.splitB ⟨[32].toArray⟩ 0 (min 3 (s.length + 1) - 1) ⟨s.toArray⟩ = W at *
  have hwd : wds s = W.map (·.data.toList) := hd.symm
  have hlen : (wds s).length = W.length := by rw [hwd, List.length_map]
  refine ⟨_, by rw [hlen]; exact he, fun j hj => ?_, by rw [hw]; simp, by rw [hw]; exact up_alloc (Below.refl _ _) _⟩
  rw [hlen] at hj
  have hg : (wds s).getD j [] = W[j].data.toList := by
    rw [hwd, List.getD_eq_getElem?_getD, List.getElem?_map, List.getElem?_eq_getElem hj]
    rfl
  rw [hw, hg]
  have hc : (w.alloc (.cells (Lib.cellsOf W (min 3 (s.length + 1))) 9)).cell? ⟨w.heap.size, j, none⟩ = (Lib.cellsOf W (min 3 (s.length + 1)))[j]? := by simp only [go_sem]
  rw [hc]
  unfold Lib.cellsOf
  rw [List.getElem?_toArray, List.getElem?_append_left (by rw [List.length_map]; exact hj), List.getElem?_map, List.getElem?_eq_getElem hj]
  rfl
def AtPost (v : Int) (w : World) (e : Ending) (w' : World) : Prop := ∃ er, e = .returned (.tuple #[.int .i64 v, er]) ∧ Below w.heap.size w w'
theorem atoi_any (l : List UInt8) (w : World) (h : LW w) (hl : l.length ≤ 1048577) :
    Calls Tryz.prog 40 #[S l] w (AtPost (atV l) w) := by
  have hsz : (⟨l.toArray⟩ : ByteArray).size ≤ 281474976710656 := show l.length ≤ _ by omega
  cases hk : Lib.atoiAll l
  · rename_i v
    refine (Tryz.strconv_Atoi_ok ⟨l.toArray⟩ (show l.length ≤ _ by omega) v hk w).mono ?_
    rintro e w' ⟨he, hw⟩
    refine ⟨.nilIface, by rw [he]; unfold atV; rw [hk], ?_⟩
    rcases hw with rfl | ⟨t, rfl⟩
    · exact Below.refl _ _
    · exact Lib.bytesWorld_below w _ _
  · obtain ⟨ev, hv, hev⟩ := h.syn
    refine (Any.strconv_Atoi_syntax Tryz.laysC172 ⟨l.toArray⟩ hsz hk ev w hv hev).mono ?_
    rintro e w' ⟨N, he, _, _, hb⟩
    exact ⟨_, by rw [he]; unfold atV; rw [hk], hb⟩
  · obtain ⟨ev, hv, hev⟩ := h.rng
    refine (Tryz.strconv_Atoi_range ⟨l.toArray⟩ hsz hk ev w hv hev).mono ?_
    rintro e w' ⟨N, he, _, _, hb⟩
    exact ⟨_, by rw [he]; unfold atV; rw [hk], hb⟩

end Go.Proofs.YtdngdlcibaiekaaGreatDoor
