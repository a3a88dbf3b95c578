/- What is proved here: the contract of slices.Delete at open files, of one file. No condition. -/
import Derived.Test.YtlejfmngpbcdhaaClo0
import Derived.Shelf.RegionOpenPlain
namespace Go.Proofs.Ytlejfmngpbcdhaa
open Go.RowKit

theorem cut_facts (base : Nat) (bs : List Bf) (k j g cap : Nat) (w : World) (hj : j = k + 1) (hk : k < bs.length) (hcap : bs.length ≤ cap) (ho : Own w base 37 3 (.slice (some ⟨g, 0, none⟩) bs.length cap) bs.length (bs.flatMap bfC)) :
    ∃ news A W1, (if cap = j then some (⟨g, 0, none⟩ : Addr) else some ⟨g, j * 3, none⟩) = some A ∧ Hid (∀ t u, news[t]? = some u → w.drew.cell? (A.add t) = some u) ∧ Hid (news.length = (bs.length - j) * 3) ∧ Hid (∀ u ∈ news, u.oneCell' = true) ∧
      Hid (∀ t, t < news.length → (w.drew.cell? ⟨g, 0 + k * 3 + t, none⟩).isSome = true ∧ w.drew.frozen? ⟨g, 0 + k * 3 + t, none⟩ = false) ∧ Hid (W1 = w.drew.setCells g (0 + k * 3) news) ∧
      Hid (Own W1 base 37 3 (.slice (some ⟨g, 0, none⟩) (k + (bs.length - j)) cap) (outK bs k).length ((outK bs k).flatMap bfC)) ∧ Hid (w.grownBy W1 (some g)) := by
  obtain ⟨news, hnews⟩ : ∃ news, news = (bs.drop j).flatMap bfC := ⟨_, rfl⟩
  have hlen : news.length = (bs.length - j) * 3 := by rw [hnews, flat_len bfC 3 bfC_len, List.length_drop]
  have hxl : (bs.flatMap bfC).length = bs.length * 3 := flat_len bfC 3 bfC_len _
  have hod := own_up ho (Below.drew (Below.refl _ w))
  have hcell : ∀ t, t < bs.length * 3 → w.drew.cell? ⟨g, t, none⟩ = (bs.flatMap bfC)[t]? := fun t ht => hod.cellAt t ht
  have hget : ∀ t u, news[t]? = some u → w.drew.cell? ⟨g, j * 3 + t, none⟩ = some u := by
    intro t u hu
    have ht : t < news.length := (List.getElem?_eq_some_iff.1 hu).1
    rw [hcell _ (by omega), ← hu, hnews, flat_drop bfC 3 bfC_len, List.getElem?_drop]
  obtain ⟨A, hA, hsrc⟩ : ∃ A : Addr, (if cap = j then some (⟨g, 0, none⟩ : Addr) else some ⟨g, j * 3, none⟩) = some A ∧ Hid (∀ t u, news[t]? = some u → w.drew.cell? (A.add t) = some u) := by
    by_cases h : cap = j
    · refine ⟨⟨g, 0, none⟩, by simp [h], fun t u hu => ?_⟩
      have h0 : news.length = 0 := by rw [hlen]; omega
      rw [List.length_eq_zero_iff.1 h0] at hu
      simp at hu
    · refine ⟨⟨g, j * 3, none⟩, by simp [h], fun t u hu => ?_⟩
      rw [Addr.add_lit]
      exact hget t u hu
  have s1 : Hid (news.length = (bs.length - j) * 3) := hlen
  have s2 : Hid (∀ u ∈ news, u.oneCell' = true) := by
    rw [hnews]; exact bf_oneCell _
  have s3 : Hid (∀ t, t < news.length → (w.drew.cell? ⟨g, 0 + k * 3 + t, none⟩).isSome = true ∧ w.drew.frozen? ⟨g, 0 + k * 3 + t, none⟩ = false) := by
    intro t ht
    rw [hlen] at ht
    refine ⟨?_, hod.frozenAt _⟩
    rw [hcell _ (by omega), List.getElem?_eq_getElem (by rw [hxl]; omega)]
    rfl
  obtain ⟨W1, hW1⟩ : ∃ W1, W1 = w.drew.setCells g (0 + k * 3) news := ⟨_, rfl⟩
  have o1 := own_setCells news (0 + k * 3) w.drew _ hod
  rw [← hW1] at o1
  have o3 := own_pre o1.1 (show k + (bs.length - j) ≤ bs.length by omega)
  refine ⟨news, A, W1, hA, hsrc, s1, s2, s3, hW1, ?_, gb_trans (gb_drew (World.grownBy.refl _ _)) o1.2⟩
  have e1 : (outK bs k).flatMap bfC = (bs.flatMap bfC).take (k * 3) ++ news := by
    rw [hnews, hj, outK, List.flatMap_append, flat_take bfC 3 bfC_len]
  have e2 := setL_pre news (bs.flatMap bfC) (0 + k * 3) (by rw [hlen, hxl]; omega)
  rw [show (k + (bs.length - j)) * 3 = 0 + k * 3 + news.length by rw [hlen]; omega, e2, Nat.zero_add, ← e1] at o3
  rw [outK_len bs k hk, ← hj]
  exact o3

end Go.Proofs.Ytlejfmngpbcdhaa
