/- What is proved here: the contract of the reference's EditorDo. No condition. -/
import Derived.Test.YtbjlkdenkmbepaaGreatDoorSp3a
import Derived.Test.YtbjlkdenkmbepaaGreatDoorSp3c
import Derived.Test.YtbjlkdenkmbepaaGreatDoorSp3j
import Derived.Test.YtbjlkdenkmbepaaGreatDoorSp3g
import Derived.Test.YtbjlkdenkmbepaaGreatDoorSp3i
import Derived.Test.YtbjlkdenkmbepaaGreatDoorEverL
namespace Go.Proofs.YtbjlkdenkmbepaaGreatDoor
open Go.RowKit
set_option linter.unusedVariables false

/-- EditorDo of the reference at a valid editor. -/
theorem specEditorDo_any (v : Value) (e : Es) (o : List (List UInt8)) (a : List UInt8) (w : World) (h : RdM w v e.ms) (hin : EdIn e o) (hl : a.length ≤ 1048576) :
    Calls Tryz.prog 19 #[edW e v, S a] w (EdOut w.heap.size (edDo e o (akOf a)) e w) := by
  rcases akOf_cases a with ⟨h1, e1⟩ | ⟨h1, e1⟩ | ⟨h1, e1⟩ | ⟨h1, e1⟩ | ⟨h1, e1⟩ | ⟨h1, e1⟩ | ⟨h1, e1⟩ | ⟨r, h1, e1⟩ | ⟨r, h1, e1⟩ | ⟨r, h1, e1⟩ | ⟨e1, h1, h2, h3, h4, h5, h6, h7, n1, n2, n3⟩
  · rw [e1]; exact sdo_line e o v a w h hin h1
  · rw [e1]
    by_cases hfz : waA e.s e.x.toNat = waZ e.s e.x.toNat
    · exact sdo_cut0 e o v a w h hin h1 hfz
    · exact sdo_cut1 e o v a w h hin h1 hfz
  · rw [e1]
    by_cases hc : e.cl = []
    · exact sdo_paste0 e o v a w h hin h1 hc
    · exact sdo_paste1 e o v a w h hin h1 hc
  · rw [e1]; exact sdo_right e o v a w h hin h1
  · rw [e1]; exact sdo_left e o v a w h hin h1
  · rw [e1]; exact sdo_undo e o v a w h hin h1
  · rw [e1]; exact sdo_redo e o v a w h hin h1
  · rw [e1]
    by_cases hy : r = []
    · exact sdo_no e o v a [112, 117, 116] r w h hin hl h1 (by decide) _ (by show (if r = [] then none else _) = none; rw [if_pos hy]) (.inl ⟨by unfold NmF; decide, hy⟩)
    · exact sdo_put e o v a [112, 117, 116] r w h hin hl h1 (by decide) rfl hy
  · rw [e1]
    by_cases hy : r = []
    · exact sdo_no e o v a [102, 105, 110, 100] r w h hin hl h1 (by decide) _ (by show (if fnx e.s r (e.x.toNat + 1) < 0 then none else _) = none; rw [if_pos (by rw [fnx_out (fun h => h.2 hy)]; decide)]) (.inr (.inr (.inr (.inr (.inr (.inr (.inl ⟨by unfold NmF; decide, hy⟩)))))))
    · exact sdo_find e o v a [102, 105, 110, 100] r w h hin hl h1 (by decide) rfl hy
  · rw [e1]
    by_cases hy : r = []
    · refine sdo_no e o v a [114, 117, 110] r w h hin hl h1 (by decide) _ ?_ (.inr (.inr (.inr (.inr (.inr (.inr (.inr (.inl ⟨by unfold NmF; decide, hy⟩))))))))
      have hr : rnL e.s r = none := by
        unfold rnL
        rw [hy, rng_no _ (by simp) (num_empty (by simp))]
      show (match rnL e.s r with | none => none | some y => edCh e (dfC e.s y) e.cl) = none
      rw [hr]
    · cases hrn : rnL e.s r with
      | none => exact sdo_run0 e o v a [114, 117, 110] r w h hin hl h1 (by decide) rfl hy hrn
      | some y0 => exact sdo_run1 e o v a [114, 117, 110] r w h hin hl h1 (by decide) rfl hy y0 hrn
  · rw [e1]
    have hR : edDo e o .no = none := rfl
    rcases sp_split2 a with hs | ⟨x, y, hxy, hs⟩
    · by_cases p1 : a = [112, 117, 116]
      · exact sdo_pn e o v a w h hin hl hs _ hR (.inl (by rw [p1]; unfold NmF; decide))
      by_cases p2 : a = [102, 105, 110, 100]
      · exact sdo_pn e o v a w h hin hl hs _ hR (.inr (.inl (by rw [p2]; unfold NmF; decide)))
      by_cases p3 : a = [114, 117, 110]
      · exact sdo_pn e o v a w h hin hl hs _ hR (.inr (.inr (.inl (by rw [p3]; unfold NmF; decide))))
      exact sdo_pn e o v a w h hin hl hs _ hR (.inr (.inr (.inr ⟨by simpa using p1, by simpa using h1, by simpa using h2, by simpa using h3, by simpa using h4, by simpa using h5, by simpa using p2, by simpa using p3, by simpa using h6, by simpa using h7⟩)))
    · by_cases q0 : x = [112, 117, 116]
      · exact absurd (by rw [hxy, q0]; rfl) (n1 y)
      by_cases q6 : x = [102, 105, 110, 100]
      · exact absurd (by rw [hxy, q6]; rfl) (n2 y)
      by_cases q7 : x = [114, 117, 110]
      · exact absurd (by rw [hxy, q7]; rfl) (n3 y)
      by_cases q1 : x = [108, 105, 110, 101]
      · exact sdo_no e o v a x y w h hin hl hxy hs _ hR (.inr (.inl ⟨by rw [q1]; unfold NmF; decide, trivial⟩))
      by_cases q2 : x = [99, 117, 116]
      · exact sdo_no e o v a x y w h hin hl hxy hs _ hR (.inr (.inr (.inl ⟨by rw [q2]; unfold NmF; decide, trivial⟩)))
      by_cases q3 : x = [112, 97, 115, 116, 101]
      · exact sdo_no e o v a x y w h hin hl hxy hs _ hR (.inr (.inr (.inr (.inl ⟨by rw [q3]; unfold NmF; decide, trivial⟩))))
      by_cases q4 : x = [114, 105, 103, 104, 116]
      · exact sdo_no e o v a x y w h hin hl hxy hs _ hR (.inr (.inr (.inr (.inr (.inl ⟨by rw [q4]; unfold NmF; decide, trivial⟩)))))
      by_cases q5 : x = [108, 101, 102, 116]
      · exact sdo_no e o v a x y w h hin hl hxy hs _ hR (.inr (.inr (.inr (.inr (.inr (.inl ⟨by rw [q5]; unfold NmF; decide, trivial⟩))))))
      by_cases q8 : x = [117, 110, 100, 111]
      · exact sdo_no e o v a x y w h hin hl hxy hs _ hR (.inr (.inr (.inr (.inr (.inr (.inr (.inr (.inr (.inl ⟨by rw [q8]; unfold NmF; decide, trivial⟩)))))))))
      by_cases q9 : x = [114, 101, 100, 111]
      · exact sdo_no e o v a x y w h hin hl hxy hs _ hR (.inr (.inr (.inr (.inr (.inr (.inr (.inr (.inr (.inr (.inl ⟨by rw [q9]; unfold NmF; decide, trivial⟩))))))))))
      exact sdo_no e o v a x y w h hin hl hxy hs _ hR (.inr (.inr (.inr (.inr (.inr (.inr (.inr (.inr (.inr (.inr ⟨⟨by simpa using q0, by simpa using q1, by simpa using q2, by simpa using q3, by simpa using q4, by simpa using q5, by simpa using q6, by simpa using q7, by simpa using q8, by simpa using q9⟩, trivial⟩))))))))))

/-- a valid editor; and one that is small. -/
def EVal (e : Es) : Prop := ∃ o, EdIn e o
def EWk (e : Es) : Prop := e.s.length ≤ 120 ∧ e.cl.length ≤ 120 ∧ e.ms.length ≤ 30 ∧ ∀ m ∈ e.ms, m.f.p.length ≤ 1048576 ∧ m.b.p.length ≤ 1048576
theorem EVal.weak {e : Es} (h : EVal e) : EWk e := by
  obtain ⟨o, h⟩ := h
  refine ⟨tv_len h.g.t, tv_len h.c, h.g.n30, fun m hm => ?_⟩
  obtain ⟨k, hk, rfl⟩ := List.getElem_of_mem hm
  have := h.g.put hk
  rw [getD_at _ m0 k hk] at this
  omega

end Go.Proofs.YtbjlkdenkmbepaaGreatDoor
