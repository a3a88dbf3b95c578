/- What is proved here: what both functions TableChange give, with the facts that the laws ask. No condition. -/
import Derived.Test.YtlejfmngpbcdhaaTabE
import Derived.Test.YtlejfmngpbcdhaaTabH
import Derived.Test.YtlejfmngpbcdhaaDrawTab
namespace Go.Proofs.Ytlejfmngpbcdhaa
open Go.RowKit
set_option linter.unusedVariables false

theorem tc_out (f m : List UInt8) (ps : List Pc) (x : Ch) (hs : SmallT f m ps) (hp : x.p.length ≤ 1048576) :
    ∃ (f2 m2 : List UInt8) (p2 : List Pc) (ok : Bool), SmallT f2 m2 p2 ∧ (∀ v w, RdP w v ps → Calls Try.prog 23 #[tbAgg f m v, chAgg x] w (TcPost f2 m2 p2 ok w)) ∧ (∀ v w, RdP w v ps → Calls Try.prog 20 #[tbAgg f m v, chAgg x] w (TcPost f2 m2 p2 ok w)) ∧
      ((tbB f m ps = false ∧ f2 = [] ∧ m2 = [] ∧ p2 = [] ∧ ok = false) ∨ (tbB f m ps = true ∧ f2 = f ∧ m2 = m ∧ p2 = ps ∧ ok = false ∧ ¬ (okF (tbT f m ps) x = true ∧ m.length + x.p.length ≤ 400)) ∨
        (tbB f m ps = true ∧ okF (tbT f m ps) x = true ∧ m.length + x.p.length ≤ 400 ∧ ok = true ∧ f2 = f ∧ m2 = m ++ x.p ∧ tbB f m2 p2 = true ∧ tbT f m2 p2 = apF (tbT f m ps) x ∧ p2.length ≤ ps.length + 2)) := by
  obtain ⟨hf, hm, hn⟩ := hs
  rcases hv : tbB f m ps with _ | _
  · exact ⟨[], [], [], false, ⟨by simp, by simp, by simp⟩, fun v w h => implTableChange_no f m v ps x w h hf hm hv, fun v w h => specTableChange_no f m v ps x w h hn hf hm hv, .inl ⟨rfl, rfl, rfl, rfl, rfl⟩⟩
  · by_cases hok : okF (tbT f m ps) x = true ∧ m.length + x.p.length ≤ 400
    · obtain ⟨hok, h4⟩ := hok
      obtain ⟨-, hf1, hm1, -, hall, hsum⟩ := tbB_out hv
      have hc := (okF_in hok).2.2.1
      have hl := tcP_len hall hc
      refine ⟨_, _, _, _, ⟨hf, by rw [List.length_append]; omega, ?_⟩, fun v w h => implTableChange_yes f m v ps x w h hv hok h4, fun v w h => specTableChange_yes f m v ps x w h hv hok h4, .inr (.inr ⟨rfl, hok, h4, rfl, rfl, rfl, tcP_tb hv hok h4, tcP_text x hall, hl⟩)⟩
      have := len_sum (fun p hp' => (pcOk_in (hall p hp')).2.1)
      omega
    · have hbad : okF (tbT f m ps) x = true → 400 < m.length + x.p.length := fun h => by
        rcases Nat.lt_or_ge 400 (m.length + x.p.length) with h4 | h4
        · exact h4
        · exact absurd ⟨h, h4⟩ hok
      exact ⟨f, m, ps, false, ⟨hf, hm, hn⟩, fun v w h => implTableChange_bad f m v ps x w h hv hp hbad, fun v w h => specTableChange_bad f m v ps x w h hv hp hbad, .inr (.inl ⟨rfl, rfl, rfl, rfl, rfl, hok⟩)⟩

end Go.Proofs.Ytlejfmngpbcdhaa
