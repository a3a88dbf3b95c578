/- What is proved here: contracts of szMoment, szMomentS and szHistory. No condition. -/
import Derived.Test.YtlejfmngpbcdhaaHistM
namespace Go.Proofs.Ytlejfmngpbcdhaa
open Go.RowKit
set_option linter.unusedVariables false

/-- a slice of states as an argument gives it. -/
def RdM0 (w : World) (v : Value) (ms : List Mo) : Prop := RdL w 7 moC v ms ∧ ∀ m ∈ ms, m.f.p.length ≤ maxLen ∧ m.b.p.length ≤ maxLen
theorem RdM0.up {w w' : World} {v : Value} {ms : List Mo} (h : RdM0 w v ms) (hb : Below w.heap.size w w') : RdM0 w' v ms := ⟨h.1.up hb, h.2⟩
theorem RdM0.cells {w : World} {A : Option Addr} {n c : Nat} {ms : List Mo} (h : RdM0 w (.slice A n c) ms) {k : Nat} (hk : k < ms.length) {m : Mo} (e : ms[k] = m) :
    ∃ b o, A = some ⟨b, o, none⟩ ∧ b < w.heap.size ∧ w.cell? ⟨b, o + k * 7, none⟩ = some (.int .i64 m.par) ∧ w.cell? ⟨b, o + k * 7 + 1, none⟩ = some (.int .i64 m.f.a) ∧ w.cell? ⟨b, o + k * 7 + 2, none⟩ = some (.int .i64 m.f.c) ∧
      w.cell? ⟨b, o + k * 7 + 3, none⟩ = some (S m.f.p) ∧ w.cell? ⟨b, o + k * 7 + 4, none⟩ = some (.int .i64 m.b.a) ∧ w.cell? ⟨b, o + k * 7 + 5, none⟩ = some (.int .i64 m.b.c) ∧ w.cell? ⟨b, o + k * 7 + 6, none⟩ = some (S m.b.p) := by
  obtain ⟨b, o, hA, hb, hc⟩ := h.1.cells moC_len hk
  rw [e] at hc
  exact ⟨b, o, hA, hb, hc 0 _ rfl, hc 1 _ rfl, hc 2 _ rfl, hc 3 _ rfl, hc 4 _ rfl, hc 5 _ rfl, hc 6 _ rfl⟩
def moAgg (m : Mo) : Value := .agg #[.int .i64 m.par, .int .i64 m.f.a, .int .i64 m.f.c, S m.f.p, .int .i64 m.b.a, .int .i64 m.b.c, S m.b.p]


/-- the states are few and small. -/
def SmallM (ms : List Mo) : Prop := ms.length ≤ 1048576 ∧ ∀ m ∈ ms, m.f.p.length ≤ 1048576 ∧ m.b.p.length ≤ 1048576
def SzMPost (ms : List Mo) (w : World) (e : Ending) (w' : World) : Prop := ∃ r : Int, e = .returned (.int .i64 r) ∧ r ≤ 1048576 ∧ (0 ≤ r → SmallM ms) ∧ Below w.heap.size w w'



end Go.Proofs.Ytlejfmngpbcdhaa
