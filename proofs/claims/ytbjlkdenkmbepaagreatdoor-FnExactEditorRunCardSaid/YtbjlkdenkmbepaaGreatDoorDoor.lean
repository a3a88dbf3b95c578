/- What is proved here: facts and contracts that the walks above this text need. No condition. -/
import Derived.Test.YtbjlkdenkmbepaaGreatDoorRows
import Derived.HandedShaped
import Derived.Handed
import Derived.Shelf.Vars
import Derived.Test.YtbjlkdenkmbepaaGreatDoorLaidW
import Derived.Lib.LaidU8
import Derived.MakeChecks
namespace Go.Proofs.YtbjlkdenkmbepaaGreatDoor
open Go

theorem returns_and_shaped {H : Type} {enc : TypeId × Value → H} {a : Assume} {C : Checked} {os : Os} {f : FuncId} {fn : Func} {s : ChangeSpec} {conds : List PathCond} {apart fresh handsOn again : Bool} {X : World → Array Value → Prop}
    (hX : ∀ (w w' : World) (args : Array Value), w.heap = w'.heap → X w args → X w' args)
    (own : ownKnob C.prog.godebug = none) (started : os.Started) (noInit : C.prog.inits.idxOf? f = none) (hfn : C.prog.funcs[f]? = some fn)
    (witness : ∃ (w : World) (tape : Tape) (i : Input), w.os = os ∧ (w.forCall tape i).Shaped C.prog ∧ i.vars = [] ∧ Input.okWide C.prog (w.forCall tape i) .any w.heap.size f i ∧
      ((s.pre enc C.prog fn conds apart (w.forCall tape i).memory i.args ∧ X (w.forCall tape i).memory i.args) ∧ sizedMet enc C.prog fn (OpenSpec.ofChange s) apart (w.forCall tape i).memory i.args) ∧ a.holds C.prog (lone (Frame.enter C.prog f i.args .normal) [] (w.forCall tape i)))
    (contract : ∀ (W : World) (base : Nat) (args : Array Value) (ds gs : List (DataW H)) (before : List MemPlace),
      (∀ (j : Nat) t v, fn.params[j]? = some t → args[j]? = some v → Value.okWide C.prog W .any base t v) →
      DataW.Whole enc C.prog fn.params.toList s.vars apart W args.toList ds gs before →
      conds.all (PathCond.test C.prog ⟨fn.params.toList, ds, s.plain.varTypes C.prog, gs⟩) = true →
      X W args → W.ShapedOpen C.prog →
      Calls C.prog f args W fun e W' => ∃ v, e = .returned v ∧ s.post enc C.prog fn apart fresh handsOn again W args v W') :
    ReturnsInHanded a C os f .any (fun w args => (s.pre enc C.prog fn conds apart w args ∧ X w args) ∧ sizedMet enc C.prog fn (OpenSpec.ofChange s) apart w args) (s.post enc C.prog fn apart fresh handsOn again) := by
  refine returnsInHanded_of_calls own started noInit witness ?_
  intro w tape i _ hsh _ hok hpre _
  obtain ⟨_, _, _, fn', hfn', _, _, _, _, hval⟩ := hok
  have e : fn' = fn := Option.some.inj (hfn'.symm.trans hfn)
  subst e
  obtain ⟨⟨⟨ds, gs, before, hw, hc⟩, hx⟩, _⟩ := hpre
  have hw' := DataW.Whole.of_heap (w' := w.forCall tape i) (by rfl) hw
  refine (contract (w.forCall tape i) w.heap.size i.args ds gs before hval hw' hc (hX _ _ _ (by rfl) hx) hsh).mono fun e W' ⟨v, he, hp⟩ => ?_
  subst he
  exact ChangeSpec.post_blind hp

end Go.Proofs.YtbjlkdenkmbepaaGreatDoor

namespace Go.Proofs.YtbjlkdenkmbepaaGreatDoor
open Go.RowKit

theorem ifc_of {W : World} {n nm : String} {d : DataW Unit} {g : Nat} {ti : TypeId} {ms : Array (String × TypeId)} (h : Lib.VarReads Tryz.prog W n (.iface nm d)) (hg : Tryz.prog.globalNamed n = some g) (ht : (Tryz.prog.globals[g]?).map (·.type) = some ti) (hi : Tryz.prog.underlying ti = some (.interface ms)) : IFC g W := by
  obtain ⟨g', t', cs, fuel, p, hg', ht', hv, hd⟩ := h
  obtain rfl := Option.some.inj (hg.symm.trans hg')
  obtain rfl := Option.some.inj (ht.symm.trans ht')
  have hc := World.var?_cell hg hv 0
  obtain ⟨l⟩ := cs
  cases fuel with
  | zero => simp [DataW.trod] at hd
  | succ fuel =>
    rcases l with _ | ⟨v, _ | ⟨v2, l⟩⟩
    · simp [DataW.trod, hi] at hd
    · cases v with
      | nilIface => exact ⟨.nilIface, by simpa using hc, .inl rfl⟩
      | iface u v => exact ⟨.iface u v, by simpa using hc, .inr ⟨u, v, rfl⟩⟩
      | _ => simp [DataW.trod, hi] at hd
    · simp [DataW.trod, hi] at hd
theorem lt_of {W : World} (h : Lib.VarReads Tryz.prog W "internal/strconv.uint64pow10" Rows.laid_internal_strconv_uint64pow10) : LT W := by
  obtain ⟨g', t', cs, fuel, p, hg', ht', hv, hd⟩ := h
  obtain rfl := Option.some.inj (pow_named.symm.trans hg')
  have hd2 : DataW.trod (fun _ => ()) Tryz.prog W 0 (fun _ => true) false fuel t' cs.toList = some (Lib.tabData .u64 Lib.pow10Tab, p) := hd
  obtain rfl : t' = 248 := Option.some.inj (ht'.symm.trans (show (Tryz.prog.globals[3]?).map (·.type) = some 248 by kernel_rfl))
  have hct := Lib.cells_of_tab (k := .u64) (zs := Lib.pow10Tab) Tryz.underlying248 Tryz.underlying217 (by kernel_rfl) (by kernel_rfl) hd2
  unfold LT Lib.TabIs
  rw [hv, ← hct]
theorem lw_of {W : World} {l : List (String × DataW Unit)} (h : laidMetH Tryz.prog l W) (hl : (l.all fun x => x.2.handleName?.isNone) = true)
    (h1 : ("internal/strconv.uint64pow10", Rows.laid_internal_strconv_uint64pow10) ∈ l) (h2 : ("strconv.ErrRange", Rows.laid_strconv_ErrRange) ∈ l) (h3 : ("strconv.ErrSyntax", Rows.laid_strconv_ErrSyntax) ∈ l) (hsh : W.ShapedOpen Tryz.prog) : LW W := by
  rw [MakeChecks.laidMetH_plain _ _ _ hl] at h
  exact ⟨mx_of hsh, ifc_of (Lib.laidMet.reads h h3) (by kernel_rfl) (by kernel_rfl) Tryz.underlying149, ifc_of (Lib.laidMet.reads h h2) (by kernel_rfl) (by kernel_rfl) Tryz.underlying149, lt_of (Lib.laidMet.reads h h1)⟩

end Go.Proofs.YtbjlkdenkmbepaaGreatDoor
