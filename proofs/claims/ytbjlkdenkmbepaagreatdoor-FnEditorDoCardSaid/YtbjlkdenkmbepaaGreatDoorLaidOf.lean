/- What is proved here: what the laid variables hold, out of a row's condition. No condition. -/
import Derived.Test.YtbjlkdenkmbepaaGreatDoorLaidW
import Derived.Test.YtbjlkdenkmbepaaGreatDoorRows
import Derived.Lib.LaidU8
import Derived.MakeChecks
namespace Go.Proofs.YtbjlkdenkmbepaaGreatDoor
open Go.RowKit

theorem mx_of {w : World} (h : w.ShapedOpen Tryz.prog) : MX w :=
  cell_of_shapedOpen_int (zero := #[.int .i64 0]) (t := 3) h (of_decide_eq_true (by kernel_rfl)) (by kernel_rfl) rfl (by kernel_rfl) (by kernel_rfl) Tryz.underlying3


theorem ifc_of {W : World} {n nm : String} {d : DataW Unit} {g : Nat} {ti : TypeId} {ms : Array (String × TypeId)} (h : Lib.VarReads Tryz.prog W n (.iface nm d)) (hg : Tryz.prog.globalNamed n = some g) (ht : (Tryz.prog.globals[g]?).map (·.type) = some ti) (hi : Tryz.prog.underlying ti = some (.interface ms)) : IFC g W := by
  obtain ⟨g', t', cs, fuel, p, hg', ht', hv, hd⟩ := h
  obtain rfl := Option.some.inj (hg.symm.trans hg')
  obtain rfl := Option.some.inj (ht.symm.trans ht')
  have hc := World.var?_cell hg hv 0
  obtain ⟨l⟩ := cs
  cases fuel with
  | zero => simp [DataW.trod] at hd
  | succ fuel =>
    rcases l with _ | ⟨v, _ | ⟨v2, l⟩⟩
    · simp [DataW.trod, hi] at hd
    · cases v with
      | nilIface => exact ⟨.nilIface, by simpa using hc, .inl rfl⟩
      | iface u v => exact ⟨.iface u v, by simpa using hc, .inr ⟨u, v, rfl⟩⟩
      | _ => simp [DataW.trod, hi] at hd
    · simp [DataW.trod, hi] at hd
theorem lt_of {W : World} (h : Lib.VarReads Tryz.prog W "internal/strconv.uint64pow10" Rows.laid_internal_strconv_uint64pow10) : LT W := by
  obtain ⟨g', t', cs, fuel, p, hg', ht', hv, hd⟩ := h
  obtain rfl := Option.some.inj (pow_named.symm.trans hg')
  have hd2 : DataW.trod (fun _ => ()) Tryz.prog W 0 (fun _ => true) false fuel t' cs.toList = some (Lib.tabData .u64 Lib.pow10Tab, p) := hd
  obtain rfl : t' = 248 := Option.some.inj (ht'.symm.trans (show (Tryz.prog.globals[3]?).map (·.type) = some 248 by kernel_rfl))
  have hct := Lib.cells_of_tab (k := .u64) (zs := Lib.pow10Tab) Tryz.underlying248 Tryz.underlying217 (by kernel_rfl) (by kernel_rfl) hd2
  unfold LT Lib.TabIs
  rw [hv, ← hct]
theorem lt_of2 {W : World} {l : List (String × DataW Unit)} (h : laidMetH Tryz.prog l W) (hl : (l.all fun x => x.2.handleName?.isNone) = true)
    (h1 : ("internal/strconv.uint64pow10", Rows.laid_internal_strconv_uint64pow10) ∈ l) : LT W := by
  rw [MakeChecks.laidMetH_plain _ _ _ hl] at h
  exact lt_of (Lib.laidMet.reads h h1)
theorem lw_of {W : World} {l : List (String × DataW Unit)} (h : laidMetH Tryz.prog l W) (hl : (l.all fun x => x.2.handleName?.isNone) = true)
    (h1 : ("internal/strconv.uint64pow10", Rows.laid_internal_strconv_uint64pow10) ∈ l) (h2 : ("strconv.ErrRange", Rows.laid_strconv_ErrRange) ∈ l) (h3 : ("strconv.ErrSyntax", Rows.laid_strconv_ErrSyntax) ∈ l) (hsh : W.ShapedOpen Tryz.prog) : LW W := by
  rw [MakeChecks.laidMetH_plain _ _ _ hl] at h
  exact ⟨mx_of hsh, ifc_of (Lib.laidMet.reads h h3) (by kernel_rfl) (by kernel_rfl) Tryz.underlying149, ifc_of (Lib.laidMet.reads h h2) (by kernel_rfl) (by kernel_rfl) Tryz.underlying149, lt_of (Lib.laidMet.reads h h1)⟩

end Go.Proofs.YtbjlkdenkmbepaaGreatDoor
