/-
  Small laws for the ends of walks: equations between returned values; a fact kept from the walk's simp. No condition.
-/
import Derived.Test.YtbljihhelladbaaRows
import Derived.WalkKit
namespace Go.Proofs.Ytbljihhelladbaa
open Go.RowKit

theorem getD_lt' {α : Type} (l : List α) (d : α) {i : Nat} (h : i < l.length) : l.getD i d = l[i] := by simp [List.getD_eq_getElem?_getD, h]
theorem hid {p : Prop} (h : p) : Hid p := h
theorem rv {v u : Value} (h : v = u) : Ending.returned v = .returned u := by rw [h]
theorem ri {k : IntKind} {a b : Int} (h : a = b) : Value.int k a = .int k b := by rw [h]
theorem rb {a b : Bool} (h : a = b) : Value.bool a = .bool b := by rw [h]
theorem rt2 {a b c d : Value} (h : a = c) (k : b = d) : Value.tuple #[a, b] = .tuple #[c, d] := by rw [h, k]
theorem rt3 {a b c d e f : Value} (h : a = d) (k : b = e) (l : c = f) : Value.tuple #[a, b, c] = .tuple #[d, e, f] := by rw [h, k, l]

end Go.Proofs.Ytbljihhelladbaa
