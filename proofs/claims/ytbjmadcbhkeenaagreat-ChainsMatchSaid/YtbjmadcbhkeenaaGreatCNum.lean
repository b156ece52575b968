/-
  Numbers modulo 257, plain: the field, Lagrange's sum, Newton's polynomial. No program, no condition.
-/
set_option linter.unusedVariables false
set_option linter.unusedSimpArgs false
namespace Go.Proofs.YtbjmadcbhkeenaaGreat.Fld
theorem getD_lt {α : Type} (l : List α) (d : α) {i : Nat} (h : i < l.length) : l.getD i d = l[i] := by simp [List.getD_eq_getElem?_getD, h]
def ev : List Int → Int → Int
 | [], _ => 0
 | c :: l, x => c + x * ev l x
end Go.Proofs.YtbjmadcbhkeenaaGreat.Fld
namespace Go.Proofs.YtbjmadcbhkeenaaGreat.Fld
def hit (a b : Int) (x : Nat) : Bool := (x : Int) * b % 257 == a
end Go.Proofs.YtbjmadcbhkeenaaGreat.Fld
