/-
  Numbers modulo 257, plain: the field, Lagrange's sum, Newton's polynomial. No program, no condition.
-/
set_option linter.unusedVariables false
set_option linter.unusedSimpArgs false
namespace Go.Proofs.YtdhipjoplkpgmaaGreatDoor.Fld
def ev : List Int → Int → Int
 | [], _ => 0
 | c :: l, x => c + x * ev l x
end Go.Proofs.YtdhipjoplkpgmaaGreatDoor.Fld
namespace Go.Proofs.YtdhipjoplkpgmaaGreatDoor.Fld
def hit (a b : Int) (x : Nat) : Bool := (x : Int) * b % 257 == a
end Go.Proofs.YtdhipjoplkpgmaaGreatDoor.Fld
