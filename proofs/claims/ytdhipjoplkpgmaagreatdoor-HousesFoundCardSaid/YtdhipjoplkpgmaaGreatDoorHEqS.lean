/-
  Shares held against each other. Conditions: the type's form.
-/
import Derived.Test.YtdhipjoplkpgmaaGreatDoorHShs
import Derived.Test.YtdhipjoplkpgmaaGreatDoorHSlInt
import Derived.Test.YtdhipjoplkpgmaaGreatDoorHStA
import Derived.Test.YtdhipjoplkpgmaaGreatDoorHLw
import Derived.Test.YtdhipjoplkpgmaaGreatDoorHEqA
set_option linter.unusedSimpArgs false
set_option linter.unusedVariables false
namespace Go.Proofs.YtdhipjoplkpgmaaGreatDoor.shr
open Go.RowKit
theorem eqFields_cons {P : Program} (w : World) (d : Nat) (xs ys : Array Value) (f : Field) (fs : List Field) (a b : Value) (r : Bool) (hn : f.name ≠ "_") (ha : (part f.type xs f.offset).run P w = .ok a w) (hb : (part f.type ys f.offset).run P w = .ok b w) (hr : (Op.equalIn d f.type a b).run P w = .ok r w) :
  (Op.eqFields d xs ys (f :: fs)).run P w = if r = true then (Op.eqFields d xs ys fs).run P w else .ok false w := by
 rw [Op.eqFields, if_pos hn]
 simp only [Sem.run_bind, ha, hb, Result.andThen_ok, hr]
 cases r <;> simp
end Go.Proofs.YtdhipjoplkpgmaaGreatDoor.shr
