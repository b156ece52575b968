/-
  Contracts of share.points and keyref2.places: places and values of an octet, in rows of the call's own. Conditions: shares of the type's form, 2^40 at most. Contracts of share.said and share.lies. Conditions: the polynomials through good shares; a share of the type's form at a place from 0 to 256.
-/
import Derived.Test.YtdhipjoplkpgmaaGreatDoorHShs
import Derived.Test.YtdhipjoplkpgmaaGreatDoorHSlInt
import Derived.Test.YtdhipjoplkpgmaaGreatDoorHStA
import Derived.Test.YtdhipjoplkpgmaaGreatDoorHLw
import Derived.Test.YtdhipjoplkpgmaaGreatDoorHEqA
import Derived.Test.YtdhipjoplkpgmaaGreatDoorHStX
import Derived.Test.YtdhipjoplkpgmaaGreatDoorHMem
import Derived.Test.YtdhipjoplkpgmaaGreatDoorHShBC
import Derived.Deep.RegionHeld3
import Derived.Deep.MidRow
set_option linter.unusedVariables false
set_option linter.unusedSimpArgs false
namespace Go.Proofs.YtdhipjoplkpgmaaGreatDoor.shr
open Go.RowKit sh
theorem infoI : Info Tryz.prog 3 (.int .i64 0) 1 8 := by unfold Info; kernel_rfl
end Go.Proofs.YtdhipjoplkpgmaaGreatDoor.shr
namespace Go.Proofs.YtdhipjoplkpgmaaGreatDoor.shr
open Go.RowKit sh Fld
theorem aggKey : Agg Tryz.prog 23 32 := Agg.arr Tryz.underlying23 (by kernel_rfl)
def zero32 : List Value := (List.replicate 32 0).map (Value.int .u8)
theorem zeroKey : (Tryz.prog.info? 23).map (·.zero) = some (some (.agg zero32.toArray)) := by kernel_rfl
end Go.Proofs.YtdhipjoplkpgmaaGreatDoor.shr
