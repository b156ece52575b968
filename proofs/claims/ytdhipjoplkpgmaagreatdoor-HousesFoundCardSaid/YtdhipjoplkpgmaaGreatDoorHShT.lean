/-
  Contracts of share.polynomial and keyref2.polynomials: an octet's polynomial out of a seed. Conditions: a seed of octets, a need from 1 to 32.
-/
import Derived.Test.YtdhipjoplkpgmaaGreatDoorHShL
import Derived.Test.YtdhipjoplkpgmaaGreatDoorHBsl
import Derived.Test.YtdhipjoplkpgmaaGreatDoorHStF
import Derived.Test.YtdhipjoplkpgmaaGreatDoorHSlInt
set_option linter.unusedSimpArgs false
set_option linter.unusedVariables false
namespace Go.Proofs.YtdhipjoplkpgmaaGreatDoor.shr
open Go.RowKit sh Fld
def zero16 : List Value := (List.replicate 16 0).map (Value.int .u8)
end Go.Proofs.YtdhipjoplkpgmaaGreatDoor.shr
