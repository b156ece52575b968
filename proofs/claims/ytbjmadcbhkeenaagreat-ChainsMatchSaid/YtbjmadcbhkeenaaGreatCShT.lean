/-
  Contracts of share.polynomial and keyref2.polynomials: an octet's polynomial out of a seed. Conditions: a seed of octets, a need from 1 to 32.
-/
import Derived.Test.YtbjmadcbhkeenaaGreatCShJ
import Derived.Test.YtbjmadcbhkeenaaGreatCBsl
import Derived.Test.YtbjmadcbhkeenaaGreatCStF
import Derived.Test.YtbjmadcbhkeenaaGreatCSlInt
set_option linter.unusedSimpArgs false
set_option linter.unusedVariables false
namespace Go.Proofs.YtbjmadcbhkeenaaGreat.shr
open Go.RowKit sh Fld
theorem aggNo : Agg Tryz.prog 53 16 := Agg.arr Tryz.underlying53 (by kernel_rfl)
def zero16 : List Value := (List.replicate 16 0).map (Value.int .u8)
end Go.Proofs.YtbjmadcbhkeenaaGreat.shr
