/-
  Contracts of share.outside, eachFault and CheckShares: what is wrong with shares. Conditions: shares of the type's form, 2^40 at most.
-/
import Derived.Test.YtbjmadcbhkeenaaGreatCShF
import Derived.Test.YtbjmadcbhkeenaaGreatCLw
set_option linter.unusedVariables false
set_option linter.unusedSimpArgs false
namespace Go.Proofs.YtbjmadcbhkeenaaGreat.shr
open Go.RowKit Go.Maps Go.WideMaps sh
theorem aggID : Agg Tryz.prog 27 16 := Agg.arr Tryz.underlying27 (by kernel_rfl)
end Go.Proofs.YtbjmadcbhkeenaaGreat.shr
