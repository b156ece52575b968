/-
  Contract of share.badValues. No condition but the share's form.
-/
import Derived.Test.YtbjmadcbhkeenaaGreatCShs
import Derived.Test.YtbjmadcbhkeenaaGreatCSlInt
import Derived.Test.YtbjmadcbhkeenaaGreatCStA
set_option linter.unusedVariables false
set_option linter.unusedSimpArgs false
namespace Go.Proofs.YtbjmadcbhkeenaaGreat.shr
open Go.RowKit
theorem cs_one (s : Sh) : ∀ u ∈ s.cs, u.oneCell' = true := by
 intro u hu
 unfold Sh.cs at hu
 simp only [List.mem_append, List.mem_cons, List.mem_map] at hu
 rcases hu with ⟨c, _, rfl⟩ | rfl | ⟨c, _, rfl⟩ <;> rfl
end Go.Proofs.YtbjmadcbhkeenaaGreat.shr
