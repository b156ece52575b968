/-
  HousesFound: what the row's form asks of the program. No condition.
-/
import Derived.Test.YtdhipjoplkpgmaaGreatDoorHLimA
import Derived.Test.YtdhipjoplkpgmaaGreatDoorHLimB
import Derived.Test.YtdhipjoplkpgmaaGreatDoorHLaw
namespace Go.Proofs.YtdhipjoplkpgmaaGreatDoor.lim
open Go
theorem andT {a b : Bool} (h : a = true) (k : b = true) : (a && b) = true := by rw [h, k]; rfl
theorem joined : joinedFacts Tryz.prog 3 Tryz.f3 Rows.housesFoundSpec Rows.housesFoundRow = true := by
 unfold joinedFacts
 exact (andT (andT (andT (andT (andT (andT (andT (andT (andT (andT (andT (andT (andT (andT (andT (andT (andT (andT (andT (andT (andT (andT (andT (andT (andT (andT (andT (andT (andT (andT (andT (by kernel_rfl) law.laidOut) mapsRowed') (by kernel_rfl)) (by kernel_rfl)) (by kernel_rfl)) (by kernel_rfl)) (by kernel_rfl)) (by kernel_rfl)) inPlace') unf') rec') named') (by kernel_rfl)) (by kernel_rfl)) (by kernel_rfl)) (by kernel_rfl)) (by kernel_rfl)) (by kernel_rfl)) (by kernel_rfl)) (by kernel_rfl)) (by kernel_rfl)) (by kernel_rfl)) (by kernel_rfl)) heard') mayEnter') (by kernel_rfl)) (by kernel_rfl)) (by kernel_rfl)) (by kernel_rfl)) (by kernel_rfl)) (by kernel_rfl))
end Go.Proofs.YtdhipjoplkpgmaaGreatDoor.lim
