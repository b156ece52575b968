/-
  HousesFound: closed facts of the program, in parts (memory). No condition.
-/
import Derived.Test.YtdhipjoplkpgmaaGreatDoorRows
import Derived.JoinedOf
namespace Go.Proofs.YtdhipjoplkpgmaaGreatDoor.lim
open Go
theorem unf' : (Rows.housesFoundRow.unfollowed == Tryz.prog.unfollowed 3) = true := by kernel_rfl
theorem rec' : (Rows.housesFoundRow.recurses == Tryz.prog.recurses 3) = true := by kernel_rfl
theorem named' : (Rows.housesFoundRow.named == Tryz.prog.varsNamed 3) = true := by kernel_rfl
end Go.Proofs.YtdhipjoplkpgmaaGreatDoor.lim
