/-
  HousesFound: closed facts of the program, in parts (memory). No condition.
-/
import Derived.Test.YtdhipjoplkpgmaaGreatDoorRows
import Derived.JoinedOf
import Derived.SevenTiedAt
namespace Go.Proofs.YtdhipjoplkpgmaaGreatDoor.lim
open Go
theorem goesBy_false {P : Program} {c : OpenClaim} (hs : c.start = .entering) (h : P.funcs.any Func.goes = false) : false = c.goesBy P := by
 have hP : ∀ f, P.goes f = false := fun f => by
  unfold Program.goes
  rw [h, Bool.and_false, Bool.or_false, List.any_eq_false]
  intro g _ hg
  cases e : P.funcs[g]? with
  | none => rw [e] at hg; cases hg
  | some fn =>
   rw [e] at hg
   have hm : fn ∈ P.funcs := Array.mem_of_getElem? e
   have := Array.any_eq_false'.1 h fn hm
   exact this hg
 unfold OpenClaim.goesBy Program.goesAt Program.goesFrom
 rw [hs]
 cases P.funcNamed c.func with
 | none => rfl
 | some f => simp [hP f]
theorem noGo : Tryz.prog.funcs.any Func.goes = false := by kernel_rfl
theorem mapsRowed' : mapsRowed Tryz.prog = true := by kernel_rfl
theorem heard' : Tryz.prog.stopsHeard = true := by kernel_rfl
theorem mayEnter' : Tryz.prog.mayEnter = true := by kernel_rfl
theorem looks' : true = Tryz.pinned.checked.prog.looks [] := by kernel_rfl
theorem funcNamed' : Tryz.prog.funcNamed "keywarden/keylaw2.HousesFound" = some 3 := by kernel_rfl
theorem inPlace' : (Rows.housesFoundRow.inPlace == Tryz.prog.inPlace 3) = true := by kernel_rfl
end Go.Proofs.YtdhipjoplkpgmaaGreatDoor.lim
