/-
  What a pack's fault is, as a plain recursion over the parts. Conditions: none.
-/
import Derived.Test.YtbljihhelladbaaPWrP
namespace Go.Proofs.Ytbljihhelladbaa.wr
open Go.RowKit Go.Proofs.Ytbljihhelladbaa.st Go.Proofs.Ytbljihhelladbaa.hs Go.Proofs.Ytbljihhelladbaa.shr Go.Proofs.Ytbljihhelladbaa.sh
set_option linter.unusedSimpArgs false
set_option linter.unusedVariables false
/-- the fault of the parts from one on: the keys that were seen, the first key of version 2 -/
def packGo : List (List Int) → List (List Int) → Option (List Int) → Int
  | [], _, _ => 0
  | l :: r, seen, f => if readE l ≠ 0 then readE l else if (readX l).b ∈ seen then 8 else if (readX l).v ≠ 2 then packGo r (seen ++ [(readX l).b]) f else
    match f with
    | none => packGo r (seen ++ [(readX l).b]) (some (readX l).o)
    | some o => if (readX l).o ≠ o then 17 else packGo r (seen ++ [(readX l).b]) (some o)
def packE (ls : List (List Int)) : Int := if ls.length = 0 then 10 else if 100 < ls.length then 5 else packGo ls [] none
section
variable {l : List Int} {r seen : List (List Int)} {f : Option (List Int)} {o : List Int}
theorem packGo_err (h : readE l ≠ 0) : packGo (l :: r) seen f = readE l := by unfold packGo; rw [if_pos h]
theorem packGo_twice (h : readE l = 0) (h2 : (readX l).b ∈ seen) : packGo (l :: r) seen f = 8 := by unfold packGo; rw [if_neg (fun g => g h), if_pos h2]
theorem packGo_one (h : readE l = 0) (h2 : (readX l).b ∉ seen) (h3 : (readX l).v ≠ 2) : packGo (l :: r) seen f = packGo r (seen ++ [(readX l).b]) f := by
  cases f <;> (rw [packGo]; rw [if_neg (fun g => g h), if_neg h2, if_pos h3])
theorem packGo_first (h : readE l = 0) (h2 : (readX l).b ∉ seen) (h3 : (readX l).v = 2) : packGo (l :: r) seen none = packGo r (seen ++ [(readX l).b]) (some (readX l).o) := by
  rw [packGo]; rw [if_neg (fun g => g h), if_neg h2, if_neg (fun g => g h3)]
theorem packGo_same (h : readE l = 0) (h2 : (readX l).b ∉ seen) (h3 : (readX l).v = 2) (h4 : (readX l).o = o) : packGo (l :: r) seen (some o) = packGo r (seen ++ [(readX l).b]) (some o) := by
  rw [packGo]; rw [if_neg (fun g => g h), if_neg h2, if_neg (fun g => g h3)]; rw [if_neg (fun g => g h4)]
theorem packGo_unlike (h : readE l = 0) (h2 : (readX l).b ∉ seen) (h3 : (readX l).v = 2) (h4 : (readX l).o ≠ o) : packGo (l :: r) seen (some o) = 17 := by
  rw [packGo]; rw [if_neg (fun g => g h), if_neg h2, if_neg (fun g => g h3)]; rw [if_pos h4]
end
end Go.Proofs.Ytbljihhelladbaa.wr
