/-
  The law MarksMatch, whole. Conditions: a share of the type's form, slices that lie in memory, fewer than 2^40 shares.
-/
import Derived.Test.YtbljihhelladbaaMkM
import Derived.Test.YtbljihhelladbaaMkN
import Derived.Test.YtbljihhelladbaaMkO
namespace Go.Proofs.Ytbljihhelladbaa.shr
open Go.RowKit Go.Proofs.Ytbljihhelladbaa.sh Go.Proofs.Ytbljihhelladbaa.st Go.Proofs.Ytbljihhelladbaa.hs
set_option linter.unusedVariables false
theorem marks_law (s : Sh) (hs : s.Ok) (ab : Option Addr) (cb : Nat) (bl : List Int) (al : Option Addr) (cl : Nat) (l : List Sh) (am : Option Addr) (cm : Nat) (ml : List (List Int)) (w : World)
    (hP : 86 ≤ bl.length → Pt.Ok w ⟨ab, cb, bl⟩) (hbo : Octs bl) (hr : RowS w al l) (hok : ∀ s ∈ l, s.Ok) (hn : l.length ≤ 1099511627776) (hm : RowM w am ml) (hmo : ∀ s ∈ ml, SumLOk s) (hmn : ml.length ≤ 4611686018427387904) :
    Calls Try.prog 7 #[.agg s.cs.toArray, .slice ab bl.length cb, .slice al l.length cl, .slice am ml.length cm] w fun e w' => e = .returned (.bool true) ∧ Below w.heap.size w w' := by
  cases hg : goodS s
  · exact marks_bad s hs ab cb bl al cl l am cm ml w hP hbo hr hok hn hm hmo hmn hg
  · by_cases hneg : posL ml (markL s) < 0
    · exact marks_neg s hs ab cb bl al cl l am cm ml w hP hbo hr hok hn hm hmo hmn hg hneg
    · exact marks_pos s hs ab cb bl al cl l am cm ml w hP hbo hr hok hn hm hmo hmn hg hneg
end Go.Proofs.Ytbljihhelladbaa.shr
