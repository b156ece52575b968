/-
  Contracts of tree.Leaf and tree.Node: sums. Conditions: sums of 32 octets, a text of octets.
-/
import Derived.Test.YtbljihhelladbaaTMem
import Derived.Test.YtbljihhelladbaaTWrH
import Derived.Test.YtbljihhelladbaaTWrD
import Derived.Lib.Strings
import Derived.Lib.Slices
import Derived.Lib.Small
import Derived.Lib.Walk
import Derived.Lib.BitFns
namespace Go.Proofs.Ytbljihhelladbaa.ck
open Go.RowKit Go.Proofs.Ytbljihhelladbaa.st Go.Proofs.Ytbljihhelladbaa.hs Go.Proofs.Ytbljihhelladbaa.shr Go.Proofs.Ytbljihhelladbaa.sh Go.Proofs.Ytbljihhelladbaa.wr
set_option linter.unusedSimpArgs false
set_option linter.unusedVariables false
set_option pp.maxSteps 6000
theorem grown_row (w : World) (g : Nat) (cs : Array Value) : w.grownBy (w.setRow g cs) (some g) :=
  ⟨rfl, rfl, rfl, by simp, fun i _ hi => setRow_other w g i cs (fun e => hi (by rw [e]))⟩
/-- a whole store in a region that draws its order: other blocks stay -/
theorem step_storeG {P : Program} {ops : Array Oper} {o : Oper} {a : Act} {w : World} {K : Act → World → Prop} {Q : Exit → Act → World → Prop} {E : Prop} (hgd : o.guard = none) (ty : TypeId) (x y : Operand) (ho : o.op = .store ty x y)
    (t : TypeId) (g : Nat) (hx : a.eval x = .pointer (some ⟨g, 0, none⟩)) (cs : List Value) (hy : a.eval y = .agg cs.toArray) (n : Nat) (hi : Agg P ty n) (hn : cs.length = n) (cur : List Value) (hg : BlkV t w g cur) (hc : cur.length = n) (h1 : ∀ u ∈ cs, u.oneCell' = true)
    (h : ∀ w', BlkV t w' g cs → Below g w w' → w.grownBy w' (some g) → w'.heap.size = w.heap.size → K (a.put o.dst undef) w') : if Region.wanted o (yielded ops a.tmps) = true then Oper.wp P o a w K Q else E := by
  have hw : Region.wanted o (yielded ops a.tmps) = true := by simp [Region.wanted, hgd]
  rw [if_pos hw]
  have hrun := run_store_agg (P := P) w ty t g 0 cur cs (by rw [hi.2, hn]) hg (by omega) h1
  rw [List.take_zero, List.nil_append, Nat.zero_add, List.drop_eq_nil_of_le (by omega), List.append_nil] at hrun
  unfold Oper.wp
  simp [execOp, ho, hx, hy, Instr.storeAt, Instr.sureAddr, hrun, Result.andThen]
  exact h _ (hg.setRow cs) (below_setRow' (Below.refl _ _) (Nat.le_refl _) _) (grown_row _ _ _) (by simp)
theorem infoBB : Info Try.prog 69 (.slice none 0 0) 1 24 := by unfold Info; kernel_rfl
end Go.Proofs.Ytbljihhelladbaa.ck
