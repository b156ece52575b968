/-
  Contract of share.Split, walked. Conditions: holders of 16 octets, a secret and a seed of octets. Contracts of keyref2.SplitOf and of slices.Index and Contains at shares. Conditions: holders of 16 octets, a secret and a seed of octets; shares of the type's form.
-/
import Derived.Test.YtbjmadcbhkeenaaGreatCSpA
import Derived.Test.YtbjmadcbhkeenaaGreatCShUW
import Derived.Test.YtbjmadcbhkeenaaGreatCShG
import Derived.Test.YtbjmadcbhkeenaaGreatCEqA
set_option linter.unusedSimpArgs false
set_option linter.unusedVariables false
namespace Go.Proofs.YtbjmadcbhkeenaaGreat.shr
open Go.RowKit sh Fld cm
theorem zeroID : (Tryz.prog.info? 27).map (·.zero) = some (some (.agg zero16.toArray)) := by kernel_rfl
end Go.Proofs.YtbjmadcbhkeenaaGreat.shr
namespace Go.Proofs.YtbjmadcbhkeenaaGreat.shr
open Go.RowKit sh Fld cm
theorem wl_eqE {P : Program} {w : World} {ops : Array Oper} {rest : List Oper} {o : Oper} {a : Act} {Q : Exit → Act → World → Prop} (d : Nat) (hd : o.dst = some d) (hgd : Region.wanted o (yielded ops a.tmps) = true) (ty ty2 : TypeId) (x y : Operand) (ho : o.op = .binOp .eql ty x y ty2)
  (A B : Array Value) (hx : a.eval x = .agg A) (hy : a.eval y = .agg B) (b : Bool) (he : (Op.equalIn 10000 ty (.agg A) (.agg B)).run P w = .ok b w) (hm : P.eqGuardType P.depth ty = false) (h : wpList P ops Q rest (a.put o.dst (.bool b)) w) : wpList P ops Q (o :: rest) a w := by
 refine wpList_step fun K hK' => ?_
 rw [if_pos hgd]
 unfold Oper.wp
 simp [execOp, ho, hx, hy, run_eqGuard_agg, run_eql_struct, hm, he, Result.andThen]
 exact hK' _ _ h
end Go.Proofs.YtbjmadcbhkeenaaGreat.shr
