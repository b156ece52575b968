/-
  The law SharesMatch, walked: it returns true. Conditions: shares of the type's form, a secret of octets.
-/
import Derived.Test.YtdhipjoplkpgmaaGreatDoorHShL
import Derived.Test.YtdhipjoplkpgmaaGreatDoorHBsl
set_option linter.unusedVariables false
set_option linter.unusedSimpArgs false
set_option linter.unusedSectionVars false
namespace Go.Proofs.YtdhipjoplkpgmaaGreatDoor.shr
open Go.RowKit sh Fld
theorem wl_build0G {P : Program} {w : World} {ops : Array Oper} {rest : List Oper} {o : Oper} {a : Act} {Q : Exit → Act → World → Prop} (hgd : Region.wanted o (yielded ops a.tmps) = true) (t : TypeId) (ho : o.op = .build t #[])
  (cs : List Value) (hb : P.built t [] = some cs.toArray) (h : wpList P ops Q rest (a.put o.dst (.agg cs.toArray)) w) : wpList P ops Q (o :: rest) a w := by
 refine wpList_step fun K hK' => ?_
 rw [if_pos hgd]
 have hb' : P.built t (((#[] : Array (Nat × Operand)).map fun (i, x) => (i, a.eval x)).toList) = some cs.toArray := by simpa using hb
 refine wp_build (P := P) t #[] ho (by rw [hb']; rfl) ?_
 rw [hb']
 exact hK' _ _ h
theorem wl_loadD {P : Program} {w : World} {ops : Array Oper} {rest : List Oper} {o : Oper} {a : Act} {Q : Exit → Act → World → Prop} (d : Nat) (hd : o.dst = some d) (hgd : Region.wanted o (yielded ops a.tmps) = true) (ty : TypeId) (x : Operand) (ho : o.op = .load ty x)
  (p : Addr) (hx : a.eval x = .pointer (some p)) (n : Nat) (cs : List Value) (hn : cs.length = n) (ha : Agg P ty n) (hc : At w p cs) (h : wpList P ops Q rest (a.put o.dst (.agg cs.toArray)) w) : wpList P ops Q (o :: rest) a w :=
 wl_loadG hgd ty x ho p hx n cs hn ha hc h
theorem wl_neqD {P : Program} {w : World} {ops : Array Oper} {rest : List Oper} {o : Oper} {a : Act} {Q : Exit → Act → World → Prop} (d : Nat) (hd : o.dst = some d) (hgd : Region.wanted o (yielded ops a.tmps) = true) (ty ty2 : TypeId) (x y : Operand) (ho : o.op = .binOp .neq ty x y ty2)
  (A B : Array Value) (hx : a.eval x = .agg A) (hy : a.eval y = .agg B) (b : Bool) (he : (Op.equalIn 10000 ty (.agg A) (.agg B)).run P w = .ok b w) (hm : P.eqGuardType P.depth ty = false) (r : Bool) (hr : r = !b) (h : wpList P ops Q rest (a.put o.dst (.bool r)) w) : wpList P ops Q (o :: rest) a w := by
 subst hr
 refine wpList_step fun K hK' => ?_
 rw [if_pos hgd]
 unfold Oper.wp
 simp [execOp, ho, hx, hy, run_eqGuard_agg, run_neq_struct, hm, he, Result.andThen]
 exact hK' _ _ h
end Go.Proofs.YtdhipjoplkpgmaaGreatDoor.shr
