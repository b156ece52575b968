/-
  Further laws at operations: loads under a guard, new variables and whole stores with the world behind them a letter, loads in a drawn region, look-ups under a guard. Conditions: what each names.
-/
import Derived.Test.YtdhipjoplkpgmaaGreatDoorHStA
import Derived.Test.YtdhipjoplkpgmaaGreatDoorHMem
import Derived.StillTailTactics
import Derived.Maps.OwnSet
import Derived.Maps.OwnOps
import Derived.DeepKeys4
import Derived.WideKeyArr2
set_option linter.unusedSimpArgs false
set_option linter.unusedVariables false
namespace Go.Proofs.YtdhipjoplkpgmaaGreatDoor
open Go.RowKit
theorem wl_loadG {P : Program} {w : World} {ops : Array Oper} {rest : List Oper} {o : Oper} {a : Act} {Q : Exit → Act → World → Prop} (hgd : Region.wanted o (yielded ops a.tmps) = true) (ty : TypeId) (x : Operand) (ho : o.op = .load ty x)
  (p : Addr) (hx : a.eval x = .pointer (some p)) (n : Nat) (cs : List Value) (hn : cs.length = n) (ha : Agg P ty n) (hc : At w p cs) (h : wpList P ops Q rest (a.put o.dst (.agg cs.toArray)) w) : wpList P ops Q (o :: rest) a w := by
 subst hn
 refine wpList_step fun K hK' => ?_
 rw [if_pos hgd]
 unfold Oper.wp
 simp [execOp, ho, hx, Instr.loadAt, Instr.sureAddr, run_load_agg w ty p cs ha hc, Result.andThen]
 exact hK' _ _ h
theorem wl_allocV {P : Program} {w : World} {ops : Array Oper} {rest : List Oper} {o : Oper} {a : Act} {Q : Exit → Act → World → Prop} (hgd : o.guard = none) (t : TypeId) (ho : o.op = .alloc t)
  (cs : List Value) (hz : (P.info? t).map (·.zero) = some (some (.agg cs.toArray))) (N : Nat) (hN : w.heap.size = N)
  (h : ∀ w', BlkV t w' N cs → Below N w w' → w'.heap.size = N + 1 → wpList P ops Q rest (a.put o.dst (.pointer (some ⟨N, 0, none⟩))) w') : wpList P ops Q (o :: rest) a w := by
 subst hN
 exact wl_alloc hgd t ho cs hz (h _ (BlkV.new t w cs rfl) ((Below.refl _ _).alloc (Nat.le_refl _) _) (by simp))
theorem wl_storeV {P : Program} {w : World} {ops : Array Oper} {rest : List Oper} {o : Oper} {a : Act} {Q : Exit → Act → World → Prop} (hgd : o.guard = none) (ty : TypeId) (x y : Operand) (ho : o.op = .store ty x y)
  (t : TypeId) (g : Nat) (hx : a.eval x = .pointer (some ⟨g, 0, none⟩)) (cs : List Value) (hy : a.eval y = .agg cs.toArray) (n : Nat) (hi : Agg P ty n) (hn : cs.length = n) (cur : List Value) (hg : BlkV t w g cur) (hc : cur.length = n) (h1 : ∀ u ∈ cs, u.oneCell' = true)
  (h : ∀ w', BlkV t w' g cs → Below g w w' → w'.heap.size = w.heap.size → wpList P ops Q rest (a.put o.dst undef) w') : wpList P ops Q (o :: rest) a w :=
 wl_storeAll hgd ty x y ho t g hx cs hy n hi hn cur hg hc h1 fun hb => h _ hb (below_setRow' (Below.refl _ _) (Nat.le_refl _) _) (by simp)
end Go.Proofs.YtdhipjoplkpgmaaGreatDoor
