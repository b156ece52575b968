/-
  A slice literal of one struct or array: the law at the operation. No condition but the value's size.
-/
import Derived.Test.YtdhipjoplkpgmaaGreatDoorHLw
import Derived.Great.BuildSlice
set_option linter.unusedSimpArgs false
set_option linter.unusedVariables false
namespace Go.Proofs.YtdhipjoplkpgmaaGreatDoor
open Go.RowKit
theorem fold_zip : ∀ (cs : List Value) (k : Nat) (base : Array Value), k + cs.length ≤ base.size →
  ((cs.zipIdx k).foldl (fun (a : Array Value) (x : Value × Nat) => a.setIfInBounds (0 + x.2) x.1) base).toList = base.toList.take k ++ cs ++ base.toList.drop (k + cs.length)
 | [], k, base, _ => by simp
 | c :: r, k, base, h => by
  rw [List.zipIdx_cons, List.foldl_cons, fold_zip r (k + 1) _ (by simp at h ⊢; omega)]
  simp only [Nat.zero_add, Array.toList_setIfInBounds, List.length_cons]
  have hk : k < base.toList.length := by simp at h ⊢; omega
  rw [List.take_set, List.drop_set, if_pos (by omega), List.take_succ_eq_append_getElem hk, List.set_append_right _ _ (by rw [List.length_take]; omega), (by rw [List.length_take]; omega : k - (List.take k base.toList).length = 0), List.set_cons_zero, show k + 1 + r.length = k + (r.length + 1) by omega]
  simp
theorem fill_one (size : Nat) (cs : List Value) (base : Array Value) (hs : cs.length = size) (hb : base.size = size) : Instr.fill (fun i => some (i * size, size)) base [(0, .agg cs.toArray)] = some cs.toArray := by
 have h := fold_zip cs 0 base (by omega)
 unfold Instr.fill
 simp only [Value.cells, Nat.zero_mul]
 rw [if_neg (by simp; omega)]
 unfold Instr.fill
 congr 1
 apply Array.ext'
 rw [show ((cs.toArray.zipIdx).foldl (fun (a : Array Value) (x : Value × Nat) => a.setIfInBounds (0 + x.2) x.1) base) = ((cs.zipIdx 0).foldl (fun (a : Array Value) (x : Value × Nat) => a.setIfInBounds (0 + x.2) x.1) base) by simp, h]
 simp; omega
theorem wl_slice1 {P : Program} {w : World} {ops : Array Oper} {rest : List Oper} {o : Oper} {a : Act} {Q : Exit → Act → World → Prop} (hgd : o.guard = none) (t e : TypeId) (x : Operand) (ho : o.op = .buildSlice t 1 #[(0, x)])
  (ht : P.underlying t = some (.slice e)) (size : Nat) (z : List Value) (hi : (P.info? e).map (fun i => (i.zero, i.size)) = some (some (.agg z.toArray), size)) (hz : z.length = size) (h0 : 0 < size) (h24 : size ≤ 2 ^ 24)
  (cs : List Value) (hx : a.eval x = .agg cs.toArray) (hcs : cs.length = size) (N : Nat) (hN : w.heap.size = N)
  (h : ∀ w', BlkV e w' N cs → Below N w w' → w'.heap.size = N + 1 → wpList P ops Q rest (a.put o.dst (.slice (some ⟨N, 0, none⟩) 1 1)) w') : wpList P ops Q (o :: rest) a w := by
 subst hN
 obtain ⟨i, hi0, hh⟩ := Option.map_eq_some_iff.1 hi
 simp only [Prod.mk.injEq] at hh
 obtain ⟨hzi, hsi⟩ := hh
 subst hsi
 have hf : Instr.fill (fun j => some (j * i.size, i.size)) ((Array.range (1 * i.size)).map (fun j => (Value.agg z.toArray).cells[j % (Value.agg z.toArray).cells.size]!)) #[(0, Value.agg cs.toArray)].toList = some cs.toArray := fill_one i.size cs _ hcs (by simp)
 have hrun := run_buildSlice (P := P) w t e 1 #[(0, Value.agg cs.toArray)] cs.toArray i (.agg z.toArray) ht hi0 hzi (by omega) (by omega) hf
 refine wpList_plain hgd fun K hK' => ?_
 unfold Oper.wp
 simp [execOp, ho, hx, hrun, Result.andThen]
 exact hK' _ _ (h _ (BlkV.new e w cs rfl) ((Below.refl _ _).alloc (Nat.le_refl _) _) (by simp))
end Go.Proofs.YtdhipjoplkpgmaaGreatDoor
