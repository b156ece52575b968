/-
  keyref2.ReadEnvelope: laws for a map literal, its closure, its errors. Conditions: a slice of octets that lies in memory. Contract of keyref2.ReadEnvelope. Conditions: a slice of octets that lies in memory. What Print writes Read reads; the walk of the law EnvelopesMatch. Conditions: an envelope of the type's form, a slice of octets that lies in memory.
-/
import Derived.Test.YtdhipjoplkpgmaaGreatDoorHWrH
import Derived.Test.YtdhipjoplkpgmaaGreatDoorHEqS
import Derived.WideMake
set_option linter.unusedSimpArgs false
set_option linter.unusedVariables false
namespace Go.Proofs.YtdhipjoplkpgmaaGreatDoor.wr
open Go.RowKit st hs shr sh
theorem wl_box1 {P : Program} {w : World} {ops : Array Oper} {rest : List Oper} {o : Oper} {a : Act} {Q : Exit → Act → World → Prop} (hgd : o.guard = none) (t : TypeId) (x : Operand) (ho : o.op = .box t x)
  (v : Value) (hv : v.cells = #[v]) (hx : a.eval x = v) (N : Nat) (hN : w.heap.size = N)
  (h : ∀ w', BlkV t w' N [v] → Below N w w' → w'.heap.size = N + 1 → wpList P ops Q rest (a.put o.dst (.pointer (some ⟨N, 0, none⟩))) w') : wpList P ops Q (o :: rest) a w := by
 subst hN
 refine wpList_plain hgd fun K hK' => ?_
 unfold Oper.wp
 simp [execOp, ho, hx, Instr.box, newVar, newRow, hv, Result.andThen]
 exact hK' _ _ (h _ (BlkV.new t w [v] rfl) ((Below.refl _ _).alloc (Nat.le_refl _) _) (by simp))
theorem wl_makeMap {P : Program} {w : World} {ops : Array Oper} {rest : List Oper} {o : Oper} {a : Act} {Q : Exit → Act → World → Prop} (hgd : o.guard = none) (t : TypeId) (ho : o.op = .makeMap t none) (N : Nat) (hN : w.heap.size = N)
  (h : ∀ w' : World, w'.heap[N]? = some (.map #[] 0) → Below N w w' → w'.heap.size = N + 1 → wpList P ops Q rest (a.put o.dst (.map (some N))) w') : wpList P ops Q (o :: rest) a w := by
 subst hN
 refine wpList_plain hgd fun K hK' => ?_
 unfold Oper.wp
 simp [execOp, ho, run_makeMap_plain, Result.andThen]
 exact hK' _ _ (h _ (heap_alloc_new _ _) ((Below.refl _ _).alloc (Nat.le_refl _) _) (by simp))
end Go.Proofs.YtdhipjoplkpgmaaGreatDoor.wr
namespace Go.Proofs.YtdhipjoplkpgmaaGreatDoor.wr
open Go.RowKit st hs shr sh
theorem step_set1 {P : Program} {ops : Array Oper} {o : Oper} {a : Act} {w : World} {K : Act → World → Prop} {Q : Exit → Act → World → Prop} {E : Prop} (hgd : o.guard = none) (ty : TypeId) (x y : Operand) (ho : o.op = .store ty x y)
  (t : TypeId) (g i : Nat) (hx : a.eval x = .pointer (some ⟨g, i, none⟩)) (v : Value) (hy : a.eval y = v) (hv : v.cells = #[v]) (h1 : v.oneCell' = true) (hi1 : (P.info? ty).map (·.size) = some 1) (cur : List Value) (hg : BlkV t w g cur) (hi : i < cur.length)
  (h : ∀ w', BlkV t w' g (cur.set i v) → w.grownBy w' (some g) → Below g w w' → w'.heap.size = w.heap.size → K (a.put o.dst undef) w') : if Region.wanted o (yielded ops a.tmps) = true then Oper.wp P o a w K Q else E := by
 have hw : Region.wanted o (yielded ops a.tmps) = true := by simp [Region.wanted, hgd]
 rw [if_pos hw]
 obtain ⟨f, hf, hs⟩ := Option.map_eq_some_iff.1 hi1
 have hrun : (storeVar ty ⟨g, i, none⟩ v).run P w = .ok () (w.setRow g (cur.set i v).toArray) := by
  have h := run_storeCells_at (P := P) g i t [v] 0 cur.toArray w hg (by simp; omega) (by intro u hu; rw [List.mem_singleton.1 hu]; exact h1)
  simp only [Nat.add_zero] at h
  have e : cur.take i ++ [v] ++ cur.drop (i + 1) = cur.set i v := by
   rw [List.set_eq_take_append_cons_drop, if_pos hi]; simp
  have h' : (storeCells ⟨g, i, none⟩ [v]).run P w = .ok () (w.setRow g (cur.set i v).toArray) := by
   rw [← e]; simpa using h
  simp [storeVar, hv, sizeOf, typeInfo, hf, hs, h']
 have h' := h _ (hg.setRow _) (grown_setRow _ _ _) (below_setRow' (Below.refl _ _) (Nat.le_refl _) _) (by simp)
 unfold Oper.wp
 simp only [execOp, ho, hx, hy, Instr.storeAt, Instr.sureAddr, hrun, Sem.run_bind, Result.andThen_ok, Sem.run_pure]
 exact h'
end Go.Proofs.YtdhipjoplkpgmaaGreatDoor.wr
namespace Go.Proofs.YtdhipjoplkpgmaaGreatDoor.wr
open Go.RowKit st hs shr sh
theorem ext_mid (p m q : List Value) (K n : Nat) (hp : p.length = K) (hm : m.length = n) : (p ++ m ++ q).toArray.extract K (K + n) = m.toArray := by
 apply Array.ext'
 rw [Array.toList_extract]
 simp only [List.extract_eq_take_drop]
 rw [List.append_assoc, List.drop_append_of_le_length (by omega), List.drop_of_length_le (by omega), List.nil_append, show K + n - K = n by omega, List.take_append_of_le_length (by omega), List.take_of_length_le (by omega)]
theorem part_arr {P : Program} (w : World) (t : TypeId) (n K : Nat) (ha : Agg P t n) (cs : Array Value) (ds : List Value) (he : cs.extract K (K + n) = ds.toArray) : (part t cs K).run P w = .ok (.agg ds.toArray) w := by
 obtain ⟨⟨d, hu, hd⟩, hi⟩ := ha
 obtain ⟨i, hi, hsz⟩ := Option.map_eq_some_iff.1 hi
 cases d <;> simp_all [part, isAgg, run_underlying hu, sizeOf, typeInfo, Result.andThen]
end Go.Proofs.YtdhipjoplkpgmaaGreatDoor.wr
