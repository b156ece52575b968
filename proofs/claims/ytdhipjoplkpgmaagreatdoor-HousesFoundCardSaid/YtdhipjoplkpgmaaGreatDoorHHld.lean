/-
  A region that draws its order, walked by hand: reading operations are taken first, each by its own law; whole loads, literals, new variables and stores as steps. Conditions: what each names. Reading operations of a region that draws its order, in short words. Conditions: what each names. Reading operations of a region that draws its order, in the shortest words. Conditions: what each names.
-/
import Derived.Test.YtdhipjoplkpgmaaGreatDoorHLw
import Derived.Deep.RegionHeld3
set_option linter.unusedSimpArgs false
set_option linter.unusedVariables false
namespace Go.Proofs.YtdhipjoplkpgmaaGreatDoor
open Go.RowKit
section
variable {P : Program} {md : Region.Mode} {ops : Array Oper} {Q : Exit → Act → World → Prop} {S : World → Prop}
theorem take_l {i : Nat} {oi : Oper} {v : Value} {fuel : Nat} {listed : Array Bool} {a : Act} {w : World} (hi : ops.toList[i]? = some oi)
  (hs : Region.noSelect ops = true) (hf : Region.free md ops listed i = true) (hr : (Region.ready md ops listed).contains i = true)
  (hQ : ∀ c a w, Q (.panic c) (a.put oi.dst v) w → Q (.panic c) a w) (hy : YieldsIf P ops S oi v a) (hS : S w)
  (h : wpAnyH P md ops Q S fuel (listed.setIfInBounds i true) (a.put oi.dst v) w) : wpAnyH P md ops Q S (fuel + 1) listed a w :=
 wpAnyH_take (by simpa using hi) hs hf hr hQ hy hS h
theorem cons_l {fuel : Nat} {listed : Array Bool} {a : Act} {w : World} {i : Nat} {o : Oper} {rs : List Nat} (ho : ops.toList[i]? = some o)
  (h : ∀ K' : Act → World → Prop, Shut (∀ a w, S w → (S w → wpAnyH P md ops Q S fuel (listed.setIfInBounds i true) a w) → K' a w) → if Region.wanted o (yielded ops a.tmps) = true then Oper.wp P o a w K' Q else K' (a.put o.dst undef) w)
  (hs : AllReadyH P md ops Q S fuel listed a w rs) : AllReadyH P md ops Q S fuel listed a w (i :: rs) :=
 AllReadyH.cons (by simpa using ho) h hs
end
theorem step_allocV {P : Program} {ops : Array Oper} {o : Oper} {a : Act} {w : World} {K : Act → World → Prop} {Q : Exit → Act → World → Prop} {E : Prop} (hgd : o.guard = none) (t : TypeId) (ho : o.op = .alloc t)
  (cs : List Value) (hz : (P.info? t).map (·.zero) = some (some (.agg cs.toArray))) (N : Nat) (hN : w.heap.size = N)
  (h : ∀ w', BlkV t w' N cs → Below N w w' → w'.heap.size = N + 1 → K (a.put o.dst (.pointer (some ⟨N, 0, none⟩))) w') : if Region.wanted o (yielded ops a.tmps) = true then Oper.wp P o a w K Q else E := by
 subst hN
 have hw : Region.wanted o (yielded ops a.tmps) = true := by simp [Region.wanted, hgd]
 rw [if_pos hw]
 obtain ⟨i, hi, hs⟩ := Option.map_eq_some_iff.1 hz
 unfold Oper.wp
 simp [execOp, ho, Instr.alloc, zeroValue, typeInfo, hi, hs, newVar, newRow, Value.cells, Result.andThen]
 exact h _ (BlkV.new t w cs rfl) ((Below.refl _ _).alloc (Nat.le_refl _) _) (by simp)
theorem step_storeV {P : Program} {ops : Array Oper} {o : Oper} {a : Act} {w : World} {K : Act → World → Prop} {Q : Exit → Act → World → Prop} {E : Prop} (hgd : o.guard = none) (ty : TypeId) (x y : Operand) (ho : o.op = .store ty x y)
  (t : TypeId) (g : Nat) (hx : a.eval x = .pointer (some ⟨g, 0, none⟩)) (cs : List Value) (hy : a.eval y = .agg cs.toArray) (n : Nat) (hi : Agg P ty n) (hn : cs.length = n) (cur : List Value) (hg : BlkV t w g cur) (hc : cur.length = n) (h1 : ∀ u ∈ cs, u.oneCell' = true)
  (h : ∀ w', BlkV t w' g cs → Below g w w' → w'.heap.size = w.heap.size → K (a.put o.dst undef) w') : if Region.wanted o (yielded ops a.tmps) = true then Oper.wp P o a w K Q else E := by
 have hw : Region.wanted o (yielded ops a.tmps) = true := by simp [Region.wanted, hgd]
 rw [if_pos hw]
 have hrun := run_store_agg (P := P) w ty t g 0 cur cs (by rw [hi.2, hn]) hg (by omega) h1
 rw [List.take_zero, List.nil_append, Nat.zero_add, List.drop_eq_nil_of_le (by omega), List.append_nil] at hrun
 unfold Oper.wp
 simp [execOp, ho, hx, hy, Instr.storeAt, Instr.sureAddr, hrun, Result.andThen]
 exact h _ (hg.setRow cs) (below_setRow' (Below.refl _ _) (Nat.le_refl _) _) (by simp)
end Go.Proofs.YtdhipjoplkpgmaaGreatDoor
namespace Go.Proofs.YtdhipjoplkpgmaaGreatDoor
open Go.RowKit
theorem sArr {α : Type} (l : List α) (i : Nat) (x : α) : l.toArray.setIfInBounds i x = (l.set i x).toArray := by simp
theorem sZ {α : Type} (a x : α) (l : List α) : (a :: l).set 0 x = x :: l := rfl
theorem sS {α : Type} (a x : α) (l : List α) (n : Nat) : (a :: l).set (n + 1) x = a :: l.set n x := rfl
end Go.Proofs.YtdhipjoplkpgmaaGreatDoor
namespace Go.Proofs.YtdhipjoplkpgmaaGreatDoor
open Go.RowKit
section
variable {P : Program} {md : Region.Mode} {ops : Array Oper} {Q : Exit → Act → World → Prop} {S : World → Prop}
theorem isAny {fuel : Nat} {listed : Array Bool} {a : Act} {w : World} (h : wpAnyH P md ops Q S fuel listed a w) : wpAnyH P md ops Q S fuel listed a w := h
theorem isEff {c : Prop} [Decidable c] {A B : Prop} (h : if c then A else B) : if c then A else B := h
theorem tk (i : Nat) {oi : Oper} {v : Value} {fuel : Nat} {listed : Array Bool} {a b : Act} {w : World} (hi : ops.toList[i]? = some oi) (hy : YieldsIf P ops S oi v a)
  (h : wpAnyH P md ops Q S fuel (listed.setIfInBounds i true) b w)
  (hr : (Region.ready md ops listed).contains i = true := by kernel_rfl) (hf : Region.free md ops listed i = true := by kernel_rfl) (hs : Region.noSelect ops = true := by kernel_rfl)
  (hb : a.put oi.dst v = b := by (try simp only [Act.put, sArr, sZ, sS]); rfl) (hS : S w := by assumption)
  (hQ : ∀ c a w, Q (.panic c) (a.put oi.dst v) w → Q (.panic c) a w := by exact fun _ _ _ h => h) : wpAnyH P md ops Q S (fuel + 1) listed a w :=
 take_l hi hs hf hr hQ hy hS (hb ▸ h)
theorem ko {fuel : Nat} {listed : Array Bool} {K' : Act → World → Prop} {a b : Act} {w : World} (hK : Shut (∀ a w, S w → (S w → wpAnyH P md ops Q S fuel listed a w) → K' a w)) (hS : S w) (h : S w → wpAnyH P md ops Q S fuel listed b w)
  (hb : a = b := by (try simp only [Act.put, sArr, sZ, sS]); rfl) : K' a w := hK.out _ _ hS (hb ▸ h)
theorem tq (i : Nat) {oi : Oper} {v : Value} {fuel : Nat} {listed : Array Bool} {a b : Act} {w : World} (hi : ops.toList[i]? = some oi)
  (h : wpAnyH P md ops Q S fuel (listed.setIfInBounds i true) b w)
  (hr : (Region.ready md ops listed).contains i = true := by kernel_rfl) (hf : Region.free md ops listed i = true := by kernel_rfl) (hs : Region.noSelect ops = true := by kernel_rfl)
  (hw : Region.wanted oi (yielded ops a.tmps) = true := by rfl)
  (hy : ∀ w, S w → (execOp a.eval oi).run P w = .ok (.value v) w := by intro w hSw; (try dsimp only at hSw); go_simp; (try with_reducible rfl))
  (hb : a.put oi.dst v = b := by (try simp only [Act.put, sArr, sZ, sS]); rfl) (hS : S w := by assumption)
  (hQ : ∀ c a w, Q (.panic c) (a.put oi.dst v) w → Q (.panic c) a w := by exact fun _ _ _ h => h) : wpAnyH P md ops Q S (fuel + 1) listed a w :=
 take_l hi hs hf hr hQ (Or.inl ⟨hw, hy⟩) hS (hb ▸ h)
theorem e1 (i : Nat) {o : Oper} {fuel : Nat} {listed : Array Bool} {a : Act} {w : World} (ho : ops.toList[i]? = some o)
  (h : ∀ K' : Act → World → Prop, Shut (∀ a w, S w → (S w → wpAnyH P md ops Q S fuel (listed.setIfInBounds i true) a w) → K' a w) → if Region.wanted o (yielded ops a.tmps) = true then Oper.wp P o a w K' Q else K' (a.put o.dst undef) w)
  (hr : Region.ready md ops listed = [i] := by kernel_rfl) : wpAnyH P md ops Q S (fuel + 1) listed a w := wpAnyH_ready hr (by simp) (cons_l ho h AllReadyH.nil)
theorem e2 (i j : Nat) {o p : Oper} {fuel : Nat} {listed : Array Bool} {a : Act} {w : World} (ho : ops.toList[i]? = some o) (hp : ops.toList[j]? = some p)
  (h : ∀ K' : Act → World → Prop, Shut (∀ a w, S w → (S w → wpAnyH P md ops Q S fuel (listed.setIfInBounds i true) a w) → K' a w) → if Region.wanted o (yielded ops a.tmps) = true then Oper.wp P o a w K' Q else K' (a.put o.dst undef) w)
  (k : ∀ K' : Act → World → Prop, Shut (∀ a w, S w → (S w → wpAnyH P md ops Q S fuel (listed.setIfInBounds j true) a w) → K' a w) → if Region.wanted p (yielded ops a.tmps) = true then Oper.wp P p a w K' Q else K' (a.put p.dst undef) w)
  (hr : Region.ready md ops listed = [i, j] := by kernel_rfl) : wpAnyH P md ops Q S (fuel + 1) listed a w := wpAnyH_ready hr (by simp) (cons_l ho h (cons_l hp k AllReadyH.nil))
theorem e3 (i j l : Nat) {o p q : Oper} {fuel : Nat} {listed : Array Bool} {a : Act} {w : World} (ho : ops.toList[i]? = some o) (hp : ops.toList[j]? = some p) (hq : ops.toList[l]? = some q)
  (h : ∀ K' : Act → World → Prop, Shut (∀ a w, S w → (S w → wpAnyH P md ops Q S fuel (listed.setIfInBounds i true) a w) → K' a w) → if Region.wanted o (yielded ops a.tmps) = true then Oper.wp P o a w K' Q else K' (a.put o.dst undef) w)
  (k : ∀ K' : Act → World → Prop, Shut (∀ a w, S w → (S w → wpAnyH P md ops Q S fuel (listed.setIfInBounds j true) a w) → K' a w) → if Region.wanted p (yielded ops a.tmps) = true then Oper.wp P p a w K' Q else K' (a.put p.dst undef) w)
  (m : ∀ K' : Act → World → Prop, Shut (∀ a w, S w → (S w → wpAnyH P md ops Q S fuel (listed.setIfInBounds l true) a w) → K' a w) → if Region.wanted q (yielded ops a.tmps) = true then Oper.wp P q a w K' Q else K' (a.put q.dst undef) w)
  (hr : Region.ready md ops listed = [i, j, l] := by kernel_rfl) : wpAnyH P md ops Q S (fuel + 1) listed a w := wpAnyH_ready hr (by simp) (cons_l ho h (cons_l hp k (cons_l hq m AllReadyH.nil)))
end
end Go.Proofs.YtdhipjoplkpgmaaGreatDoor
