/-
  Arrays and structs as whole values: loads, stores, new variables, literals; a block known cell by cell ('BlkV'). Conditions: the type's size, the cells that are there.
-/
import Derived.Test.YtbljihhelladbaaApp
import Derived.Laws.CopyOwn
namespace Go.Proofs.Ytbljihhelladbaa
open Go.RowKit

/-- block g holds just these cells, and none is frozen -/
def BlkV (t : TypeId) (w : World) (g : Nat) (cs : List Value) : Prop := w.heap[g]? = some (.cells cs.toArray t (0, 0))

theorem BlkI.v {k : IntKind} {t : TypeId} {w : World} {g : Nat} {l : List Int} (h : BlkI k t w g l) : BlkV t w g (l.map (Value.int k)) := h

/-- cells from a place on, none of them frozen by what is said here -/
def At (w : World) (a : Addr) (cs : List Value) : Prop := ∀ j u, cs[j]? = some u → w.cell? (a.add j) = some u

section
variable {t : TypeId} {w : World} {g : Nat} {cs : List Value}
theorem BlkV.lt (h : BlkV t w g cs) : g < w.heap.size := lt_of_block h
theorem BlkV.cell (h : BlkV t w g cs) (i : Nat) : w.cell? ⟨g, i, none⟩ = cs[i]? := by
  rw [cell_of_row w g i _ t (0, 0) h]; simp
theorem BlkV.frozen (h : BlkV t w g cs) (i : Nat) : w.frozen? ⟨g, i, none⟩ = false := frozen_of_row w g i _ t h
theorem BlkV.below {w' : World} {B : Nat} (h : BlkV t w g cs) (hb : Below B w w') (hg : g < B) : BlkV t w' g cs := by unfold BlkV; rw [hb.block g hg]; exact h
theorem BlkV.alloc (h : BlkV t w g cs) (o : Obj) : BlkV t (w.alloc o) g cs := by unfold BlkV; rw [Below.heap_alloc w o g h.lt]; exact h
theorem BlkV.drew (h : BlkV t w g cs) : BlkV t w.drew g cs := h
theorem BlkV.drewN (h : BlkV t w g cs) (n : Nat) : BlkV t (w.drewN n) g cs := h
theorem BlkV.other (h : BlkV t w g cs) {a : Addr} (ha : g ≠ a.block) (u : Value) : BlkV t (w.setCell a u) g cs := by unfold BlkV; rw [heap_setCell_other w a g u ha]; exact h
theorem BlkV.set (h : BlkV t w g cs) (i : Nat) (v : Value) : BlkV t (w.setCell ⟨g, i, none⟩ v) g (cs.set i v) := by
  unfold BlkV; rw [heap_setCell_same w g i _ t _ h]; simp
theorem BlkV.setRow (h : BlkV t w g cs) (ds : List Value) : BlkV t (w.setRow g ds.toArray) g ds := setRow_heap w g _ _ t (0, 0) h
theorem BlkV.otherRow (h : BlkV t w g cs) {g' : Nat} (hg : g ≠ g') (ds : Array Value) : BlkV t (w.setRow g' ds) g cs := by unfold BlkV; rw [setRow_other w g' g ds hg]; exact h
theorem BlkV.grown {w' : World} {row : Option Nat} (h : BlkV t w g cs) (hg : w.grownBy w' row) (hr : row ≠ some g) : BlkV t w' g cs := by
  unfold BlkV; rw [hg.block g h.lt (fun e => hr e.symm)]; exact h
theorem BlkV.at (h : BlkV t w g cs) (off : Nat) (ds : List Value) (hd : ∀ j u, ds[j]? = some u → cs[off + j]? = some u) : At w ⟨g, off, none⟩ ds := by
  intro j u hu
  have := hd j u hu
  rw [show (⟨g, off, none⟩ : Addr).add j = ⟨g, off + j, none⟩ by unfold Addr.add; split <;> simp_all, h.cell]
  exact this
theorem BlkV.at0 (h : BlkV t w g cs) : At w ⟨g, 0, none⟩ cs := h.at 0 cs fun j u hu => by rw [Nat.zero_add]; exact hu
end
theorem BlkV.new (t : TypeId) (w : World) {g : Nat} (cs : List Value) (hg : g = w.heap.size) : BlkV t (w.alloc (.cells cs.toArray t)) g cs := by
  subst hg; unfold BlkV; rw [heap_alloc_new]

theorem below_setRow' {B : Nat} {a w : World} (h : Below B a w) {g : Nat} (hg : B ≤ g) (cs : Array Value) : Below B a (w.setRow g cs) :=
  h.trans ⟨rfl, rfl, rfl, by simp, fun k hk => setRow_other w g k cs (by omega)⟩

/-- a type whose values are rows of cells: how many -/
def Agg (P : Program) (t : TypeId) (n : Nat) : Prop := (∃ d, P.underlying t = some d ∧ (match d with | .struct _ => True | .array _ _ => True | _ => False)) ∧ (P.info? t).map (·.size) = some n
theorem Agg.arr {P : Program} {t e : TypeId} {m n : Nat} (h : P.underlying t = some (.array m e)) (k : (P.info? t).map (·.size) = some n) : Agg P t n := ⟨⟨_, h, trivial⟩, k⟩
theorem Agg.str {P : Program} {t : TypeId} {fs : Array Field} {n : Nat} (h : P.underlying t = some (.struct fs)) (k : (P.info? t).map (·.size) = some n) : Agg P t n := ⟨⟨_, h, trivial⟩, k⟩

theorem run_load_agg {P : Program} (w : World) (t : TypeId) (a : Addr) (cs : List Value) (ha : Agg P t cs.length) (hc : At w a cs) : (loadVar t a).run P w = .ok (.agg cs.toArray) w := by
  obtain ⟨⟨d, hu, hd⟩, hi⟩ := ha
  obtain ⟨i, hi, hs⟩ := Option.map_eq_some_iff.1 hi
  have hl := run_loadCells_list (P := P) w a cs hc
  cases d <;> simp_all [loadVar, isAgg, run_underlying hu, sizeOf, typeInfo, Result.andThen]

theorem wl_load {P : Program} {w : World} {ops : Array Oper} {rest : List Oper} {o : Oper} {a : Act} {Q : Exit → Act → World → Prop} (hgd : o.guard = none) (ty : TypeId) (x : Operand) (ho : o.op = .load ty x)
    (p : Addr) (hx : a.eval x = .pointer (some p)) (cs : List Value) (ha : Agg P ty cs.length) (hc : At w p cs) (h : wpList P ops Q rest (a.put o.dst (.agg cs.toArray)) w) : wpList P ops Q (o :: rest) a w := by
  refine wpList_plain hgd fun K hK' => ?_
  unfold Oper.wp
  simp [execOp, ho, hx, Instr.loadAt, Instr.sureAddr, run_load_agg w ty p cs ha hc, Result.andThen]
  exact hK' _ _ h

theorem run_store_agg {P : Program} (w : World) (ty t : TypeId) (g off : Nat) (cur cs : List Value) (hi : (P.info? ty).map (·.size) = some cs.length) (hg : BlkV t w g cur) (hfit : off + cs.length ≤ cur.length) (h1 : ∀ u ∈ cs, u.oneCell' = true) :
    (storeVar ty ⟨g, off, none⟩ (.agg cs.toArray)).run P w = .ok () (w.setRow g (cur.take off ++ cs ++ cur.drop (off + cs.length)).toArray) := by
  obtain ⟨i, hi, hs⟩ := Option.map_eq_some_iff.1 hi
  have h := run_storeCells_at (P := P) g off t cs 0 cur.toArray w hg (by simpa using hfit) h1
  simp only [Nat.add_zero] at h
  simp [storeVar, Value.cells, sizeOf, typeInfo, hi, hs, h]

theorem wl_store {P : Program} {w : World} {ops : Array Oper} {rest : List Oper} {o : Oper} {a : Act} {Q : Exit → Act → World → Prop} (hgd : o.guard = none) (ty : TypeId) (x y : Operand) (ho : o.op = .store ty x y)
    (t : TypeId) (g off : Nat) (hx : a.eval x = .pointer (some ⟨g, off, none⟩)) (cs : List Value) (hy : a.eval y = .agg cs.toArray) (hi : (P.info? ty).map (·.size) = some cs.length) (cur : List Value) (hg : BlkV t w g cur) (hfit : off + cs.length ≤ cur.length) (h1 : ∀ u ∈ cs, u.oneCell' = true)
    (h : wpList P ops Q rest (a.put o.dst undef) (w.setRow g (cur.take off ++ cs ++ cur.drop (off + cs.length)).toArray)) : wpList P ops Q (o :: rest) a w := by
  refine wpList_plain hgd fun K hK' => ?_
  unfold Oper.wp
  simp [execOp, ho, hx, hy, Instr.storeAt, Instr.sureAddr, run_store_agg w ty t g off cur cs hi hg hfit h1, Result.andThen]
  exact hK' _ _ (by simpa using h)

theorem wl_alloc {P : Program} {w : World} {ops : Array Oper} {rest : List Oper} {o : Oper} {a : Act} {Q : Exit → Act → World → Prop} (hgd : o.guard = none) (t : TypeId) (ho : o.op = .alloc t)
    (cs : List Value) (hz : (P.info? t).map (·.zero) = some (some (.agg cs.toArray))) (h : wpList P ops Q rest (a.put o.dst (.pointer (some ⟨w.heap.size, 0, none⟩))) (w.alloc (.cells cs.toArray t))) : wpList P ops Q (o :: rest) a w := by
  obtain ⟨i, hi, hs⟩ := Option.map_eq_some_iff.1 hz
  refine wpList_plain hgd fun K hK' => ?_
  unfold Oper.wp
  simp [execOp, ho, Instr.alloc, zeroValue, typeInfo, hi, hs, newVar, newRow, Value.cells, Result.andThen]
  exact hK' _ _ h

theorem wl_build {P : Program} {w : World} {ops : Array Oper} {rest : List Oper} {o : Oper} {a : Act} {Q : Exit → Act → World → Prop} (hgd : o.guard = none) (t : TypeId) (parts : Array (Nat × Operand)) (ho : o.op = .build t parts)
    (cs : List Value) (hb : P.built t (parts.map fun (i, x) => (i, a.eval x)).toList = some cs.toArray) (h : wpList P ops Q rest (a.put o.dst (.agg cs.toArray)) w) : wpList P ops Q (o :: rest) a w := by
  refine wpList_plain hgd fun K hK' => ?_
  refine wp_build (P := P) t parts ho (by rw [hb]; rfl) ?_
  rw [hb]
  exact hK' _ _ h

theorem wl_build0 {P : Program} {w : World} {ops : Array Oper} {rest : List Oper} {o : Oper} {a : Act} {Q : Exit → Act → World → Prop} (hgd : o.guard = none) (t : TypeId) (ho : o.op = .build t #[])
    (cs : List Value) (hb : P.built t [] = some cs.toArray) (h : wpList P ops Q rest (a.put o.dst (.agg cs.toArray)) w) : wpList P ops Q (o :: rest) a w :=
  wl_build hgd t #[] ho cs (by simpa using hb) h

end Go.Proofs.Ytbljihhelladbaa
