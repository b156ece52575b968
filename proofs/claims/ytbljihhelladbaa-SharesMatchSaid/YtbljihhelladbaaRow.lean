/-
  Slices of integers as the walks read them: 'RowI k w ao l': behind the address ao lie the numbers l. No condition.
-/
import Derived.Test.YtbljihhelladbaaBase
import Derived.Deep.QuietTactic
import Derived.BigQuiet
namespace Go.Proofs.Ytbljihhelladbaa
open Go.RowKit

/-- behind the address lie these numbers (of an empty list nothing is said of the address) -/
def RowI (k : IntKind) (w : World) (ao : Option Addr) (l : List Int) : Prop :=
  l = [] ∨ ∃ b off, ao = some ⟨b, off, none⟩ ∧ b < w.heap.size ∧ ∀ i, i < l.length → w.cell? ⟨b, off + i, none⟩ = some (.int k (l.getD i 0))

theorem RowI.nil (k : IntKind) (w : World) (ao : Option Addr) : RowI k w ao [] := Or.inl rfl

theorem RowI.below {k : IntKind} {w w' : World} {ao : Option Addr} {l : List Int} (h : RowI k w ao l) (hb : Below w.heap.size w w') : RowI k w' ao l := by
  rcases h with h | ⟨b, off, h1, h2, h3⟩
  · exact Or.inl h
  · exact Or.inr ⟨b, off, h1, Nat.lt_of_lt_of_le h2 hb.size, fun i hi => by rw [hb.cell (p := ⟨b, off + i, none⟩) h2]; exact h3 i hi⟩

theorem RowI.drew {k : IntKind} {w : World} {ao : Option Addr} {l : List Int} (h : RowI k w ao l) : RowI k w.drew ao l := h

/-- a row that is not empty: its address -/
theorem RowI.at {k : IntKind} {w : World} {ao : Option Addr} {l : List Int} (h : RowI k w ao l) {i : Nat} (hi : i < l.length) :
    ∃ b off, ao = some ⟨b, off, none⟩ ∧ b < w.heap.size ∧ ∀ j, j < l.length → w.cell? ⟨b, off + j, none⟩ = some (.int k (l.getD j 0)) := by
  rcases h with h | h
  · subst h; simp at hi
  · exact h

/-- one number of a row, under a name of its own -/
theorem RowI.elem {k : IntKind} {w : World} {ao : Option Addr} {l : List Int} (h : RowI k w ao l) {i : Nat} (hi : i < l.length) :
    ∃ b off c, ao = some ⟨b, off, none⟩ ∧ b < w.heap.size ∧ Hid (c = l.getD i 0) ∧ w.cell? ⟨b, off + i, none⟩ = some (.int k c) := by
  obtain ⟨b, off, h1, h2, h3⟩ := h.at hi
  exact ⟨b, off, _, h1, h2, rfl, h3 i hi⟩

theorem cell?_drewN (w : World) (n : Nat) (a : Addr) : (w.drewN n).cell? a = w.cell? a := rfl
theorem RowI.drewN {k : IntKind} {w : World} {ao : Option Addr} {l : List Int} (h : RowI k w ao l) (n : Nat) : RowI k (w.drewN n) ao l := h

theorem bdN {B : Nat} {a w : World} (h : Below B a w) (n : Nat) : Below B a (w.drewN n) := ⟨h.os, h.tape, h.output, h.size, h.block⟩

/-- block g holds just these numbers, and none is frozen -/
def BlkI (k : IntKind) (t : TypeId) (w : World) (g : Nat) (l : List Int) : Prop := w.heap[g]? = some (.cells (l.map (Value.int k)).toArray t (0, 0))

section
variable {k : IntKind} {t : TypeId} {w : World} {g : Nat} {l : List Int}
theorem BlkI.lt (h : BlkI k t w g l) : g < w.heap.size := lt_of_block h
theorem BlkI.cell (h : BlkI k t w g l) {i : Nat} (hi : i < l.length) : w.cell? ⟨g, i, none⟩ = some (.int k (l.getD i 0)) := by
  rw [cell_of_row w g i _ t (0, 0) h]
  simp [List.getD_eq_getElem?_getD, hi]
theorem BlkI.frozen (h : BlkI k t w g l) (i : Nat) : w.frozen? ⟨g, i, none⟩ = false := frozen_of_row w g i _ t h
theorem BlkI.elem (h : BlkI k t w g l) {i : Nat} (hi : i < l.length) : ∃ c, Hid (c = l.getD i 0) ∧ w.cell? ⟨g, i, none⟩ = some (.int k c) := ⟨_, rfl, h.cell hi⟩
theorem BlkI.row (h : BlkI k t w g l) : RowI k w (some ⟨g, 0, none⟩) l := Or.inr ⟨g, 0, rfl, h.lt, fun i hi => by rw [Nat.zero_add]; exact h.cell hi⟩
theorem BlkI.below {w' : World} {B : Nat} (h : BlkI k t w g l) (hb : Below B w w') (hg : g < B) : BlkI k t w' g l := by unfold BlkI; rw [hb.block g hg]; exact h
theorem BlkI.alloc (h : BlkI k t w g l) (o : Obj) : BlkI k t (w.alloc o) g l := by unfold BlkI; rw [Below.heap_alloc w o g h.lt]; exact h
theorem BlkI.drew (h : BlkI k t w g l) : BlkI k t w.drew g l := h
theorem BlkI.drewN (h : BlkI k t w g l) (n : Nat) : BlkI k t (w.drewN n) g l := h
theorem BlkI.other (h : BlkI k t w g l) {a : Addr} (ha : g ≠ a.block) (u : Value) : BlkI k t (w.setCell a u) g l := by unfold BlkI; rw [heap_setCell_other w a g u ha]; exact h
theorem BlkI.set (h : BlkI k t w g l) (i : Nat) (v : Int) : BlkI k t (w.setCell ⟨g, i, none⟩ (.int k v)) g (l.set i v) := by
  unfold BlkI
  rw [heap_setCell_same w g i _ t _ h]
  simp [List.map_set]
end
theorem BlkI.made (k : IntKind) (t : TypeId) (w : World) (n : Nat) : BlkI k t (w.alloc (.cells (madeCells #[.int k 0] n) t)) w.heap.size (List.replicate n 0) := by
  unfold BlkI
  rw [heap_alloc_new]
  congr 2
  apply Array.ext'
  apply List.ext_getElem
  · simp [madeCells]
  · intro i h1 h2
    simp [madeCells, Nat.mod_one]
theorem BlkI.new (k : IntKind) (t : TypeId) (w : World) (l : List Int) : BlkI k t (w.alloc (.cells (l.map (Value.int k)).toArray t)) w.heap.size l := by
  unfold BlkI
  rw [heap_alloc_new]
theorem BlkI.new' (k : IntKind) (t : TypeId) (w : World) {g : Nat} (l : List Int) (hg : g = w.heap.size) : BlkI k t (w.alloc (.cells (l.map (Value.int k)).toArray t)) g l := by
  subst hg; exact BlkI.new k t w l
theorem BlkI.made' (k : IntKind) (t : TypeId) (w : World) {g : Nat} (n : Nat) (hg : g = w.heap.size) : BlkI k t (w.alloc (.cells (madeCells #[.int k 0] n) t)) g (List.replicate n 0) := by
  subst hg; exact BlkI.made k t w n

end Go.Proofs.Ytbljihhelladbaa
