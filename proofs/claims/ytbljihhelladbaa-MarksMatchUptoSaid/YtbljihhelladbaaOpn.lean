/-
  Arguments that are slices of integers, opened for the walks: their numbers, their room, their bulk. No condition.
-/
import Derived.Test.YtbljihhelladbaaMem
import Derived.ChangeSlices
import Derived.ProofKit
import Derived.WideShapes
import Derived.OpenShut
namespace Go.Proofs.Ytbljihhelladbaa.opn
open Go.ChangeShapes Go.WideShapes Go.ChangeAt Go.RowKit

theorem bulk_lits {H : Type} (k : IntKind) (l : List Int) : Rows.uptoBulkAll (lits (H := H) k l) = l.length := by
  induction l with
  | nil => rfl
  | cons n l ih =>
    show Rows.uptoBulk _ + Rows.uptoBulkAll (lits (H := H) k l) = _
    rw [ih]
    show 1 + l.length = _
    simp; omega
theorem bulk_append {H : Type} (l m : List (DataW H)) : Rows.uptoBulkAll (l ++ m) = Rows.uptoBulkAll l + Rows.uptoBulkAll m := by
  induction l with
  | nil => simp [Rows.uptoBulkAll]
  | cons n l ih =>
    show Rows.uptoBulk _ + Rows.uptoBulkAll (l ++ m) = Rows.uptoBulk _ + Rows.uptoBulkAll _ + _
    rw [ih]; omega

/-- what a slice of integers is, behind the law's form -/
structure IntsAt {H : Type} (P : Program) (W : World) (k : IntKind) (v : Value) (d : DataW H) (l : List Int) (ao : Option Addr) (cap : Nat) : Prop where
  val : v = .slice ao l.length cap
  le : l.length ≤ cap
  row : RowI k W ao l
  none : ao = none → cap = 0 ∧ l.length = 0
  bulk : l.length ≤ Rows.uptoBulk d
  wf : ∀ n ∈ l, (Lit.int k n).wf = true

theorem lt_of_cell' {w : World} {a : Addr} {u : Value} (h : w.cell? a = some u) : a.block < w.heap.size := by
  unfold World.cell? at h
  by_cases hb : a.block < w.heap.size
  · exact hb
  · simp [Array.getElem?_eq_none (by omega : w.heap.size ≤ a.block)] at h

theorem ints {H : Type} {enc : TypeId × Value → H} {P : Program} {W : World} {base : Nat} {held : Bool} {r : Reach} {b0 : Nat} {t e : TypeId} {k : IntKind} {v : Value} {d : DataW H} {ps : List MemPlace}
    (ht : P.underlying t = some (.slice e)) (he : P.underlying e = some (.int k)) (hc : P.cellsOf e = 1) (hval : Value.okWide P W r b0 t v) (hd : DataW.Trod enc P W base (fun _ => true) held t v d ps) :
    ∃ l ao cap, IntsAt P W k v d l ao cap := by
  obtain ⟨a, len, cap, rfl⟩ := okWide_slice ht hval
  obtain ⟨fuel, hf⟩ := hd
  rcases open_ints ht he hc hf with ⟨h1, h2⟩ | ⟨ad, ln, cp, zs, h1, h2, h3, h4, h5, h6, h7, h8⟩
  · simp [Value.cells] at h1
    obtain ⟨rfl, rfl, rfl⟩ := h1
    exact ⟨[], none, 0, ⟨rfl, Nat.le_refl _, RowI.nil _ _ _, fun _ => ⟨rfl, rfl⟩, Nat.zero_le _, fun n hn => by cases hn⟩⟩
  · simp [Value.cells] at h1
    obtain ⟨rfl, rfl, rfl⟩ := h1
    simp only [if_true] at h5
    have hlen : (zs.take len).length = len := by rw [List.length_take]; omega
    have hx : d = .slice (lits k (zs.take len)) (lits k (zs.drop len)) := congrArg Prod.fst h6
    refine ⟨zs.take len, some ad, cap, ⟨by rw [hlen], by omega, ?_, (fun h => by cases h), ?_, fun n hn => h8 n (List.mem_of_mem_take hn)⟩⟩
    · by_cases hl : len = 0
      · exact Or.inl (by subst hl; simp)
      · obtain ⟨b, off, rfl, hcl⟩ := ints_at h7 (by omega)
        have hb := lt_of_cell' (hcl 0 (by omega))
        refine Or.inr ⟨b, off, rfl, hb, fun i hi => ?_⟩
        rw [hlen] at hi
        rw [hcl i (by omega)]
        simp [List.getD_eq_getElem?_getD, hi]
    · rw [hx]
      show _ ≤ Rows.uptoBulkAll (lits k (zs.take len)) + Rows.uptoBulkAll (lits k (zs.drop len)) + 1
      rw [bulk_lits]; omega

end Go.Proofs.Ytbljihhelladbaa.opn
