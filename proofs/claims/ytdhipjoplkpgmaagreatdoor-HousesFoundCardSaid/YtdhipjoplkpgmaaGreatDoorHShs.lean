/-
  Slices of shares as the walks read them ('RowS'), and such arguments opened. No condition.
-/
import Derived.Test.YtdhipjoplkpgmaaGreatDoorHShBC
import Derived.Test.YtdhipjoplkpgmaaGreatDoorHMem
import Derived.Test.YtdhipjoplkpgmaaGreatDoorHStA
import Derived.Deep.Slices
set_option linter.unusedSimpArgs false
set_option linter.unusedVariables false
namespace Go.Proofs.YtdhipjoplkpgmaaGreatDoor.shr
open Go.RowKit Go.ChangeShapes Go.WideShapes Go.ChangeAt
def RowS (w : World) (ao : Option Addr) (l : List Sh) : Prop :=
 l = [] ∨ ∃ b off, ao = some ⟨b, off, none⟩ ∧ b < w.heap.size ∧ ∀ i, i < l.length → At w ⟨b, off + i * 49, none⟩ (l.getD i nil).cs
theorem RowS.at {w : World} {ao : Option Addr} {l : List Sh} (h : RowS w ao l) {i : Nat} (hi : i < l.length) : ∃ b off, ao = some ⟨b, off, none⟩ ∧ b < w.heap.size ∧ ∀ i, i < l.length → At w ⟨b, off + i * 49, none⟩ (l.getD i nil).cs := by
 rcases h with h | h
 ·subst h; simp at hi
 ·exact h
theorem At.below {w w' : World} {a : Addr} {cs : List Value} (h : At w a cs) (hb : Below w.heap.size w w') (ha : a.block < w.heap.size) : At w' a cs := by
 intro j u hu
 have e : (a.add j).block = a.block := by unfold Addr.add; split <;> rfl
 rw [hb.cell (p := a.add j) (by rw [e]; exact ha)]
 exact h j u hu
theorem RowS.below {w w' : World} {ao : Option Addr} {l : List Sh} (h : RowS w ao l) (hb : Below w.heap.size w w') : RowS w' ao l := by
 rcases h with h | ⟨b, off, h1, h2, h3⟩
 ·exact Or.inl h
 ·exact Or.inr ⟨b, off, h1, Nat.lt_of_lt_of_le h2 hb.size, fun i hi => At.below (h3 i hi) hb h2⟩
end Go.Proofs.YtdhipjoplkpgmaaGreatDoor.shr
