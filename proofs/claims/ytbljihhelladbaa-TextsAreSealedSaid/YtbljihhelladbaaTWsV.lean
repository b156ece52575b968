/-
  The walk of the law PacksMatch: it returns true. Conditions: a pack of at most 2^40 octets; parts that lie in memory.
-/
import Derived.Test.YtbljihhelladbaaTWrP
import Derived.Test.YtbljihhelladbaaTWrO
import Derived.Test.YtbljihhelladbaaTWsB
namespace Go.Proofs.Ytbljihhelladbaa.wr
open Go.RowKit Go.Proofs.Ytbljihhelladbaa.st Go.Proofs.Ytbljihhelladbaa.hs Go.Proofs.Ytbljihhelladbaa.shr Go.Proofs.Ytbljihhelladbaa.sh
set_option linter.unusedSimpArgs false
set_option linter.unusedVariables false
set_option pp.maxSteps 6000
/-! what is written is read -/
theorem Own8.pt {B m c g : Nat} {w : World} {L : List Int} (h : Own8 B w g c m L) (hm : m = L.length) (ho : Octs L) (h0 : 0 < m) : Pt.Ok w ⟨some ⟨g, 0, none⟩, c, L⟩ := by
  obtain ⟨g', cur, e, _, hb, h1, h2, _⟩ := own_blk h h0
  cases e
  exact ⟨h.row, by show L.length ≤ c; omega, h2, ho, fun b e => by cases e; exact hb.lt⟩
end Go.Proofs.Ytbljihhelladbaa.wr
