/-
  Contract of share.numbers: the numbers of a stream. Conditions: a key and a nonce of octets, at most 4096 numbers.
-/
import Derived.Test.YtbljihhelladbaaNmA
namespace Go.Proofs.Ytbljihhelladbaa.st
open Go.RowKit Go.Proofs.Ytbljihhelladbaa.slInt
set_option pp.maxSteps 4000

theorem own_of_mine {w : World} {b : Nat} {e : TypeId} {s : Nat} {v : Value} {n : Nat} {xs : List Value} (h : Mine w b e s v n xs) (hn : 0 < n) : w.ownsRow b e s v n xs := by
  rcases h with h | ⟨h, _⟩
  · exact h
  · omega

/-- rows of different types lie apart -/
theorem apart {w : World} {b1 b2 : Nat} {e1 e2 : TypeId} {s1 s2 : Nat} {v1 v2 : Value} {n1 n2 : Nat} {x1 x2 : List Value} (h1 : w.ownsRow b1 e1 s1 v1 n1 x1) (h2 : w.ownsRow b2 e2 s2 v2 n2 x2) (he : e1 ≠ e2) : v2.ownBlock = none ∨ v2.ownBlock ≠ v1.ownBlock := by
  rcases h2 with ⟨_, ⟨rfl, _⟩ | ⟨g, cap, cur, rfl, hg, hh, _⟩⟩
  · exact Or.inl rfl
  · refine Or.inr fun hc => ?_
    rcases h1 with ⟨_, ⟨rfl, _⟩ | ⟨g', cap', cur', rfl, hg', hh', _⟩⟩
    · cases hc
    · have e : g = g' := by simpa [Value.ownBlock] using hc
      subst e
      rw [hh] at hh'
      simp at hh'
      exact he hh'.2.symm

theorem pair_pos {many : Nat} {b o : List Int} {j : Nat} (h : (pairTo many b o j).length < many) (hv : vAt b j < 65535) : pairTo many b o (j + 1) = pairTo many b o j ++ [vAt b j % 257] := by
  show stepN many b (pairTo many b o j) j = _
  unfold stepN
  rw [if_pos h, if_pos hv]
theorem pair_neg {many : Nat} {b o : List Int} {j : Nat} (hv : ¬ vAt b j < 65535) : pairTo many b o (j + 1) = pairTo many b o j := by
  show stepN many b (pairTo many b o j) j = _
  unfold stepN
  rw [if_neg hv]
  split <;> rfl
theorem pair_end {many : Nat} {b o : List Int} {j : Nat} (hj : j ≤ 32) (h : ¬ (j < 32 ∧ (pairTo many b o j).length < many)) : pairTo many b o j = pairTo many b o 32 := by
  by_cases h1 : j = 32
  · rw [h1]
  · have := pairTo_stop (many := many) (b := b) (o := o) (i := j) (by omega) (32 - j)
    rw [show j + (32 - j) = 32 by omega] at this
    exact this.symm
end Go.Proofs.Ytbljihhelladbaa.st
