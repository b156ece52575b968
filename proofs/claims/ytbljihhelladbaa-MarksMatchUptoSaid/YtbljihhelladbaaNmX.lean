/-
  Contracts of NumberOf and slices.Equal; the numbers of a stream, pair by pair. Conditions: octets.
-/
import Derived.Test.YtbljihhelladbaaStY
import Derived.Test.YtbljihhelladbaaStZ
import Derived.Test.YtbljihhelladbaaSlInt
/- Contracts of keyref2.NumberOf (two octets), slices.Equal at []int. Conditions: octets. -/
namespace Go.Proofs.Ytbljihhelladbaa.st
open Go.RowKit
set_option pp.maxSteps 4000

theorem numberOf2 (ao : Option Addr) (cap : Nat) (a b : Int) (w : World) (hr : RowI .u8 w ao [a, b]) (ha : Oct a) (hb : Oct b) :
    Calls Try.prog 90 #[.slice ao 2 cap] w fun e w' => e = .returned (.int .i64 (256 * a + b)) ∧ w = w' := by
  obtain ⟨ha0, ha1⟩ := ha
  obtain ⟨hb0, hb1⟩ := hb
  obtain ⟨g, off, rfl, hg, hc⟩ := hr.at (i := 0) (by simp)
  have h0 : w.cell? ⟨g, off, none⟩ = some (.int .u8 a) := hc 0 (by simp)
  have h1 : w.cell? ⟨g, off + 1, none⟩ = some (.int .u8 b) := hc 1 (by simp)
  clear hc hr
  go_enter Try.func90, Try.ntmps90
  go_wp2
  go_loop [3, 8] (fun v i => (i = .int .i64 0 ∧ v = .int .i64 0) ∨ (i = .int .i64 1 ∧ v = .int .i64 a) ∨ (i = .int .i64 2 ∧ v = .int .i64 (256 * a + b))) (fun _ i => 2 - (intOf i).toNat)
  case atStart => exact Or.inl ⟨rfl, rfl⟩
  case round =>
    rcases hrel with ⟨rfl, rfl⟩ | ⟨rfl, rfl⟩ | ⟨rfl, rfl⟩
    · go_wp2
      go_round
      case rel => exact Or.inr (Or.inl ⟨rfl, rfl⟩)
      case measure => simp [intOf]
    · have e : a * 256 + b = 256 * a + b := by omega
      have H := hid e
      clear e
      go_wp2
      go_round
      case rel => exact Or.inr (Or.inr ⟨rfl, by rw [H.out]⟩)
      case measure => simp [intOf]
    · go_wp2
      go_ret
      exact ⟨rfl, rfl⟩

theorem equal_same (ao bo : Option Addr) (c1 c2 : Nat) (l : List Int) (w : World) (h1 : RowI .i64 w ao l) (h2 : RowI .i64 w bo l) (hn : l.length ≤ 4611686018427387904) :
    Calls Try.prog 18 #[.slice ao l.length c1, .slice bo l.length c2] w fun e w' => e = .returned (.bool true) ∧ Below w.heap.size w w' := by
  go_enter Try.func18, Try.ntmps18
  go_wp2
  go_loopw [13] (fun i wr => ∃ k : Nat, k ≤ l.length ∧ i = .int .i64 k ∧ Below w.heap.size w wr) (fun i _ => l.length - (intOf i).toNat)
  case atStart => exact ⟨0, Nat.zero_le _, rfl, Below.refl _ _⟩
  case round =>
    obtain ⟨k, hk, rfl, hb⟩ := hrel
    by_cases h0 : k < l.length
    · obtain ⟨b1, o1, c, rfl, hb1, HC, hcell0⟩ := h1.elem (i := k) h0
      have hcell := (hb.cell (p := ⟨b1, o1 + k, none⟩) hb1).trans hcell0
      obtain ⟨b2, o2, d, rfl, hb2, HD, hcellq0⟩ := h2.elem (i := k) h0
      have hcellq := (hb.cell (p := ⟨b2, o2 + k, none⟩) hb2).trans hcellq0
      obtain rfl : d = c := by rw [HD.out, HC.out]
      go_wp2_with (go_quiet (fail))
      go_roundw
      case rel => exact ⟨k + 1, by omega, by go_num, bdN hb _⟩
      case measure => simp [intOf] <;> omega
    · go_wp2
      go_ret
      exact ⟨rfl, hb⟩
end Go.Proofs.Ytbljihhelladbaa.st

/- Contract of share.numbers: the numbers of a stream. Conditions: a key and a nonce of octets, at most 4096 numbers. -/
namespace Go.Proofs.Ytbljihhelladbaa.st
open Go.RowKit Go.Proofs.Ytbljihhelladbaa.slInt
set_option pp.maxSteps 4000

theorem own_of_mine {w : World} {b : Nat} {e : TypeId} {s : Nat} {v : Value} {n : Nat} {xs : List Value} (h : Mine w b e s v n xs) (hn : 0 < n) : w.ownsRow b e s v n xs := by
  rcases h with h | ⟨h, _⟩
  · exact h
  · omega

/-- rows of different types lie apart -/
theorem apart {w : World} {b1 b2 : Nat} {e1 e2 : TypeId} {s1 s2 : Nat} {v1 v2 : Value} {n1 n2 : Nat} {x1 x2 : List Value} (h1 : w.ownsRow b1 e1 s1 v1 n1 x1) (h2 : w.ownsRow b2 e2 s2 v2 n2 x2) (he : e1 ≠ e2) : v2.ownBlock = none ∨ v2.ownBlock ≠ v1.ownBlock := by
  rcases h2 with ⟨_, ⟨rfl, _⟩ | ⟨g, cap, cur, rfl, hg, hh, _⟩⟩
  · exact Or.inl rfl
  · refine Or.inr fun hc => ?_
    rcases h1 with ⟨_, ⟨rfl, _⟩ | ⟨g', cap', cur', rfl, hg', hh', _⟩⟩
    · cases hc
    · have e : g = g' := by simpa [Value.ownBlock] using hc
      subst e
      rw [hh] at hh'
      simp at hh'
      exact he hh'.2.symm

theorem pair_pos {many : Nat} {b o : List Int} {j : Nat} (h : (pairTo many b o j).length < many) (hv : vAt b j < 65535) : pairTo many b o (j + 1) = pairTo many b o j ++ [vAt b j % 257] := by
  show stepN many b (pairTo many b o j) j = _
  unfold stepN
  rw [if_pos h, if_pos hv]
theorem pair_neg {many : Nat} {b o : List Int} {j : Nat} (hv : ¬ vAt b j < 65535) : pairTo many b o (j + 1) = pairTo many b o j := by
  show stepN many b (pairTo many b o j) j = _
  unfold stepN
  rw [if_neg hv]
  split <;> rfl
theorem pair_end {many : Nat} {b o : List Int} {j : Nat} (hj : j ≤ 32) (h : ¬ (j < 32 ∧ (pairTo many b o j).length < many)) : pairTo many b o j = pairTo many b o 32 := by
  by_cases h1 : j = 32
  · rw [h1]
  · have := pairTo_stop (many := many) (b := b) (o := o) (i := j) (by omega) (32 - j)
    rw [show j + (32 - j) = 32 by omega] at this
    exact this.symm
end Go.Proofs.Ytbljihhelladbaa.st
