/-
  The numbers of a stream, in plain Lean; at most one block of a stream gives none: so they are enough. Conditions: octets; fewer than 2^40 blocks.
-/
import Derived.Test.YtbljihhelladbaaStK
import Derived.Test.YtbljihhelladbaaStH
namespace Go.Proofs.Ytbljihhelladbaa.st
open Go.RowKit Go.Proofs.Ytbljihhelladbaa.Fld

def vAt (b : List Int) (j : Nat) : Int := 256 * b.getD (2 * j) 0 + b.getD (2 * j + 1) 0
def stepN (many : Nat) (b o : List Int) (j : Nat) : List Int := if o.length < many then (if vAt b j < 65535 then o ++ [vAt b j % 257] else o) else o
def pairTo (many : Nat) (b o : List Int) : Nat → List Int
  | 0 => o
  | j + 1 => stepN many b (pairTo many b o j) j
def blkTo (many : Nat) (k n : List Int) : Nat → List Int
  | 0 => []
  | q + 1 => pairTo many (blk k n q) (blkTo many k n q) 32
/-- all numbers -/
def numsOf (many : Nat) (k n : List Int) : List Int := blkTo many k n (many + 2)

theorem stepN_le {many : Nat} {b o : List Int} {j : Nat} (h : o.length ≤ many) : (stepN many b o j).length ≤ many := by
  unfold stepN
  split
  · split
    · simp; omega
    · exact h
  · exact h
theorem stepN_ge (many : Nat) (b o : List Int) (j : Nat) : o.length ≤ (stepN many b o j).length := by
  unfold stepN
  split
  · split
    · simp
    · exact Nat.le_refl _
  · exact Nat.le_refl _
theorem pairTo_le {many : Nat} {b o : List Int} (h : o.length ≤ many) (j : Nat) : (pairTo many b o j).length ≤ many := by
  induction j with
  | zero => exact h
  | succ j ih => exact stepN_le ih
theorem pairTo_mono (many : Nat) (b o : List Int) (i d : Nat) : (pairTo many b o i).length ≤ (pairTo many b o (i + d)).length := by
  induction d with
  | zero => exact Nat.le_refl _
  | succ d ih => exact Nat.le_trans ih (stepN_ge _ _ _ _)
theorem pairTo_stop {many : Nat} {b o : List Int} {i : Nat} (h : many ≤ (pairTo many b o i).length) (d : Nat) : pairTo many b o (i + d) = pairTo many b o i := by
  induction d with
  | zero => rfl
  | succ d ih =>
    show stepN many b (pairTo many b o (i + d)) (i + d) = _
    rw [ih]
    unfold stepN
    rw [if_neg (by omega)]
theorem blkTo_le (many : Nat) (k n : List Int) (q : Nat) : (blkTo many k n q).length ≤ many := by
  induction q with
  | zero => exact Nat.zero_le _
  | succ q ih => exact pairTo_le ih 32
theorem blkTo_stop {many : Nat} {k n : List Int} {q : Nat} (h : many ≤ (blkTo many k n q).length) (d : Nat) : blkTo many k n (q + d) = blkTo many k n q := by
  induction d with
  | zero => rfl
  | succ d ih =>
    show pairTo many (blk k n (q + d)) (blkTo many k n (q + d)) 32 = _
    rw [ih]
    have := pairTo_stop (b := blk k n (q + d)) (i := 0) (o := blkTo many k n q) h 32
    rw [Nat.zero_add] at this
    exact this
theorem grow {many : Nat} {b o : List Int} (h : o.length < many) (j : Nat) (hj : j < 32) (hv : vAt b j < 65535) : o.length < (pairTo many b o 32).length := by
  have h1 := pairTo_mono many b o 0 j
  have h2 := pairTo_mono many b o (j + 1) (32 - (j + 1))
  rw [show j + 1 + (32 - (j + 1)) = 32 by omega] at h2
  rw [Nat.zero_add] at h1
  have h1' : o.length ≤ (pairTo many b o j).length := h1
  by_cases hf : (pairTo many b o j).length < many
  · have h3 : (pairTo many b o (j + 1)).length = (pairTo many b o j).length + 1 := by
      show (stepN many b (pairTo many b o j) j).length = _
      unfold stepN
      rw [if_pos hf, if_pos hv]; simp
    omega
  · have h4 := stepN_ge many b (pairTo many b o j) j
    have h5 : (pairTo many b o (j + 1)).length = (stepN many b (pairTo many b o j) j).length := rfl
    omega

theorem full_block {b : List Int} (hl : b.length = 64) (hb : Octs b) (h : ∀ j, j < 32 → ¬ vAt b j < 65535) : b = List.replicate 64 255 := by
  refine ext_getD (by rw [hl, List.length_replicate]) fun m hm => ?_
  have e : (List.replicate 64 (255 : Int)).getD m 0 = 255 := by
    rw [List.getD_eq_getElem?_getD, List.getElem?_replicate, if_pos (by omega)]; rfl
  rw [e]
  have h1 := h (m / 2) (by omega)
  have h2 := hb.getD (2 * (m / 2))
  have h3 := hb.getD (2 * (m / 2) + 1)
  unfold vAt at h1
  unfold Oct at h2 h3
  by_cases hp : m % 2 = 0
  · rw [show m = 2 * (m / 2) by omega]; omega
  · rw [show m = 2 * (m / 2) + 1 by omega]; omega

theorem octL_octs (ws : List Int) : Octs (octL ws 64) := by
  intro c hc
  unfold octL at hc
  obtain ⟨i, _, rfl⟩ := List.mem_map.1 hc
  have : i % 4 < 4 := Nat.mod_lt _ (by omega)
  rw [o4_at _ _ this]
  unfold Oct
  omega
theorem blk_octs (k n : List Int) (q : Nat) : Octs (blk k n q) := octL_octs _

theorem splice_getD {l d : List Int} {off j : Nat} (hl : off ≤ l.length) (hj : j < d.length) : (splice l off d).getD (off + j) 0 = d.getD j 0 := by
  unfold splice
  have ht : (l.take off).length = off := by rw [List.length_take]; omega
  rw [List.getD_eq_getElem?_getD, List.getElem?_append_right (by omega), ht, show off + j - off = j by omega, List.getElem?_append_left hj, ← List.getD_eq_getElem?_getD]

theorem seed_inj {k n : List Int} (hk : k.length = 32) (hn : n.length = 16) {p q : Nat} (hp : p < 18446744073709551616) (hq : q < 18446744073709551616) (h : seed k n p = seed k n q) : p = q := by
  have hL : (splice (splice (List.replicate 64 (0 : Int)) 0 k) 32 n).length = 64 := by
    rw [length_splice, length_splice, List.length_replicate]
    · rw [List.length_replicate]; omega
    · rw [length_splice, List.length_replicate]
      · omega
      · rw [List.length_replicate]; omega
  have e : ∀ j, j < 8 → (o8 p).getD j 0 = (o8 q).getD j 0 := fun j hj => by
    have a := splice_getD (l := splice (splice (List.replicate 64 (0 : Int)) 0 k) 32 n) (d := o8 p) (off := 56) (j := j) (by omega) hj
    have b := splice_getD (l := splice (splice (List.replicate 64 (0 : Int)) 0 k) 32 n) (d := o8 q) (off := 56) (j := j) (by omega) hj
    rw [← a, ← b]
    show (seed k n p).getD _ 0 = (seed k n q).getD _ 0
    rw [h]
  have e0 : (p : Int) / 72057594037927936 % 256 = (q : Int) / 72057594037927936 % 256 := e 0 (by omega)
  have e1 : (p : Int) / 281474976710656 % 256 = (q : Int) / 281474976710656 % 256 := e 1 (by omega)
  have e2 : (p : Int) / 1099511627776 % 256 = (q : Int) / 1099511627776 % 256 := e 2 (by omega)
  have e3 : (p : Int) / 4294967296 % 256 = (q : Int) / 4294967296 % 256 := e 3 (by omega)
  have e4 : (p : Int) / 16777216 % 256 = (q : Int) / 16777216 % 256 := e 4 (by omega)
  have e5 : (p : Int) / 65536 % 256 = (q : Int) / 65536 % 256 := e 5 (by omega)
  have e6 : (p : Int) / 256 % 256 = (q : Int) / 256 % 256 := e 6 (by omega)
  have e7 : (p : Int) % 256 = (q : Int) % 256 := e 7 (by omega)
  clear e h hL
  omega

theorem enough (many : Nat) {k n : List Int} (hk : k.length = 32) (hn : n.length = 16) (ok : Octs k) (on : Octs n) (q : Nat) (hq : q ≤ 1099511627776) :
    many ≤ (blkTo many k n q).length ∨ q ≤ (blkTo many k n q).length ∨ (q ≤ (blkTo many k n q).length + 1 ∧ ∃ p, p < q ∧ blk k n p = List.replicate 64 255) := by
  induction q with
  | zero => exact Or.inr (Or.inl (Nat.zero_le _))
  | succ q ih =>
    have hm := pairTo_mono many (blk k n q) (blkTo many k n q) 0 32
    have hm' : (blkTo many k n q).length ≤ (blkTo many k n (q + 1)).length := by rw [Nat.zero_add] at hm; exact hm
    rcases ih (by omega) with h | h
    · exact Or.inl (by omega)
    · by_cases hf : many ≤ (blkTo many k n q).length
      · exact Or.inl (by omega)
      · by_cases hv : ∃ j, j < 32 ∧ vAt (blk k n q) j < 65535
        · obtain ⟨j, hj, hv⟩ := hv
          have hg : (blkTo many k n q).length < (blkTo many k n (q + 1)).length := grow (by omega) j hj hv
          rcases h with h | ⟨h, p, hp, he⟩
          · exact Or.inr (Or.inl (by omega))
          · exact Or.inr (Or.inr ⟨by omega, p, by omega, he⟩)
        · have he : blk k n q = List.replicate 64 255 := full_block (blk_length k n q) (blk_octs k n q) fun j hj hv' => hv ⟨j, hj, hv'⟩
          rcases h with h | ⟨h, p, hp, he'⟩
          · exact Or.inr (Or.inr ⟨by omega, q, by omega, he⟩)
          · have hs : seed k n p = seed k n q := stirL_inj (seed_length hk hn p) (seed_length hk hn q) (seed_octs ok on p) (seed_octs ok on q) (by
              show blk k n p = blk k n q
              rw [he, he'])
            have := seed_inj hk hn (by omega) (by omega) hs
            omega
/-- while there are not enough numbers there are few blocks -/
theorem few (many : Nat) {k n : List Int} (hk : k.length = 32) (hn : n.length = 16) (ok : Octs k) (on : Octs n) (q : Nat) (hq : q ≤ 1099511627776) (h : (blkTo many k n q).length < many) : q ≤ many := by
  rcases enough many hk hn ok on q hq with h1 | h1 | ⟨h1, _⟩ <;> omega
theorem all_of_full {many : Nat} {k n : List Int} {q : Nat} (h : many ≤ (blkTo many k n q).length) (hq : q ≤ many + 2) : blkTo many k n q = numsOf many k n := by
  have := blkTo_stop h (many + 2 - q)
  rw [show q + (many + 2 - q) = many + 2 by omega] at this
  exact this.symm
end Go.Proofs.Ytbljihhelladbaa.st
