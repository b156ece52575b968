/-
  Numbers of a stream, plain: the stirring is one to one, and so numbers come. No program, no condition. Contracts of NumberOf and slices.Equal; the numbers of a stream, pair by pair. Conditions: octets. Contracts of share.polynomial and keyref2.polynomials: an octet's polynomial out of a seed. Conditions: a seed of octets, a need from 1 to 32. Contracts of keyref2.SecretOf and Lies. Conditions: good shares of the type's form, 64 at most; a share at a place from 0 to 256.
-/
import Derived.Test.YtbljihhelladbaaFStX
import Derived.Test.YtbljihhelladbaaFShN
import Derived.Test.YtbljihhelladbaaFNum
import Derived.Test.YtbljihhelladbaaFSlInt
/- Stirring loses nothing: states of 64 octets that are stirred to one are one (plain Lean, no program). No condition but octets. -/
namespace Go.Proofs.Ytbljihhelladbaa.st
set_option linter.unusedSimpArgs false
set_option linter.unusedVariables false
open Go.RowKit Go.Proofs.Ytbljihhelladbaa.Fld
theorem ext_getD {l m : List Int} (hl : l.length = m.length) (h : ∀ i, i < l.length → l.getD i 0 = m.getD i 0) : l = m := by
  apply List.ext_getElem hl
  intro i h1 h2
  have := h i h1
  rwa [getD_lt' _ _ h1, getD_lt' _ _ h2] at this
theorem xor_cancel {a b c : Int} (ha : W32 a) (hb : W32 b) (hc : W32 c) (h : bits .xor .u32 a c = bits .xor .u32 b c) : a = b := by
  obtain ⟨ha0, ha1⟩ := ha
  obtain ⟨hb0, hb1⟩ := hb
  obtain ⟨hc0, hc1⟩ := hc
  obtain ⟨x, rfl⟩ := Int.eq_ofNat_of_zero_le ha0
  obtain ⟨y, rfl⟩ := Int.eq_ofNat_of_zero_le hb0
  obtain ⟨z, rfl⟩ := Int.eq_ofNat_of_zero_le hc0
  rw [u32_xor_nat _ _ (by omega) (by omega), u32_xor_nat _ _ (by omega) (by omega)] at h
  have h2 : x ^^^ z = y ^^^ z := Int.ofNat_inj.1 h
  have h3 : (x ^^^ z) ^^^ z = (y ^^^ z) ^^^ z := by rw [h2]
  rw [Nat.xor_assoc, Nat.xor_assoc, Nat.xor_self, Nat.xor_zero, Nat.xor_zero] at h3
  rw [h3]
theorem addW_inj {u v : List Int} {r i : Nat} (hu : u.length = 16) (hv : v.length = 16) (wu : AllW u) (wv : AllW v) (hr : r < 8) (hi : i < 16) (h : addW r i u = addW r i v) : u = v := by
  have hg : ∀ m, (addW r i u).getD m 0 = (addW r i v).getD m 0 := fun m => by rw [h]
  have hne : ∀ m, m ≠ i → u.getD m 0 = v.getD m 0 := fun m hm => by
    have := hg m
    rw [addW_eq, addW_eq, getD_set, getD_set, if_neg (by omega), if_neg (by omega)] at this
    exact this
  refine ext_getD (by omega) fun m _ => ?_
  by_cases hm : m = i
  · subst hm
    have h1 := hg m
    rw [addW_eq, addW_eq, getD_set, getD_set, if_pos ⟨rfl, by omega⟩, if_pos ⟨rfl, by omega⟩, hne ((m + 1 + r) % 16) (by omega)] at h1
    have h2 := wu.getD m
    have h3 := wv.getD m
    have h4 : W32 (addend r m (v.getD ((m + 1 + r) % 16) 0)) := w32_bits _ _ _
    generalize addend r m (v.getD ((m + 1 + r) % 16) 0) = A at h1 h4
    generalize u.getD m 0 = a at h1 h2 ⊢
    generalize v.getD m 0 = b at h1 h3 ⊢
    unfold W32 at h2 h3 h4
    omega
  · exact hne m hm
theorem xorW_inj {u v : List Int} {i : Nat} (hu : u.length = 16) (hv : v.length = 16) (wu : AllW u) (wv : AllW v) (h : xorW i u = xorW i v) : u = v := by
  have hg : ∀ m, (xorW i u).getD m 0 = (xorW i v).getD m 0 := fun m => by rw [h]
  have hne : ∀ m, m ≠ (i + 9) % 16 → u.getD m 0 = v.getD m 0 := fun m hm => by
    have := hg m
    unfold xorW at this
    rw [getD_set, getD_set, if_neg (by omega), if_neg (by omega)] at this
    exact this
  refine ext_getD (by omega) fun m _ => ?_
  by_cases hm : m = (i + 9) % 16
  · have h1 := hg m
    unfold xorW at h1
    rw [getD_set, getD_set, if_pos ⟨hm, by omega⟩, if_pos ⟨hm, by omega⟩, hne i (by omega), ← hm] at h1
    exact xor_cancel (wu.getD m) (wv.getD m) (w32_rotl _ _) h1
  · exact hne m hm
theorem stepTo_inj {u v : List Int} {r : Nat} (hu : u.length = 16) (hv : v.length = 16) (wu : AllW u) (wv : AllW v) (hr : r < 8) (i : Nat) (hi : i ≤ 16) (h : stepTo r u i = stepTo r v i) : u = v := by
  induction i with
  | zero => exact h
  | succ i ih =>
    have lu := stepTo_length r u i
    have lv := stepTo_length r v i
    have a1 : (addW r i (stepTo r u i)).length = 16 := by rw [addW_eq, List.length_set]; omega
    have a2 : (addW r i (stepTo r v i)).length = 16 := by rw [addW_eq, List.length_set]; omega
    have h1 : addW r i (stepTo r u i) = addW r i (stepTo r v i) := xorW_inj a1 a2 (addW_w (stepTo_w wu r i) r i) (addW_w (stepTo_w wv r i) r i) h
    exact ih (by omega) (addW_inj (by omega) (by omega) (stepTo_w wu r i) (stepTo_w wv r i) hr (by omega) h1)
theorem roundTo_inj {u v : List Int} (hu : u.length = 16) (hv : v.length = 16) (wu : AllW u) (wv : AllW v) (r : Nat) (hr : r ≤ 8) (h : roundTo u r = roundTo v r) : u = v := by
  induction r with
  | zero => exact h
  | succ r ih =>
    have lu := roundTo_length u r
    have lv := roundTo_length v r
    exact ih (by omega) (stepTo_inj (by omega) (by omega) (roundTo_w wu r) (roundTo_w wv r) (by omega) 16 (Nat.le_refl _) h)
theorem octL_getD (ws : List Int) (i j : Nat) (hi : i < 16) (hj : j < 4) : (octL ws 64).getD (4 * i + j) 0 = (o4 (ws.getD i 0)).getD j 0 := by
  unfold octL
  rw [List.getD_eq_getElem?_getD, List.getElem?_map, List.getElem?_range (by omega)]
  show (o4 (ws.getD ((4 * i + j) / 4) 0)).getD ((4 * i + j) % 4) 0 = _
  rw [show (4 * i + j) / 4 = i by omega, show (4 * i + j) % 4 = j by omega]
theorem octL_inj {u v : List Int} (hu : u.length = 16) (hv : v.length = 16) (wu : AllW u) (wv : AllW v) (h : octL u 64 = octL v 64) : u = v := by
  refine ext_getD (by omega) fun i hi => ?_
  have e : ∀ j, j < 4 → (o4 (u.getD i 0)).getD j 0 = (o4 (v.getD i 0)).getD j 0 := fun j hj => by
    rw [← octL_getD u i j (by omega) hj, ← octL_getD v i j (by omega) hj, h]
  have e0 : u.getD i 0 / 16777216 % 256 = v.getD i 0 / 16777216 % 256 := e 0 (by omega)
  have e1 : u.getD i 0 / 65536 % 256 = v.getD i 0 / 65536 % 256 := e 1 (by omega)
  have e2 : u.getD i 0 / 256 % 256 = v.getD i 0 / 256 % 256 := e 2 (by omega)
  have e3 : u.getD i 0 % 256 = v.getD i 0 % 256 := e 3 (by omega)
  have h1 := wu.getD i
  have h2 := wv.getD i
  unfold W32 at h1 h2
  omega
theorem wordsL_getD (s : List Int) (i : Nat) (hi : i < 16) : (wordsL s 16).getD i 0 = w4 (s.getD (4 * i) 0) (s.getD (4 * i + 1) 0) (s.getD (4 * i + 2) 0) (s.getD (4 * i + 3) 0) := by
  unfold wordsL
  rw [List.getD_eq_getElem?_getD, List.getElem?_map, List.getElem?_range hi]
  rfl
theorem wordsL_inj {s t : List Int} (hs : s.length = 64) (ht : t.length = 64) (os : Octs s) (ot : Octs t) (h : wordsL s 16 = wordsL t 16) : s = t := by
  refine ext_getD (by omega) fun m hm => ?_
  obtain ⟨i, j, rfl, hj⟩ : ∃ i j : Nat, m = 4 * i + j ∧ j < 4 := ⟨m / 4, m % 4, by omega, by omega⟩
  have e := wordsL_getD s i (by omega)
  rw [h, wordsL_getD t i (by omega)] at e
  have a0 := os.getD (4 * i)
  have a1 := os.getD (4 * i + 1)
  have a2 := os.getD (4 * i + 2)
  have a3 := os.getD (4 * i + 3)
  have b0 := ot.getD (4 * i)
  have b1 := ot.getD (4 * i + 1)
  have b2 := ot.getD (4 * i + 2)
  have b3 := ot.getD (4 * i + 3)
  unfold w4 at e
  unfold Oct at a0 a1 a2 a3 b0 b1 b2 b3
  match j, hj with
  | 0, _ => simp only [Nat.add_zero]; omega
  | 1, _ => omega
  | 2, _ => omega
  | 3, _ => omega
theorem stirL_inj {s t : List Int} (hs : s.length = 64) (ht : t.length = 64) (os : Octs s) (ot : Octs t) (h : stirL s = stirL t) : s = t := by
  have ws := wordsL_w os
  have wt := wordsL_w ot
  have ls := wordsL_length s 16
  have lt := wordsL_length t 16
  have rs := roundTo_length (wordsL s 16) 8
  have rt := roundTo_length (wordsL t 16) 8
  have h1 := octL_inj (by omega) (by omega) (roundTo_w ws 8) (roundTo_w wt 8) h
  exact wordsL_inj hs ht os ot (roundTo_inj ls lt ws wt 8 (Nat.le_refl _) h1)
end Go.Proofs.Ytbljihhelladbaa.st
/- The numbers of a stream, in plain Lean; at most one block of a stream gives none: so they are enough. Conditions: octets; fewer than 2^40 blocks. -/
namespace Go.Proofs.Ytbljihhelladbaa.st
open Go.RowKit Go.Proofs.Ytbljihhelladbaa.Fld
def vAt (b : List Int) (j : Nat) : Int := 256 * b.getD (2 * j) 0 + b.getD (2 * j + 1) 0
def stepN (many : Nat) (b o : List Int) (j : Nat) : List Int := if o.length < many then (if vAt b j < 65535 then o ++ [vAt b j % 257] else o) else o
def pairTo (many : Nat) (b o : List Int) : Nat → List Int
  | 0 => o
  | j + 1 => stepN many b (pairTo many b o j) j
def blkTo (many : Nat) (k n : List Int) : Nat → List Int
  | 0 => []
  | q + 1 => pairTo many (blk k n q) (blkTo many k n q) 32
theorem stepN_ge (many : Nat) (b o : List Int) (j : Nat) : o.length ≤ (stepN many b o j).length := by
  unfold stepN
  split
  · split
    · simp
    · exact Nat.le_refl _
  · exact Nat.le_refl _
theorem pairTo_mono (many : Nat) (b o : List Int) (i d : Nat) : (pairTo many b o i).length ≤ (pairTo many b o (i + d)).length := by
  induction d with
  | zero => exact Nat.le_refl _
  | succ d ih => exact Nat.le_trans ih (stepN_ge _ _ _ _)
theorem grow {many : Nat} {b o : List Int} (h : o.length < many) (j : Nat) (hj : j < 32) (hv : vAt b j < 65535) : o.length < (pairTo many b o 32).length := by
  have h1 := pairTo_mono many b o 0 j
  have h2 := pairTo_mono many b o (j + 1) (32 - (j + 1))
  rw [show j + 1 + (32 - (j + 1)) = 32 by omega] at h2
  rw [Nat.zero_add] at h1
  have h1' : o.length ≤ (pairTo many b o j).length := h1
  by_cases hf : (pairTo many b o j).length < many
  · have h3 : (pairTo many b o (j + 1)).length = (pairTo many b o j).length + 1 := by
      show (stepN many b (pairTo many b o j) j).length = _
      unfold stepN
      rw [if_pos hf, if_pos hv]; simp
    omega
  · have h4 := stepN_ge many b (pairTo many b o j) j
    have h5 : (pairTo many b o (j + 1)).length = (stepN many b (pairTo many b o j) j).length := rfl
    omega
theorem full_block {b : List Int} (hl : b.length = 64) (hb : Octs b) (h : ∀ j, j < 32 → ¬ vAt b j < 65535) : b = List.replicate 64 255 := by
  refine ext_getD (by rw [hl, List.length_replicate]) fun m hm => ?_
  have e : (List.replicate 64 (255 : Int)).getD m 0 = 255 := by
    rw [List.getD_eq_getElem?_getD, List.getElem?_replicate, if_pos (by omega)]; rfl
  rw [e]
  have h1 := h (m / 2) (by omega)
  have h2 := hb.getD (2 * (m / 2))
  have h3 := hb.getD (2 * (m / 2) + 1)
  unfold vAt at h1
  unfold Oct at h2 h3
  by_cases hp : m % 2 = 0
  · rw [show m = 2 * (m / 2) by omega]; omega
  · rw [show m = 2 * (m / 2) + 1 by omega]; omega
theorem octL_octs (ws : List Int) : Octs (octL ws 64) := by
  intro c hc
  unfold octL at hc
  obtain ⟨i, _, rfl⟩ := List.mem_map.1 hc
  have : i % 4 < 4 := Nat.mod_lt _ (by omega)
  rw [o4_at _ _ this]
  unfold Oct
  omega
theorem blk_octs (k n : List Int) (q : Nat) : Octs (blk k n q) := octL_octs _
theorem splice_getD {l d : List Int} {off j : Nat} (hl : off ≤ l.length) (hj : j < d.length) : (splice l off d).getD (off + j) 0 = d.getD j 0 := by
  unfold splice
  have ht : (l.take off).length = off := by rw [List.length_take]; omega
  rw [List.getD_eq_getElem?_getD, List.getElem?_append_right (by omega), ht, show off + j - off = j by omega, List.getElem?_append_left hj, ← List.getD_eq_getElem?_getD]
theorem seed_inj {k n : List Int} (hk : k.length = 32) (hn : n.length = 16) {p q : Nat} (hp : p < 18446744073709551616) (hq : q < 18446744073709551616) (h : seed k n p = seed k n q) : p = q := by
  have hL : (splice (splice (List.replicate 64 (0 : Int)) 0 k) 32 n).length = 64 := by
    rw [length_splice, length_splice, List.length_replicate]
    · rw [List.length_replicate]; omega
    · rw [length_splice, List.length_replicate]
      · omega
      · rw [List.length_replicate]; omega
  have e : ∀ j, j < 8 → (o8 p).getD j 0 = (o8 q).getD j 0 := fun j hj => by
    have a := splice_getD (l := splice (splice (List.replicate 64 (0 : Int)) 0 k) 32 n) (d := o8 p) (off := 56) (j := j) (by omega) hj
    have b := splice_getD (l := splice (splice (List.replicate 64 (0 : Int)) 0 k) 32 n) (d := o8 q) (off := 56) (j := j) (by omega) hj
    rw [← a, ← b]
    show (seed k n p).getD _ 0 = (seed k n q).getD _ 0
    rw [h]
  have e0 : (p : Int) / 72057594037927936 % 256 = (q : Int) / 72057594037927936 % 256 := e 0 (by omega)
  have e1 : (p : Int) / 281474976710656 % 256 = (q : Int) / 281474976710656 % 256 := e 1 (by omega)
  have e2 : (p : Int) / 1099511627776 % 256 = (q : Int) / 1099511627776 % 256 := e 2 (by omega)
  have e3 : (p : Int) / 4294967296 % 256 = (q : Int) / 4294967296 % 256 := e 3 (by omega)
  have e4 : (p : Int) / 16777216 % 256 = (q : Int) / 16777216 % 256 := e 4 (by omega)
  have e5 : (p : Int) / 65536 % 256 = (q : Int) / 65536 % 256 := e 5 (by omega)
  have e6 : (p : Int) / 256 % 256 = (q : Int) / 256 % 256 := e 6 (by omega)
  have e7 : (p : Int) % 256 = (q : Int) % 256 := e 7 (by omega)
  clear e h hL
  omega
theorem enough (many : Nat) {k n : List Int} (hk : k.length = 32) (hn : n.length = 16) (ok : Octs k) (on : Octs n) (q : Nat) (hq : q ≤ 1099511627776) :
    many ≤ (blkTo many k n q).length ∨ q ≤ (blkTo many k n q).length ∨ (q ≤ (blkTo many k n q).length + 1 ∧ ∃ p, p < q ∧ blk k n p = List.replicate 64 255) := by
  induction q with
  | zero => exact Or.inr (Or.inl (Nat.zero_le _))
  | succ q ih =>
    have hm := pairTo_mono many (blk k n q) (blkTo many k n q) 0 32
    have hm' : (blkTo many k n q).length ≤ (blkTo many k n (q + 1)).length := by rw [Nat.zero_add] at hm; exact hm
    rcases ih (by omega) with h | h
    · exact Or.inl (by omega)
    · by_cases hf : many ≤ (blkTo many k n q).length
      · exact Or.inl (by omega)
      · by_cases hv : ∃ j, j < 32 ∧ vAt (blk k n q) j < 65535
        · obtain ⟨j, hj, hv⟩ := hv
          have hg : (blkTo many k n q).length < (blkTo many k n (q + 1)).length := grow (by omega) j hj hv
          rcases h with h | ⟨h, p, hp, he⟩
          · exact Or.inr (Or.inl (by omega))
          · exact Or.inr (Or.inr ⟨by omega, p, by omega, he⟩)
        · have he : blk k n q = List.replicate 64 255 := full_block (blk_length k n q) (blk_octs k n q) fun j hj hv' => hv ⟨j, hj, hv'⟩
          rcases h with h | ⟨h, p, hp, he'⟩
          · exact Or.inr (Or.inr ⟨by omega, q, by omega, he⟩)
          · have hs : seed k n p = seed k n q := stirL_inj (seed_length hk hn p) (seed_length hk hn q) (seed_octs ok on p) (seed_octs ok on q) (by
              show blk k n p = blk k n q
              rw [he, he'])
            have := seed_inj hk hn (by omega) (by omega) hs
            omega
/-- while there are not enough numbers there are few blocks -/
theorem few (many : Nat) {k n : List Int} (hk : k.length = 32) (hn : n.length = 16) (ok : Octs k) (on : Octs n) (q : Nat) (hq : q ≤ 1099511627776) (h : (blkTo many k n q).length < many) : q ≤ many := by
  rcases enough many hk hn ok on q hq with h1 | h1 | ⟨h1, _⟩ <;> omega
end Go.Proofs.Ytbljihhelladbaa.st
/- Contracts of keyref2.NumberOf (two octets), slices.Equal at []int. Conditions: octets. -/
namespace Go.Proofs.Ytbljihhelladbaa.st
set_option linter.unusedSimpArgs false
set_option linter.unusedVariables false
open Go.RowKit
set_option pp.maxSteps 4000
end Go.Proofs.Ytbljihhelladbaa.st
/- Contract of share.numbers: the numbers of a stream. Conditions: a key and a nonce of octets, at most 4096 numbers. -/
namespace Go.Proofs.Ytbljihhelladbaa.st
open Go.RowKit Go.Proofs.Ytbljihhelladbaa.slInt
set_option pp.maxSteps 4000
/-- rows of different types lie apart -/
theorem apart {w : World} {b1 b2 : Nat} {e1 e2 : TypeId} {s1 s2 : Nat} {v1 v2 : Value} {n1 n2 : Nat} {x1 x2 : List Value} (h1 : w.ownsRow b1 e1 s1 v1 n1 x1) (h2 : w.ownsRow b2 e2 s2 v2 n2 x2) (he : e1 ≠ e2) : v2.ownBlock = none ∨ v2.ownBlock ≠ v1.ownBlock := by
  rcases h2 with ⟨_, ⟨rfl, _⟩ | ⟨g, cap, cur, rfl, hg, hh, _⟩⟩
  · exact Or.inl rfl
  · refine Or.inr fun hc => ?_
    rcases h1 with ⟨_, ⟨rfl, _⟩ | ⟨g', cap', cur', rfl, hg', hh', _⟩⟩
    · cases hc
    · have e : g = g' := by simpa [Value.ownBlock] using hc
      subst e
      rw [hh] at hh'
      simp at hh'
      exact he hh'.2.symm
end Go.Proofs.Ytbljihhelladbaa.st
namespace Go.Proofs.Ytbljihhelladbaa.shr
open Go.RowKit Go.Proofs.Ytbljihhelladbaa.sh Go.Proofs.Ytbljihhelladbaa.Fld
set_option linter.unusedSimpArgs false
set_option linter.unusedVariables false
set_option pp.maxSteps 6000
def zero16 : List Value := (List.replicate 16 0).map (Value.int .u8)
end Go.Proofs.Ytbljihhelladbaa.shr
namespace Go.Proofs.Ytbljihhelladbaa.shr
set_option linter.unusedVariables false
open Go.RowKit Go.Proofs.Ytbljihhelladbaa.sh Go.Proofs.Ytbljihhelladbaa.Fld
set_option linter.unusedSimpArgs false
set_option pp.maxSteps 6000
set_option maxRecDepth 100000 in
theorem SecretOf_any (ao : Option Addr) (cap n : Nat) (l : List Sh) (w : World) (hn' : n = l.length) (hr : RowS w ao l) (hok : ∀ s ∈ l, s.Ok) (hg : Good l) (hn : l.length ≤ 64) :
    Calls Try.prog 35 #[.slice ao n cap] w fun e w' => e = .returned (.tuple #[.agg ((secretOf l).map (Value.int .u8)).toArray, .bool (!faultAt0 l)]) ∧ Below w.heap.size w w' := by
  subst hn'
  have HOK := hid hok
  clear hok
  obtain ⟨Z, HZ⟩ : ∃ Z, Hid (Z = zero32) := ⟨_, rfl⟩
  have HZ0 := hid zeroKey
  rw [← HZ.out] at HZ0
  have HZL : Hid (Z.length = 32) := by rw [HZ.out]; rfl
  have hbu : (Try.prog.built 23 []) = some Z.toArray := by rw [HZ.out]; kernel_rfl
  have HBU := hid hbu
  clear hbu
  go_enter Try.func35, Try.ntmps35
  go_wp2_with (first | (refine wl_alloc rfl 23 rfl Z HZ0.out ?_))
  have hA0 : BlkV 23 ((w.alloc (.cells Z.toArray 23)).alloc (.cells Z.toArray 23)) w.heap.size Z := (BlkV.new _ _ Z (by simp)).alloc _
  have hB0 : BlkV 23 ((w.alloc (.cells Z.toArray 23)).alloc (.cells Z.toArray 23)) (w.heap.size + 1) Z := BlkV.new _ _ Z (by simp)
  have hb0 : Below w.heap.size w ((w.alloc (.cells Z.toArray 23)).alloc (.cells Z.toArray 23)) := ((Below.refl _ _).alloc (Nat.le_refl _) _).alloc (by simp) _
  go_loopw [9] (fun i wr => ∃ k : Nat, k ≤ 32 ∧ i = .int .i64 k ∧ Hid (∀ o, o < k → valAt l o 0 ≠ 256) ∧ BlkV 23 wr w.heap.size Z ∧ BlkI .u8 23 wr (w.heap.size + 1) (st.fillTo (fun o => valAt l o 0) 32 k) ∧ Below w.heap.size w wr) (fun i _ => 32 - (intOf i).toNat)
  case atStart => exact ⟨0, by omega, rfl, fun o ho => absurd ho (Nat.not_lt_zero o), hA0, by rw [st.fillTo_zero]; show BlkV _ _ _ zero32; rw [← HZ.out]; exact hB0, hb0⟩
  case round =>
    obtain ⟨k, hk, rfl, HN, hR, hC, hbl⟩ := hrel
    clear hA0 hB0 hb0
    by_cases h0 : k < 32
    · obtain ⟨V, HV⟩ : ∃ V, Hid (V = valAt l k 0) := ⟨_, rfl⟩
      have hVr : 0 ≤ V ∧ V ≤ 256 := by rw [HV.out]; exact valAt_range ..
      have hkI : (k : Int) < 32 := by omega
      have hkI0 : (0 : Int) ≤ (k : Int) := by omega
      have hrw := hr.below hbl
      go_wp2_with fail
      refine (places_any _ _ _ l k wr rfl hrw HOK.out (by omega) h0).mono ?_
      rintro e w1 ⟨ax, cx, ay, cy, rfl, hcx, hcy, hX, hY, _, hb1⟩
      go_wp2_with fail
      refine (At_any ax ay cx cy l.length (xsOf l) (ysOf l k) 0 w1 (xsOf_length l).symm (row_of_owns hX) (row_of_owns hY) (by rw [ysOf_length, xsOf_length]) hg.rx (hg.ry k) ⟨by decide, by decide⟩ (by rw [xsOf_length]; omega)).mono ?_
      rw [show atR (xsOf l) (ysOf l k) 0 = V from HV.out.symm]
      rintro e w2 ⟨rfl, hb2⟩
      have hb12 : Below wr.heap.size wr w2 := hb1.trans (hb2.mono hb1.size)
      have hR2 := hR.below hb12 hR.lt
      have hC2 : BlkI .u8 23 w2 (w.heap.size + 1) (st.fillTo (fun o => valAt l o 0) 32 k) := hC.below hb12 hC.lt
      have hbl2 := hbl.trans (hb12.mono hbl.size)
      have hcell := hC2.cell (i := k) (by rw [st.fillTo_length _ _ _ hk]; exact h0)
      have hfz := hC2.frozen k
      by_cases h1 : V = 256
      · have H1 := hid h1
        have h1' : (255 : Int) < V := by omega
        have hfa := hid (fault0_of l k h0 (by rw [← HV.out]; exact h1))
        clear h1
        go_wp2_with (first | (refine wl_build0 rfl 23 rfl Z HBU.out ?_) | (refine wl_storeV rfl 23 _ _ rfl 23 w.heap.size rfl Z rfl 32 aggKey HZL.out Z hR2 HZL.out (by rw [HZ.out]; exact ints_one _ _) ?_; intro wS hS hbS hsS))
        (try simp only [Exit.inBlock, Exit.then]); refine bodyPost_ret (results_cell2 rfl _ _ _ _ rfl Z (by rw [HZL.out]; exact aggKey) hS.at0) rfl ?_
        refine ⟨rv ?_, hbl2.trans hbS⟩
        unfold secretOf
        rw [if_pos hfa.out, hfa.out, HZ.out]
        rfl
      · have H1 := hid h1
        have h1' : V ≤ (255 : Int) := by omega
        have hVw : IntKind.u8.wrap V = V := IntKind.wrap_u8' V ▸ by omega
        clear h1
        go_wp2
        go_roundw
        case rel => exact ⟨k + 1, by omega, by go_num, fun o ho => by
          by_cases e : o = k
          · rw [e, ← HV.out]; exact H1.out
          · exact HN.out o (by omega), hR2.other (by simp) _, by rw [← st.fillTo_set _ _ _ h0, ← HV.out]; exact hC2.set k V, hbl2.setCell (by simp) _⟩
        case measure => simp [intOf] <;> omega
    · obtain rfl : k = 32 := by omega
      rw [st.fillTo_all] at hC
      have hfa := hid (fault0_not l HN.out)
      obtain ⟨R, HR⟩ : ∃ R, Hid (R = ((List.range 32).map fun o => valAt l o 0).map (Value.int .u8)) := ⟨_, rfl⟩
      have hCv : BlkV 23 wr (w.heap.size + 1) R := by rw [HR.out]; exact BlkI.v hC
      have HRL : Hid (R.length = 32) := by show _ = _; rw [HR.out]; simp
      have hR1 : ∀ u ∈ R, u.oneCell' = true := by rw [HR.out]; exact ints_one _ _
      clear hC
      go_wp2_with (first | (refine wl_loadG (by rfl) 23 _ rfl ⟨w.heap.size + 1, 0, none⟩ rfl 32 R HRL.out aggKey hCv.at0 ?_) | (refine wl_storeV rfl 23 _ _ rfl 23 w.heap.size rfl R rfl 32 aggKey HRL.out Z hR HZL.out hR1 ?_; intro wS hS hbS hsS))
      (try simp only [Exit.inBlock, Exit.then]); refine bodyPost_ret (results_cell2 rfl _ _ _ _ rfl R (by rw [HRL.out]; exact aggKey) hS.at0) rfl ?_
      refine ⟨rv ?_, hbl.trans hbS⟩
      unfold secretOf
      rw [if_neg (by rw [hfa.out]; decide), hfa.out, HR.out]
      rfl
set_option maxRecDepth 100000 in
theorem Lies_any (ao : Option Addr) (cap n : Nat) (l : List Sh) (s : Sh) (w : World) (hn' : n = l.length) (hr : RowS w ao l) (hok : ∀ s ∈ l, s.Ok) (hg : Good l) (hn : l.length ≤ 64) (hs : s.Ok) (hx : 0 ≤ s.x ∧ s.x ≤ 256) :
    Calls Try.prog 36 #[.slice ao n cap, .agg s.cs.toArray] w fun e w' => e = .returned (.bool (liesB l s)) ∧ Below w.heap.size w w' := by
  subst hn'
  have HOK := hid hok
  clear hok
  have HSL : Hid (s.cs.length = 49) := hs.csl
  have hS0 : BlkV 61 (w.alloc (.cells s.cs.toArray 61)) w.heap.size s.cs := BlkV.new _ _ _ rfl
  have hb0 : Below w.heap.size w (w.alloc (.cells s.cs.toArray 61)) := (Below.refl _ _).alloc (Nat.le_refl _) _
  go_enter Try.func36, Try.ntmps36
  go_wp2
  go_loopw [8] (fun i wr => ∃ k : Nat, k ≤ 32 ∧ i = .int .i64 k ∧ Hid (liesTo l s k = true) ∧ BlkV 61 wr w.heap.size s.cs ∧ Below w.heap.size w wr) (fun i _ => 32 - (intOf i).toNat)
  case atStart => exact ⟨0, by omega, rfl, rfl, hS0, hb0⟩
  case round =>
    obtain ⟨k, hk, rfl, HN, hS, hbl⟩ := hrel
    clear hS0 hb0
    by_cases h0 : k < 32
    · obtain ⟨V, HV⟩ : ∃ V, Hid (V = valAt l k s.x) := ⟨_, rfl⟩
      have hVr : 0 ≤ V ∧ V ≤ 256 := by rw [HV.out]; exact valAt_range ..
      obtain ⟨yv, HYV⟩ : ∃ c, Hid (c = s.y.getD k 0) := ⟨_, rfl⟩
      have hybd : 0 ≤ yv ∧ yv ≤ 65535 := by rw [HYV.out, getD_lt' s.y 0 (by rw [hs.yl]; exact h0)]; exact hs.yb _ (List.getElem_mem _)
      have hkI : (k : Int) < 32 := by omega
      have hkI0 : (0 : Int) ≤ (k : Int) := by omega
      have HLT := hid (liesTo_succ l s k)
      rw [HN.out, ← HV.out, ← HYV.out] at HLT
      have hrw := hr.below hbl
      go_wp2_with fail
      refine (places_any _ _ _ l k wr rfl hrw HOK.out (by omega) h0).mono ?_
      rintro e w1 ⟨ax, cx, ay, cy, rfl, hcx, hcy, hX, hY, _, hb1⟩
      have hS1 := hS.below hb1 hS.lt
      have cX := (hS1.cell 16).trans (cs_x s hs)
      have cY : w1.cell? ⟨w.heap.size, 17 + k, none⟩ = some (.int .u16 yv) := by rw [HYV.out]; exact (hS1.cell (17 + k)).trans (cs_yi s hs k h0)
      have hbl1 := hbl.trans (hb1.mono hbl.size)
      go_wp2_with fail
      go_quiet ((go_at_call 106; exact At_q ax ay cx cy l.length (xsOf l) (ysOf l k) s.x V w1 _ (xsOf_length l).symm (row_of_owns hX) (row_of_owns hY) (by rw [ysOf_length, xsOf_length]) hg.rx (hg.ry k) hx (by rw [xsOf_length]; omega) HV.out.symm))
      by_cases h1 : V = yv
      · have H1 := hid h1
        have h1' : (V != yv) = false := by simp [h1]
        clear h1
        go_wp2
        go_roundw
        case rel => exact ⟨k + 1, by omega, by go_num, by show _ = _; rw [HLT.out, H1.out]; simp, hS1.drewN _, bdN hbl1 _⟩
        case measure => simp [intOf] <;> omega
      · have H1 := hid h1
        have h1' : (V != yv) = true := by simp [h1]
        have hf := hid (liesB_false l s k h0 (by rw [← HV.out, ← HYV.out]; exact h1))
        clear h1
        go_wp2
        go_ret
        exact ⟨rv (rb hf.out.symm), bdN hbl1 _⟩
    · obtain rfl : k = 32 := by omega
      go_wp2
      go_ret
      exact ⟨rv (rb HN.out.symm), hbl⟩
end Go.Proofs.Ytbljihhelladbaa.shr
