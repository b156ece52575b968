/-
  Shares as the proofs read them, plain: what is wrong with shares, the polynomials through them, what lies on them, what fits. No program, no condition.
-/
import Derived.Test.YtbljihhelladbaaShBC
namespace Go.Proofs.Ytbljihhelladbaa.shr
set_option linter.unusedSimpArgs false
set_option linter.unusedVariables false
open Go.RowKit Go.Proofs.Ytbljihhelladbaa.Fld Go.Proofs.Ytbljihhelladbaa.sh

/-- a share: its holder's octets, its place, its values -/
structure Sh where
  h : List Int
  x : Int
  y : List Int

/-- its cells -/
def Sh.cs (s : Sh) : List Value := s.h.map (Value.int .u8) ++ (Value.int .i64 s.x :: s.y.map (Value.int .u16))
structure Sh.Ok (s : Sh) : Prop where
  hl : s.h.length = 16
  yl : s.y.length = 32
  hb : ∀ c ∈ s.h, 0 ≤ c ∧ c ≤ 255
  yb : ∀ c ∈ s.y, 0 ≤ c ∧ c ≤ 65535
  xb : -9223372036854775808 ≤ s.x ∧ s.x ≤ 9223372036854775807

def nil : Sh := ⟨[], 0, []⟩
theorem Sh.Ok.csl {s : Sh} (h : s.Ok) : s.cs.length = 49 := by
  unfold Sh.cs
  simp [h.hl, h.yl]

def badY (s : Sh) : Bool := s.y.any fun n => decide (257 ≤ n)
def same (s t : Sh) : Bool := t.x == s.x || t.h == s.h
/-- what is wrong with a share behind others -/
def faultIn (old : List Sh) (s : Sh) : Int := if inB s.x 1 256 = false then 4 else if old.any (same s) = true then 8 else if badY s = true then 4 else 0
def eachTo (l : List Sh) : Nat → Int
  | 0 => 0
  | k + 1 => if eachTo l k = 0 then faultIn (l.take k) (l.getD k nil) else eachTo l k
def eachE (l : List Sh) : Int := eachTo l l.length

theorem eachTo_stop (l : List Sh) (k : Nat) (h : eachTo l k ≠ 0) : ∀ m, k ≤ m → eachTo l m = eachTo l k := by
  intro m hm
  induction m with
  | zero => rw [show k = 0 by omega]
  | succ m ih =>
    by_cases e : k = m + 1
    · rw [e]
    · have h1 := ih (by omega)
      show (if eachTo l m = 0 then _ else eachTo l m) = _
      rw [if_neg (by rw [h1]; exact h), h1]
theorem eachE_bad (l : List Sh) (k : Nat) (hk : k < l.length) (h0 : eachTo l k = 0) (h : faultIn (l.take k) (l.getD k nil) ≠ 0) : eachE l = faultIn (l.take k) (l.getD k nil) := by
  have e : eachTo l (k + 1) = faultIn (l.take k) (l.getD k nil) := if_pos h0
  have := eachTo_stop l (k + 1) (by rw [e]; exact h) l.length (by omega)
  unfold eachE
  rw [this, e]
theorem eachTo_step (l : List Sh) (k : Nat) (h0 : eachTo l k = 0) (h : faultIn (l.take k) (l.getD k nil) = 0) : eachTo l (k + 1) = 0 := by
  show (if eachTo l k = 0 then faultIn (l.take k) (l.getD k nil) else eachTo l k) = 0
  rw [if_pos h0, h]
theorem eachTo_all (l : List Sh) (h : eachE l = 0) (k : Nat) (hk : k ≤ l.length) : eachTo l k = 0 := by
  refine Classical.byContradiction fun hc => ?_
  have := eachTo_stop l k hc l.length hk
  unfold eachE at h
  rw [h] at this
  exact hc this.symm
theorem fault_all (l : List Sh) (h : eachE l = 0) (k : Nat) (hk : k < l.length) : faultIn (l.take k) (l.getD k nil) = 0 := by
  have h1 := eachTo_all l h (k + 1) (by omega)
  have h0 := eachTo_all l h k (by omega)
  have e : eachTo l (k + 1) = faultIn (l.take k) (l.getD k nil) := if_pos h0
  rw [← e, h1]

theorem fault_zero {old : List Sh} {s : Sh} (h : faultIn old s = 0) : (1 ≤ s.x ∧ s.x ≤ 256) ∧ old.any (same s) = false ∧ badY s = false := by
  unfold faultIn at h
  split at h
  · cases h
  · rename_i h1
    split at h
    · cases h
    · rename_i h2
      split at h
      · cases h
      · rename_i h3
        simp only [inB, Bool.not_eq_false, Bool.and_eq_true, decide_eq_true_eq] at h1
        exact ⟨h1, by simpa using h2, by simpa using h3⟩

/-- the error of shares; few: there can be fewer than need -/
def sharesE (few : Bool) (need : Int) (l : List Sh) : Int :=
  if inB need 1 32 = false then 4 else if (!few && decide ((l.length : Int) < need)) = true then 18 else if 32 < l.length then 5 else eachE l

def xsOf (l : List Sh) : List Int := l.map (·.x)
def ysOf (l : List Sh) (o : Nat) : List Int := l.map fun s => s.y.getD o 0
theorem xsOf_length (l : List Sh) : (xsOf l).length = l.length := by simp [xsOf]
theorem ysOf_length (l : List Sh) (o : Nat) : (ysOf l o).length = l.length := by simp [ysOf]
theorem xsOf_take (l : List Sh) (n : Nat) : xsOf (l.take n) = (xsOf l).take n := by simp [xsOf]
theorem ysOf_take (l : List Sh) (o n : Nat) : ysOf (l.take n) o = (ysOf l o).take n := by simp [ysOf]
theorem xsOf_getD (l : List Sh) (i : Nat) (h : i < l.length) : (xsOf l).getD i 0 = (l.getD i nil).x := by simp [xsOf, List.getD_eq_getElem?_getD, h]
theorem ysOf_getD (l : List Sh) (o i : Nat) (h : i < l.length) : (ysOf l o).getD i 0 = (l.getD i nil).y.getD o 0 := by simp [ysOf, List.getD_eq_getElem?_getD, h]

/-- good shares: what the polynomials need -/
structure Good (l : List Sh) : Prop where
  rx : Rng (xsOf l)
  ry : ∀ o, Rng (ysOf l o)
  ap : ApartTo (xsOf l) (xsOf l).length

theorem rng_y {s : Sh} (hs : s.Ok) (h : badY s = false) (o : Nat) : 0 ≤ s.y.getD o 0 ∧ s.y.getD o 0 ≤ 256 := by
  by_cases ho : o < s.y.length
  · rw [getD_lt s.y 0 ho]
    have hm := List.getElem_mem ho
    have h1 := hs.yb _ hm
    unfold badY at h
    rw [List.any_eq_false] at h
    have h2 := h _ hm
    simp at h2
    omega
  · rw [getD_ge s.y 0 (by omega)]; omega

theorem good_of (l : List Sh) (hs : ∀ s ∈ l, s.Ok) (h : eachE l = 0) : Good l := by
  have hf : ∀ k, k < l.length → (1 ≤ (l.getD k nil).x ∧ (l.getD k nil).x ≤ 256) ∧ (l.take k).any (same (l.getD k nil)) = false ∧ badY (l.getD k nil) = false := fun k hk => fault_zero (fault_all l h k hk)
  refine ⟨?_, fun o => ?_, ?_⟩
  · refine Rng.of_getD fun i hi => ?_
    rw [xsOf_length] at hi
    rw [xsOf_getD l i hi]
    have := (hf i hi).1
    omega
  · refine Rng.of_getD fun i hi => ?_
    rw [ysOf_length] at hi
    rw [ysOf_getD l o i hi]
    refine rng_y (hs _ ?_) (hf i hi).2.2 o
    rw [getD_lt l nil hi]; exact List.getElem_mem hi
  · intro i j hij hj hc
    rw [xsOf_length] at hj
    rw [xsOf_getD l i (by omega), xsOf_getD l j hj] at hc
    have h1 := (hf i (by omega)).1
    have h2 := (hf j hj).1
    have he := hc.eq (by omega) (by omega)
    have h3 := (hf j hj).2.1
    rw [List.any_eq_false] at h3
    refine h3 (l.getD i nil) ?_ ?_
    · rw [getD_lt l nil (by omega : i < l.length)]
      exact List.mem_take_iff_getElem.2 ⟨i, by omega, rfl⟩
    · unfold same
      rw [Bool.or_eq_true]
      exact Or.inl (by simpa using he)

theorem Rng.take {l : List Int} (h : Rng l) (n : Nat) : Rng (l.take n) := fun c hc => h c (List.mem_of_mem_take hc)
theorem Good.take {l : List Sh} (h : Good l) (n : Nat) : Good (l.take n) := by
  refine ⟨by rw [xsOf_take]; exact Rng.take h.rx n, fun o => by rw [ysOf_take]; exact Rng.take (h.ry o) n, ?_⟩
  intro i j hij hj
  rw [xsOf_take] at hj ⊢
  rw [List.length_take] at hj
  have e : ∀ i, i < n → ((xsOf l).take n).getD i 0 = (xsOf l).getD i 0 := fun i hi => by simp [List.getD_eq_getElem?_getD, hi]
  rw [e i (by omega), e j (by omega)]
  exact h.ap i j hij (by omega)

/-- the polynomial of an octet, and its value -/
def polyOf (l : List Sh) (o : Nat) : List Int := through (xsOf l) (ysOf l o)
def valAt (l : List Sh) (o : Nat) (t : Int) : Int := atR (xsOf l) (ysOf l o) t
theorem Good.poly_rng {l : List Sh} (h : Good l) (o : Nat) : Rng (polyOf l o) := through_rng _ _ h.ap
theorem Good.poly_length {l : List Sh} (h : Good l) (o : Nat) : (polyOf l o).length = l.length := by unfold polyOf; rw [through_length _ _ h.ap, xsOf_length]
theorem Good.val {l : List Sh} (h : Good l) (o : Nat) (t : Int) : ev (polyOf l o) t % 257 = valAt l o t :=
  (atR_interp h.ap (through_interp _ _ h.ap) t).symm
theorem valAt_range (l : List Sh) (o : Nat) (t : Int) : 0 ≤ valAt l o t ∧ valAt l o t ≤ 256 := atR_range ..

/-- a share lies on the polynomials through others -/
def liesTo (by_ : List Sh) (s : Sh) (k : Nat) : Bool := (List.range k).all fun o => valAt by_ o s.x == s.y.getD o 0
def liesB (by_ : List Sh) (s : Sh) : Bool := liesTo by_ s 32
theorem liesTo_succ (b : List Sh) (s : Sh) (k : Nat) : liesTo b s (k + 1) = (liesTo b s k && (valAt b k s.x == s.y.getD k 0)) := by
  unfold liesTo; rw [List.range_succ, List.all_append]; simp
theorem liesB_false (b : List Sh) (s : Sh) (k : Nat) (hk : k < 32) (h : valAt b k s.x ≠ s.y.getD k 0) : liesB b s = false := by
  unfold liesB liesTo
  rw [List.all_eq_false]
  exact ⟨k, by simpa using hk, by simpa using h⟩

/-- the secret that the polynomials say: its octets, as far as they are octets -/
def faultAt0 (l : List Sh) : Bool := (List.range 32).any fun o => decide (valAt l o 0 = 256)
def secretTo (l : List Sh) (k : Nat) : List Int := (List.range k).map fun o => valAt l o 0
def secretOf (l : List Sh) : List Int := if faultAt0 l = true then List.replicate 32 0 else secretTo l 32
def secretE (l : List Sh) : Int := if faultAt0 l = true then 20 else 0
theorem secretTo_succ (l : List Sh) (k : Nat) : secretTo l (k + 1) = secretTo l k ++ [valAt l k 0] := by unfold secretTo; rw [List.range_succ, List.map_append]; rfl
theorem fault0_of (l : List Sh) (k : Nat) (hk : k < 32) (h : valAt l k 0 = 256) : faultAt0 l = true := by
  unfold faultAt0
  rw [List.any_eq_true]
  exact ⟨k, by simpa using hk, by simpa using h⟩
theorem fault0_not (l : List Sh) (h : ∀ o, o < 32 → valAt l o 0 ≠ 256) : faultAt0 l = false := by
  unfold faultAt0
  rw [List.any_eq_false]
  intro o ho
  simpa using h o (by simpa using ho)

/-- the share of a secret itself -/
def sec (s : List Int) : Sh := ⟨List.replicate 16 0, 0, s⟩
theorem good_sec (s : List Int) (hs : ∀ c ∈ s, 0 ≤ c ∧ c ≤ 255) (l : List Sh) (hl : ∀ s ∈ l, s.Ok) (h : eachE l = 0) : Good (sec s :: l) := by
  have g := good_of l hl h
  refine ⟨?_, fun o => ?_, ?_⟩
  · intro c hc
    simp only [xsOf, List.map_cons, List.mem_cons] at hc
    rcases hc with rfl | hc
    · simp [sec]
    · exact g.rx c hc
  · intro c hc
    simp only [ysOf, List.map_cons, List.mem_cons] at hc
    rcases hc with rfl | hc
    · show 0 ≤ s.getD o 0 ∧ s.getD o 0 ≤ 256
      by_cases ho : o < s.length
      · rw [getD_lt s 0 ho]
        have := hs _ (List.getElem_mem ho)
        omega
      · rw [getD_ge s 0 (by omega)]; omega
    · exact g.ry o c hc
  · intro i j hij hj hc
    simp only [xsOf, List.map_cons, List.length_cons, List.length_map] at hj
    obtain ⟨j, rfl⟩ : ∃ m, j = m + 1 := ⟨j - 1, by omega⟩
    have ej : (xsOf (sec s :: l)).getD (j + 1) 0 = (xsOf l).getD j 0 := by simp [xsOf]
    rw [ej] at hc
    have h2 := (fault_zero (fault_all l h j (by omega))).1
    rw [xsOf_getD l j (by omega)] at hc
    cases i with
    | zero =>
      have : (xsOf (sec s :: l)).getD 0 0 = 0 := by simp [xsOf, sec]
      rw [this] at hc
      have := hc.eq (by omega) (by omega)
      omega
    | succ i =>
      have ei : (xsOf (sec s :: l)).getD (i + 1) 0 = (xsOf l).getD i 0 := by simp [xsOf]
      rw [ei, ← xsOf_getD l j (by omega)] at hc
      exact g.ap i j (by omega) (by rw [xsOf_length]; omega) hc

/-- all behind the first lie on the polynomials through the first -/
def agreeB (l : List Sh) (n : Nat) : Bool := (l.drop n).all (liesB (l.take n))
end Go.Proofs.Ytbljihhelladbaa.shr
