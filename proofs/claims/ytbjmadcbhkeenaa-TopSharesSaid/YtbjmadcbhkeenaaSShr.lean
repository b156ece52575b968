/-
  Shares as the proofs read them, plain: what is wrong with shares, the polynomials through them, what lies on them, what fits. No program, no condition. Arguments that are slices of integers, opened for the walks: their numbers, their room, their bulk. No condition. Slices of shares as the walks read them ('RowS'), and such arguments opened. No condition. Contracts of package slices at []int. Conditions: the bounds that append asks. What stirs, in plain Lean; contracts of the small parts of both Stir functions. Conditions: octets from 0 to 255, words below 2^32.
-/
import Derived.Test.YtbjmadcbhkeenaaSGsB
import Derived.Test.YtbjmadcbhkeenaaSMem
import Derived.ChangeSlices
import Derived.ProofKit
import Derived.WideShapes
import Derived.OpenShut
import Derived.Deep.Slices
import Derived.Lib.SliceRun
import Derived.Lib.AppendZeros
import Derived.Laws.BitsAllLaws
namespace Go.Proofs.Ytbjmadcbhkeenaa.shr
set_option linter.unusedSimpArgs false
set_option linter.unusedVariables false
open Go.RowKit Go.Proofs.Ytbjmadcbhkeenaa.Fld Go.Proofs.Ytbjmadcbhkeenaa.sh
/-- a share: its holder's octets, its place, its values -/
structure Sh where
  h : List Int
  x : Int
  y : List Int
/-- its cells -/
def Sh.cs (s : Sh) : List Value := s.h.map (Value.int .u8) ++ (Value.int .i64 s.x :: s.y.map (Value.int .u16))
structure Sh.Ok (s : Sh) : Prop where
  hl : s.h.length = 16
  yl : s.y.length = 32
  hb : ∀ c ∈ s.h, 0 ≤ c ∧ c ≤ 255
  yb : ∀ c ∈ s.y, 0 ≤ c ∧ c ≤ 65535
  xb : -9223372036854775808 ≤ s.x ∧ s.x ≤ 9223372036854775807
def nil : Sh := ⟨[], 0, []⟩
theorem Sh.Ok.csl {s : Sh} (h : s.Ok) : s.cs.length = 49 := by
  unfold Sh.cs
  simp [h.hl, h.yl]
def badY (s : Sh) : Bool := s.y.any fun n => decide (257 ≤ n)
def same (s t : Sh) : Bool := t.x == s.x || t.h == s.h
/-- what is wrong with a share behind others -/
def faultIn (old : List Sh) (s : Sh) : Int := if inB s.x 1 256 = false then 4 else if old.any (same s) = true then 8 else if badY s = true then 4 else 0
def eachTo (l : List Sh) : Nat → Int
  | 0 => 0
  | k + 1 => if eachTo l k = 0 then faultIn (l.take k) (l.getD k nil) else eachTo l k
def eachE (l : List Sh) : Int := eachTo l l.length
theorem eachTo_stop (l : List Sh) (k : Nat) (h : eachTo l k ≠ 0) : ∀ m, k ≤ m → eachTo l m = eachTo l k := by
  intro m hm
  induction m with
  | zero => rw [show k = 0 by omega]
  | succ m ih =>
    by_cases e : k = m + 1
    · rw [e]
    · have h1 := ih (by omega)
      show (if eachTo l m = 0 then _ else eachTo l m) = _
      rw [if_neg (by rw [h1]; exact h), h1]
theorem eachE_bad (l : List Sh) (k : Nat) (hk : k < l.length) (h0 : eachTo l k = 0) (h : faultIn (l.take k) (l.getD k nil) ≠ 0) : eachE l = faultIn (l.take k) (l.getD k nil) := by
  have e : eachTo l (k + 1) = faultIn (l.take k) (l.getD k nil) := if_pos h0
  have := eachTo_stop l (k + 1) (by rw [e]; exact h) l.length (by omega)
  unfold eachE
  rw [this, e]
theorem eachTo_step (l : List Sh) (k : Nat) (h0 : eachTo l k = 0) (h : faultIn (l.take k) (l.getD k nil) = 0) : eachTo l (k + 1) = 0 := by
  show (if eachTo l k = 0 then faultIn (l.take k) (l.getD k nil) else eachTo l k) = 0
  rw [if_pos h0, h]
theorem eachTo_all (l : List Sh) (h : eachE l = 0) (k : Nat) (hk : k ≤ l.length) : eachTo l k = 0 := by
  refine Classical.byContradiction fun hc => ?_
  have := eachTo_stop l k hc l.length hk
  unfold eachE at h
  rw [h] at this
  exact hc this.symm
theorem fault_all (l : List Sh) (h : eachE l = 0) (k : Nat) (hk : k < l.length) : faultIn (l.take k) (l.getD k nil) = 0 := by
  have h1 := eachTo_all l h (k + 1) (by omega)
  have h0 := eachTo_all l h k (by omega)
  have e : eachTo l (k + 1) = faultIn (l.take k) (l.getD k nil) := if_pos h0
  rw [← e, h1]
theorem fault_zero {old : List Sh} {s : Sh} (h : faultIn old s = 0) : (1 ≤ s.x ∧ s.x ≤ 256) ∧ old.any (same s) = false ∧ badY s = false := by
  unfold faultIn at h
  split at h
  · cases h
  · rename_i h1
    split at h
    · cases h
    · rename_i h2
      split at h
      · cases h
      · rename_i h3
        simp only [inB, Bool.not_eq_false, Bool.and_eq_true, decide_eq_true_eq] at h1
        exact ⟨h1, by simpa using h2, by simpa using h3⟩
/-- the error of shares; few: there can be fewer than need -/
def sharesE (few : Bool) (need : Int) (l : List Sh) : Int :=
  if inB need 1 32 = false then 4 else if (!few && decide ((l.length : Int) < need)) = true then 18 else if 32 < l.length then 5 else eachE l
def xsOf (l : List Sh) : List Int := l.map (·.x)
def ysOf (l : List Sh) (o : Nat) : List Int := l.map fun s => s.y.getD o 0
theorem xsOf_length (l : List Sh) : (xsOf l).length = l.length := by simp [xsOf]
theorem ysOf_length (l : List Sh) (o : Nat) : (ysOf l o).length = l.length := by simp [ysOf]
theorem xsOf_take (l : List Sh) (n : Nat) : xsOf (l.take n) = (xsOf l).take n := by simp [xsOf]
theorem ysOf_take (l : List Sh) (o n : Nat) : ysOf (l.take n) o = (ysOf l o).take n := by simp [ysOf]
theorem xsOf_getD (l : List Sh) (i : Nat) (h : i < l.length) : (xsOf l).getD i 0 = (l.getD i nil).x := by simp [xsOf, List.getD_eq_getElem?_getD, h]
theorem ysOf_getD (l : List Sh) (o i : Nat) (h : i < l.length) : (ysOf l o).getD i 0 = (l.getD i nil).y.getD o 0 := by simp [ysOf, List.getD_eq_getElem?_getD, h]
/-- good shares: what the polynomials need -/
structure Good (l : List Sh) : Prop where
  rx : Rng (xsOf l)
  ry : ∀ o, Rng (ysOf l o)
  ap : ApartTo (xsOf l) (xsOf l).length
theorem rng_y {s : Sh} (hs : s.Ok) (h : badY s = false) (o : Nat) : 0 ≤ s.y.getD o 0 ∧ s.y.getD o 0 ≤ 256 := by
  by_cases ho : o < s.y.length
  · rw [getD_lt s.y 0 ho]
    have hm := List.getElem_mem ho
    have h1 := hs.yb _ hm
    unfold badY at h
    rw [List.any_eq_false] at h
    have h2 := h _ hm
    simp at h2
    omega
  · rw [getD_ge s.y 0 (by omega)]; omega
theorem good_of (l : List Sh) (hs : ∀ s ∈ l, s.Ok) (h : eachE l = 0) : Good l := by
  have hf : ∀ k, k < l.length → (1 ≤ (l.getD k nil).x ∧ (l.getD k nil).x ≤ 256) ∧ (l.take k).any (same (l.getD k nil)) = false ∧ badY (l.getD k nil) = false := fun k hk => fault_zero (fault_all l h k hk)
  refine ⟨?_, fun o => ?_, ?_⟩
  · refine Rng.of_getD fun i hi => ?_
    rw [xsOf_length] at hi
    rw [xsOf_getD l i hi]
    have := (hf i hi).1
    omega
  · refine Rng.of_getD fun i hi => ?_
    rw [ysOf_length] at hi
    rw [ysOf_getD l o i hi]
    refine rng_y (hs _ ?_) (hf i hi).2.2 o
    rw [getD_lt l nil hi]; exact List.getElem_mem hi
  · intro i j hij hj hc
    rw [xsOf_length] at hj
    rw [xsOf_getD l i (by omega), xsOf_getD l j hj] at hc
    have h1 := (hf i (by omega)).1
    have h2 := (hf j hj).1
    have he := hc.eq (by omega) (by omega)
    have h3 := (hf j hj).2.1
    rw [List.any_eq_false] at h3
    refine h3 (l.getD i nil) ?_ ?_
    · rw [getD_lt l nil (by omega : i < l.length)]
      exact List.mem_take_iff_getElem.2 ⟨i, by omega, rfl⟩
    · unfold same
      rw [Bool.or_eq_true]
      exact Or.inl (by simpa using he)
theorem Rng.take {l : List Int} (h : Rng l) (n : Nat) : Rng (l.take n) := fun c hc => h c (List.mem_of_mem_take hc)
theorem Good.take {l : List Sh} (h : Good l) (n : Nat) : Good (l.take n) := by
  refine ⟨by rw [xsOf_take]; exact Rng.take h.rx n, fun o => by rw [ysOf_take]; exact Rng.take (h.ry o) n, ?_⟩
  intro i j hij hj
  rw [xsOf_take] at hj ⊢
  rw [List.length_take] at hj
  have e : ∀ i, i < n → ((xsOf l).take n).getD i 0 = (xsOf l).getD i 0 := fun i hi => by simp [List.getD_eq_getElem?_getD, hi]
  rw [e i (by omega), e j (by omega)]
  exact h.ap i j hij (by omega)
/-- the polynomial of an octet, and its value -/
def polyOf (l : List Sh) (o : Nat) : List Int := through (xsOf l) (ysOf l o)
def valAt (l : List Sh) (o : Nat) (t : Int) : Int := atR (xsOf l) (ysOf l o) t
theorem Good.poly_rng {l : List Sh} (h : Good l) (o : Nat) : Rng (polyOf l o) := through_rng _ _ h.ap
theorem Good.poly_length {l : List Sh} (h : Good l) (o : Nat) : (polyOf l o).length = l.length := by unfold polyOf; rw [through_length _ _ h.ap, xsOf_length]
theorem Good.val {l : List Sh} (h : Good l) (o : Nat) (t : Int) : ev (polyOf l o) t % 257 = valAt l o t :=
  (atR_interp h.ap (through_interp _ _ h.ap) t).symm
theorem valAt_range (l : List Sh) (o : Nat) (t : Int) : 0 ≤ valAt l o t ∧ valAt l o t ≤ 256 := atR_range ..
/-- a share lies on the polynomials through others -/
def liesTo (by_ : List Sh) (s : Sh) (k : Nat) : Bool := (List.range k).all fun o => valAt by_ o s.x == s.y.getD o 0
def liesB (by_ : List Sh) (s : Sh) : Bool := liesTo by_ s 32
theorem liesTo_succ (b : List Sh) (s : Sh) (k : Nat) : liesTo b s (k + 1) = (liesTo b s k && (valAt b k s.x == s.y.getD k 0)) := by
  unfold liesTo; rw [List.range_succ, List.all_append]; simp
theorem liesB_false (b : List Sh) (s : Sh) (k : Nat) (hk : k < 32) (h : valAt b k s.x ≠ s.y.getD k 0) : liesB b s = false := by
  unfold liesB liesTo
  rw [List.all_eq_false]
  exact ⟨k, by simpa using hk, by simpa using h⟩
/-- the secret that the polynomials say: its octets, as far as they are octets -/
def faultAt0 (l : List Sh) : Bool := (List.range 32).any fun o => decide (valAt l o 0 = 256)
def secretTo (l : List Sh) (k : Nat) : List Int := (List.range k).map fun o => valAt l o 0
def secretOf (l : List Sh) : List Int := if faultAt0 l = true then List.replicate 32 0 else secretTo l 32
def secretE (l : List Sh) : Int := if faultAt0 l = true then 20 else 0
theorem fault0_of (l : List Sh) (k : Nat) (hk : k < 32) (h : valAt l k 0 = 256) : faultAt0 l = true := by
  unfold faultAt0
  rw [List.any_eq_true]
  exact ⟨k, by simpa using hk, by simpa using h⟩
theorem fault0_not (l : List Sh) (h : ∀ o, o < 32 → valAt l o 0 ≠ 256) : faultAt0 l = false := by
  unfold faultAt0
  rw [List.any_eq_false]
  intro o ho
  simpa using h o (by simpa using ho)
/-- the share of a secret itself -/
def sec (s : List Int) : Sh := ⟨List.replicate 16 0, 0, s⟩
theorem good_sec (s : List Int) (hs : ∀ c ∈ s, 0 ≤ c ∧ c ≤ 255) (l : List Sh) (hl : ∀ s ∈ l, s.Ok) (h : eachE l = 0) : Good (sec s :: l) := by
  have g := good_of l hl h
  refine ⟨?_, fun o => ?_, ?_⟩
  · intro c hc
    simp only [xsOf, List.map_cons, List.mem_cons] at hc
    rcases hc with rfl | hc
    · simp [sec]
    · exact g.rx c hc
  · intro c hc
    simp only [ysOf, List.map_cons, List.mem_cons] at hc
    rcases hc with rfl | hc
    · show 0 ≤ s.getD o 0 ∧ s.getD o 0 ≤ 256
      by_cases ho : o < s.length
      · rw [getD_lt s 0 ho]
        have := hs _ (List.getElem_mem ho)
        omega
      · rw [getD_ge s 0 (by omega)]; omega
    · exact g.ry o c hc
  · intro i j hij hj hc
    simp only [xsOf, List.map_cons, List.length_cons, List.length_map] at hj
    obtain ⟨j, rfl⟩ : ∃ m, j = m + 1 := ⟨j - 1, by omega⟩
    have ej : (xsOf (sec s :: l)).getD (j + 1) 0 = (xsOf l).getD j 0 := by simp [xsOf]
    rw [ej] at hc
    have h2 := (fault_zero (fault_all l h j (by omega))).1
    rw [xsOf_getD l j (by omega)] at hc
    cases i with
    | zero =>
      have : (xsOf (sec s :: l)).getD 0 0 = 0 := by simp [xsOf, sec]
      rw [this] at hc
      have := hc.eq (by omega) (by omega)
      omega
    | succ i =>
      have ei : (xsOf (sec s :: l)).getD (i + 1) 0 = (xsOf l).getD i 0 := by simp [xsOf]
      rw [ei, ← xsOf_getD l j (by omega)] at hc
      exact g.ap i j (by omega) (by rw [xsOf_length]; omega) hc
/-- all behind the first lie on the polynomials through the first -/
def agreeB (l : List Sh) (n : Nat) : Bool := (l.drop n).all (liesB (l.take n))
end Go.Proofs.Ytbjmadcbhkeenaa.shr
namespace Go.Proofs.Ytbjmadcbhkeenaa.opn
set_option linter.unusedSimpArgs false
set_option linter.unusedVariables false
open Go.ChangeShapes Go.WideShapes Go.ChangeAt Go.RowKit
theorem bulk_lits {H : Type} (k : IntKind) (l : List Int) : Rows.uptoBulkAll (lits (H := H) k l) = l.length := by
  induction l with
  | nil => rfl
  | cons n l ih =>
    show Rows.uptoBulk _ + Rows.uptoBulkAll (lits (H := H) k l) = _
    rw [ih]
    show 1 + l.length = _
    simp; omega
/-- what a slice of integers is, behind the law's form -/
structure IntsAt {H : Type} (P : Program) (W : World) (k : IntKind) (v : Value) (d : DataW H) (l : List Int) (ao : Option Addr) (cap : Nat) : Prop where
  val : v = .slice ao l.length cap
  le : l.length ≤ cap
  row : RowI k W ao l
  none : ao = none → cap = 0 ∧ l.length = 0
  bulk : l.length ≤ Rows.uptoBulk d
  wf : ∀ n ∈ l, (Lit.int k n).wf = true
theorem lt_of_cell' {w : World} {a : Addr} {u : Value} (h : w.cell? a = some u) : a.block < w.heap.size := by
  unfold World.cell? at h
  by_cases hb : a.block < w.heap.size
  · exact hb
  · simp [Array.getElem?_eq_none (by omega : w.heap.size ≤ a.block)] at h
theorem ints {H : Type} {enc : TypeId × Value → H} {P : Program} {W : World} {base : Nat} {held : Bool} {r : Reach} {b0 : Nat} {t e : TypeId} {k : IntKind} {v : Value} {d : DataW H} {ps : List MemPlace}
    (ht : P.underlying t = some (.slice e)) (he : P.underlying e = some (.int k)) (hc : P.cellsOf e = 1) (hval : Value.okWide P W r b0 t v) (hd : DataW.Trod enc P W base (fun _ => true) held t v d ps) :
    ∃ l ao cap, IntsAt P W k v d l ao cap := by
  obtain ⟨a, len, cap, rfl⟩ := okWide_slice ht hval
  obtain ⟨fuel, hf⟩ := hd
  rcases open_ints ht he hc hf with ⟨h1, h2⟩ | ⟨ad, ln, cp, zs, h1, h2, h3, h4, h5, h6, h7, h8⟩
  · simp [Value.cells] at h1
    obtain ⟨rfl, rfl, rfl⟩ := h1
    exact ⟨[], none, 0, ⟨rfl, Nat.le_refl _, RowI.nil _ _ _, fun _ => ⟨rfl, rfl⟩, Nat.zero_le _, fun n hn => by cases hn⟩⟩
  · simp [Value.cells] at h1
    obtain ⟨rfl, rfl, rfl⟩ := h1
    simp only [if_true] at h5
    have hlen : (zs.take len).length = len := by rw [List.length_take]; omega
    have hx : d = .slice (lits k (zs.take len)) (lits k (zs.drop len)) := congrArg Prod.fst h6
    refine ⟨zs.take len, some ad, cap, ⟨by rw [hlen], by omega, ?_, (fun h => by cases h), ?_, fun n hn => h8 n (List.mem_of_mem_take hn)⟩⟩
    · by_cases hl : len = 0
      · exact Or.inl (by subst hl; simp)
      · obtain ⟨b, off, rfl, hcl⟩ := ints_at h7 (by omega)
        have hb := lt_of_cell' (hcl 0 (by omega))
        refine Or.inr ⟨b, off, rfl, hb, fun i hi => ?_⟩
        rw [hlen] at hi
        rw [hcl i (by omega)]
        simp [List.getD_eq_getElem?_getD, hi]
    · rw [hx]
      show _ ≤ Rows.uptoBulkAll (lits k (zs.take len)) + Rows.uptoBulkAll (lits k (zs.drop len)) + 1
      rw [bulk_lits]; omega
end Go.Proofs.Ytbjmadcbhkeenaa.opn
namespace Go.Proofs.Ytbjmadcbhkeenaa.shr
set_option linter.unusedSimpArgs false
set_option linter.unusedVariables false
open Go.RowKit Go.ChangeShapes Go.WideShapes Go.ChangeAt
/-- behind the address lie these shares -/
def RowS (w : World) (ao : Option Addr) (l : List Sh) : Prop :=
  l = [] ∨ ∃ b off, ao = some ⟨b, off, none⟩ ∧ b < w.heap.size ∧ ∀ i, i < l.length → At w ⟨b, off + i * 49, none⟩ (l.getD i nil).cs
theorem RowS.at {w : World} {ao : Option Addr} {l : List Sh} (h : RowS w ao l) {i : Nat} (hi : i < l.length) : ∃ b off, ao = some ⟨b, off, none⟩ ∧ b < w.heap.size ∧ ∀ i, i < l.length → At w ⟨b, off + i * 49, none⟩ (l.getD i nil).cs := by
  rcases h with h | h
  · subst h; simp at hi
  · exact h
/-- one share, under a name of its own -/
theorem RowS.elem {w : World} {ao : Option Addr} {l : List Sh} (h : RowS w ao l) {i : Nat} (hi : i < l.length) :
    ∃ b off s, ao = some ⟨b, off, none⟩ ∧ b < w.heap.size ∧ Hid (s = l.getD i nil) ∧ At w ⟨b, off + i * 49, none⟩ s.cs := by
  obtain ⟨b, off, h1, h2, h3⟩ := h.at hi
  exact ⟨b, off, _, h1, h2, rfl, h3 i hi⟩
theorem At.below {w w' : World} {a : Addr} {cs : List Value} (h : At w a cs) (hb : Below w.heap.size w w') (ha : a.block < w.heap.size) : At w' a cs := by
  intro j u hu
  have e : (a.add j).block = a.block := by unfold Addr.add; split <;> rfl
  rw [hb.cell (p := a.add j) (by rw [e]; exact ha)]
  exact h j u hu
theorem At.belowB {w w' : World} {B : Nat} {a : Addr} {cs : List Value} (h : At w a cs) (hb : Below B w w') (ha : a.block < B) : At w' a cs := by
  intro j u hu
  have e : (a.add j).block = a.block := by unfold Addr.add; split <;> rfl
  rw [hb.cell (p := a.add j) (by rw [e]; exact ha)]
  exact h j u hu
theorem RowS.below {w w' : World} {ao : Option Addr} {l : List Sh} (h : RowS w ao l) (hb : Below w.heap.size w w') : RowS w' ao l := by
  rcases h with h | ⟨b, off, h1, h2, h3⟩
  · exact Or.inl h
  · exact Or.inr ⟨b, off, h1, Nat.lt_of_lt_of_le h2 hb.size, fun i hi => At.below (h3 i hi) hb h2⟩
theorem RowS.take {w : World} {ao : Option Addr} {l : List Sh} (h : RowS w ao l) (n : Nat) : RowS w ao (l.take n) := by
  rcases h with h | ⟨b, off, h1, h2, h3⟩
  · exact Or.inl (by simp [h])
  · refine Or.inr ⟨b, off, h1, h2, fun i hi => ?_⟩
    rw [List.length_take] at hi
    have e : (l.take n).getD i nil = l.getD i nil := by simp [List.getD_eq_getElem?_getD, List.getElem?_take, show i < n by omega]
    rw [e]
    exact h3 i (by omega)
theorem RowS.drew {w : World} {ao : Option Addr} {l : List Sh} (h : RowS w ao l) : RowS w.drew ao l := h
theorem RowS.drewN {w : World} {ao : Option Addr} {l : List Sh} (h : RowS w ao l) (n : Nat) : RowS (w.drewN n) ao l := h
section
variable {H : Type} {enc : TypeId × Value → H} {P : Program} {w : World} {base : Nat} {spare : Nat → Bool} {held : Bool}
theorem arr_of_trod {t e : TypeId} {n fuel : Nat} {q : IntKind} {cs : List Value} {x : DataW H × List MemPlace} (ht : P.underlying t = some (.array n e)) (he : P.underlying e = some (.int q)) (hc : P.cellsOf e = 1) (hct : P.cellsOf t = n)
    (hf : DataW.trod enc P w base spare held fuel t cs = some x) : ∃ l : List Int, cs = l.map (Value.int q) ∧ l.length = n ∧ ∀ c ∈ l, (Lit.int q c).wf = true := by
  obtain ⟨xs, m, rfl, _, h1, h2, h3⟩ := DataW.trod_array ht hf
  rw [hct] at h1
  have h4 : ∀ i, i < n → ∃ c : Int, cs[i]? = some (.int q c) ∧ (Lit.int q c).wf = true := by
    intro i hi
    have h5 := h3 i hi
    rw [hc, Nat.mul_one, List.getElem?_eq_getElem (by omega)] at h5
    have hcs : (cs.drop i).take 1 = [cs[i]'(by omega)] := by
      rw [List.drop_eq_getElem_cons (by omega)]
      rfl
    rw [hcs] at h5
    obtain ⟨c, hcc, _, hw⟩ := DataW.trod_int he h5
    simp only [List.cons.injEq, and_true] at hcc
    exact ⟨c, by rw [List.getElem?_eq_getElem (by omega), hcc], hw⟩
  refine ⟨cs.map fun u => match u with | .int _ c => c | _ => 0, ?_, by rw [List.length_map]; exact h1, ?_⟩
  · rw [List.map_map]
    symm
    apply List.ext_getElem
    · simp
    · intro i hi1 hi2
      obtain ⟨c, h6, _⟩ := h4 i (by omega)
      rw [List.getElem?_eq_getElem (by omega)] at h6
      simp only [Option.some.injEq] at h6
      simp [h6]
  · intro c hc'
    obtain ⟨u, hu, rfl⟩ := List.mem_map.1 hc'
    obtain ⟨i, hi, rfl⟩ := List.getElem_of_mem hu
    obtain ⟨c, h6, h7⟩ := h4 i (by omega)
    rw [List.getElem?_eq_getElem hi] at h6
    simp only [Option.some.injEq] at h6
    rw [h6]
    exact h7
end
set_option maxRecDepth 100000 in
theorem shareCells {H : Type} {enc : TypeId × Value → H} {w : World} {base : Nat} {spare : Nat → Bool} {held : Bool} {fuel : Nat} {cs : List Value} {x : DataW H × List MemPlace}
    (h : DataW.trod enc Try.prog w base spare held fuel 41 cs = some x) : ∃ s : Sh, s.Ok ∧ cs = s.cs := by
  obtain ⟨xs, n, rfl, _, h1, h2, h3⟩ := DataW.trod_struct Try.underlying41 h
  rw [show Try.prog.cellsOf 41 = 49 by kernel_rfl] at h1
  have g0 : DataW.trod enc Try.prog w base spare held n 28 ((cs.drop 0).take (Try.prog.cellsOf 28)) = xs[0]? := h3 0 _ rfl
  have g1 : DataW.trod enc Try.prog w base spare held n 3 ((cs.drop 16).take (Try.prog.cellsOf 3)) = xs[1]? := h3 1 _ rfl
  have g2 : DataW.trod enc Try.prog w base spare held n 39 ((cs.drop 17).take (Try.prog.cellsOf 39)) = xs[2]? := h3 2 _ rfl
  have hx : xs.length = 3 := h2
  rw [List.getElem?_eq_getElem (by omega)] at g0 g1 g2
  simp only [show Try.prog.cellsOf 28 = 16 by kernel_rfl, show Try.prog.cellsOf 3 = 1 by kernel_rfl, show Try.prog.cellsOf 39 = 32 by kernel_rfl] at g0 g1 g2
  obtain ⟨lh, e0, l0, w0⟩ := arr_of_trod Try.underlying28 Try.underlying5 (by kernel_rfl) (by kernel_rfl) g0
  obtain ⟨x1, e1, _, w1⟩ := DataW.trod_int Try.underlying3 g1
  obtain ⟨ly, e2, l2, w2⟩ := arr_of_trod Try.underlying39 Try.underlying38 (by kernel_rfl) (by kernel_rfl) g2
  refine ⟨⟨lh, x1, ly⟩, ⟨l0, l2, fun c hc => bounds_u8 (w0 c hc), fun c hc => bounds_u16 (w2 c hc), bounds_i64 w1⟩, ?_⟩
  unfold Sh.cs
  have e : cs = (cs.drop 0).take 16 ++ ((cs.drop 16).take 1 ++ (cs.drop 17).take 32) := by
    apply List.ext_getElem?
    intro i
    simp only [List.drop_zero, List.getElem?_append, List.length_take, List.length_drop, List.getElem?_take, List.getElem?_drop]
    split
    · rw [if_pos (by omega)]
    · split
      · rw [if_pos (by omega)]; congr 1; omega
      · by_cases hi : i < 49
        · rw [if_pos (by omega)]; congr 1; omega
        · rw [if_neg (by omega), List.getElem?_eq_none (by omega)]
  rw [e, e0, e1, e2]
  rfl
/-- what a slice of shares is, behind the law's form -/
structure SharesAt {H : Type} (W : World) (v : Value) (d : DataW H) (l : List Sh) (ao : Option Addr) (cap : Nat) : Prop where
  val : v = .slice ao l.length cap
  le : l.length ≤ cap
  row : RowS W ao l
  none : ao = none → cap = 0 ∧ l.length = 0
  ok : ∀ s ∈ l, s.Ok
  len : cap ≤ maxLen
set_option maxRecDepth 100000 in
theorem shares {H : Type} {enc : TypeId × Value → H} {W : World} {base : Nat} {held : Bool} {r : Reach} {b0 : Nat} {v : Value} {d : DataW H} {ps : List MemPlace}
    (hval : Value.okWide Try.prog W r b0 29 v) (hd : DataW.Trod enc Try.prog W base (fun _ => true) held 29 v d ps) :
    ∃ l ao cap, SharesAt W v d l ao cap := by
  obtain ⟨a, len, cap, rfl⟩ := okWide_slice Try.underlying29 hval
  obtain ⟨fuel, hf⟩ := hd
  rcases Go.Deep.open_slice Try.underlying29 hf with ⟨h1, h2⟩ | ⟨ad, ln, cp, m, n, D, Pl, h1, h3, h4, h5, h6, h7, h8⟩
  · simp [Value.cells] at h1
    obtain ⟨rfl, rfl, rfl⟩ := h1
    exact ⟨[], none, 0, ⟨rfl, Nat.le_refl _, Or.inl rfl, fun _ => ⟨rfl, rfl⟩, (fun s hs => by cases hs), by decide⟩⟩
  · simp [Value.cells] at h1
    obtain ⟨rfl, rfl, rfl⟩ := h1
    simp only [if_true] at h6
    subst h6
    rw [show Try.prog.cellsOf 41 = 49 by kernel_rfl] at h8
    have hs : ∀ i, i < m → ∃ s : Sh, s.Ok ∧ At W (ad.add (i * 49)) s.cs := by
      intro i hi
      obtain ⟨cs', hc, ht⟩ := h8 i hi
      obtain ⟨s, hok, rfl⟩ := shareCells ht
      obtain ⟨_, hcl, hat⟩ := World.cells?_some hc
      refine ⟨s, hok, fun j u hu => ?_⟩
      have hj : j < 49 := by rw [← hcl]; exact (List.getElem?_eq_some_iff.1 hu).1
      rw [hat j hj, hu]
    have hs' : ∃ f : Nat → Sh, ∀ i, i < m → (f i).Ok ∧ At W (ad.add (i * 49)) (f i).cs := by
      refine ⟨fun i => if h : i < m then Classical.choose (hs i h) else nil, fun i hi => ?_⟩
      simp only [dif_pos hi]
      exact Classical.choose_spec (hs i hi)
    obtain ⟨f, hf2⟩ := hs'
    have hlen : ((List.range len).map f).length = len := by simp
    refine ⟨(List.range len).map f, some ad, m, ⟨by rw [hlen], by rw [hlen]; exact h4, ?_, (fun h => by cases h), ?_, h5⟩⟩
    · by_cases hl : len = 0
      · exact Or.inl (by subst hl; rfl)
      · have c0 := (hf2 0 (by omega)).2
        have hcs : (f 0).cs[0]? = some ((f 0).cs[0]'(by rw [(hf2 0 (by omega)).1.csl]; omega)) := List.getElem?_eq_getElem _
        have c1 := c0 0 _ hcs
        obtain ⟨b, off, spot⟩ := ad
        have hspot : spot = none := by simpa [Addr.add] using World.cell?_spot c1
        subst hspot
        have c2 : W.cell? ⟨b, off, none⟩ = some ((f 0).cs[0]'(by rw [(hf2 0 (by omega)).1.csl]; omega)) := by simpa [Addr.add] using c1
        refine Or.inr ⟨b, off, rfl, opn.lt_of_cell' c2, fun i hi => ?_⟩
        rw [hlen] at hi
        have e : ((List.range len).map f).getD i nil = f i := by simp [List.getD_eq_getElem?_getD, hi]
        rw [e]
        have := (hf2 i (by omega)).2
        rwa [show (⟨b, off, none⟩ : Addr).add (i * 49) = ⟨b, off + i * 49, none⟩ by unfold Addr.add; split <;> simp_all] at this
    · intro s hs
      obtain ⟨i, hi, rfl⟩ := List.mem_map.1 hs
      exact (hf2 i (by have := List.mem_range.1 hi; omega)).1
end Go.Proofs.Ytbjmadcbhkeenaa.shr
namespace Go.Proofs.Ytbjmadcbhkeenaa.slInt
open Go.RowKit
set_option linter.unusedSimpArgs false
set_option linter.unusedVariables false
theorem info : Info Try.prog 3 (.int .i64 0) 1 8 := by unfold Info; kernel_rfl
theorem bel2 {w w1 w2 : World} {row : Option Nat} (h : Below w.heap.size w w1) (hg : w1.grownBy w2 row) (hr : ∀ k, row = some k → w.heap.size ≤ k) : Below w.heap.size w w2 := h.grown hg h.size hr
theorem Clone_any (ao : Option Addr) (n cap : Nat) (cs : List Value) (w : World) (hr : RowV w ao cs) (hl : cs.length = n * 1) (h1 : ∀ u ∈ cs, u.oneCell' = true) (hno : ao = none → cap = 0 ∧ n = 0) (hb : n * 8 ≤ 140737488355328) :
    Calls Try.prog 41 #[.slice ao n cap] w fun e w' => ∃ v, e = .returned v ∧ Mine w' w.heap.size 3 1 v n cs ∧ Below w.heap.size w w' := by
  have hq := fun w => Lib.run_eql_slice_nil (P := Try.prog) w 24 3 ao n cap 0 0 Try.underlying24
  have hL := hid hl; clear hl
  cases ao with
  | none =>
    obtain ⟨rfl, rfl⟩ := hno rfl
    obtain rfl : cs = [] := List.eq_nil_of_length_eq_zero (by have := hL.out; omega)
    go_enter Try.func41, Try.ntmps41
    go_wp2
    go_ret
    exact ⟨_, rfl, Mine.nil _ _ _ _, Below.refl _ _⟩
  | some a =>
    go_enter Try.func41, Try.ntmps41
    go_wp2_with (at_builtin; refine wl_append rfl _ _ 24 rfl 3 (.int .i64 0) 1 8 Try.underlying24 info rfl (by decide) w.heap.size _ 0 [] rfl (Or.inr ⟨rfl, rfl, _, rfl⟩) (some a) n cap rfl (fun h => by cases h) cs hL.out (hr.alloc _) h1 (by unfold maxLen; omega) (by omega) (by simp) ?_; intro v' w' row hM hg hrow)
    go_ret
    rw [Nat.zero_add, List.nil_append] at hM
    exact ⟨_, rfl, hM, bel2 ((Below.refl _ _).alloc (Nat.le_refl _) _) hg fun k hk => (hrow k hk).1⟩
/-- a part of Concat: a slice and its cells -/
structure Part where
  ao : Option Addr
  n : Nat
  cap : Nat
  cells : List Value
def Part.val (p : Part) : Value := .slice p.ao p.n p.cap
def Part.ok (w : World) (p : Part) : Prop := RowV w p.ao p.cells ∧ p.cells.length = p.n * 1 ∧ (∀ u ∈ p.cells, u.oneCell' = true) ∧ (p.ao = none → p.cap = 0)
def noPart : Part := ⟨none, 0, 0, []⟩
def flat : List Part → List Value
  | [] => []
  | p :: l => p.cells ++ flat l
/-- where the parts lie -/
def Parts (w : World) (ps : List Part) (po : Addr) : Prop := po.spot = none ∧ po.block < w.heap.size ∧ ∀ k, k < ps.length → w.cell? ⟨po.block, po.off + k, none⟩ = some (ps.getD k noPart).val
theorem Parts.below {w w' : World} {ps : List Part} {po : Addr} (h : Parts w ps po) (hb : Below w.heap.size w w') : Parts w' ps po :=
  ⟨h.1, Nat.lt_of_lt_of_le h.2.1 hb.size, fun k hk => by rw [hb.cell (p := ⟨po.block, po.off + k, none⟩) h.2.1]; exact h.2.2 k hk⟩
/-- the first place at which p says yes; -1: there is none -/
def findI {α : Type} (p : α → Bool) : List α → Nat → Int
  | [], _ => -1
  | x :: l, i => if p x then (i : Int) else findI p l (i + 1)
theorem findI_drop {α : Type} (p : α → Bool) (l : List α) (d : α) (k : Nat) (hk : k < l.length) : findI p (l.drop k) k = if p (l.getD k d) then (k : Int) else findI p (l.drop (k + 1)) (k + 1) := by
  have e : l.drop k = l[k] :: l.drop (k + 1) := List.drop_eq_getElem_cons hk
  rw [e, getD_lt' l d hk]
  rfl
theorem findI_any {α : Type} (p : α → Bool) (l : List α) (i : Nat) : decide (0 ≤ findI p l i) = l.any p := by
  induction l generalizing i with
  | nil => simp [findI]
  | cons x l ih =>
    unfold findI
    by_cases h : p x = true
    · simp [h]
    · simp [h, ih (i + 1)]
end Go.Proofs.Ytbjmadcbhkeenaa.slInt
namespace Go.Proofs.Ytbjmadcbhkeenaa
set_option linter.unusedSimpArgs false
set_option linter.unusedVariables false
open Go.RowKit
theorem results_cell {fn : Func} {c : Tmp} {t : TypeId} (h : fn.results = #[.cell c t]) (tmps : Array Value) (P : Program) (w : World) (p : Addr) (hp : tmps.getD c undef = .pointer (some p)) (cs : List Value) (ha : Agg P t cs.length) (hc : At w p cs) :
    (results fn tmps).run P w = .ok (.agg cs.toArray) w := by
  rw [Array.getD_eq_getD_getElem?] at hp
  simp [results, h, hp, run_load_agg w t p cs ha hc, asAddr]
theorem results_cell2 {fn : Func} {c u : Tmp} {t : TypeId} (h : fn.results = #[.cell c t, .tmp u]) (tmps : Array Value) (P : Program) (w : World) (p : Addr) (hp : tmps.getD c undef = .pointer (some p)) (cs : List Value) (ha : Agg P t cs.length) (hc : At w p cs) :
    (results fn tmps).run P w = .ok (.tuple #[.agg cs.toArray, tmps.getD u undef]) w := by
  rw [Array.getD_eq_getD_getElem?] at hp
  simp [results, h, hp, run_load_agg w t p cs ha hc, asAddr]
/-- a whole variable is stored anew -/
theorem wl_storeAll {P : Program} {w : World} {ops : Array Oper} {rest : List Oper} {o : Oper} {a : Act} {Q : Exit → Act → World → Prop} (hgd : o.guard = none) (ty : TypeId) (x y : Operand) (ho : o.op = .store ty x y)
    (t : TypeId) (g : Nat) (hx : a.eval x = .pointer (some ⟨g, 0, none⟩)) (cs : List Value) (hy : a.eval y = .agg cs.toArray) (n : Nat) (hi : Agg P ty n) (hn : cs.length = n) (cur : List Value) (hg : BlkV t w g cur) (hc : cur.length = n) (h1 : ∀ u ∈ cs, u.oneCell' = true)
    (h : BlkV t (w.setRow g cs.toArray) g cs → wpList P ops Q rest (a.put o.dst undef) (w.setRow g cs.toArray)) : wpList P ops Q (o :: rest) a w := by
  refine wl_store hgd ty x y ho t g 0 hx cs hy (by rw [hn]; exact hi.2) cur hg (by omega) h1 ?_
  have e : cur.take 0 ++ cs ++ cur.drop (0 + cs.length) = cs := by rw [List.take_zero, List.nil_append, List.drop_of_length_le (by omega), List.append_nil]
  rw [e]
  exact h (hg.setRow cs)
theorem ints_one (k : IntKind) (l : List Int) : ∀ u ∈ l.map (Value.int k), u.oneCell' = true := by
  intro u hu
  obtain ⟨n, _, rfl⟩ := List.mem_map.1 hu
  rfl
end Go.Proofs.Ytbjmadcbhkeenaa
namespace Go.Proofs.Ytbjmadcbhkeenaa.st
open Go.RowKit
theorem agg4 : Agg Try.prog 121 4 := Agg.arr Try.underlying121 (by kernel_rfl)
theorem agg64 : Agg Try.prog 111 64 := Agg.arr Try.underlying111 (by kernel_rfl)
theorem agg16 : Agg Try.prog 123 16 := Agg.arr Try.underlying123 (by kernel_rfl)
theorem at_new (t : TypeId) (w : World) {g : Nat} (cs : List Value) (hg : g = w.heap.size) : At (w.alloc (.cells cs.toArray t)) ⟨g, 0, none⟩ cs := (BlkV.new t w cs hg).at0
def rotl (x : Int) (k : Nat) : Int := bits .or .u32 (x * 2 ^ k % 4294967296) (x / 2 ^ (32 - k))
/-- a word: from 0 to 2^32 - 1 -/
def W32 (x : Int) : Prop := 0 ≤ x ∧ x < 4294967296
theorem w32_bits (op : BinOp) (x y : Int) : W32 (bits op .u32 x y) := by
  have := bounds_u32 (wf_bits op .u32 x y)
  exact ⟨this.1, by omega⟩
theorem w32_mod (x : Int) : W32 (x % 4294967296) := by unfold W32; omega
theorem w32_rotl (x : Int) (k : Nat) : W32 (rotl x k) := w32_bits _ _ _
theorem and31 (k : Nat) (h : k < 32) : bits .and .u64 (k : Int) 31 = (k : Int) := by
  have : ∀ j : Fin 32, bits .and .u64 (j.val : Int) 31 = (j.val : Int) := by decide +kernel
  exact this ⟨k, h⟩
theorem rotR (x : Int) (k : Nat) (w : World) (h : k < 32) (hx : W32 x) : Calls Try.prog 73 #[.int .u32 x, .int .i64 k] w fun e w' => e = .returned (.int .u32 (rotl x k)) ∧ w = w' := by
  have hb := and31 k h
  obtain ⟨hx1, hx2⟩ := hx
  go_enter Try.func73, Try.ntmps73
  go_wp2
  go_ret
  exact ⟨rfl, rfl⟩
/-- 'or' of what does not meet is the sum -/
theorem or_sum (a b : Int) (k : Nat) (ha : 0 ≤ a) (hb : 0 ≤ b) (hk : b < 2 ^ k) (hs : a * 2 ^ k + b < 4294967296) : bits .or .u32 (a * 2 ^ k) b = a * 2 ^ k + b := by
  obtain ⟨m, rfl⟩ := Int.eq_ofNat_of_zero_le ha
  obtain ⟨n, rfl⟩ := Int.eq_ofNat_of_zero_le hb
  have hk' : n < 2 ^ k := by
    apply Int.ofNat_lt.1
    rw [Int.natCast_pow]; exact hk
  have e : (m : Int) * 2 ^ k = ((m * 2 ^ k : Nat) : Int) := by rw [Int.natCast_mul, Int.natCast_pow]; rfl
  have hs' : m * 2 ^ k + n < 4294967296 := by
    rw [e] at hs
    generalize m * 2 ^ k = q at hs
    omega
  rw [e, u32_or_nat _ _ (by omega) (by omega)]
  have h := Nat.two_pow_add_eq_or_of_lt hk' m
  rw [Nat.mul_comm] at h
  rw [← h, Int.natCast_add]
/-- an octet -/
def Oct (x : Int) : Prop := 0 ≤ x ∧ x ≤ 255
def w4 (a b c d : Int) : Int := a * 16777216 + b * 65536 + c * 256 + d
theorem or4 (a b c d : Int) (ha : Oct a) (hb : Oct b) (hc : Oct c) (hd : Oct d) :
    bits .or .u32 (bits .or .u32 (bits .or .u32 (a * 16777216) (b * 65536)) (c * 256)) d = w4 a b c d := by
  unfold Oct at *
  have h1 : bits .or .u32 (a * 16777216) (b * 65536) = a * 16777216 + b * 65536 := or_sum a (b * 65536) 24 (by omega) (by omega) (by omega) (by omega)
  have h2 : bits .or .u32 (a * 16777216 + b * 65536) (c * 256) = a * 16777216 + b * 65536 + c * 256 := by
    have := or_sum (a * 256 + b) (c * 256) 16 (by omega) (by omega) (by omega) (by omega)
    rw [show (a * 256 + b) * 2 ^ 16 = a * 16777216 + b * 65536 by omega] at this
    exact this
  have h3 : bits .or .u32 (a * 16777216 + b * 65536 + c * 256) d = w4 a b c d := by
    have := or_sum (a * 65536 + b * 256 + c) d 8 (by omega) (by omega) (by omega) (by omega)
    rw [show (a * 65536 + b * 256 + c) * 2 ^ 8 = a * 16777216 + b * 65536 + c * 256 by omega] at this
    exact this
  rw [h1, h2, h3]
theorem w32_w4 {a b c d : Int} (ha : Oct a) (hb : Oct b) (hc : Oct c) (hd : Oct d) : W32 (w4 a b c d) := by unfold Oct W32 w4 at *; omega
theorem word (a b c d : Int) (w : World) (ha : Oct a) (hb : Oct b) (hc : Oct c) (hd : Oct d) :
    Calls Try.prog 75 #[.agg #[.int .u8 a, .int .u8 b, .int .u8 c, .int .u8 d]] w fun e w' => e = .returned (.int .u32 (w4 a b c d)) ∧ Below w.heap.size w w' := by
  have H := hid (or4 a b c d ha hb hc hd)
  unfold Oct at ha hb hc hd
  go_enter Try.func75, Try.ntmps75
  go_wp2
  go_ret
  exact ⟨rv (ri H.out), (Below.refl _ _).alloc (Nat.le_refl _) _⟩
/-- a word's octets -/
def o4 (n : Int) : List Int := [n / 16777216 % 256, n / 65536 % 256, n / 256 % 256, n % 256]
theorem octets (n : Int) (w : World) : Calls Try.prog 70 #[.int .u32 n] w fun e w' => e = .returned (.agg ((o4 n).map (Value.int .u8)).toArray) ∧ Below w.heap.size w w' := by
  go_enter Try.func70, Try.ntmps70
  go_wp2
  (try simp only [Exit.inBlock, Exit.then]); refine bodyPost_ret (results_cell rfl _ _ _ _ rfl ((o4 n).map (Value.int .u8)) agg4 (at_new _ w _ rfl)) rfl ?_
  exact ⟨rfl, (Below.refl _ _).alloc (Nat.le_refl _) _⟩
/-- one step of a round, and the rounds -/
def addW (r i : Nat) (w : List Int) : List Int := w.set i ((w.getD i 0 + bits .xor .u32 (rotl (w.getD ((i + 1 + r) % 16) 0) (5 + i)) (2654435769 * ((16 * r + i + 1 : Nat) : Int) % 4294967296)) % 4294967296)
def xorW (i : Nat) (w : List Int) : List Int := w.set ((i + 9) % 16) (bits .xor .u32 (w.getD ((i + 9) % 16) 0) (rotl (w.getD i 0) 11))
def stepTo (r : Nat) (w : List Int) : Nat → List Int
  | 0 => w
  | i + 1 => xorW i (addW r i (stepTo r w i))
def roundTo (w : List Int) : Nat → List Int
  | 0 => w
  | r + 1 => stepTo r (roundTo w r) 16
theorem stepTo_length (r : Nat) (w : List Int) (i : Nat) : (stepTo r w i).length = w.length := by
  induction i with
  | zero => rfl
  | succ i ih => unfold stepTo xorW addW; simp [ih]
theorem roundTo_length (w : List Int) (r : Nat) : (roundTo w r).length = w.length := by
  induction r with
  | zero => rfl
  | succ r ih => unfold roundTo; rw [stepTo_length, ih]
def AllW (l : List Int) : Prop := ∀ c ∈ l, W32 c
theorem AllW.getD {l : List Int} (h : AllW l) (i : Nat) : W32 (l.getD i 0) := by
  by_cases hi : i < l.length
  · rw [getD_lt' _ _ hi]; exact h _ (List.getElem_mem hi)
  · rw [List.getD_eq_getElem?_getD, List.getElem?_eq_none (by omega)]; exact ⟨by simp, by simp⟩
theorem AllW.set {l : List Int} (h : AllW l) (i : Nat) {v : Int} (hv : W32 v) : AllW (l.set i v) := by
  intro c hc
  rcases List.mem_or_eq_of_mem_set hc with h1 | rfl
  · exact h _ h1
  · exact hv
theorem addW_w {l : List Int} (h : AllW l) (r i : Nat) : AllW (addW r i l) := h.set _ (w32_mod _)
theorem xorW_w {l : List Int} (h : AllW l) (i : Nat) : AllW (xorW i l) := h.set _ (w32_bits _ _ _)
theorem stepTo_w {l : List Int} (h : AllW l) (r i : Nat) : AllW (stepTo r l i) := by
  induction i with
  | zero => exact h
  | succ i ih => exact xorW_w (addW_w ih r i) i
theorem roundTo_w {l : List Int} (h : AllW l) (r : Nat) : AllW (roundTo l r) := by
  induction r with
  | zero => exact h
  | succ r ih => exact stepTo_w ih r 16
/-- the words of a state, the octets of words -/
def wordsL (s : List Int) (n : Nat) : List Int := (List.range n).map fun (i : Nat) => w4 (s.getD (4 * i) 0) (s.getD (4 * i + 1) 0) (s.getD (4 * i + 2) 0) (s.getD (4 * i + 3) 0)
def octL (w : List Int) (n : Nat) : List Int := (List.range n).map fun (i : Nat) => (o4 (w.getD (i / 4) 0)).getD (i % 4) 0
theorem wordsL_length (s : List Int) (n : Nat) : (wordsL s n).length = n := by unfold wordsL; rw [List.length_map, List.length_range]
theorem octL_length (s : List Int) (n : Nat) : (octL s n).length = n := by unfold octL; rw [List.length_map, List.length_range]
/-- what Stir makes -/
def stirL (s : List Int) : List Int := octL (roundTo (wordsL s 16) 8) 64
end Go.Proofs.Ytbjmadcbhkeenaa.st
