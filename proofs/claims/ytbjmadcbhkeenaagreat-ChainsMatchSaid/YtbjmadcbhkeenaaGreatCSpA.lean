/-
  Slices of holders: what lies there, the argument opened; contract of keyref2.HoldersError. Conditions: holders of 16 octets.
-/
import Derived.Test.YtbjmadcbhkeenaaGreatCCmp
import Derived.Test.YtbjmadcbhkeenaaGreatCShJ
import Derived.StillTailTactics
set_option maxRecDepth 100000
set_option linter.unusedSimpArgs false
set_option linter.unusedVariables false
namespace Go.Proofs.YtbjmadcbhkeenaaGreat.shr
open Go.RowKit sh cm Go.ChangeShapes Go.WideShapes Go.ChangeAt
def IdOk (h : List Int) : Prop := h.length = 16 ∧ ∀ c ∈ h, 0 ≤ c ∧ c ≤ 255
def RowH (w : World) (ao : Option Addr) (l : List (List Int)) : Prop :=
 l = [] ∨ ∃ b off, ao = some ⟨b, off, none⟩ ∧ b < w.heap.size ∧ ∀ i, i < l.length → At w ⟨b, off + i * 16, none⟩ ((l.getD i []).map (Value.int .u8))
theorem RowH.at {w : World} {ao : Option Addr} {l : List (List Int)} (h : RowH w ao l) (hl : l ≠ []) : ∃ b off, ao = some ⟨b, off, none⟩ ∧ b < w.heap.size ∧ ∀ i, i < l.length → At w ⟨b, off + i * 16, none⟩ ((l.getD i []).map (Value.int .u8)) := by
 rcases h with h | h
 ·exact absurd h hl
 ·exact h
theorem RowH.below {w w' : World} {ao : Option Addr} {l : List (List Int)} (h : RowH w ao l) (hb : Below w.heap.size w w') : RowH w' ao l := by
 rcases h with h | ⟨b, off, h1, h2, h3⟩
 ·exact Or.inl h
 ·exact Or.inr ⟨b, off, h1, Nat.lt_of_lt_of_le h2 hb.size, fun i hi => At.below (h3 i hi) hb h2⟩
structure HoldersAt {H : Type} (W : World) (v : Value) (d : DataW H) (l : List (List Int)) (ao : Option Addr) (cap : Nat) : Prop where
 val : v = .slice ao l.length cap
 le : l.length ≤ cap
 row : RowH W ao l
 none : ao = none → cap = 0 ∧ l.length = 0
 ok : ∀ s ∈ l, IdOk s
 len : cap ≤ maxLen
theorem holdersArg {H : Type} {enc : TypeId × Value → H} {W : World} {base : Nat} {held : Bool} {r : Reach} {b0 : Nat} {v : Value} {d : DataW H} {ps : List MemPlace}
  (hval : Value.okWide Tryz.prog W r b0 28 v) (hd : DataW.Trod enc Tryz.prog W base (fun _ => true) held 28 v d ps) :
  ∃ l ao cap, HoldersAt W v d l ao cap := by
 obtain ⟨a, len, cap, rfl⟩ := okWide_slice Tryz.underlying28 hval
 obtain ⟨fuel, hf⟩ := hd
 rcases Go.Deep.open_slice Tryz.underlying28 hf with ⟨h1, h2⟩ | ⟨ad, ln, cp, m, n, D, Pl, h1, h3, h4, h5, h6, h7, h8⟩
 ·simp [Value.cells] at h1
  obtain ⟨rfl, rfl, rfl⟩ := h1
  exact ⟨[], none, 0, ⟨rfl, Nat.le_refl _, Or.inl rfl, fun _ => ⟨rfl, rfl⟩, (fun s hs => by cases hs), by decide⟩⟩
 ·simp [Value.cells] at h1
  obtain ⟨rfl, rfl, rfl⟩ := h1
  simp only [if_true] at h6
  subst h6
  rw [show Tryz.prog.cellsOf 27 = 16 by kernel_rfl] at h8
  have hs : ∀ i, i < m → ∃ s : List Int, IdOk s ∧ At W (ad.add (i * 16)) (s.map (Value.int .u8)) := by
   intro i hi
   obtain ⟨cs', hc, ht⟩ := h8 i hi
   obtain ⟨s, rfl, hsl, hw⟩ := arr_of_trod Tryz.underlying27 Tryz.underlying5 (by kernel_rfl) (by kernel_rfl) ht
   obtain ⟨_, hcl, hat⟩ := World.cells?_some hc
   refine ⟨s, ⟨hsl, fun c hc => bounds_u8 (hw c hc)⟩, fun j u hu => ?_⟩
   have hj : j < 16 := by rw [← hcl]; exact (List.getElem?_eq_some_iff.1 hu).1
   rw [hat j hj, hu]
  have hs' : ∃ f : Nat → List Int, ∀ i, i < m → IdOk (f i) ∧ At W (ad.add (i * 16)) ((f i).map (Value.int .u8)) := by
   refine ⟨fun i => if h : i < m then Classical.choose (hs i h) else [], fun i hi => ?_⟩
   simp only [dif_pos hi]
   exact Classical.choose_spec (hs i hi)
  obtain ⟨f, hf2⟩ := hs'
  have hlen : ((List.range len).map f).length = len := by simp
  refine ⟨(List.range len).map f, some ad, m, ⟨by rw [hlen], by rw [hlen]; exact h4, ?_, (fun h => by cases h), ?_, h5⟩⟩
  ·by_cases hl : len = 0
   ·exact Or.inl (by subst hl; rfl)
   ·have c0 := (hf2 0 (by omega)).2
    have hl0 : 0 < ((f 0).map (Value.int .u8)).length := by rw [List.length_map, (hf2 0 (by omega)).1.1]; decide
    have hcs : ((f 0).map (Value.int .u8))[0]? = some (((f 0).map (Value.int .u8))[0]'hl0) := List.getElem?_eq_getElem _
    have c1 := c0 0 _ hcs
    obtain ⟨b, off, spot⟩ := ad
    have hspot : spot = none := by simpa [Addr.add] using World.cell?_spot c1
    subst hspot
    have c2 : W.cell? ⟨b, off, none⟩ = some (((f 0).map (Value.int .u8))[0]'hl0) := by simpa [Addr.add] using c1
    refine Or.inr ⟨b, off, rfl, opn.lt_of_cell' c2, fun i hi => ?_⟩
    rw [hlen] at hi
    have e : ((List.range len).map f).getD i [] = f i := by simp [List.getD_eq_getElem?_getD, hi]
    rw [e]
    have := (hf2 i (by omega)).2
    rwa [show (⟨b, off, none⟩ : Addr).add (i * 16) = ⟨b, off + i * 16, none⟩ by unfold Addr.add; split <;> simp_all] at this
  ·intro s hs
   obtain ⟨i, hi, rfl⟩ := List.mem_map.1 hs
   exact (hf2 i (by have := List.mem_range.1 hi; omega)).1
end Go.Proofs.YtbjmadcbhkeenaaGreat.shr
