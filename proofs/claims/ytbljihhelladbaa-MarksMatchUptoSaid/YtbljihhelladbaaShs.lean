/-
  Slices of shares as the walks read them ('RowS'), and such arguments opened. No condition.
-/
import Derived.Test.YtbljihhelladbaaShr
import Derived.Test.YtbljihhelladbaaMem
import Derived.Test.YtbljihhelladbaaOpn
import Derived.Deep.Slices
namespace Go.Proofs.Ytbljihhelladbaa.shr
set_option linter.unusedSimpArgs false
set_option linter.unusedVariables false
open Go.RowKit Go.ChangeShapes Go.WideShapes Go.ChangeAt

/-- behind the address lie these shares -/
def RowS (w : World) (ao : Option Addr) (l : List Sh) : Prop :=
  l = [] ∨ ∃ b off, ao = some ⟨b, off, none⟩ ∧ b < w.heap.size ∧ ∀ i, i < l.length → At w ⟨b, off + i * 49, none⟩ (l.getD i nil).cs

theorem RowS.at {w : World} {ao : Option Addr} {l : List Sh} (h : RowS w ao l) {i : Nat} (hi : i < l.length) : ∃ b off, ao = some ⟨b, off, none⟩ ∧ b < w.heap.size ∧ ∀ i, i < l.length → At w ⟨b, off + i * 49, none⟩ (l.getD i nil).cs := by
  rcases h with h | h
  · subst h; simp at hi
  · exact h
/-- one share, under a name of its own -/
theorem RowS.elem {w : World} {ao : Option Addr} {l : List Sh} (h : RowS w ao l) {i : Nat} (hi : i < l.length) :
    ∃ b off s, ao = some ⟨b, off, none⟩ ∧ b < w.heap.size ∧ Hid (s = l.getD i nil) ∧ At w ⟨b, off + i * 49, none⟩ s.cs := by
  obtain ⟨b, off, h1, h2, h3⟩ := h.at hi
  exact ⟨b, off, _, h1, h2, rfl, h3 i hi⟩
theorem At.below {w w' : World} {a : Addr} {cs : List Value} (h : At w a cs) (hb : Below w.heap.size w w') (ha : a.block < w.heap.size) : At w' a cs := by
  intro j u hu
  have e : (a.add j).block = a.block := by unfold Addr.add; split <;> rfl
  rw [hb.cell (p := a.add j) (by rw [e]; exact ha)]
  exact h j u hu
theorem At.belowB {w w' : World} {B : Nat} {a : Addr} {cs : List Value} (h : At w a cs) (hb : Below B w w') (ha : a.block < B) : At w' a cs := by
  intro j u hu
  have e : (a.add j).block = a.block := by unfold Addr.add; split <;> rfl
  rw [hb.cell (p := a.add j) (by rw [e]; exact ha)]
  exact h j u hu
theorem RowS.below {w w' : World} {ao : Option Addr} {l : List Sh} (h : RowS w ao l) (hb : Below w.heap.size w w') : RowS w' ao l := by
  rcases h with h | ⟨b, off, h1, h2, h3⟩
  · exact Or.inl h
  · exact Or.inr ⟨b, off, h1, Nat.lt_of_lt_of_le h2 hb.size, fun i hi => At.below (h3 i hi) hb h2⟩
theorem RowS.take {w : World} {ao : Option Addr} {l : List Sh} (h : RowS w ao l) (n : Nat) : RowS w ao (l.take n) := by
  rcases h with h | ⟨b, off, h1, h2, h3⟩
  · exact Or.inl (by simp [h])
  · refine Or.inr ⟨b, off, h1, h2, fun i hi => ?_⟩
    rw [List.length_take] at hi
    have e : (l.take n).getD i nil = l.getD i nil := by simp [List.getD_eq_getElem?_getD, List.getElem?_take, show i < n by omega]
    rw [e]
    exact h3 i (by omega)
theorem RowS.drew {w : World} {ao : Option Addr} {l : List Sh} (h : RowS w ao l) : RowS w.drew ao l := h
theorem RowS.drewN {w : World} {ao : Option Addr} {l : List Sh} (h : RowS w ao l) (n : Nat) : RowS (w.drewN n) ao l := h

section
variable {H : Type} {enc : TypeId × Value → H} {P : Program} {w : World} {base : Nat} {spare : Nat → Bool} {held : Bool}
theorem arr_of_trod {t e : TypeId} {n fuel : Nat} {q : IntKind} {cs : List Value} {x : DataW H × List MemPlace} (ht : P.underlying t = some (.array n e)) (he : P.underlying e = some (.int q)) (hc : P.cellsOf e = 1) (hct : P.cellsOf t = n)
    (hf : DataW.trod enc P w base spare held fuel t cs = some x) : ∃ l : List Int, cs = l.map (Value.int q) ∧ l.length = n ∧ ∀ c ∈ l, (Lit.int q c).wf = true := by
  obtain ⟨xs, m, rfl, _, h1, h2, h3⟩ := DataW.trod_array ht hf
  rw [hct] at h1
  have h4 : ∀ i, i < n → ∃ c : Int, cs[i]? = some (.int q c) ∧ (Lit.int q c).wf = true := by
    intro i hi
    have h5 := h3 i hi
    rw [hc, Nat.mul_one, List.getElem?_eq_getElem (by omega)] at h5
    have hcs : (cs.drop i).take 1 = [cs[i]'(by omega)] := by
      rw [List.drop_eq_getElem_cons (by omega)]
      rfl
    rw [hcs] at h5
    obtain ⟨c, hcc, _, hw⟩ := DataW.trod_int he h5
    simp only [List.cons.injEq, and_true] at hcc
    exact ⟨c, by rw [List.getElem?_eq_getElem (by omega), hcc], hw⟩
  refine ⟨cs.map fun u => match u with | .int _ c => c | _ => 0, ?_, by rw [List.length_map]; exact h1, ?_⟩
  · rw [List.map_map]
    symm
    apply List.ext_getElem
    · simp
    · intro i hi1 hi2
      obtain ⟨c, h6, _⟩ := h4 i (by omega)
      rw [List.getElem?_eq_getElem (by omega)] at h6
      simp only [Option.some.injEq] at h6
      simp [h6]
  · intro c hc'
    obtain ⟨u, hu, rfl⟩ := List.mem_map.1 hc'
    obtain ⟨i, hi, rfl⟩ := List.getElem_of_mem hu
    obtain ⟨c, h6, h7⟩ := h4 i (by omega)
    rw [List.getElem?_eq_getElem hi] at h6
    simp only [Option.some.injEq] at h6
    rw [h6]
    exact h7
end

set_option maxRecDepth 100000 in
theorem shareCells {H : Type} {enc : TypeId × Value → H} {w : World} {base : Nat} {spare : Nat → Bool} {held : Bool} {fuel : Nat} {cs : List Value} {x : DataW H × List MemPlace}
    (h : DataW.trod enc Try.prog w base spare held fuel 61 cs = some x) : ∃ s : Sh, s.Ok ∧ cs = s.cs := by
  obtain ⟨xs, n, rfl, _, h1, h2, h3⟩ := DataW.trod_struct Try.underlying61 h
  rw [show Try.prog.cellsOf 61 = 49 by kernel_rfl] at h1
  have g0 : DataW.trod enc Try.prog w base spare held n 57 ((cs.drop 0).take (Try.prog.cellsOf 57)) = xs[0]? := h3 0 _ rfl
  have g1 : DataW.trod enc Try.prog w base spare held n 3 ((cs.drop 16).take (Try.prog.cellsOf 3)) = xs[1]? := h3 1 _ rfl
  have g2 : DataW.trod enc Try.prog w base spare held n 59 ((cs.drop 17).take (Try.prog.cellsOf 59)) = xs[2]? := h3 2 _ rfl
  have hx : xs.length = 3 := h2
  rw [List.getElem?_eq_getElem (by omega)] at g0 g1 g2
  simp only [show Try.prog.cellsOf 57 = 16 by kernel_rfl, show Try.prog.cellsOf 3 = 1 by kernel_rfl, show Try.prog.cellsOf 59 = 32 by kernel_rfl] at g0 g1 g2
  obtain ⟨lh, e0, l0, w0⟩ := arr_of_trod Try.underlying57 Try.underlying5 (by kernel_rfl) (by kernel_rfl) g0
  obtain ⟨x1, e1, _, w1⟩ := DataW.trod_int Try.underlying3 g1
  obtain ⟨ly, e2, l2, w2⟩ := arr_of_trod Try.underlying59 Try.underlying58 (by kernel_rfl) (by kernel_rfl) g2
  refine ⟨⟨lh, x1, ly⟩, ⟨l0, l2, fun c hc => bounds_u8 (w0 c hc), fun c hc => bounds_u16 (w2 c hc), bounds_i64 w1⟩, ?_⟩
  unfold Sh.cs
  have e : cs = (cs.drop 0).take 16 ++ ((cs.drop 16).take 1 ++ (cs.drop 17).take 32) := by
    apply List.ext_getElem?
    intro i
    simp only [List.drop_zero, List.getElem?_append, List.length_take, List.length_drop, List.getElem?_take, List.getElem?_drop]
    split
    · rw [if_pos (by omega)]
    · split
      · rw [if_pos (by omega)]; congr 1; omega
      · by_cases hi : i < 49
        · rw [if_pos (by omega)]; congr 1; omega
        · rw [if_neg (by omega), List.getElem?_eq_none (by omega)]
  rw [e, e0, e1, e2]
  rfl

/-- what a slice of shares is, behind the law's form -/
structure SharesAt {H : Type} (W : World) (v : Value) (d : DataW H) (l : List Sh) (ao : Option Addr) (cap : Nat) : Prop where
  val : v = .slice ao l.length cap
  le : l.length ≤ cap
  row : RowS W ao l
  none : ao = none → cap = 0 ∧ l.length = 0
  ok : ∀ s ∈ l, s.Ok
  len : cap ≤ maxLen

set_option maxRecDepth 100000 in
theorem shares {H : Type} {enc : TypeId × Value → H} {W : World} {base : Nat} {held : Bool} {r : Reach} {b0 : Nat} {v : Value} {d : DataW H} {ps : List MemPlace}
    (hval : Value.okWide Try.prog W r b0 47 v) (hd : DataW.Trod enc Try.prog W base (fun _ => true) held 47 v d ps) :
    ∃ l ao cap, SharesAt W v d l ao cap := by
  obtain ⟨a, len, cap, rfl⟩ := okWide_slice Try.underlying47 hval
  obtain ⟨fuel, hf⟩ := hd
  rcases Go.Deep.open_slice Try.underlying47 hf with ⟨h1, h2⟩ | ⟨ad, ln, cp, m, n, D, Pl, h1, h3, h4, h5, h6, h7, h8⟩
  · simp [Value.cells] at h1
    obtain ⟨rfl, rfl, rfl⟩ := h1
    exact ⟨[], none, 0, ⟨rfl, Nat.le_refl _, Or.inl rfl, fun _ => ⟨rfl, rfl⟩, (fun s hs => by cases hs), by decide⟩⟩
  · simp [Value.cells] at h1
    obtain ⟨rfl, rfl, rfl⟩ := h1
    simp only [if_true] at h6
    subst h6
    rw [show Try.prog.cellsOf 61 = 49 by kernel_rfl] at h8
    have hs : ∀ i, i < m → ∃ s : Sh, s.Ok ∧ At W (ad.add (i * 49)) s.cs := by
      intro i hi
      obtain ⟨cs', hc, ht⟩ := h8 i hi
      obtain ⟨s, hok, rfl⟩ := shareCells ht
      obtain ⟨_, hcl, hat⟩ := World.cells?_some hc
      refine ⟨s, hok, fun j u hu => ?_⟩
      have hj : j < 49 := by rw [← hcl]; exact (List.getElem?_eq_some_iff.1 hu).1
      rw [hat j hj, hu]
    have hs' : ∃ f : Nat → Sh, ∀ i, i < m → (f i).Ok ∧ At W (ad.add (i * 49)) (f i).cs := by
      refine ⟨fun i => if h : i < m then Classical.choose (hs i h) else nil, fun i hi => ?_⟩
      simp only [dif_pos hi]
      exact Classical.choose_spec (hs i hi)
    obtain ⟨f, hf2⟩ := hs'
    have hlen : ((List.range len).map f).length = len := by simp
    refine ⟨(List.range len).map f, some ad, m, ⟨by rw [hlen], by rw [hlen]; exact h4, ?_, (fun h => by cases h), ?_, h5⟩⟩
    · by_cases hl : len = 0
      · exact Or.inl (by subst hl; rfl)
      · have c0 := (hf2 0 (by omega)).2
        have hcs : (f 0).cs[0]? = some ((f 0).cs[0]'(by rw [(hf2 0 (by omega)).1.csl]; omega)) := List.getElem?_eq_getElem _
        have c1 := c0 0 _ hcs
        obtain ⟨b, off, spot⟩ := ad
        have hspot : spot = none := by simpa [Addr.add] using World.cell?_spot c1
        subst hspot
        have c2 : W.cell? ⟨b, off, none⟩ = some ((f 0).cs[0]'(by rw [(hf2 0 (by omega)).1.csl]; omega)) := by simpa [Addr.add] using c1
        refine Or.inr ⟨b, off, rfl, opn.lt_of_cell' c2, fun i hi => ?_⟩
        rw [hlen] at hi
        have e : ((List.range len).map f).getD i nil = f i := by simp [List.getD_eq_getElem?_getD, hi]
        rw [e]
        have := (hf2 i (by omega)).2
        rwa [show (⟨b, off, none⟩ : Addr).add (i * 49) = ⟨b, off + i * 49, none⟩ by unfold Addr.add; split <;> simp_all] at this
    · intro s hs
      obtain ⟨i, hi, rfl⟩ := List.mem_map.1 hs
      exact (hf2 i (by have := List.mem_range.1 hi; omega)).1
end Go.Proofs.Ytbljihhelladbaa.shr
