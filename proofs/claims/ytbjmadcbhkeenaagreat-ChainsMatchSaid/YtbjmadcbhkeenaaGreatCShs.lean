/-
  Slices of shares as the walks read them ('RowS'), and such arguments opened. No condition.
-/
import Derived.Test.YtbjmadcbhkeenaaGreatCShA
import Derived.Test.YtbjmadcbhkeenaaGreatCMem
import Derived.Test.YtbjmadcbhkeenaaGreatCStA
import Derived.Deep.Slices
set_option linter.unusedSimpArgs false
set_option linter.unusedVariables false
namespace Go.Proofs.YtbjmadcbhkeenaaGreat.shr
open Go.RowKit Go.ChangeShapes Go.WideShapes Go.ChangeAt
theorem At.below {w w' : World} {a : Addr} {cs : List Value} (h : At w a cs) (hb : Below w.heap.size w w') (ha : a.block < w.heap.size) : At w' a cs := by
 intro j u hu
 have e : (a.add j).block = a.block := by unfold Addr.add; split <;> rfl
 rw [hb.cell (p := a.add j) (by rw [e]; exact ha)]
 exact h j u hu
section
variable {H : Type} {enc : TypeId × Value → H} {P : Program} {w : World} {base : Nat} {spare : Nat → Bool} {held : Bool}
theorem arr_of_trod {t e : TypeId} {n fuel : Nat} {q : IntKind} {cs : List Value} {x : DataW H × List MemPlace} (ht : P.underlying t = some (.array n e)) (he : P.underlying e = some (.int q)) (hc : P.cellsOf e = 1) (hct : P.cellsOf t = n)
  (hf : DataW.trod enc P w base spare held fuel t cs = some x) : ∃ l : List Int, cs = l.map (Value.int q) ∧ l.length = n ∧ ∀ c ∈ l, (Lit.int q c).wf = true := by
 obtain ⟨xs, m, rfl, _, h1, h2, h3⟩ := DataW.trod_array ht hf
 rw [hct] at h1
 have h4 : ∀ i, i < n → ∃ c : Int, cs[i]? = some (.int q c) ∧ (Lit.int q c).wf = true := by
  intro i hi
  have h5 := h3 i hi
  rw [hc, Nat.mul_one, List.getElem?_eq_getElem (by omega)] at h5
  have hcs : (cs.drop i).take 1 = [cs[i]'(by omega)] := by
   rw [List.drop_eq_getElem_cons (by omega)]
   rfl
  rw [hcs] at h5
  obtain ⟨c, hcc, _, hw⟩ := DataW.trod_int he h5
  simp only [List.cons.injEq, and_true] at hcc
  exact ⟨c, by rw [List.getElem?_eq_getElem (by omega), hcc], hw⟩
 refine ⟨cs.map fun u => match u with | .int _ c => c | _ => 0, ?_, by rw [List.length_map]; exact h1, ?_⟩
 ·rw [List.map_map]
  symm
  apply List.ext_getElem
  ·simp
  ·intro i hi1 hi2
   obtain ⟨c, h6, _⟩ := h4 i (by omega)
   rw [List.getElem?_eq_getElem (by omega)] at h6
   simp only [Option.some.injEq] at h6
   simp [h6]
 ·intro c hc'
  obtain ⟨u, hu, rfl⟩ := List.mem_map.1 hc'
  obtain ⟨i, hi, rfl⟩ := List.getElem_of_mem hu
  obtain ⟨c, h6, h7⟩ := h4 i (by omega)
  rw [List.getElem?_eq_getElem hi] at h6
  simp only [Option.some.injEq] at h6
  rw [h6]
  exact h7
end
end Go.Proofs.YtbjmadcbhkeenaaGreat.shr
