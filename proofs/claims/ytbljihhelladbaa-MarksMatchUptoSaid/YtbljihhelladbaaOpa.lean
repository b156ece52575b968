/-
  Arguments that are arrays of octets, opened for the walks. No condition.
-/
import Derived.Test.YtbljihhelladbaaOpn
namespace Go.Proofs.Ytbljihhelladbaa.opn
open Go.ChangeShapes Go.WideShapes Go.ChangeAt Go.RowKit

theorem octArr {H : Type} {enc : TypeId × Value → H} {P : Program} {W : World} {base : Nat} {spare : Nat → Bool} {held : Bool} {r : Reach} {b0 : Nat} {t e : TypeId} {n : Nat} {v : Value} {d : DataW H} {ps : List MemPlace}
    (ht : P.underlying t = some (.array n e)) (he : P.underlying e = some (.int .u8)) (hc : P.cellsOf e = 1) (hct : P.cellsOf t = n) (hval : Value.okWide P W r b0 t v) (hd : DataW.Trod enc P W base spare held t v d ps) :
    ∃ l : List Int, v = .agg (l.map (Value.int .u8)).toArray ∧ l.length = n ∧ ∀ c ∈ l, 0 ≤ c ∧ c ≤ 255 := by
  have hv : ∃ cs, v = .agg cs := by
    simp only [Value.okWide, ht] at hval
    obtain ⟨cs, h, _⟩ := hval
    exact ⟨cs, h⟩
  obtain ⟨cs, rfl⟩ := hv
  obtain ⟨fuel, hf⟩ := hd
  obtain ⟨xs, m, rfl, _, h1, h2, h3⟩ := DataW.trod_array ht hf
  simp only [Value.cells] at h1 h3
  rw [hct] at h1
  have h4 : ∀ i, i < n → ∃ c : Int, cs.toList[i]? = some (.int .u8 c) ∧ 0 ≤ c ∧ c ≤ 255 := by
    intro i hi
    have h5 := h3 i hi
    rw [hc, Nat.mul_one, List.getElem?_eq_getElem (by omega)] at h5
    have hcs : (cs.toList.drop i).take 1 = [cs.toList[i]'(by omega)] := by
      rw [List.drop_eq_getElem_cons (by omega)]
      rfl
    rw [hcs] at h5
    obtain ⟨c, hcc, _, hw⟩ := DataW.trod_int he h5
    have hb := bounds_u8 hw
    simp only [List.cons.injEq, and_true] at hcc
    exact ⟨c, by rw [List.getElem?_eq_getElem (by omega), hcc], hb⟩
  refine ⟨cs.toList.map fun u => match u with | .int _ c => c | _ => 0, ?_, by rw [List.length_map]; exact h1, ?_⟩
  · congr 1
    apply Array.ext'
    rw [List.map_map]
    symm
    apply List.ext_getElem
    · simp
    · intro i hi1 hi2
      obtain ⟨c, h6, _⟩ := h4 i (by omega)
      rw [List.getElem?_eq_getElem (by omega)] at h6
      simp only [Option.some.injEq] at h6
      simp [h6]
  · intro c hc'
    obtain ⟨u, hu, rfl⟩ := List.mem_map.1 hc'
    obtain ⟨i, hi, rfl⟩ := List.getElem_of_mem hu
    obtain ⟨c, h6, h7⟩ := h4 i (by omega)
    rw [List.getElem?_eq_getElem hi] at h6
    simp only [Option.some.injEq] at h6
    rw [h6]
    exact h7
end Go.Proofs.Ytbljihhelladbaa.opn
