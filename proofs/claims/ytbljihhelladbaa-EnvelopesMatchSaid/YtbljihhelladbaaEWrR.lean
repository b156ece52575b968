/-
  An envelope among a law's arguments; a slice of octets likewise. Conditions: the types' forms.
-/
import Derived.Test.YtbljihhelladbaaEWrE
import Derived.Test.YtbljihhelladbaaEShr
import Derived.Test.YtbljihhelladbaaEWrQ
namespace Go.Proofs.Ytbljihhelladbaa.wr
open Go.ChangeShapes Go.WideShapes Go.ChangeAt Go.RowKit
open Go.Proofs.Ytbljihhelladbaa.st Go.Proofs.Ytbljihhelladbaa.hs Go.Proofs.Ytbljihhelladbaa.shr
set_option linter.unusedSimpArgs false
set_option linter.unusedVariables false
theorem intsCap {H : Type} {enc : TypeId × Value → H} {P : Program} {W : World} {base : Nat} {held : Bool} {t e : TypeId} {k : IntKind} {ao : Option Addr} {len cap : Nat} {d : DataW H} {ps : List MemPlace}
    (ht : P.underlying t = some (.slice e)) (he : P.underlying e = some (.int k)) (hc : P.cellsOf e = 1) (hd : DataW.Trod enc P W base (fun _ => true) held t (.slice ao len cap) d ps) : cap ≤ maxLen := by
  obtain ⟨fuel, hf⟩ := hd
  rcases open_ints ht he hc hf with ⟨h1, _⟩ | ⟨ad, ln, cp, zs, h1, h2, h3, h4, _⟩
  · simp [Value.cells] at h1
    rw [h1.2.2]; decide
  · simp [Value.cells] at h1
    obtain ⟨_, _, rfl⟩ := h1
    exact h4
theorem ptOf {W : World} {ao : Option Addr} {cap : Nat} {l : List Int} (hr : RowI .u8 W ao l) (hle : l.length ≤ cap) (hc : cap ≤ maxLen) (ho : Octs l) (hl : 0 < l.length) : Pt.Ok W ⟨ao, cap, l⟩ := by
  refine ⟨hr, hle, hc, ho, fun b e => ?_⟩
  obtain ⟨g, off, e2, hb, _⟩ := hr.at (i := 0) (by omega)
  change ao = some b at e
  rw [e2] at e
  cases e
  exact hb
theorem cut_step {α : Type} {cs X : List α} {k n : Nat} (h : (cs.drop k).take n = X) : cs.drop k = X ++ cs.drop (k + n) := by
  rw [← h, ← List.drop_drop]
  exact (List.take_append_drop n (cs.drop k)).symm
set_option maxRecDepth 100000 in
theorem envCells {H : Type} {enc : TypeId × Value → H} {w : World} {base : Nat} {spare : Nat → Bool} {held : Bool} {fuel : Nat} {cs : List Value} {x : DataW H × List MemPlace}
    (h : DataW.trod enc Try.prog w base spare held fuel 107 cs = some x) : ∃ s : Env, s.Ok ∧ cs = s.cs := by
  obtain ⟨xs, n, rfl, _, h1, h2, h3⟩ := DataW.trod_struct Try.underlying107 h
  rw [show Try.prog.cellsOf 107 = 130 by kernel_rfl] at h1
  have g0 : DataW.trod enc Try.prog w base spare held n 3 ((cs.drop 0).take (Try.prog.cellsOf 3)) = xs[0]? := h3 0 _ rfl
  have g1 : DataW.trod enc Try.prog w base spare held n 3 ((cs.drop 1).take (Try.prog.cellsOf 3)) = xs[1]? := h3 1 _ rfl
  have g2 : DataW.trod enc Try.prog w base spare held n 57 ((cs.drop 2).take (Try.prog.cellsOf 57)) = xs[2]? := h3 2 _ rfl
  have g3 : DataW.trod enc Try.prog w base spare held n 57 ((cs.drop 18).take (Try.prog.cellsOf 57)) = xs[3]? := h3 3 _ rfl
  have g4 : DataW.trod enc Try.prog w base spare held n 25 ((cs.drop 34).take (Try.prog.cellsOf 25)) = xs[4]? := h3 4 _ rfl
  have g5 : DataW.trod enc Try.prog w base spare held n 73 ((cs.drop 50).take (Try.prog.cellsOf 73)) = xs[5]? := h3 5 _ rfl
  have g6 : DataW.trod enc Try.prog w base spare held n 22 ((cs.drop 82).take (Try.prog.cellsOf 22)) = xs[6]? := h3 6 _ rfl
  have g7 : DataW.trod enc Try.prog w base spare held n 105 ((cs.drop 114).take (Try.prog.cellsOf 105)) = xs[7]? := h3 7 _ rfl
  have hx : xs.length = 8 := h2
  rw [List.getElem?_eq_getElem (by omega)] at g0 g1 g2 g3 g4 g5 g6 g7
  simp only [show Try.prog.cellsOf 3 = 1 by kernel_rfl, show Try.prog.cellsOf 57 = 16 by kernel_rfl, show Try.prog.cellsOf 25 = 16 by kernel_rfl, show Try.prog.cellsOf 73 = 32 by kernel_rfl, show Try.prog.cellsOf 22 = 32 by kernel_rfl, show Try.prog.cellsOf 105 = 16 by kernel_rfl] at g0 g1 g2 g3 g4 g5 g6 g7
  obtain ⟨x0, e0, _, w0⟩ := DataW.trod_int Try.underlying3 g0
  obtain ⟨x1, e1, _, w1⟩ := DataW.trod_int Try.underlying3 g1
  obtain ⟨l2, e2, n2, w2⟩ := arr_of_trod Try.underlying57 Try.underlying5 (by kernel_rfl) (by kernel_rfl) g2
  obtain ⟨l3, e3, n3, w3⟩ := arr_of_trod Try.underlying57 Try.underlying5 (by kernel_rfl) (by kernel_rfl) g3
  obtain ⟨l4, e4, n4, w4⟩ := arr_of_trod Try.underlying25 Try.underlying5 (by kernel_rfl) (by kernel_rfl) g4
  obtain ⟨l5, e5, n5, w5⟩ := arr_of_trod Try.underlying73 Try.underlying5 (by kernel_rfl) (by kernel_rfl) g5
  obtain ⟨l6, e6, n6, w6⟩ := arr_of_trod Try.underlying22 Try.underlying5 (by kernel_rfl) (by kernel_rfl) g6
  obtain ⟨l7, e7, n7, w7⟩ := arr_of_trod Try.underlying105 Try.underlying5 (by kernel_rfl) (by kernel_rfl) g7
  refine ⟨⟨x0, x1, l2, l3, l4, l5, l6, l7⟩, ⟨bounds_i64 w0, bounds_i64 w1, n2, n3, n4, n5, n6, n7, fun c hc => bounds_u8 (w2 c hc), fun c hc => bounds_u8 (w3 c hc), fun c hc => bounds_u8 (w4 c hc), fun c hc => bounds_u8 (w5 c hc), fun c hc => bounds_u8 (w6 c hc), fun c hc => bounds_u8 (w7 c hc)⟩, ?_⟩
  have q0 := cut_step e0
  have q1 := cut_step e1
  have q2 := cut_step e2
  have q3 := cut_step e3
  have q4 := cut_step e4
  have q5 := cut_step e5
  have q6 := cut_step e6
  have q7 := cut_step e7
  have q8 : cs.drop 130 = [] := List.drop_of_length_le (by omega)
  rw [show cs = cs.drop 0 from rfl, q0, show 0 + 1 = 1 from rfl, q1, show 1 + 1 = 2 from rfl, q2, show 2 + 16 = 18 from rfl, q3, show 18 + 16 = 34 from rfl, q4, show 34 + 16 = 50 from rfl, q5, show 50 + 32 = 82 from rfl, q6, show 82 + 32 = 114 from rfl, q7, show 114 + 16 = 130 from rfl, q8]
  rw [Env.cs_eq]
  unfold Env.octs
  simp
set_option maxRecDepth 100000 in
theorem envArg {H : Type} {enc : TypeId × Value → H} {W : World} {base : Nat} {spare : Nat → Bool} {held : Bool} {r : Reach} {b0 : Nat} {v : Value} {d : DataW H} {ps : List MemPlace}
    (hval : Value.okWide Try.prog W r b0 107 v) (hd : DataW.Trod enc Try.prog W base spare held 107 v d ps) : ∃ s : Env, s.Ok ∧ v = .agg s.cs.toArray := by
  have hv : ∃ cs, v = .agg cs := by
    simp only [Value.okWide, Try.underlying107] at hval
    obtain ⟨cs, h, _⟩ := hval
    exact ⟨cs, h⟩
  obtain ⟨cs, rfl⟩ := hv
  obtain ⟨fuel, hf⟩ := hd
  obtain ⟨s, hs, hc⟩ := envCells hf
  exact ⟨s, hs, by rw [show cs = s.cs.toArray from Array.ext' hc]⟩
end Go.Proofs.Ytbljihhelladbaa.wr
