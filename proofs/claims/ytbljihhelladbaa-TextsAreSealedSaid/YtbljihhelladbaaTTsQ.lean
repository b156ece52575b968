/-
  The law TextsAreSealed at every argument. Conditions: keys and a nonce of octets, octets that lie in memory. What a law's walk owes the row's form: a call that returns true and leaves all that was there as it was meets the law's 'post'. Conditions: none but the parameters' types being readable, which is asked as a closed fact. An envelope among a law's arguments; a slice of octets likewise. Conditions: the types' forms. Slices of octets, and slices of such slices, among a law's arguments. Conditions: the types' forms. Arguments that are arrays of octets, opened for the walks. No condition.
-/
import Derived.Test.YtbljihhelladbaaTTsP
import Derived.Test.YtbljihhelladbaaTMem
import Derived.Test.YtbljihhelladbaaTWrE
import Derived.Test.YtbljihhelladbaaTShBC
import Derived.ProofKit
import Derived.OpenShut
import Derived.JoinedCond
namespace Go.Proofs.Ytbljihhelladbaa.wr
open Go.RowKit Go.Proofs.Ytbljihhelladbaa.st Go.Proofs.Ytbljihhelladbaa.hs Go.Proofs.Ytbljihhelladbaa.shr Go.Proofs.Ytbljihhelladbaa.sh
set_option linter.unusedSimpArgs false
set_option linter.unusedVariables false
set_option pp.maxSteps 6000
theorem sealed_law (k o n h t : List Int) (ha ta : Option Addr) (hp tp hn tn : Nat) (bs i at_ by_ cut : Int) (w : World) (hk : k.length = 32) (ok : Octs k) (hol : o.length = 32) (oo : Octs o) (hnn : n.length = 16) (on : Octs n) (hhn : hn = h.length) (htn : tn = t.length) (HH : Pt.Ok w ⟨ha, hp, h⟩) (HT : Pt.Ok w ⟨ta, tp, t⟩) (h0 : ha = none → hp = 0) (t0 : ta = none → tp = 0) :
    Calls Try.prog 13 #[.agg (k.map (Value.int .u8)).toArray, .agg (o.map (Value.int .u8)).toArray, .agg (n.map (Value.int .u8)).toArray, .slice ha hn hp, .slice ta tn tp, .int .i64 bs, .int .i64 i, .int .i64 at_, .int .u8 by_, .int .i64 cut] w fun e w' => e = .returned (.bool true) ∧ Below w.heap.size w w' := by
  by_cases h1 : 16 ≤ bs ∧ bs ≤ 65536
  · by_cases h3 : 4096 < hn
    · exact sealed_in_head k o n h t ha ta hp tp hn tn bs i at_ by_ cut w hk ok hol oo hnn on hhn htn HH HT h0 t0 h1 h3
    · by_cases h4 : 262144 < tn
      · exact sealed_in_text k o n h t ha ta hp tp hn tn bs i at_ by_ cut w hk ok hol oo hnn on hhn htn HH HT h0 t0 h1 h3 h4
      · by_cases h5 : 5000 < tn
        · exact sealed_large k o n h t ha ta hp tp hn tn bs i at_ by_ cut w hk ok hol oo hnn on hhn htn HH HT h0 t0 h1 h3 h4 h5
        · exact sealed_main k o n h t ha ta hp tp hn tn bs i at_ by_ cut w hk ok hol oo hnn on hhn htn HH HT h0 t0 h1 h3 h4 h5
  · by_cases h3 : 4096 < hn
    · exact sealed_out_head k o n h t ha ta hp tp hn tn bs i at_ by_ cut w hk ok hol oo hnn on hhn htn HH HT h0 t0 h1 h3
    · by_cases h4 : 262144 < tn
      · exact sealed_out_text k o n h t ha ta hp tp hn tn bs i at_ by_ cut w hk ok hol oo hnn on hhn htn HH HT h0 t0 h1 h3 h4
      · exact sealed_out_none k o n h t ha ta hp tp hn tn bs i at_ by_ cut w hk ok hol oo hnn on hhn htn HH HT h0 t0 h1 h3 h4
end Go.Proofs.Ytbljihhelladbaa.wr
namespace Go.Proofs.Ytbljihhelladbaa.law
set_option linter.unusedSimpArgs false
set_option linter.unusedVariables false
open Go.ChangeShapes Go.WideShapes Go.ChangeAt Go.RowKit
/-- types that can be read, and whose rows there are -/
def Readable (P : Program) : List TypeId → Prop
  | [] => True
  | t :: ts => P.readableRec t = true ∧ t < P.types.size ∧ Readable P ts
theorem readable_nil {P : Program} : Readable P [] := trivial
theorem readable_cons {P : Program} {t : TypeId} {ts : List TypeId} (h : P.readableRec t = true) (k : t < P.types.size) (r : Readable P ts) : Readable P (t :: ts) := ⟨h, k, r⟩
theorem stays {H : Type} {enc : TypeId × Value → H} {P : Program} (hl : laidOutB P = true) {W W' : World} (hb : Below W.heap.size W W') :
    ∀ (ts : List TypeId) (vs : List Value) (ds : List (DataW H)) (ps : List MemPlace), Readable P ts → DataW.TrodAll enc P W 0 (fun _ => true) true ts vs ds ps → (∀ x ∈ ps, x.block < W.heap.size) →
      DataW.TrodAll enc P W' 0 (fun b => decide (b < W.heap.size)) true ts vs ds ps
  | [], vs, ds, ps, _, h, _ => by
    obtain ⟨rfl, rfl, rfl⟩ := trodAll_nil h
    exact trodAll_mk0
  | t :: ts, vs, ds, ps, hr, h, hlt => by
    obtain ⟨v, vs1, d, ds1, a, b, rfl, rfl, rfl, h1, h2⟩ := trodAll_cons h
    exact trodAll_cons_mk (Below.trod hl hr.1 hr.2.1 h1 hb (fun x hx => hlt x (List.mem_append_left _ hx))) (stays hl hb ts vs1 ds1 b hr.2.2 h2 (fun x hx => hlt x (List.mem_append_right _ hx)))
theorem post {H : Type} {enc : TypeId × Value → H} {P : Program} (hl : laidOutB P = true) {f : Func} {s : ChangeSpec} {W W' : World} {args : Array Value} {ds gs : List (DataW H)} {before : List MemPlace} {tb : TypeId}
    (hW : DataW.Whole enc P f.params.toList s.vars false W args.toList ds gs before) (hvars : s.vars = []) (hp : Readable P f.params.toList) (hr : f.resultTypes = #[tb]) (hu : P.underlying tb = some .bool)
    (hfn : (s.fn H ds) = { results := [.lit (.bool true)], args := ds }) (hb : Below W.heap.size W W') :
    s.post enc P f false true false false W args (.bool true) W' := by
  have hW' := hW
  obtain ⟨p, q, hA, hV, rfl, hfz, hnd⟩ := hW
  rw [hvars] at hV
  obtain ⟨rfl, rfl⟩ := trodVars_none hV
  refine ⟨ds, [], p ++ [], [], p, [], hW', ?_, ?_, ?_, hb.frame _, fun h => by cases h⟩
  · rw [hr, List.append_nil, hfn]
    exact trodAll_cons_mk (shut_bool hu true) trodAll_mk0
  · rw [List.append_nil, hfn]
    exact stays hl hb _ _ _ _ hp hA fun x hx => hA.lt x hx
  · rw [hvars, List.append_nil, hfn]
    exact rfl
theorem laidOut : laidOutB Try.prog = true := by kernel_rfl
theorem own : ownKnob Try.prog.godebug = none := by kernel_rfl
end Go.Proofs.Ytbljihhelladbaa.law
namespace Go.Proofs.Ytbljihhelladbaa.wr
open Go.ChangeShapes Go.WideShapes Go.ChangeAt Go.RowKit
open Go.Proofs.Ytbljihhelladbaa.st Go.Proofs.Ytbljihhelladbaa.hs Go.Proofs.Ytbljihhelladbaa.shr
set_option linter.unusedSimpArgs false
set_option linter.unusedVariables false
theorem intsCap {H : Type} {enc : TypeId × Value → H} {P : Program} {W : World} {base : Nat} {held : Bool} {t e : TypeId} {k : IntKind} {ao : Option Addr} {len cap : Nat} {d : DataW H} {ps : List MemPlace}
    (ht : P.underlying t = some (.slice e)) (he : P.underlying e = some (.int k)) (hc : P.cellsOf e = 1) (hd : DataW.Trod enc P W base (fun _ => true) held t (.slice ao len cap) d ps) : cap ≤ maxLen := by
  obtain ⟨fuel, hf⟩ := hd
  rcases open_ints ht he hc hf with ⟨h1, _⟩ | ⟨ad, ln, cp, zs, h1, h2, h3, h4, _⟩
  · simp [Value.cells] at h1
    rw [h1.2.2]; decide
  · simp [Value.cells] at h1
    obtain ⟨_, _, rfl⟩ := h1
    exact h4
end Go.Proofs.Ytbljihhelladbaa.wr
namespace Go.Proofs.Ytbljihhelladbaa.wr
open Go.ChangeShapes Go.WideShapes Go.ChangeAt Go.RowKit
open Go.Proofs.Ytbljihhelladbaa.st Go.Proofs.Ytbljihhelladbaa.hs Go.Proofs.Ytbljihhelladbaa.shr
set_option linter.unusedSimpArgs false
set_option linter.unusedVariables false
theorem shape_lt {w : World} {g : Nat} {x : TypeId × Nat} (h : w.shape? g = some x) : g < w.heap.size := by
  by_cases hb : g < w.heap.size
  · exact hb
  · unfold World.shape? at h
    rw [Array.getElem?_eq_none (by omega)] at h
    cases h
set_option maxRecDepth 100000 in
theorem ptTop {W : World} {r : Reach} {b0 n cap : Nat} {ao : Option Addr} {l : List Int} (hval : Value.okWide Try.prog W r b0 69 (.slice ao n cap)) (hr : RowI .u8 W ao l) (hle : l.length ≤ cap) (hc : cap ≤ maxLen) (ho : Octs l) : Pt.Ok W ⟨ao, cap, l⟩ := by
  refine ⟨hr, hle, hc, ho, fun b e => ?_⟩
  change ao = some b at e
  subst e
  have hh : ∃ row cells, W.shape? b.block = some (row, cells) := by
    simp only [Value.okWide, Cell.okWide, Cell.ok, Try.underlying69, World.has] at hval
    obtain ⟨_, _, _, _, row, cells, h, _⟩ := hval
    exact ⟨row, cells, h⟩
  obtain ⟨row, cells, h⟩ := hh
  exact shape_lt h
end Go.Proofs.Ytbljihhelladbaa.wr
namespace Go.Proofs.Ytbljihhelladbaa.opn
set_option linter.unusedSimpArgs false
set_option linter.unusedVariables false
open Go.ChangeShapes Go.WideShapes Go.ChangeAt Go.RowKit
theorem octArr {H : Type} {enc : TypeId × Value → H} {P : Program} {W : World} {base : Nat} {spare : Nat → Bool} {held : Bool} {r : Reach} {b0 : Nat} {t e : TypeId} {n : Nat} {v : Value} {d : DataW H} {ps : List MemPlace}
    (ht : P.underlying t = some (.array n e)) (he : P.underlying e = some (.int .u8)) (hc : P.cellsOf e = 1) (hct : P.cellsOf t = n) (hval : Value.okWide P W r b0 t v) (hd : DataW.Trod enc P W base spare held t v d ps) :
    ∃ l : List Int, v = .agg (l.map (Value.int .u8)).toArray ∧ l.length = n ∧ ∀ c ∈ l, 0 ≤ c ∧ c ≤ 255 := by
  have hv : ∃ cs, v = .agg cs := by
    simp only [Value.okWide, ht] at hval
    obtain ⟨cs, h, _⟩ := hval
    exact ⟨cs, h⟩
  obtain ⟨cs, rfl⟩ := hv
  obtain ⟨fuel, hf⟩ := hd
  obtain ⟨xs, m, rfl, _, h1, h2, h3⟩ := DataW.trod_array ht hf
  simp only [Value.cells] at h1 h3
  rw [hct] at h1
  have h4 : ∀ i, i < n → ∃ c : Int, cs.toList[i]? = some (.int .u8 c) ∧ 0 ≤ c ∧ c ≤ 255 := by
    intro i hi
    have h5 := h3 i hi
    rw [hc, Nat.mul_one, List.getElem?_eq_getElem (by omega)] at h5
    have hcs : (cs.toList.drop i).take 1 = [cs.toList[i]'(by omega)] := by
      rw [List.drop_eq_getElem_cons (by omega)]
      rfl
    rw [hcs] at h5
    obtain ⟨c, hcc, _, hw⟩ := DataW.trod_int he h5
    have hb := bounds_u8 hw
    simp only [List.cons.injEq, and_true] at hcc
    exact ⟨c, by rw [List.getElem?_eq_getElem (by omega), hcc], hb⟩
  refine ⟨cs.toList.map fun u => match u with | .int _ c => c | _ => 0, ?_, by rw [List.length_map]; exact h1, ?_⟩
  · congr 1
    apply Array.ext'
    rw [List.map_map]
    symm
    apply List.ext_getElem
    · simp
    · intro i hi1 hi2
      obtain ⟨c, h6, _⟩ := h4 i (by omega)
      rw [List.getElem?_eq_getElem (by omega)] at h6
      simp only [Option.some.injEq] at h6
      simp [h6]
  · intro c hc'
    obtain ⟨u, hu, rfl⟩ := List.mem_map.1 hc'
    obtain ⟨i, hi, rfl⟩ := List.getElem_of_mem hu
    obtain ⟨c, h6, h7⟩ := h4 i (by omega)
    rw [List.getElem?_eq_getElem hi] at h6
    simp only [Option.some.injEq] at h6
    rw [h6]
    exact h7
end Go.Proofs.Ytbljihhelladbaa.opn
