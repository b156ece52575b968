/-
  The law TopShares at every argument. Conditions: keys of octets, numbers that lie in memory. What a law's walk owes the row's form: a call that returns true and leaves all that was there as it was meets the law's 'post'. Conditions: none but the parameters' types being readable, which is asked as a closed fact. An envelope among a law's arguments; a slice of octets likewise. Conditions: the types' forms. Arguments that are arrays of octets, opened for the walks. No condition.
-/
import Derived.Test.YtbjmadcbhkeenaaSToG
import Derived.Test.YtbjmadcbhkeenaaSMem
import Derived.Test.YtbjmadcbhkeenaaSMkX
import Derived.Test.YtbjmadcbhkeenaaSShr
import Derived.ProofKit
import Derived.OpenShut
import Derived.JoinedCond
namespace Go.Proofs.Ytbjmadcbhkeenaa.gs
open Go.RowKit Go.Proofs.Ytbjmadcbhkeenaa.Fld Go.Proofs.Ytbjmadcbhkeenaa.sh Go.Proofs.Ytbjmadcbhkeenaa.shr Go.Proofs.Ytbjmadcbhkeenaa.cm Go.Proofs.Ytbjmadcbhkeenaa.wr
set_option linter.unusedSimpArgs false
set_option linter.unusedVariables false
set_option pp.maxSteps 6000
set_option maxRecDepth 100000 in
theorem top_out (SV OV KV AV : List Value) (need many : Int) (af ab : Option Addr) (cf nf cb nb : Nat) (w : World) (h : ¬ (1 ≤ many ∧ many ≤ 7 ∧ 1 ≤ need ∧ need ≤ many)) :
    Calls Try.prog 3 #[.agg SV.toArray, .agg OV.toArray, .int .i64 need, .int .i64 many, .agg KV.toArray, .agg AV.toArray, .slice af nf cf, .slice ab nb cb] w fun e w' => e = .returned (.bool true) ∧ Below w.heap.size w w' := by
  obtain ⟨W0, HW0⟩ : ∃ W0, Hid (W0 = (((w.alloc (.cells SV.toArray 23)).alloc (.cells OV.toArray 23)).alloc (.cells KV.toArray 23)).alloc (.cells AV.toArray 23)) := ⟨_, rfl⟩
  have bb0 : Below w.heap.size w W0 := by rw [HW0.out]; exact ((((Below.refl _ _).alloc (Nat.le_refl _) _).alloc (by simp) _).alloc (by simp; omega) _).alloc (by simp; omega) _
  have hs0 : w.heap.size ≤ W0.heap.size := bb0.size
  by_cases h1 : many < 1
  · have d1 : decide (many < 1) = true := decide_eq_true h1
    clear h
    go_enter Try.func3, Try.ntmps3
    go_wp2_with (go_at_call 4; refine (landed_any _).mono ?_; rintro e w1 ⟨rfl, hb1⟩; rw [← HW0.out] at hb1)
    go_ret
    exact ⟨rfl, bb0.trans (hb1.mono hs0)⟩
  · have d1 : decide (many < 1) = false := decide_eq_false h1
    by_cases h2 : 7 < many
    · have d2 : decide (7 < many) = true := decide_eq_true h2
      clear h
      go_enter Try.func3, Try.ntmps3
      go_wp2_with (go_at_call 4; refine (landed_any _).mono ?_; rintro e w1 ⟨rfl, hb1⟩; rw [← HW0.out] at hb1)
      go_ret
      exact ⟨rfl, bb0.trans (hb1.mono hs0)⟩
    · have d2 : decide (7 < many) = false := decide_eq_false h2
      by_cases h3 : need < 1
      · have d3 : decide (need < 1) = true := decide_eq_true h3
        clear h
        go_enter Try.func3, Try.ntmps3
        go_wp2_with (go_at_call 4; refine (landed_any _).mono ?_; rintro e w1 ⟨rfl, hb1⟩; rw [← HW0.out] at hb1)
        go_ret
        exact ⟨rfl, bb0.trans (hb1.mono hs0)⟩
      · have d3 : decide (need < 1) = false := decide_eq_false h3
        have h4 : many < need := by omega
        have d4 : decide (many < need) = true := decide_eq_true h4
        clear h
        go_enter Try.func3, Try.ntmps3
        go_wp2_with (go_at_call 4; refine (landed_any _).mono ?_; rintro e w1 ⟨rfl, hb1⟩; rw [← HW0.out] at hb1)
        go_ret
        exact ⟨rfl, bb0.trans (hb1.mono hs0)⟩
theorem top_law (secret other : List Int) (need many : Int) (seed again : List Int) (af : Option Addr) (cf nf : Nat) (fs : List Int) (ab : Option Addr) (cb nb : Nat) (ys : List Int) (w : World) (hsl : secret.length = 32) (hso : st.Octs secret) (hol : other.length = 32) (hoo : st.Octs other) (hkl : seed.length = 32) (hko : st.Octs seed) (hal : again.length = 32) (hao : st.Octs again) (hnf : nf = fs.length) (hF : RowI .i64 w af fs) (hnf2 : nf ≤ 9223372036854775807) (hnb : nb = ys.length) (hY : RowI .i64 w ab ys) (hnb2 : nb ≤ 9223372036854775807) :
    Calls Try.prog 3 #[.agg (secret.map (Value.int .u8)).toArray, .agg (other.map (Value.int .u8)).toArray, .int .i64 need, .int .i64 many, .agg (seed.map (Value.int .u8)).toArray, .agg (again.map (Value.int .u8)).toArray, .slice af nf cf, .slice ab nb cb] w fun e w' => e = .returned (.bool true) ∧ Below w.heap.size w w' := by
  by_cases h : 1 ≤ many ∧ many ≤ 7 ∧ 1 ≤ need ∧ need ≤ many
  · obtain ⟨N, rfl⟩ : ∃ N : Nat, many = (N : Int) := ⟨many.toNat, by omega⟩
    obtain ⟨m, rfl⟩ : ∃ m : Nat, need = (m : Int) := ⟨need.toNat, by omega⟩
    exact top_main secret other seed again m N af ab cf nf cb nb fs ys w hsl hso hol hoo hkl hko hal hao hnf hF hnf2 hnb hY hnb2 (by omega) (by omega) (by omega)
  · exact top_out _ _ _ _ need many af ab cf nf cb nb w h
end Go.Proofs.Ytbjmadcbhkeenaa.gs
namespace Go.Proofs.Ytbjmadcbhkeenaa.law
set_option linter.unusedSimpArgs false
set_option linter.unusedVariables false
open Go.ChangeShapes Go.WideShapes Go.ChangeAt Go.RowKit
/-- types that can be read, and whose rows there are -/
def Readable (P : Program) : List TypeId → Prop
  | [] => True
  | t :: ts => P.readableRec t = true ∧ t < P.types.size ∧ Readable P ts
theorem readable_nil {P : Program} : Readable P [] := trivial
theorem readable_cons {P : Program} {t : TypeId} {ts : List TypeId} (h : P.readableRec t = true) (k : t < P.types.size) (r : Readable P ts) : Readable P (t :: ts) := ⟨h, k, r⟩
theorem stays {H : Type} {enc : TypeId × Value → H} {P : Program} (hl : laidOutB P = true) {W W' : World} (hb : Below W.heap.size W W') :
    ∀ (ts : List TypeId) (vs : List Value) (ds : List (DataW H)) (ps : List MemPlace), Readable P ts → DataW.TrodAll enc P W 0 (fun _ => true) true ts vs ds ps → (∀ x ∈ ps, x.block < W.heap.size) →
      DataW.TrodAll enc P W' 0 (fun b => decide (b < W.heap.size)) true ts vs ds ps
  | [], vs, ds, ps, _, h, _ => by
    obtain ⟨rfl, rfl, rfl⟩ := trodAll_nil h
    exact trodAll_mk0
  | t :: ts, vs, ds, ps, hr, h, hlt => by
    obtain ⟨v, vs1, d, ds1, a, b, rfl, rfl, rfl, h1, h2⟩ := trodAll_cons h
    exact trodAll_cons_mk (Below.trod hl hr.1 hr.2.1 h1 hb (fun x hx => hlt x (List.mem_append_left _ hx))) (stays hl hb ts vs1 ds1 b hr.2.2 h2 (fun x hx => hlt x (List.mem_append_right _ hx)))
theorem post {H : Type} {enc : TypeId × Value → H} {P : Program} (hl : laidOutB P = true) {f : Func} {s : ChangeSpec} {W W' : World} {args : Array Value} {ds gs : List (DataW H)} {before : List MemPlace} {tb : TypeId}
    (hW : DataW.Whole enc P f.params.toList s.vars false W args.toList ds gs before) (hvars : s.vars = []) (hp : Readable P f.params.toList) (hr : f.resultTypes = #[tb]) (hu : P.underlying tb = some .bool)
    (hfn : (s.fn H ds) = { results := [.lit (.bool true)], args := ds }) (hb : Below W.heap.size W W') :
    s.post enc P f false true false false W args (.bool true) W' := by
  have hW' := hW
  obtain ⟨p, q, hA, hV, rfl, hfz, hnd⟩ := hW
  rw [hvars] at hV
  obtain ⟨rfl, rfl⟩ := trodVars_none hV
  refine ⟨ds, [], p ++ [], [], p, [], hW', ?_, ?_, ?_, hb.frame _, fun h => by cases h⟩
  · rw [hr, List.append_nil, hfn]
    exact trodAll_cons_mk (shut_bool hu true) trodAll_mk0
  · rw [List.append_nil, hfn]
    exact stays hl hb _ _ _ _ hp hA fun x hx => hA.lt x hx
  · rw [hvars, List.append_nil, hfn]
    exact rfl
theorem laidOut : laidOutB Try.prog = true := by kernel_rfl
theorem own : ownKnob Try.prog.godebug = none := by kernel_rfl
end Go.Proofs.Ytbjmadcbhkeenaa.law
namespace Go.Proofs.Ytbjmadcbhkeenaa.wr
open Go.ChangeShapes Go.WideShapes Go.ChangeAt Go.RowKit
open Go.Proofs.Ytbjmadcbhkeenaa.st Go.Proofs.Ytbjmadcbhkeenaa.hs Go.Proofs.Ytbjmadcbhkeenaa.shr
set_option linter.unusedSimpArgs false
set_option linter.unusedVariables false
theorem intsCap {H : Type} {enc : TypeId × Value → H} {P : Program} {W : World} {base : Nat} {held : Bool} {t e : TypeId} {k : IntKind} {ao : Option Addr} {len cap : Nat} {d : DataW H} {ps : List MemPlace}
    (ht : P.underlying t = some (.slice e)) (he : P.underlying e = some (.int k)) (hc : P.cellsOf e = 1) (hd : DataW.Trod enc P W base (fun _ => true) held t (.slice ao len cap) d ps) : cap ≤ maxLen := by
  obtain ⟨fuel, hf⟩ := hd
  rcases open_ints ht he hc hf with ⟨h1, _⟩ | ⟨ad, ln, cp, zs, h1, h2, h3, h4, _⟩
  · simp [Value.cells] at h1
    rw [h1.2.2]; decide
  · simp [Value.cells] at h1
    obtain ⟨_, _, rfl⟩ := h1
    exact h4
end Go.Proofs.Ytbjmadcbhkeenaa.wr
namespace Go.Proofs.Ytbjmadcbhkeenaa.opn
set_option linter.unusedSimpArgs false
set_option linter.unusedVariables false
open Go.ChangeShapes Go.WideShapes Go.ChangeAt Go.RowKit
theorem octArr {H : Type} {enc : TypeId × Value → H} {P : Program} {W : World} {base : Nat} {spare : Nat → Bool} {held : Bool} {r : Reach} {b0 : Nat} {t e : TypeId} {n : Nat} {v : Value} {d : DataW H} {ps : List MemPlace}
    (ht : P.underlying t = some (.array n e)) (he : P.underlying e = some (.int .u8)) (hc : P.cellsOf e = 1) (hct : P.cellsOf t = n) (hval : Value.okWide P W r b0 t v) (hd : DataW.Trod enc P W base spare held t v d ps) :
    ∃ l : List Int, v = .agg (l.map (Value.int .u8)).toArray ∧ l.length = n ∧ ∀ c ∈ l, 0 ≤ c ∧ c ≤ 255 := by
  have hv : ∃ cs, v = .agg cs := by
    simp only [Value.okWide, ht] at hval
    obtain ⟨cs, h, _⟩ := hval
    exact ⟨cs, h⟩
  obtain ⟨cs, rfl⟩ := hv
  obtain ⟨fuel, hf⟩ := hd
  obtain ⟨xs, m, rfl, _, h1, h2, h3⟩ := DataW.trod_array ht hf
  simp only [Value.cells] at h1 h3
  rw [hct] at h1
  have h4 : ∀ i, i < n → ∃ c : Int, cs.toList[i]? = some (.int .u8 c) ∧ 0 ≤ c ∧ c ≤ 255 := by
    intro i hi
    have h5 := h3 i hi
    rw [hc, Nat.mul_one, List.getElem?_eq_getElem (by omega)] at h5
    have hcs : (cs.toList.drop i).take 1 = [cs.toList[i]'(by omega)] := by
      rw [List.drop_eq_getElem_cons (by omega)]
      rfl
    rw [hcs] at h5
    obtain ⟨c, hcc, _, hw⟩ := DataW.trod_int he h5
    have hb := bounds_u8 hw
    simp only [List.cons.injEq, and_true] at hcc
    exact ⟨c, by rw [List.getElem?_eq_getElem (by omega), hcc], hb⟩
  refine ⟨cs.toList.map fun u => match u with | .int _ c => c | _ => 0, ?_, by rw [List.length_map]; exact h1, ?_⟩
  · congr 1
    apply Array.ext'
    rw [List.map_map]
    symm
    apply List.ext_getElem
    · simp
    · intro i hi1 hi2
      obtain ⟨c, h6, _⟩ := h4 i (by omega)
      rw [List.getElem?_eq_getElem (by omega)] at h6
      simp only [Option.some.injEq] at h6
      simp [h6]
  · intro c hc'
    obtain ⟨u, hu, rfl⟩ := List.mem_map.1 hc'
    obtain ⟨i, hi, rfl⟩ := List.getElem_of_mem hu
    obtain ⟨c, h6, h7⟩ := h4 i (by omega)
    rw [List.getElem?_eq_getElem hi] at h6
    simp only [Option.some.injEq] at h6
    rw [h6]
    exact h7
end Go.Proofs.Ytbjmadcbhkeenaa.opn
