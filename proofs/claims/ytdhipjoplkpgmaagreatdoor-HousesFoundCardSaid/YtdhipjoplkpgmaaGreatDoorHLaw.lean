/-
  What a law's walk owes the row's form: a call that returns true and leaves all that was there as it was meets the law's 'post'. Conditions: none but the parameters' types being readable, which is asked as a closed fact.
-/
import Derived.Test.YtdhipjoplkpgmaaGreatDoorHMem
import Derived.ProofKit
import Derived.OpenShut
import Derived.JoinedCond
set_option linter.unusedSimpArgs false
set_option linter.unusedVariables false
namespace Go.Proofs.YtdhipjoplkpgmaaGreatDoor.law
open Go.ChangeShapes Go.WideShapes Go.ChangeAt Go.RowKit
def Readable (P : Program) : List TypeId → Prop
 | [] => True
 | t :: ts => P.readableRec t = true ∧ t < P.types.size ∧ Readable P ts
theorem readable_nil {P : Program} : Readable P [] := trivial
theorem readable_cons {P : Program} {t : TypeId} {ts : List TypeId} (h : P.readableRec t = true) (k : t < P.types.size) (r : Readable P ts) : Readable P (t :: ts) := ⟨h, k, r⟩
theorem stays {H : Type} {enc : TypeId × Value → H} {P : Program} (hl : laidOutB P = true) {W W' : World} (hb : Below W.heap.size W W') :
  ∀ (ts : List TypeId) (vs : List Value) (ds : List (DataW H)) (ps : List MemPlace), Readable P ts → DataW.TrodAll enc P W 0 (fun _ => true) true ts vs ds ps → (∀ x ∈ ps, x.block < W.heap.size) →
   DataW.TrodAll enc P W' 0 (fun b => decide (b < W.heap.size)) true ts vs ds ps
 | [], vs, ds, ps, _, h, _ => by
  obtain ⟨rfl, rfl, rfl⟩ := trodAll_nil h
  exact trodAll_mk0
 | t :: ts, vs, ds, ps, hr, h, hlt => by
  obtain ⟨v, vs1, d, ds1, a, b, rfl, rfl, rfl, h1, h2⟩ := trodAll_cons h
  exact trodAll_cons_mk (Below.trod hl hr.1 hr.2.1 h1 hb (fun x hx => hlt x (List.mem_append_left _ hx))) (stays hl hb ts vs1 ds1 b hr.2.2 h2 (fun x hx => hlt x (List.mem_append_right _ hx)))
theorem post {H : Type} {enc : TypeId × Value → H} {P : Program} (hl : laidOutB P = true) {f : Func} {s : ChangeSpec} {W W' : World} {args : Array Value} {ds gs : List (DataW H)} {before : List MemPlace} {tb : TypeId}
  (hW : DataW.Whole enc P f.params.toList s.vars false W args.toList ds gs before) (hvars : s.vars = []) (hp : Readable P f.params.toList) (hr : f.resultTypes = #[tb]) (hu : P.underlying tb = some .bool)
  (hfn : (s.fn H ds) = { results := [.lit (.bool true)], args := ds }) (hb : Below W.heap.size W W') :
  s.post enc P f false true false false W args (.bool true) W' := by
 have hW' := hW
 obtain ⟨p, q, hA, hV, rfl, hfz, hnd⟩ := hW
 rw [hvars] at hV
 obtain ⟨rfl, rfl⟩ := trodVars_none hV
 refine ⟨ds, [], p ++ [], [], p, [], hW', ?_, ?_, ?_, hb.frame _, fun h => by cases h⟩
 ·rw [hr, List.append_nil, hfn]
  exact trodAll_cons_mk (shut_bool hu true) trodAll_mk0
 ·rw [List.append_nil, hfn]
  exact stays hl hb _ _ _ _ hp hA fun x hx => hA.lt x hx
 ·rw [hvars, List.append_nil, hfn]
  exact rfl
theorem laidOut : laidOutB Tryz.prog = true := by kernel_rfl
theorem own : ownKnob Tryz.prog.godebug = none := by kernel_rfl
end Go.Proofs.YtdhipjoplkpgmaaGreatDoor.law
