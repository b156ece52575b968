/-
  THE STATEMENT MarksMatch, where what it reads is of bulk at most 1048576: shares as octets, and their marks, are as the law says.
-/
import Derived.Test.YtbljihhelladbaaMkP
import Derived.Test.YtbljihhelladbaaOpa
import Derived.Test.YtbljihhelladbaaLaw
namespace Go.Proofs.Ytbljihhelladbaa.marksMatch
set_option linter.unusedSimpArgs false
set_option linter.unusedVariables false
open Go.ChangeShapes Go.WideShapes Go.ChangeAt Go.RowKit
open Go.Proofs.Ytbljihhelladbaa.law

theorem intsCap {H : Type} {enc : TypeId × Value → H} {P : Program} {W : World} {base : Nat} {held : Bool} {t e : TypeId} {k : IntKind} {ao : Option Addr} {len cap : Nat} {d : DataW H} {ps : List MemPlace}
    (ht : P.underlying t = some (.slice e)) (he : P.underlying e = some (.int k)) (hc : P.cellsOf e = 1) (hd : DataW.Trod enc P W base (fun _ => true) held t (.slice ao len cap) d ps) : cap ≤ maxLen := by
  obtain ⟨fuel, hf⟩ := hd
  rcases open_ints ht he hc hf with ⟨h1, _⟩ | ⟨ad, ln, cp, zs, h1, h2, h3, h4, _⟩
  · simp [Value.cells] at h1
    rw [h1.2.2]; decide
  · simp [Value.cells] at h1
    obtain ⟨_, _, rfl⟩ := h1
    exact h4
set_option maxRecDepth 100000 in
theorem shareArg {H : Type} {enc : TypeId × Value → H} {W : World} {base : Nat} {spare : Nat → Bool} {held : Bool} {r : Reach} {b0 : Nat} {v : Value} {d : DataW H} {ps : List MemPlace}
    (hval : Value.okWide Try.prog W r b0 61 v) (hd : DataW.Trod enc Try.prog W base spare held 61 v d ps) : ∃ s : shr.Sh, s.Ok ∧ v = .agg s.cs.toArray := by
  have hv : ∃ cs, v = .agg cs := by
    simp only [Value.okWide, Try.underlying61] at hval
    obtain ⟨cs, h, _⟩ := hval
    exact ⟨cs, h⟩
  obtain ⟨cs, rfl⟩ := hv
  obtain ⟨fuel, hf⟩ := hd
  obtain ⟨s, hs, hc⟩ := shr.shareCells hf
  refine ⟨s, hs, ?_⟩
  congr 1
  apply Array.ext'
  exact hc

theorem ptOf {W : World} {ao : Option Addr} {cap : Nat} {l : List Int} (hr : RowI .u8 W ao l) (hle : l.length ≤ cap) (hc : cap ≤ maxLen) (ho : st.Octs l) (hl : 86 ≤ l.length) : hs.Pt.Ok W ⟨ao, cap, l⟩ := by
  refine ⟨hr, hle, hc, ho, fun b e => ?_⟩
  obtain ⟨g, off, e2, hb, _⟩ := hr.at (i := 0) (by omega)
  change ao = some b at e
  rw [e2] at e
  cases e
  exact hb

theorem types0 : Readable Try.prog [61, 69, 47, 70] := readable_cons (by kernel_rfl) (of_decide_eq_true (by kernel_rfl)) (readable_cons (by kernel_rfl) (of_decide_eq_true (by kernel_rfl)) (readable_cons (by kernel_rfl) (of_decide_eq_true (by kernel_rfl)) (readable_cons (by kernel_rfl) (of_decide_eq_true (by kernel_rfl)) (readable_nil))))
theorem types : Readable Try.prog Try.f7.params.toList := by rw [Try.params7]; exact types0

set_option maxRecDepth 100000 in
theorem contract (H : Type) (enc : TypeId × Value → H) (W : World) (base : Nat) (args : Array Value) (ds gs : List (DataW H)) (before : List MemPlace)
    (hval : ∀ (j : Nat) t v, Try.f7.params[j]? = some t → args[j]? = some v → Value.okWide Try.prog W .any base t v)
    (hW : DataW.Whole enc Try.prog Try.f7.params.toList Rows.marksMatchSpec.vars false W args.toList ds gs before) (hk : Rows.uptoSmall H (ds ++ gs) = true) :
    Calls Try.prog 7 args W fun e W' => ∃ v, e = .returned v ∧ Rows.marksMatchSpec.post enc Try.prog Try.f7 false true false false W args v W' := by
  have hW' := hW
  obtain ⟨p, q, hA0, hV, rfl, hfz, hnd⟩ := hW
  have hA : DataW.TrodAll enc Try.prog W 0 (fun _ => true) true Try.f7.params.toList args.toList ds p := hA0
  rw [Try.params7] at hA hval
  obtain ⟨v0, vs0, d0, ds0, p0, q0, hargs, rfl, rfl, h0, r0⟩ := trodAll_cons hA
  obtain ⟨v1, vs1, d1, ds1, p1, q1, rfl, rfl, rfl, h1, r1⟩ := trodAll_cons r0
  obtain ⟨v2, vs2, d2, ds2, p2, q2, rfl, rfl, rfl, h2, r2⟩ := trodAll_cons r1
  obtain ⟨v3, vs3, d3, ds3, p3, q3, rfl, rfl, rfl, h3, r3⟩ := trodAll_cons r2
  obtain ⟨rfl, rfl, rfl⟩ := trodAll_nil r3
  obtain rfl : args = #[v0, v1, v2, v3] := by cases args; simp_all
  obtain ⟨rfl, rfl⟩ := trodVars_none hV
  clear hA0
  obtain ⟨s, hs, rfl⟩ := shareArg (hval 0 61 v0 rfl rfl) h0
  obtain ⟨l1, ao1, c1, I1⟩ := opn.ints Try.underlying69 Try.underlying5 (by kernel_rfl) (hval 1 69 v1 rfl rfl) h1
  obtain rfl := I1.val
  have hcap1 := intsCap Try.underlying69 Try.underlying5 (by kernel_rfl) h1
  have ho1 : st.Octs l1 := fun c hc => bounds_u8 (I1.wf c hc)
  obtain ⟨l2, ao2, cap2, H2⟩ := shr.shares (hval 2 47 v2 rfl rfl) h2
  obtain ⟨rfl, hle2, hrow2, hno2, hok2, hmx2⟩ := H2
  obtain ⟨l3, ao3, cap3, H3⟩ := shr.sumsArg (hval 3 70 v3 rfl rfl) h3
  obtain ⟨rfl, hle3, hrow3, hno3, hok3, hmx3⟩ := H3
  have b2 := shr.slice_bulk Try.underlying47 h2
  have b3 := shr.slice_bulk Try.underlying70 h3
  have hk1 : Rows.uptoBulkAll _ ≤ 1048576 := of_decide_eq_true hk
  simp only [List.cons_append, List.nil_append, Rows.uptoBulkAll] at hk1
  refine (shr.marks_law s hs ao1 c1 l1 ao2 cap2 l2 ao3 cap3 l3 W (fun h => ptOf I1.row I1.le hcap1 ho1 h) ho1 hrow2 hok2 (by omega) hrow3 hok3 (by omega)).mono fun e W' ⟨he, hg⟩ => ?_
  subst he
  exact ⟨_, rfl, post (tb := 4) laidOut hW' rfl types rfl Try.underlying4 rfl hg⟩

set_option maxRecDepth 100000 in
theorem lifted (os : Os) (started : os.Started) (H : Type) (enc : TypeId × Value → H) (F : Stop.Interp) :
    ReturnsInHanded {} Try.checked os 7 .any ((Rows.OpenSpec.upto Rows.marksMatchSpec).pre6 enc Try.prog Try.f7 Rows.marksMatchUptoRow.domain false) (((Rows.OpenSpec.upto Rows.marksMatchSpec).at F).post enc Try.prog Try.f7 false true false false) := by
  refine returnsInHanded_of_cond (C := Try.checked) (s := Rows.OpenSpec.upto Rows.marksMatchSpec) (k := Rows.uptoSmall) rfl own started (by kernel_rfl) Try.func7
    (OpenSpec.witness (enc := enc) (C := Try.checked) (s := Rows.OpenSpec.upto Rows.marksMatchSpec) (k := Rows.uptoSmall) rfl false ⟨#[], #[.agg #[.int .u8 0, .int .u8 0, .int .u8 0, .int .u8 0, .int .u8 0, .int .u8 0, .int .u8 0, .int .u8 0, .int .u8 0, .int .u8 0, .int .u8 0, .int .u8 0, .int .u8 0, .int .u8 0, .int .u8 0, .int .u8 0, .int .i64 0, .int .u16 0, .int .u16 0, .int .u16 0, .int .u16 0, .int .u16 0, .int .u16 0, .int .u16 0, .int .u16 0, .int .u16 0, .int .u16 0, .int .u16 0, .int .u16 0, .int .u16 0, .int .u16 0, .int .u16 0, .int .u16 0, .int .u16 0, .int .u16 0, .int .u16 0, .int .u16 0, .int .u16 0, .int .u16 0, .int .u16 0, .int .u16 0, .int .u16 0, .int .u16 0, .int .u16 0, .int .u16 0, .int .u16 0, .int .u16 0, .int .u16 0, .int .u16 0], .slice none 0 0, .slice none 0 0, .slice none 0 0], []⟩ 8 (by kernel_rfl) (by kernel_rfl) (by kernel_rfl)
      (x := ([.agg [.agg [.lit (.int .u8 0), .lit (.int .u8 0), .lit (.int .u8 0), .lit (.int .u8 0), .lit (.int .u8 0), .lit (.int .u8 0), .lit (.int .u8 0), .lit (.int .u8 0), .lit (.int .u8 0), .lit (.int .u8 0), .lit (.int .u8 0), .lit (.int .u8 0), .lit (.int .u8 0), .lit (.int .u8 0), .lit (.int .u8 0), .lit (.int .u8 0)], .lit (.int .i64 0), .agg [.lit (.int .u16 0), .lit (.int .u16 0), .lit (.int .u16 0), .lit (.int .u16 0), .lit (.int .u16 0), .lit (.int .u16 0), .lit (.int .u16 0), .lit (.int .u16 0), .lit (.int .u16 0), .lit (.int .u16 0), .lit (.int .u16 0), .lit (.int .u16 0), .lit (.int .u16 0), .lit (.int .u16 0), .lit (.int .u16 0), .lit (.int .u16 0), .lit (.int .u16 0), .lit (.int .u16 0), .lit (.int .u16 0), .lit (.int .u16 0), .lit (.int .u16 0), .lit (.int .u16 0), .lit (.int .u16 0), .lit (.int .u16 0), .lit (.int .u16 0), .lit (.int .u16 0), .lit (.int .u16 0), .lit (.int .u16 0), .lit (.int .u16 0), .lit (.int .u16 0), .lit (.int .u16 0), .lit (.int .u16 0)]], .nil, .nil, .nil], [], [])) (by kernel_rfl) rfl (by kernel_rfl)) ?_
  intro W base args ds gs before hval hW _ hk _
  exact contract H enc W base args ds gs before hval hW hk

theorem proved : Rows.MarksMatchUptoSaid :=
  OpenClaim.holds_of_cond 7 Try.f7 rfl rfl rfl rfl rfl rfl rfl ⟨rfl, rfl, rfl, rfl, rfl⟩ rfl rfl rfl rfl rfl (by kernel_rfl) Try.func7 (by kernel_rfl)
    (of_decide_eq_true (by kernel_rfl)) (by unfold Func.isWrapper; first | (rw [if_pos (by decide +kernel)]; kernel_rfl) | (rw [if_neg (by decide +kernel)]; exact ⟨rfl, rfl⟩))
    (fun os started H enc _ F => lifted os started H enc F)
#print axioms proved
end Go.Proofs.Ytbljihhelladbaa.marksMatch
