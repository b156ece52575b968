/-
  THE STATEMENT PacksMatch, at every argument: packs of envelopes are as the law says.
-/
import Derived.Test.YtbljihhelladbaaPWsV
namespace Go.Proofs.Ytbljihhelladbaa.packsMatch
set_option linter.unusedSimpArgs false
set_option linter.unusedVariables false
open Go.ChangeShapes Go.WideShapes Go.ChangeAt Go.RowKit
open Go.Proofs.Ytbljihhelladbaa.law
theorem types0 : Readable Try.prog [82, 23, 69, 69] := readable_cons (by kernel_rfl) (of_decide_eq_true (by kernel_rfl)) (readable_cons (by kernel_rfl) (of_decide_eq_true (by kernel_rfl)) (readable_cons (by kernel_rfl) (of_decide_eq_true (by kernel_rfl)) (readable_cons (by kernel_rfl) (of_decide_eq_true (by kernel_rfl)) (readable_nil))))
theorem types : Readable Try.prog Try.f14.params.toList := by rw [Try.params14]; exact types0
set_option maxRecDepth 100000 in
theorem contract (H : Type) (enc : TypeId × Value → H) (W : World) (base : Nat) (args : Array Value) (ds gs : List (DataW H)) (before : List MemPlace)
    (hval : ∀ (j : Nat) t v, Try.f14.params[j]? = some t → args[j]? = some v → Value.okWide Try.prog W .any base t v)
    (hW : DataW.Whole enc Try.prog Try.f14.params.toList Rows.packsMatchSpec.vars false W args.toList ds gs before) :
    Calls Try.prog 14 args W fun e W' => ∃ v, e = .returned v ∧ Rows.packsMatchSpec.post enc Try.prog Try.f14 false true false false W args v W' := by
  have hW' := hW
  obtain ⟨p, q, hA0, hV, rfl, hfz, hnd⟩ := hW
  have hA : DataW.TrodAll enc Try.prog W 0 (fun _ => true) true Try.f14.params.toList args.toList ds p := hA0
  rw [Try.params14] at hA hval
  obtain ⟨v0, vs0, d0, ds0, p0, q0, hargs, rfl, rfl, h0, r0⟩ := trodAll_cons hA
  obtain ⟨v1, vs1, d1, ds1, p1, q1, rfl, rfl, rfl, h1, r1⟩ := trodAll_cons r0
  obtain ⟨v2, vs2, d2, ds2, p2, q2, rfl, rfl, rfl, h2, r2⟩ := trodAll_cons r1
  obtain ⟨v3, vs3, d3, ds3, p3, q3, rfl, rfl, rfl, h3, r3⟩ := trodAll_cons r2
  obtain ⟨rfl, rfl, rfl⟩ := trodAll_nil r3
  obtain rfl : args = #[v0, v1, v2, v3] := by cases args; simp_all
  obtain ⟨rfl, rfl⟩ := trodVars_none hV
  clear hA0
  obtain ⟨ps, po, cap0, n0, rfl, hn0, hc0, hm0, hrow0, hps0, _⟩ := wr.partsArg (hval 0 82 v0 rfl rfl) h0
  obtain ⟨k, rfl, hk1, hk2⟩ := opn.octArr Try.underlying23 Try.underlying5 (by kernel_rfl) (by kernel_rfl) (hval 1 23 v1 rfl rfl) h1
  obtain ⟨l2, ao2, c2, I2⟩ := opn.ints Try.underlying69 Try.underlying5 (by kernel_rfl) (hval 2 69 v2 rfl rfl) h2
  obtain rfl := I2.val
  have hcap2 := wr.intsCap Try.underlying69 Try.underlying5 (by kernel_rfl) h2
  have ho2 : st.Octs l2 := fun c hc => bounds_u8 (I2.wf c hc)
  obtain ⟨l3, ao3, c3, I3⟩ := opn.ints Try.underlying69 Try.underlying5 (by kernel_rfl) (hval 3 69 v3 rfl rfl) h3
  obtain rfl := I3.val
  have hcap3 := wr.intsCap Try.underlying69 Try.underlying5 (by kernel_rfl) h3
  have ho3 : st.Octs l3 := fun c hc => bounds_u8 (I3.wf c hc)
  have hP2 := wr.ptTop (hval 2 69 _ rfl rfl) I2.row I2.le hcap2 ho2
  have hP3 := wr.ptTop (hval 3 69 _ rfl rfl) I3.row I3.le hcap3 ho3
  have hle3 := I3.le
  unfold maxLen at hm0 hcap3
  refine (wr.packs_law po cap0 n0 ps k l2 l3 ao3 c3 l3.length ao2 c2 l2.length W hn0 (by omega) hrow0 hps0 hk1 hk2 rfl hP3 rfl hP2 (fun h => (I2.none h).1) (by omega)).mono fun e W' ⟨he, hg⟩ => ?_
  subst he
  exact ⟨_, rfl, post (tb := 4) laidOut hW' rfl types rfl Try.underlying4 rfl hg⟩
set_option maxRecDepth 100000 in
theorem lifted (os : Os) (started : os.Started) (H : Type) (enc : TypeId × Value → H) :
    ReturnsInHanded {} Try.checked os 14 .any (Rows.packsMatchSpec.pre6 enc Try.prog Try.f14 Rows.packsMatchRow.domain false) (Rows.packsMatchSpec.post enc Try.prog Try.f14 false true false false) := by
  refine returnsInHanded_of_change (C := Try.checked) own started (by kernel_rfl) Try.func14
    (ChangeSpec.witness6 (enc := enc) (C := Try.checked) false ⟨#[], #[.slice none 0 0, .agg #[.int .u8 0, .int .u8 0, .int .u8 0, .int .u8 0, .int .u8 0, .int .u8 0, .int .u8 0, .int .u8 0, .int .u8 0, .int .u8 0, .int .u8 0, .int .u8 0, .int .u8 0, .int .u8 0, .int .u8 0, .int .u8 0, .int .u8 0, .int .u8 0, .int .u8 0, .int .u8 0, .int .u8 0, .int .u8 0, .int .u8 0, .int .u8 0, .int .u8 0, .int .u8 0, .int .u8 0, .int .u8 0, .int .u8 0, .int .u8 0, .int .u8 0, .int .u8 0], .slice none 0 0, .slice none 0 0], []⟩ 8 (by kernel_rfl) (by kernel_rfl) (by kernel_rfl) (by kernel_rfl)) ?_
  intro W base args ds gs before hval hW _ _
  exact contract H enc W base args ds gs before hval hW
theorem proved : Rows.PacksMatchSaid :=
  OpenClaim.holds_of_wide 14 Try.f14 rfl rfl rfl rfl rfl rfl rfl ⟨rfl, rfl, rfl, rfl, rfl⟩ rfl rfl rfl rfl rfl (by kernel_rfl) Try.func14 (by kernel_rfl)
    (of_decide_eq_true (by kernel_rfl)) (by unfold Func.isWrapper; first | (rw [if_pos (by decide +kernel)]; kernel_rfl) | (rw [if_neg (by decide +kernel)]; exact ⟨rfl, rfl⟩))
    (fun os started H enc _ => lifted os started H enc)
#print axioms proved
end Go.Proofs.Ytbljihhelladbaa.packsMatch
