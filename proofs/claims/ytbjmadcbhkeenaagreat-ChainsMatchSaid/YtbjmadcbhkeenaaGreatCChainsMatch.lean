/-
  THE STATEMENT ChainsMatch, at every argument: chains of links, what is reached and what is lost are as the law says. No condition.
-/
import Derived.Test.YtbjmadcbhkeenaaGreatCLkX
import Derived.Test.YtbjmadcbhkeenaaGreatCLkY
import Derived.Test.YtbjmadcbhkeenaaGreatCWrD
import Derived.Test.YtbjmadcbhkeenaaGreatCSpA
import Derived.Test.YtbjmadcbhkeenaaGreatCStA
set_option maxRecDepth 100000
set_option linter.unusedSimpArgs false
set_option linter.unusedVariables false
namespace Go.Proofs.YtbjmadcbhkeenaaGreat.chainsMatch
open Go.ChangeShapes Go.WideShapes Go.ChangeAt Go.RowKit
open law
theorem types0 : Readable Tryz.prog [23, 24, 25, 27, 28, 28] := readable_cons (by kernel_rfl) (of_decide_eq_true (by kernel_rfl)) (readable_cons (by kernel_rfl) (of_decide_eq_true (by kernel_rfl)) (readable_cons (by kernel_rfl) (of_decide_eq_true (by kernel_rfl)) (readable_cons (by kernel_rfl) (of_decide_eq_true (by kernel_rfl)) (readable_cons (by kernel_rfl) (of_decide_eq_true (by kernel_rfl)) (readable_cons (by kernel_rfl) (of_decide_eq_true (by kernel_rfl)) (readable_nil))))))
theorem types : Readable Tryz.prog Tryz.f3.params.toList := by rw [Tryz.params3]; exact types0
theorem contract (H : Type) (enc : TypeId × Value → H) (W : World) (base : Nat) (args : Array Value) (ds gs : List (DataW H)) (before : List MemPlace)
  (hval : ∀ (j : Nat) t v, Tryz.f3.params[j]? = some t → args[j]? = some v → Value.okWide Tryz.prog W .any base t v)
  (hW : DataW.Whole enc Tryz.prog Tryz.f3.params.toList Rows.chainsMatchSpec.vars false W args.toList ds gs before) :
  Calls Tryz.prog 3 args W fun e W' => ∃ v, e = .returned v ∧ Rows.chainsMatchSpec.post enc Tryz.prog Tryz.f3 false true false false W args v W' := by
 have hW' := hW
 obtain ⟨p, q, hA0, hV, rfl, hfz, hnd⟩ := hW
 have hA : DataW.TrodAll enc Tryz.prog W 0 (fun _ => true) true Tryz.f3.params.toList args.toList ds p := hA0
 rw [Tryz.params3] at hA hval
 obtain ⟨v0, vs0, d0, ds0, p0, q0, hargs, rfl, rfl, h0, r0⟩ := trodAll_cons hA
 obtain ⟨v1, vs1, d1, ds1, p1, q1, rfl, rfl, rfl, h1, r1⟩ := trodAll_cons r0
 obtain ⟨v2, vs2, d2, ds2, p2, q2, rfl, rfl, rfl, h2, r2⟩ := trodAll_cons r1
 obtain ⟨v3, vs3, d3, ds3, p3, q3, rfl, rfl, rfl, h3, r3⟩ := trodAll_cons r2
 obtain ⟨v4, vs4, d4, ds4, p4, q4, rfl, rfl, rfl, h4, r4⟩ := trodAll_cons r3
 obtain ⟨v5, vs5, d5, ds5, p5, q5, rfl, rfl, rfl, h5, r5⟩ := trodAll_cons r4
 obtain ⟨rfl, rfl, rfl⟩ := trodAll_nil r5
 obtain rfl : args = #[v0, v1, v2, v3, v4, v5] := by cases args; simp_all
 obtain ⟨rfl, rfl⟩ := trodVars_none hV
 clear hA0
 obtain ⟨k, rfl, hk1, hk2⟩ := opn.octArr Tryz.underlying23 Tryz.underlying5 (by kernel_rfl) (by kernel_rfl) (hval 0 23 v0 rfl rfl) h0
 obtain ⟨ps, po, cap1, n1, rfl, hn1, hc1, hm1, hrow1, hps1, _⟩ := wr.partsArg (hval 1 24 v1 rfl rfl) h1
 obtain ⟨l2, ao2, c2, I2⟩ := opn.ints Tryz.underlying25 Tryz.underlying5 (by kernel_rfl) (hval 2 25 v2 rfl rfl) h2
 obtain rfl := I2.val
 have hcap2 := wr.intsCap Tryz.underlying25 Tryz.underlying5 (by kernel_rfl) h2
 have ho2 : st.Octs l2 := fun c hc => bounds_u8 (I2.wf c hc)
 have hP2 := wr.ptTop (hval 2 25 _ rfl rfl) I2.row I2.le hcap2 ho2
 obtain ⟨l3, rfl, hl3, ho3⟩ := opn.octArr Tryz.underlying27 Tryz.underlying5 (by kernel_rfl) (by kernel_rfl) (hval 3 27 v3 rfl rfl) h3
 obtain ⟨l4, ao4, c4, H4⟩ := shr.holdersArg (hval 4 28 v4 rfl rfl) h4
 obtain rfl := H4.val
 obtain ⟨l5, ao5, c5, H5⟩ := shr.holdersArg (hval 5 28 v5 rfl rfl) h5
 obtain rfl := H5.val
 have hg5 : l5.length ≤ 9223372036854775807 := by have h1 := H5.le; have h2 := H5.len; unfold maxLen at h2; omega
 have hlaw : Calls Tryz.prog 3 #[.agg (k.map (Value.int .u8)).toArray, .slice po n1 cap1, .slice ao2 l2.length c2, wr.idV l3, .slice ao4 l4.length c4, .slice ao5 l5.length c5] W fun e w' => e = .returned (.bool true) ∧ Below W.heap.size W w' := by
  by_cases h200 : 200 < n1
  ·exact lk.law_big k po ao2 ao4 ao5 cap1 c2 c4 c5 n1 l2.length l4.length l5.length ps l2 l3 l4 l5 W hk1 hk2 hn1 hrow1 hps1 rfl hP2 (fun h => (I2.none h).1) hl3 rfl rfl hg5 ⟨H4.row, fun s hs => (H4.ok s hs).1⟩ ⟨H5.row, fun s hs => (H5.ok s hs).1⟩ H4.ok h200
  ·exact lk.law_small k po ao2 ao4 ao5 cap1 c2 c4 c5 n1 l2.length l4.length l5.length ps l2 l3 l4 l5 W hk1 hk2 hn1 hrow1 hps1 rfl hP2 (fun h => (I2.none h).1) hl3 rfl rfl hg5 ⟨H4.row, fun s hs => (H4.ok s hs).1⟩ ⟨H5.row, fun s hs => (H5.ok s hs).1⟩ H4.ok h200
 refine (hlaw).mono fun e W' ⟨he, hg⟩ => ?_
 subst he
 exact ⟨_, rfl, post (tb := 4) laidOut hW' rfl types rfl Tryz.underlying4 rfl hg⟩
theorem lifted (os : Os) (started : os.Started) (H : Type) (enc : TypeId × Value → H) :
  ReturnsInHanded {} Tryz.checked os 3 .any (Rows.chainsMatchSpec.pre6 enc Tryz.prog Tryz.f3 Rows.chainsMatchRow.domain false) (Rows.chainsMatchSpec.post enc Tryz.prog Tryz.f3 false true false false) := by
 refine returnsInHanded_of_change (C := Tryz.checked) own started (by kernel_rfl) Tryz.func3
  (ChangeSpec.witness6 (enc := enc) (C := Tryz.checked) false ⟨#[], #[.agg #[.int .u8 0, .int .u8 0, .int .u8 0, .int .u8 0, .int .u8 0, .int .u8 0, .int .u8 0, .int .u8 0, .int .u8 0, .int .u8 0, .int .u8 0, .int .u8 0, .int .u8 0, .int .u8 0, .int .u8 0, .int .u8 0, .int .u8 0, .int .u8 0, .int .u8 0, .int .u8 0, .int .u8 0, .int .u8 0, .int .u8 0, .int .u8 0, .int .u8 0, .int .u8 0, .int .u8 0, .int .u8 0, .int .u8 0, .int .u8 0, .int .u8 0, .int .u8 0], .slice none 0 0, .slice none 0 0, .agg #[.int .u8 0, .int .u8 0, .int .u8 0, .int .u8 0, .int .u8 0, .int .u8 0, .int .u8 0, .int .u8 0, .int .u8 0, .int .u8 0, .int .u8 0, .int .u8 0, .int .u8 0, .int .u8 0, .int .u8 0, .int .u8 0], .slice none 0 0, .slice none 0 0], []⟩ 8 (by kernel_rfl) (by kernel_rfl) (by kernel_rfl) (by kernel_rfl)) ?_
 intro W base args ds gs before hval hW _ _
 exact contract H enc W base args ds gs before hval hW
theorem proved : Rows.ChainsMatchSaid :=
 OpenClaim.holds_of_wide 3 Tryz.f3 rfl rfl rfl rfl rfl rfl rfl ⟨rfl, rfl, rfl, rfl, rfl⟩ rfl rfl rfl rfl rfl (by kernel_rfl) Tryz.func3 (by kernel_rfl)
  (of_decide_eq_true (by kernel_rfl)) (by unfold Func.isWrapper; first | (rw [if_pos (by decide +kernel)]; kernel_rfl) | (rw [if_neg (by decide +kernel)]; exact ⟨rfl, rfl⟩))
  (fun os started H enc _ => lifted os started H enc)
#print axioms proved
end Go.Proofs.YtbjmadcbhkeenaaGreat.chainsMatch
