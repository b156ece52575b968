/-
  THE STATEMENT SplitsMatch: shares of a secret, and the secret by any of them, are as the law says, at every secret, need, holders, seed and picks. No condition.
-/
import Derived.Test.YtbljihhelladbaaSpG
import Derived.Test.YtbljihhelladbaaOpa
import Derived.Test.YtbljihhelladbaaLaw
namespace Go.Proofs.Ytbljihhelladbaa.splitsMatch
set_option linter.unusedSimpArgs false
set_option linter.unusedVariables false
open Go.ChangeShapes Go.WideShapes Go.ChangeAt Go.RowKit
open Go.Proofs.Ytbljihhelladbaa.law

theorem intsCap {H : Type} {enc : TypeId × Value → H} {P : Program} {W : World} {base : Nat} {held : Bool} {t e : TypeId} {k : IntKind} {ao : Option Addr} {len cap : Nat} {d : DataW H} {ps : List MemPlace}
    (ht : P.underlying t = some (.slice e)) (he : P.underlying e = some (.int k)) (hc : P.cellsOf e = 1) (hd : DataW.Trod enc P W base (fun _ => true) held t (.slice ao len cap) d ps) : cap ≤ maxLen := by
  obtain ⟨fuel, hf⟩ := hd
  rcases open_ints ht he hc hf with ⟨h1, _⟩ | ⟨ad, ln, cp, zs, h1, h2, h3, h4, _⟩
  · simp [Value.cells] at h1
    rw [h1.2.2]; decide
  · simp [Value.cells] at h1
    obtain ⟨_, _, rfl⟩ := h1
    exact h4

theorem whole (secret : List Int) (need : Int) (ao : Option Addr) (cap : Nat) (l : List (List Int)) (seed : List Int) (ap : Option Addr) (capp : Nat) (p : List Int) (w : World) (hr : shr.RowH w ao l) (hok : ∀ s ∈ l, shr.IdOk s) (hn : l.length ≤ maxLen) (hc : secret.length = 32) (hco : ∀ c ∈ secret, 0 ≤ c ∧ c ≤ 255) (hs : seed.length = 32) (hso : ∀ c ∈ seed, 0 ≤ c ∧ c ≤ 255) (hp : RowI .i64 w ap p) (hpn : p.length ≤ maxLen) (hpb : ∀ v ∈ p, -9223372036854775808 ≤ v ∧ v ≤ 9223372036854775807) :
    Calls Try.prog 9 #[.agg (secret.map (Value.int .u8)).toArray, .int .i64 need, .slice ao l.length cap, .agg (seed.map (Value.int .u8)).toArray, .slice ap p.length capp] w fun e w' => e = .returned (.bool true) ∧ Below w.heap.size w w' := by
  unfold maxLen at hn hpn
  have hso' : st.Octs seed := fun c hc => ⟨(hso c hc).1, by have := (hso c hc).2; omega⟩
  have hco' : st.Octs secret := fun c hc => ⟨(hco c hc).1, by have := (hco c hc).2; omega⟩
  by_cases hE : shr.holdE need l = 0
  · have hh : shr.headE need l = 0 := by
      unfold shr.holdE at hE
      split at hE
      · assumption
      · exact hE
    obtain ⟨m, rfl, _⟩ := shr.headE_zero hh
    exact shr.splits_ok secret m ao cap l seed ap capp p w hr hok hc hco' hs hso' hp (by omega) hpb hE
  · exact shr.splits_bad secret need ao cap l seed ap capp p w hr hok (by omega) hc hco' hs hso' hE

theorem types0 : Readable Try.prog [23, 3, 64, 23, 26] := readable_cons (by kernel_rfl) (of_decide_eq_true (by kernel_rfl)) (readable_cons (by kernel_rfl) (of_decide_eq_true (by kernel_rfl)) (readable_cons (by kernel_rfl) (of_decide_eq_true (by kernel_rfl)) (readable_cons (by kernel_rfl) (of_decide_eq_true (by kernel_rfl)) (readable_cons (by kernel_rfl) (of_decide_eq_true (by kernel_rfl)) (readable_nil)))))
theorem types : Readable Try.prog Try.f9.params.toList := by rw [Try.params9]; exact types0

set_option maxRecDepth 100000 in
theorem contract (H : Type) (enc : TypeId × Value → H) (W : World) (base : Nat) (args : Array Value) (ds gs : List (DataW H)) (before : List MemPlace)
    (hval : ∀ (j : Nat) t v, Try.f9.params[j]? = some t → args[j]? = some v → Value.okWide Try.prog W .any base t v)
    (hW : DataW.Whole enc Try.prog Try.f9.params.toList Rows.splitsMatchSpec.vars false W args.toList ds gs before) :
    Calls Try.prog 9 args W fun e W' => ∃ v, e = .returned v ∧ Rows.splitsMatchSpec.post enc Try.prog Try.f9 false true false false W args v W' := by
  have hW' := hW
  obtain ⟨p, q, hA0, hV, rfl, hfz, hnd⟩ := hW
  have hA : DataW.TrodAll enc Try.prog W 0 (fun _ => true) true Try.f9.params.toList args.toList ds p := hA0
  rw [Try.params9] at hA hval
  obtain ⟨v0, vs0, d0, ds0, p0, q0, hargs, rfl, rfl, h0, r0⟩ := trodAll_cons hA
  obtain ⟨v1, vs1, d1, ds1, p1, q1, rfl, rfl, rfl, h1, r1⟩ := trodAll_cons r0
  obtain ⟨v2, vs2, d2, ds2, p2, q2, rfl, rfl, rfl, h2, r2⟩ := trodAll_cons r1
  obtain ⟨v3, vs3, d3, ds3, p3, q3, rfl, rfl, rfl, h3, r3⟩ := trodAll_cons r2
  obtain ⟨v4, vs4, d4, ds4, p4, q4, rfl, rfl, rfl, h4, r4⟩ := trodAll_cons r3
  obtain ⟨rfl, rfl, rfl⟩ := trodAll_nil r4
  obtain rfl : args = #[v0, v1, v2, v3, v4] := by cases args; simp_all
  obtain ⟨rfl, rfl⟩ := trodVars_none hV
  clear hA0
  obtain ⟨l0, rfl, hl0, ho0⟩ := opn.octArr Try.underlying23 Try.underlying5 (by kernel_rfl) (by kernel_rfl) (hval 0 23 v0 rfl rfl) h0
  obtain ⟨a1, rfl, rfl, rfl, w1⟩ := open_int Try.underlying3 (hval 1 3 v1 rfl rfl) h1
  obtain ⟨l2, ao2, cap2, H2⟩ := shr.holdersArg (hval 2 64 v2 rfl rfl) h2
  obtain ⟨rfl, hle2, hrow2, hno2, hok2, hmx2⟩ := H2
  obtain ⟨l3, rfl, hl3, ho3⟩ := opn.octArr Try.underlying23 Try.underlying5 (by kernel_rfl) (by kernel_rfl) (hval 3 23 v3 rfl rfl) h3
  obtain ⟨l4, ao4, c4, I4⟩ := opn.ints Try.underlying26 Try.underlying3 (by kernel_rfl) (hval 4 26 v4 rfl rfl) h4
  obtain rfl := I4.val
  have hcap4 := intsCap Try.underlying26 Try.underlying3 (by kernel_rfl) h4
  refine (whole l0 a1 ao2 cap2 l2 l3 ao4 c4 l4 W hrow2 hok2 (Nat.le_trans hle2 hmx2) hl0 ho0 hl3 ho3 I4.row (Nat.le_trans I4.le hcap4) (fun n hn => bounds_i64 (I4.wf n hn))).mono fun e W' ⟨he, hg⟩ => ?_
  subst he
  exact ⟨_, rfl, post (tb := 4) laidOut hW' rfl types rfl Try.underlying4 rfl hg⟩

set_option maxRecDepth 100000 in
theorem lifted (os : Os) (started : os.Started) (H : Type) (enc : TypeId × Value → H) :
    ReturnsInHanded {} Try.checked os 9 .any (Rows.splitsMatchSpec.pre6 enc Try.prog Try.f9 Rows.splitsMatchRow.domain false) (Rows.splitsMatchSpec.post enc Try.prog Try.f9 false true false false) := by
  refine returnsInHanded_of_change (C := Try.checked) own started (by kernel_rfl) Try.func9
    (ChangeSpec.witness6 (enc := enc) (C := Try.checked) false ⟨#[], #[.agg #[.int .u8 0, .int .u8 0, .int .u8 0, .int .u8 0, .int .u8 0, .int .u8 0, .int .u8 0, .int .u8 0, .int .u8 0, .int .u8 0, .int .u8 0, .int .u8 0, .int .u8 0, .int .u8 0, .int .u8 0, .int .u8 0, .int .u8 0, .int .u8 0, .int .u8 0, .int .u8 0, .int .u8 0, .int .u8 0, .int .u8 0, .int .u8 0, .int .u8 0, .int .u8 0, .int .u8 0, .int .u8 0, .int .u8 0, .int .u8 0, .int .u8 0, .int .u8 0], .int .i64 0, .slice none 0 0, .agg #[.int .u8 0, .int .u8 0, .int .u8 0, .int .u8 0, .int .u8 0, .int .u8 0, .int .u8 0, .int .u8 0, .int .u8 0, .int .u8 0, .int .u8 0, .int .u8 0, .int .u8 0, .int .u8 0, .int .u8 0, .int .u8 0, .int .u8 0, .int .u8 0, .int .u8 0, .int .u8 0, .int .u8 0, .int .u8 0, .int .u8 0, .int .u8 0, .int .u8 0, .int .u8 0, .int .u8 0, .int .u8 0, .int .u8 0, .int .u8 0, .int .u8 0, .int .u8 0], .slice none 0 0], []⟩ 8 (by kernel_rfl) (by kernel_rfl) (by kernel_rfl) (by kernel_rfl)) ?_
  intro W base args ds gs before hval hW _ _
  exact contract H enc W base args ds gs before hval hW

theorem proved : Rows.SplitsMatchSaid :=
  OpenClaim.holds_of_wide 9 Try.f9 rfl rfl rfl rfl rfl rfl rfl ⟨rfl, rfl, rfl, rfl, rfl⟩ rfl rfl rfl rfl rfl (by kernel_rfl) Try.func9 (by kernel_rfl)
    (of_decide_eq_true (by kernel_rfl)) (by unfold Func.isWrapper; first | (rw [if_pos (by decide +kernel)]; kernel_rfl) | (rw [if_neg (by decide +kernel)]; exact ⟨rfl, rfl⟩))
    (fun os started H enc _ => lifted os started H enc)
#print axioms proved
end Go.Proofs.Ytbljihhelladbaa.splitsMatch
