/-
  THE STATEMENT SharesAreMade: shares of new holders and shares made new are as the law says, at every need, shares, holder, place and seed. No condition.
-/
import Derived.Test.YtbljihhelladbaaMdC
import Derived.Test.YtbljihhelladbaaOpa
import Derived.Test.YtbljihhelladbaaLaw
namespace Go.Proofs.Ytbljihhelladbaa.sharesAreMade
set_option linter.unusedSimpArgs false
set_option linter.unusedVariables false
open Go.ChangeShapes Go.WideShapes Go.ChangeAt Go.RowKit
open Go.Proofs.Ytbljihhelladbaa.law

theorem whole (need : Int) (ao : Option Addr) (cap : Nat) (l : List shr.Sh) (h : List Int) (x : Int) (seed : List Int) (w : World) (hr : shr.RowS w ao l) (hok : ∀ s ∈ l, s.Ok) (hcap : l.length ≤ cap) (hmax : cap ≤ maxLen) (hhl : h.length = 16) (hho : ∀ c ∈ h, 0 ≤ c ∧ c ≤ 255) (hxb : -9223372036854775808 ≤ x ∧ x ≤ 9223372036854775807) (hs : seed.length = 32) (hso : ∀ c ∈ seed, 0 ≤ c ∧ c ≤ 255) :
    Calls Try.prog 8 #[.int .i64 need, .slice ao l.length cap, .agg (h.map (Value.int .u8)).toArray, .int .i64 x, .agg (seed.map (Value.int .u8)).toArray] w fun e w' => e = .returned (.bool true) ∧ Below w.heap.size w w' := by
  have hn : l.length ≤ 9223372036854775807 := by unfold maxLen at hmax; omega
  have hso' : st.Octs seed := fun c hc => ⟨(hso c hc).1, by have := (hso c hc).2; omega⟩
  by_cases hE : shr.sharesE false need l = 0
  · obtain ⟨m, rfl, _⟩ := shr.sharesE_ok hE
    exact shr.made_ok m ao cap l h x seed w hr hok hn hcap hmax hhl hho hxb hs hso' hE
  · exact shr.made_bad need ao cap l h x seed w hr hok hn hcap hmax hhl hho hxb hs hso' hE

theorem types0 : Readable Try.prog [3, 47, 57, 3, 23] := readable_cons (by kernel_rfl) (of_decide_eq_true (by kernel_rfl)) (readable_cons (by kernel_rfl) (of_decide_eq_true (by kernel_rfl)) (readable_cons (by kernel_rfl) (of_decide_eq_true (by kernel_rfl)) (readable_cons (by kernel_rfl) (of_decide_eq_true (by kernel_rfl)) (readable_cons (by kernel_rfl) (of_decide_eq_true (by kernel_rfl)) (readable_nil)))))
theorem types : Readable Try.prog Try.f8.params.toList := by rw [Try.params8]; exact types0

set_option maxRecDepth 100000 in
theorem contract (H : Type) (enc : TypeId × Value → H) (W : World) (base : Nat) (args : Array Value) (ds gs : List (DataW H)) (before : List MemPlace)
    (hval : ∀ (j : Nat) t v, Try.f8.params[j]? = some t → args[j]? = some v → Value.okWide Try.prog W .any base t v)
    (hW : DataW.Whole enc Try.prog Try.f8.params.toList Rows.sharesAreMadeSpec.vars false W args.toList ds gs before) :
    Calls Try.prog 8 args W fun e W' => ∃ v, e = .returned v ∧ Rows.sharesAreMadeSpec.post enc Try.prog Try.f8 false true false false W args v W' := by
  have hW' := hW
  obtain ⟨p, q, hA0, hV, rfl, hfz, hnd⟩ := hW
  have hA : DataW.TrodAll enc Try.prog W 0 (fun _ => true) true Try.f8.params.toList args.toList ds p := hA0
  rw [Try.params8] at hA hval
  obtain ⟨v0, vs0, d0, ds0, p0, q0, hargs, rfl, rfl, h0, r0⟩ := trodAll_cons hA
  obtain ⟨v1, vs1, d1, ds1, p1, q1, rfl, rfl, rfl, h1, r1⟩ := trodAll_cons r0
  obtain ⟨v2, vs2, d2, ds2, p2, q2, rfl, rfl, rfl, h2, r2⟩ := trodAll_cons r1
  obtain ⟨v3, vs3, d3, ds3, p3, q3, rfl, rfl, rfl, h3, r3⟩ := trodAll_cons r2
  obtain ⟨v4, vs4, d4, ds4, p4, q4, rfl, rfl, rfl, h4, r4⟩ := trodAll_cons r3
  obtain ⟨rfl, rfl, rfl⟩ := trodAll_nil r4
  obtain rfl : args = #[v0, v1, v2, v3, v4] := by cases args; simp_all
  obtain ⟨rfl, rfl⟩ := trodVars_none hV
  clear hA0
  obtain ⟨a0, rfl, rfl, rfl, w0⟩ := open_int Try.underlying3 (hval 0 3 v0 rfl rfl) h0
  obtain ⟨l1, ao1, cap1, H1⟩ := shr.shares (hval 1 47 v1 rfl rfl) h1
  obtain ⟨rfl, hle1, hrow1, hno1, hok1, hmx1⟩ := H1
  obtain ⟨l2, rfl, hl2, ho2⟩ := opn.octArr Try.underlying57 Try.underlying5 (by kernel_rfl) (by kernel_rfl) (hval 2 57 v2 rfl rfl) h2
  obtain ⟨a3, rfl, rfl, rfl, w3⟩ := open_int Try.underlying3 (hval 3 3 v3 rfl rfl) h3
  obtain ⟨l4, rfl, hl4, ho4⟩ := opn.octArr Try.underlying23 Try.underlying5 (by kernel_rfl) (by kernel_rfl) (hval 4 23 v4 rfl rfl) h4
  refine (whole a0 ao1 cap1 l1 l2 a3 l4 W hrow1 hok1 hle1 hmx1 hl2 ho2 (bounds_i64 w3) hl4 ho4).mono fun e W' ⟨he, hg⟩ => ?_
  subst he
  exact ⟨_, rfl, post (tb := 4) laidOut hW' rfl types rfl Try.underlying4 rfl hg⟩

set_option maxRecDepth 100000 in
theorem lifted (os : Os) (started : os.Started) (H : Type) (enc : TypeId × Value → H) :
    ReturnsInHanded {} Try.checked os 8 .any (Rows.sharesAreMadeSpec.pre6 enc Try.prog Try.f8 Rows.sharesAreMadeRow.domain false) (Rows.sharesAreMadeSpec.post enc Try.prog Try.f8 false true false false) := by
  refine returnsInHanded_of_change (C := Try.checked) own started (by kernel_rfl) Try.func8
    (ChangeSpec.witness6 (enc := enc) (C := Try.checked) false ⟨#[], #[.int .i64 0, .slice none 0 0, .agg #[.int .u8 0, .int .u8 0, .int .u8 0, .int .u8 0, .int .u8 0, .int .u8 0, .int .u8 0, .int .u8 0, .int .u8 0, .int .u8 0, .int .u8 0, .int .u8 0, .int .u8 0, .int .u8 0, .int .u8 0, .int .u8 0], .int .i64 0, .agg #[.int .u8 0, .int .u8 0, .int .u8 0, .int .u8 0, .int .u8 0, .int .u8 0, .int .u8 0, .int .u8 0, .int .u8 0, .int .u8 0, .int .u8 0, .int .u8 0, .int .u8 0, .int .u8 0, .int .u8 0, .int .u8 0, .int .u8 0, .int .u8 0, .int .u8 0, .int .u8 0, .int .u8 0, .int .u8 0, .int .u8 0, .int .u8 0, .int .u8 0, .int .u8 0, .int .u8 0, .int .u8 0, .int .u8 0, .int .u8 0, .int .u8 0, .int .u8 0]], []⟩ 8 (by kernel_rfl) (by kernel_rfl) (by kernel_rfl) (by kernel_rfl)) ?_
  intro W base args ds gs before hval hW _ _
  exact contract H enc W base args ds gs before hval hW

theorem proved : Rows.SharesAreMadeSaid :=
  OpenClaim.holds_of_wide 8 Try.f8 rfl rfl rfl rfl rfl rfl rfl ⟨rfl, rfl, rfl, rfl, rfl⟩ rfl rfl rfl rfl rfl (by kernel_rfl) Try.func8 (by kernel_rfl)
    (of_decide_eq_true (by kernel_rfl)) (by unfold Func.isWrapper; first | (rw [if_pos (by decide +kernel)]; kernel_rfl) | (rw [if_neg (by decide +kernel)]; exact ⟨rfl, rfl⟩))
    (fun os started H enc _ => lifted os started H enc)
#print axioms proved
end Go.Proofs.Ytbljihhelladbaa.sharesAreMade
