/-
  The law SharesMatch, walked: it returns true. Conditions: shares of the type's form, a secret of octets.
-/
import Derived.Test.YtbljihhelladbaaShR
namespace Go.Proofs.Ytbljihhelladbaa.shr
set_option linter.unusedVariables false
open Go.RowKit Go.Proofs.Ytbljihhelladbaa.sh Go.Proofs.Ytbljihhelladbaa.Fld
set_option linter.unusedSimpArgs false
set_option linter.unusedSectionVars false
set_option pp.maxSteps 6000

theorem wl_build0G {P : Program} {w : World} {ops : Array Oper} {rest : List Oper} {o : Oper} {a : Act} {Q : Exit → Act → World → Prop} (hgd : Region.wanted o (yielded ops a.tmps) = true) (t : TypeId) (ho : o.op = .build t #[])
    (cs : List Value) (hb : P.built t [] = some cs.toArray) (h : wpList P ops Q rest (a.put o.dst (.agg cs.toArray)) w) : wpList P ops Q (o :: rest) a w := by
  refine wpList_step fun K hK' => ?_
  rw [if_pos hgd]
  have hb' : P.built t (((#[] : Array (Nat × Operand)).map fun (i, x) => (i, a.eval x)).toList) = some cs.toArray := by simpa using hb
  refine wp_build (P := P) t #[] ho (by rw [hb']; rfl) ?_
  rw [hb']
  exact hK' _ _ h

/-- a load under a guard, told by its slot -/
theorem wl_loadD {P : Program} {w : World} {ops : Array Oper} {rest : List Oper} {o : Oper} {a : Act} {Q : Exit → Act → World → Prop} (d : Nat) (hd : o.dst = some d) (hgd : Region.wanted o (yielded ops a.tmps) = true) (ty : TypeId) (x : Operand) (ho : o.op = .load ty x)
    (p : Addr) (hx : a.eval x = .pointer (some p)) (n : Nat) (cs : List Value) (hn : cs.length = n) (ha : Agg P ty n) (hc : At w p cs) (h : wpList P ops Q rest (a.put o.dst (.agg cs.toArray)) w) : wpList P ops Q (o :: rest) a w :=
  wl_loadG hgd ty x ho p hx n cs hn ha hc h

/-- an operation under a guard that does not hold -/
theorem wl_skip {P : Program} {w : World} {ops : Array Oper} {rest : List Oper} {o : Oper} {a : Act} {Q : Exit → Act → World → Prop} (d : Nat) (hd : o.dst = some d) (hgd : Region.wanted o (yielded ops a.tmps) = false) (h : wpList P ops Q rest (a.put (some d) undef) w) : wpList P ops Q (o :: rest) a w := by
  refine wpList_step fun K hK' => ?_
  rw [if_neg (by rw [hgd]; decide), hd]
  exact hK' _ _ h
/-- two arrays held against each other, told by its slot -/
theorem wl_neqD {P : Program} {w : World} {ops : Array Oper} {rest : List Oper} {o : Oper} {a : Act} {Q : Exit → Act → World → Prop} (d : Nat) (hd : o.dst = some d) (hgd : Region.wanted o (yielded ops a.tmps) = true) (ty ty2 : TypeId) (x y : Operand) (ho : o.op = .binOp .neq ty x y ty2)
    (A B : Array Value) (hx : a.eval x = .agg A) (hy : a.eval y = .agg B) (b : Bool) (he : (Op.equalIn 10000 ty (.agg A) (.agg B)).run P w = .ok b w) (hm : P.eqGuardType P.depth ty = false) (r : Bool) (hr : r = !b) (h : wpList P ops Q rest (a.put o.dst (.bool r)) w) : wpList P ops Q (o :: rest) a w := by
  subst hr
  refine wpList_step fun K hK' => ?_
  rw [if_pos hgd]
  unfold Oper.wp
  simp [execOp, ho, hx, hy, run_eqGuard_agg, run_neq_struct, hm, he, Result.andThen]
  exact hK' _ _ h

section
variable {need : Int} {ao : Option Addr} {cap : Nat} {l : List Sh} {w : World} (hr : RowS w ao l) (hok : ∀ s ∈ l, s.Ok) (hn : l.length ≤ 9223372036854775807) (hcap : l.length ≤ cap) (hmax : cap ≤ maxLen)
include hr hok hn hcap hmax
theorem SharesError_v (few : Bool) (E : Int) (h : Hid (E = sharesE few need l)) : Calls Try.prog 30 #[.int .i64 need, .slice ao l.length cap, .bool few] w fun e w' => e = .returned (.int .i64 E) ∧ Below w.heap.size w w' := by
  rw [h.out]; exact SharesError_any few need ao cap l w hr hok hn hcap
theorem CheckShares_v (E : Int) (h : Hid (E = sharesE false need l)) : Calls Try.prog 34 #[.int .i64 need, .slice ao l.length cap] w fun e w' => e = .returned (.int .i64 E) ∧ Below w.heap.size w w' := by
  rw [h.out]; exact CheckShares_any need ao cap l w hr hok hn
theorem Combine_v (CK : List Value) (CE : Int) (h : Hid (CK = (combineK need l).map (Value.int .u8))) (k : Hid (CE = combineE need l)) : Calls Try.prog 31 #[.int .i64 need, .slice ao l.length cap] w fun e w' => e = .returned (.tuple #[.agg CK.toArray, .int .i64 CE]) ∧ Below w.heap.size w w' := by
  rw [h.out, k.out]; exact Combine_any need ao cap l w hr hok hn hcap hmax
theorem Agree_v (AB : Bool) (E : Int) (h : Hid (AB = agreeR need l)) (k : Hid (E = sharesE false need l)) : Calls Try.prog 32 #[.int .i64 need, .slice ao l.length cap] w fun e w' => e = .returned (.tuple #[.bool AB, .int .i64 E]) ∧ Below w.heap.size w w' := by
  rw [h.out, k.out]; exact Agree_any need ao cap l w hr hok hn hcap hmax
theorem Fit_v (hno : ao = none → cap = 0) (s : List Int) (hsl : s.length = 32) (hso : ∀ c ∈ s, 0 ≤ c ∧ c ≤ 255) (KV : List Value) (FB : Bool) (E2 : Int) (hk : Hid (KV = s.map (Value.int .u8))) (h : Hid (FB = fitR need l s)) (k : Hid (E2 = sharesE true need l)) : Calls Try.prog 33 #[.int .i64 need, .slice ao l.length cap, .agg KV.toArray] w fun e w' => e = .returned (.tuple #[.bool FB, .int .i64 E2]) ∧ Below w.heap.size w w' := by
  rw [h.out, k.out, hk.out]; exact Fit_any need ao cap l s w hr hok hn hcap hmax hno hsl hso
end
theorem SecretOf_v (ao : Option Addr) (cap n : Nat) (l : List Sh) (w : World) (hn' : n = l.length) (hr : RowS w ao l) (hok : ∀ s ∈ l, s.Ok) (hg : Good l) (hn : l.length ≤ 64) (KL : List Value) (b : Bool) (h : Hid (KL = (secretOf l).map (Value.int .u8))) (k : Hid ((!faultAt0 l) = b)) :
    Calls Try.prog 35 #[.slice ao n cap] w fun e w' => e = .returned (.tuple #[.agg KL.toArray, .bool b]) ∧ Below w.heap.size w w' := by
  rw [h.out, ← k.out]; exact SecretOf_any ao cap n l w hn' hr hok hg hn
theorem FitOf_v (m : Nat) (ao : Option Addr) (cap : Nat) (l : List Sh) (s : List Int) (w : World) (hr : RowS w ao l) (hok : ∀ s ∈ l, s.Ok) (hn : l.length ≤ 32) (hm1 : 1 ≤ m) (hm32 : m ≤ 32) (hea : eachE l = 0) (hsl : s.length = 32) (hso : ∀ c ∈ s, 0 ≤ c ∧ c ≤ 255) (KV : List Value) (FB : Bool) (hk : Hid (KV = s.map (Value.int .u8))) (h : Hid (FB = agreeB (sec s :: l) m)) :
    Calls Try.prog 37 #[.int .i64 m, .slice ao l.length cap, .agg KV.toArray] w fun e w' => e = .returned (.bool FB) ∧ Below w.heap.size w w' := by
  rw [h.out, hk.out]; exact FitOf_any m ao cap l s w hr hok hn hm1 hm32 (good_sec s hso l hok hea) (fun t ht => x_of_each hea t ht) hsl hso

theorem combineK_length (need : Int) (l : List Sh) : (combineK need l).length = 32 := by
  unfold combineK
  split
  · exact secretOf_length _
  · simp
theorem eq_key (xs ys : List Int) (hx : xs.length = 32) (hy : ys.length = 32) (w : World) : (Op.equalIn 10000 23 (.agg (xs.map (Value.int .u8)).toArray) (.agg (ys.map (Value.int .u8)).toArray)).run Try.prog w = .ok (xs == ys) w :=
  run_equalIn_ints (P := Try.prog) w 9998 23 5 32 .u8 Try.underlying23 Try.underlying5 (fun w => by kernel_rfl) xs ys hx hy

theorem both_zero {need : Int} {l : List Sh} (h : sharesE false need l = 0) : sharesE true need l = 0 := by
  obtain ⟨m, rfl, h1, h2, h3, h4⟩ := sharesE_ok h
  unfold sharesE
  rw [if_neg (by simp [inB] <;> omega), if_neg (by simp), if_neg (by omega), h4]

set_option maxRecDepth 100000 in
set_option maxHeartbeats 8000000 in
theorem law_bad (need : Int) (ao : Option Addr) (cap : Nat) (l : List Sh) (s : List Int) (w : World) (hr : RowS w ao l) (hok : ∀ s ∈ l, s.Ok) (hn : l.length ≤ 9223372036854775807) (hcap : l.length ≤ cap) (hmax : cap ≤ maxLen) (hno : ao = none → cap = 0) (hsl : s.length = 32) (hso : ∀ c ∈ s, 0 ≤ c ∧ c ≤ 255) (hE : sharesE false need l ≠ 0) :
    Calls Try.prog 5 #[.int .i64 need, .slice ao l.length cap, .agg (s.map (Value.int .u8)).toArray] w fun e w' => e = .returned (.bool true) ∧ Below w.heap.size w w' := by
  have HOK := hid hok
  have HSO := hid hso
  clear hok hso
  obtain ⟨KV, HKV⟩ : ∃ K, Hid (K = s.map (Value.int .u8)) := ⟨_, rfl⟩
  have HKL : Hid (KV.length = 32) := by show _ = _; rw [HKV.out, List.length_map]; exact hsl
  rw [← HKV.out]
  obtain ⟨CK, HCK⟩ : ∃ K, Hid (K = (combineK need l).map (Value.int .u8)) := ⟨_, rfl⟩
  have HCL : Hid (CK.length = 32) := by
    show _ = _
    rw [HCK.out, List.length_map, combineK_length]
  have hC1 : ∀ u ∈ CK, u.oneCell' = true := by rw [HCK.out]; exact ints_one _ _
  obtain ⟨CE, HCE⟩ : ∃ E, Hid (E = combineE need l) := ⟨_, rfl⟩
  obtain ⟨AB, HAB⟩ : ∃ E, Hid (E = agreeR need l) := ⟨_, rfl⟩
  obtain ⟨FB, HFB⟩ : ∃ E, Hid (E = fitR need l s) := ⟨_, rfl⟩
  obtain ⟨E, HE⟩ : ∃ E, Hid (E = sharesE false need l) := ⟨_, rfl⟩
  obtain ⟨E2, HE2⟩ : ∃ E, Hid (E = sharesE true need l) := ⟨_, rfl⟩
  obtain ⟨Z, HZ⟩ : ∃ Z, Hid (Z = zero32) := ⟨_, rfl⟩
  have HZ0 := hid zeroKey
  rw [← HZ.out] at HZ0
  have HZL : Hid (Z.length = 32) := by rw [HZ.out]; rfl
  have HBU : Hid ((Try.prog.built 23 []) = some Z.toArray) := by rw [HZ.out]; exact (by kernel_rfl : (Try.prog.built 23 []) = some zero32.toArray)
  have hb0 : Below w.heap.size w (w.alloc (.cells KV.toArray 23)) := (Below.refl _ _).alloc (Nat.le_refl _) _
  have hK0 : BlkV 23 (w.alloc (.cells KV.toArray 23)) w.heap.size KV := BlkV.new _ _ _ rfl
  have hr0 := hr.below hb0
  have hEn : E ≠ 0 := by rw [HE.out]; exact hE
  have hEb : (E != 0) = true := by simp [hEn]
  have HENE := hid hEn
  have hAB : AB = false := by rw [HAB.out]; unfold agreeR; rw [if_neg hE]
  have hCE : E = CE := by rw [HCE.out, HE.out]; unfold combineE; rw [if_neg hE]
  have hCK : CK = Z := by rw [HCK.out, HZ.out]; unfold combineK; rw [if_neg hE]; rfl
  subst hAB hCE hCK
  have hqz : ∀ w, (Op.equalIn 10000 23 (.agg CK.toArray) (.agg CK.toArray)).run Try.prog w = .ok true w := fun w => by rw [HZ.out]; exact eq_key (List.replicate 32 0) (List.replicate 32 0) rfl rfl w
  clear hEn hE
  by_cases hE2 : E2 = 0
  · obtain ⟨m, rfl, hm1, hm32, hl32, hea⟩ := sharesT_ok (by rw [← HE2.out]; exact hE2)
    have hE2b : (E2 != 0) = false := by simp [hE2]
    have hE2c : (E2 == 0) = true := by simp [hE2]
    have HFB2 : Hid (FB = agreeB (sec s :: l) m) := by
      show _ = _
      rw [HFB.out]; unfold fitR
      rw [← HE2.out, if_pos hE2, Int.toNat_natCast]
    have HEA := hid hea
    clear hE2 hea
    go_enter Try.func5, Try.ntmps5
    go_wp2_with (first | (go_at_call 30; refine (SharesError_v hr6 HOK.out hn hcap hmax true _ HE2).mono ?_; rintro e w7 ⟨rfl, hb7⟩; have hr7 := hr6.below hb7; have hK7 := hK6.below hb7 hK6.lt; have hbw7 := hbw6.trans (hb7.mono hbw6.size)) | (refine wl_loadG (by rfl) 23 _ rfl ⟨w.heap.size, 0, none⟩ rfl 32 KV HKL.out aggKey hK7.at0 ?_) | (go_at_call 30; refine (SharesError_v hr0 HOK.out hn hcap hmax false _ HE).mono ?_; rintro e w1 ⟨rfl, hb1⟩; have hr1 := hr0.below hb1; have hK1 := hK0.below hb1 hK0.lt; have hbw1 := hb0.trans (hb1.mono hb0.size)) | (go_at_call 31; refine (Combine_v hr1 HOK.out hn hcap hmax _ _ HCK HCE).mono ?_; rintro e w2 ⟨rfl, hb2⟩; have hr2 := hr1.below hb2; have hK2 := hK1.below hb2 hK1.lt; have hbw2 := hbw1.trans (hb2.mono hbw1.size)) | (refine wl_allocV rfl 23 rfl _ HZ0.out w2.heap.size rfl ?_; intro wA hA hbA hsA) | (refine wl_storeV rfl 23 _ _ rfl 23 w2.heap.size rfl CK rfl 32 aggKey HCL.out _ hA HZL.out hC1 ?_; intro wS hS hbS hsS; have hb2S : Below w2.heap.size w2 wS := hbA.trans hbS; have hrS := hr2.below hb2S; have hKS := hK2.below hb2S hK2.lt; have hbwS := hbw2.trans (hb2S.mono hbw2.size)) | (go_at_call 32; refine (Agree_v hrS HOK.out hn hcap hmax _ _ HAB HE).mono ?_; rintro e w3 ⟨rfl, hb3⟩; have hr3 := hrS.below hb3; have hK3 := hKS.below hb3 hKS.lt; have hS3 := hS.below hb3 hS.lt; have hbw3 := hbwS.trans (hb3.mono hbwS.size)) | (refine wl_loadG (by rfl) 23 _ rfl ⟨w.heap.size, 0, none⟩ rfl 32 KV HKL.out aggKey hK3.at0 ?_) | (go_at_call 33; refine (Fit_v hr3 HOK.out hn hcap hmax hno s hsl HSO.out _ _ _ HKV HFB HE2).mono ?_; rintro e w4 ⟨rfl, hb4⟩; have hr4 := hr3.below hb4; have hK4 := hK3.below hb4 hK3.lt; have hS4 := hS3.below hb4 hS3.lt; have hbw4 := hbw3.trans (hb4.mono hbw3.size)) | (go_at_call 17; refine (shares_any _).mono ?_; rintro e w5 ⟨rfl, hb5⟩; have hr5 := hr4.below hb5; have hK5 := hK4.below hb5 hK4.lt; have hS5 := hS4.below hb5 hS4.lt; have hbw5 := hbw4.trans (hb5.mono hbw4.size)) | (go_at_call 34; refine (CheckShares_v hr5 HOK.out hn hcap hmax _ HE).mono ?_; rintro e w6 ⟨rfl, hb6⟩; have hr6 := hr5.below hb6; have hK6 := hK5.below hb6 hK5.lt; have hS6 := hS5.below hb6 hS5.lt; have hbw6 := hbw5.trans (hb6.mono hbw5.size)) | (refine wl_loadG (by rfl) 23 _ rfl ⟨w2.heap.size, 0, none⟩ rfl 32 CK HCL.out aggKey hS6.at0 ?_) | (refine wl_build0 rfl 23 rfl CK HBU.out ?_) | (go_at_call 37; refine (FitOf_v m _ _ l s _ hr7 HOK.out hl32 hm1 hm32 HEA.out hsl HSO.out _ _ HKV HFB2).mono ?_; rintro e w8 ⟨rfl, hb8⟩; have hbw8 := hbw7.trans (hb8.mono hbw7.size)))
    go_ret
    exact ⟨rv (rb (by simp)), hbw8⟩
  · have hE2b : (E2 != 0) = true := by simp [hE2]
    have hFB : FB = false := by rw [HFB.out]; unfold fitR; rw [if_neg (by rw [← HE2.out]; exact hE2)]
    subst hFB
    clear hE2
    go_enter Try.func5, Try.ntmps5
    go_wp2_with (first | (go_at_call 30; refine (SharesError_v hr6 HOK.out hn hcap hmax true _ HE2).mono ?_; rintro e w7 ⟨rfl, hb7⟩; have hr7 := hr6.below hb7; have hK7 := hK6.below hb7 hK6.lt; have hbw7 := hbw6.trans (hb7.mono hbw6.size)) | (refine wl_loadG (by rfl) 23 _ rfl ⟨w.heap.size, 0, none⟩ rfl 32 KV HKL.out aggKey hK7.at0 ?_) | (go_at_call 30; refine (SharesError_v hr0 HOK.out hn hcap hmax false _ HE).mono ?_; rintro e w1 ⟨rfl, hb1⟩; have hr1 := hr0.below hb1; have hK1 := hK0.below hb1 hK0.lt; have hbw1 := hb0.trans (hb1.mono hb0.size)) | (go_at_call 31; refine (Combine_v hr1 HOK.out hn hcap hmax _ _ HCK HCE).mono ?_; rintro e w2 ⟨rfl, hb2⟩; have hr2 := hr1.below hb2; have hK2 := hK1.below hb2 hK1.lt; have hbw2 := hbw1.trans (hb2.mono hbw1.size)) | (refine wl_allocV rfl 23 rfl _ HZ0.out w2.heap.size rfl ?_; intro wA hA hbA hsA) | (refine wl_storeV rfl 23 _ _ rfl 23 w2.heap.size rfl CK rfl 32 aggKey HCL.out _ hA HZL.out hC1 ?_; intro wS hS hbS hsS; have hb2S : Below w2.heap.size w2 wS := hbA.trans hbS; have hrS := hr2.below hb2S; have hKS := hK2.below hb2S hK2.lt; have hbwS := hbw2.trans (hb2S.mono hbw2.size)) | (go_at_call 32; refine (Agree_v hrS HOK.out hn hcap hmax _ _ HAB HE).mono ?_; rintro e w3 ⟨rfl, hb3⟩; have hr3 := hrS.below hb3; have hK3 := hKS.below hb3 hKS.lt; have hS3 := hS.below hb3 hS.lt; have hbw3 := hbwS.trans (hb3.mono hbwS.size)) | (refine wl_loadG (by rfl) 23 _ rfl ⟨w.heap.size, 0, none⟩ rfl 32 KV HKL.out aggKey hK3.at0 ?_) | (go_at_call 33; refine (Fit_v hr3 HOK.out hn hcap hmax hno s hsl HSO.out _ _ _ HKV HFB HE2).mono ?_; rintro e w4 ⟨rfl, hb4⟩; have hr4 := hr3.below hb4; have hK4 := hK3.below hb4 hK3.lt; have hS4 := hS3.below hb4 hS3.lt; have hbw4 := hbw3.trans (hb4.mono hbw3.size)) | (go_at_call 17; refine (shares_any _).mono ?_; rintro e w5 ⟨rfl, hb5⟩; have hr5 := hr4.below hb5; have hK5 := hK4.below hb5 hK4.lt; have hS5 := hS4.below hb5 hS4.lt; have hbw5 := hbw4.trans (hb5.mono hbw4.size)) | (go_at_call 34; refine (CheckShares_v hr5 HOK.out hn hcap hmax _ HE).mono ?_; rintro e w6 ⟨rfl, hb6⟩; have hr6 := hr5.below hb6; have hK6 := hK5.below hb6 hK5.lt; have hS6 := hS5.below hb6 hS5.lt; have hbw6 := hbw5.trans (hb6.mono hbw5.size)) | (refine wl_loadG (by rfl) 23 _ rfl ⟨w2.heap.size, 0, none⟩ rfl 32 CK HCL.out aggKey hS6.at0 ?_) | (refine wl_build0 rfl 23 rfl CK HBU.out ?_))
    go_ret
    exact ⟨rv (rb (by simp)), hbw7⟩
end Go.Proofs.Ytbljihhelladbaa.shr
