/-
  The law SharesMatch, walked for good shares; and whole. Conditions: shares of the type's form, a secret of octets.
-/
import Derived.Test.YtbljihhelladbaaSmA
import Derived.Maps.RangeWalk
namespace Go.Proofs.Ytbljihhelladbaa.shr
set_option linter.unusedVariables false
open Go.RowKit Go.Proofs.Ytbljihhelladbaa.sh Go.Proofs.Ytbljihhelladbaa.Fld
set_option linter.unusedSimpArgs false
set_option pp.maxSteps 6000

theorem Lies_v (ao : Option Addr) (cap n : Nat) (l : List Sh) (s : Sh) (w : World) (hn' : n = l.length) (hr : RowS w ao l) (hok : ∀ s ∈ l, s.Ok) (hg : Good l) (hn : l.length ≤ 64) (hs : s.Ok) (hx : 0 ≤ s.x ∧ s.x ≤ 256) (S : List Value) (b : Bool) (h : Hid (S = s.cs)) (k : Hid (b = liesB l s)) :
    Calls Try.prog 36 #[.slice ao n cap, .agg S.toArray] w fun e w' => e = .returned (.bool b) ∧ Below w.heap.size w w' := by
  rw [h.out, k.out]; exact Lies_any ao cap n l s w hn' hr hok hg hn hs hx

theorem all_take_succ (l : List Sh) (p : Sh → Bool) (k : Nat) (hk : k < l.length) : (l.take (k + 1)).all p = ((l.take k).all p && p (l.getD k nil)) := by
  rw [List.take_succ_eq_append_getElem hk, List.all_append, getD_lt' l nil hk]; simp

set_option maxRecDepth 100000 in
set_option maxHeartbeats 8000000 in
theorem law_good (need : Int) (ao : Option Addr) (cap : Nat) (l : List Sh) (s : List Int) (w : World) (hr : RowS w ao l) (hok : ∀ s ∈ l, s.Ok) (hn : l.length ≤ 9223372036854775807) (hcap : l.length ≤ cap) (hmax : cap ≤ maxLen) (hno : ao = none → cap = 0) (hsl : s.length = 32) (hso : ∀ c ∈ s, 0 ≤ c ∧ c ≤ 255) (rb_ : Bool) (m : Nat) (hneed : need = (m : Int)) (hm1 : 1 ≤ m) (hml : m ≤ l.length) (hl32 : l.length ≤ 32) (hea : eachE l = 0) (hE : sharesE false need l = 0) (hrb : (!faultAt0 (l.take m)) = rb_) :
    Calls Try.prog 5 #[.int .i64 need, .slice ao l.length cap, .agg (s.map (Value.int .u8)).toArray] w fun e w' => e = .returned (.bool true) ∧ Below w.heap.size w w' := by
  subst hneed
  have HOK := hid hok
  have HSO := hid hso
  clear hok hso
  obtain ⟨KV, HKV⟩ : ∃ K, Hid (K = s.map (Value.int .u8)) := ⟨_, rfl⟩
  have HKL : Hid (KV.length = 32) := by show _ = _; rw [HKV.out, List.length_map]; exact hsl
  rw [← HKV.out]
  obtain ⟨CK, HCK⟩ : ∃ K, Hid (K = (combineK (m : Int) l).map (Value.int .u8)) := ⟨_, rfl⟩
  have HCL : Hid (CK.length = 32) := by
    show _ = _
    rw [HCK.out, List.length_map, combineK_length]
  have hC1 : ∀ u ∈ CK, u.oneCell' = true := by rw [HCK.out]; exact ints_one _ _
  obtain ⟨CE, HCE⟩ : ∃ E, Hid (E = combineE (m : Int) l) := ⟨_, rfl⟩
  obtain ⟨AB, HAB⟩ : ∃ E, Hid (E = agreeR (m : Int) l) := ⟨_, rfl⟩
  obtain ⟨FB, HFB⟩ : ∃ E, Hid (E = fitR (m : Int) l s) := ⟨_, rfl⟩
  obtain ⟨E, HE⟩ : ∃ E, Hid (E = sharesE false (m : Int) l) := ⟨_, rfl⟩
  obtain ⟨E2, HE2⟩ : ∃ E, Hid (E = sharesE true (m : Int) l) := ⟨_, rfl⟩
  obtain ⟨Z, HZ⟩ : ∃ Z, Hid (Z = zero32) := ⟨_, rfl⟩
  have HZ0 := hid zeroKey
  rw [← HZ.out] at HZ0
  have HZL : Hid (Z.length = 32) := by rw [HZ.out]; rfl
  have HBU : Hid ((Try.prog.built 23 []) = some Z.toArray) := by rw [HZ.out]; exact (by kernel_rfl : (Try.prog.built 23 []) = some zero32.toArray)
  have hb0 : Below w.heap.size w (w.alloc (.cells KV.toArray 23)) := (Below.refl _ _).alloc (Nat.le_refl _) _
  have hK0 : BlkV 23 (w.alloc (.cells KV.toArray 23)) w.heap.size KV := BlkV.new _ _ _ rfl
  have hr0 := hr.below hb0
  have hmn : ((m : Int)).toNat = m := Int.toNat_natCast m
  have hE0 : E = 0 := by rw [HE.out]; exact hE
  have hE20 : E2 = 0 := by rw [HE2.out]; exact both_zero hE
  have hAB : Hid (AB = agreeB l m) := by show _ = _; rw [HAB.out]; unfold agreeR; rw [if_pos hE, hmn]
  have HKC : Hid (CK = (secretOf (l.take m)).map (Value.int .u8)) := by show _ = _; rw [HCK.out]; unfold combineK; rw [if_pos hE, hmn]
  have hCE : CE = secretE (l.take m) := by rw [HCE.out]; unfold combineE; rw [if_pos hE, hmn]
  have HFB2 : Hid (FB = agreeB (sec s :: l) m) := by show _ = _; rw [HFB.out]; unfold fitR; rw [both_zero hE, if_pos rfl, hmn]
  have hg := good_of l HOK.out hea
  have hgt := hg.take m
  have HEA := hid hea
  have HRB := hid hrb
  subst hE0 hE20
  have hqc : ∀ w, (Op.equalIn 10000 23 (.agg CK.toArray) (.agg CK.toArray)).run Try.prog w = .ok true w := fun w => by
    rw [HKC.out, eq_key _ _ (secretOf_length _) (secretOf_length _) w]; simp
  have hmlI : (m : Int) ≤ (l.length : Int) := by omega
  have hm0 : (0 : Int) ≤ (m : Int) := by omega
  have hmcap : m ≤ cap := by omega
  have hmcI : (m : Int) ≤ (cap : Int) := by omega
  obtain ⟨b, off, rfl, _⟩ := hr.at (i := 0) (by omega)
  have htl : (l.take m).length = m := by rw [List.length_take]; omega
  have HTL := hid htl
  have HML := hid hml
  have hokt : ∀ t ∈ l.take m, t.Ok := fun t ht => HOK.out t (List.mem_of_mem_take ht)
  have HOKT := hid hokt
  clear hE hea hrb hmn htl hokt
  cases rb_
  · have hfa : faultAt0 (l.take m) = true := by have := HRB.out; simpa using this
    have hCE2 : CE = 20 := by rw [hCE]; unfold secretE; rw [if_pos hfa]
    have hCZ : CK = Z := by rw [HKC.out, HZ.out]; unfold secretOf; rw [if_pos hfa]; rfl
    subst hCE2 hCZ
    clear hCE hfa
    by_cases hlm : m < l.length
    · have hlm2 : ¬ cap = m := by omega
      have hROWS : ∀ w', Below w.heap.size w w' → RowS w' (some ⟨b, off + m * 49, none⟩) (l.drop m) := fun w' h => (hr.below h).drop m hlm
      go_enter Try.func5, Try.ntmps5
      go_wp2_with fail
      refine (SharesError_v hr0 HOK.out hn hcap hmax false _ HE).mono ?_
      rintro e w1 ⟨rfl, hb1⟩
      have hr1 := hr0.below hb1
      have hK1 := hK0.below hb1 hK0.lt
      have hbw1 := hb0.trans (hb1.mono hb0.size)
      clear hr0 hK0 hb0
      go_wp2_with fail
      refine (Combine_v hr1 HOK.out hn hcap hmax _ _ HCK HCE).mono ?_
      rintro e w2 ⟨rfl, hb2⟩
      have hr2 := hr1.below hb2
      have hK2 := hK1.below hb2 hK1.lt
      have hbw2 := hbw1.trans (hb2.mono hbw1.size)
      clear hr1 hK1 hbw1
      obtain ⟨N2, HN2⟩ : ∃ N, Hid (w2.heap.size = N) := ⟨_, rfl⟩
      go_wp2_with (first | (refine wl_allocV rfl 23 rfl _ HZ0.out N2 HN2.out ?_; intro wA hA hbA hsA) | (refine wl_storeV rfl 23 _ _ rfl 23 N2 rfl CK rfl 32 aggKey HCL.out _ hA HZL.out hC1 ?_; intro wS hS hbS hsS))
      have hb2S : Below w2.heap.size w2 wS := by rw [HN2.out]; exact hbA.trans hbS
      have hrS := hr2.below hb2S
      have hKS := hK2.below hb2S hK2.lt
      have hbwS := hbw2.trans (hb2S.mono hbw2.size)
      clear hr2 hK2 hbw2 hA hbA hsA hbS hsS hb2S
      refine (Agree_v hrS HOK.out hn hcap hmax _ _ HAB HE).mono ?_
      rintro e w3 ⟨rfl, hb3⟩
      have hr3 := hrS.below hb3
      have hK3 := hKS.below hb3 hKS.lt
      have hS3 := hS.below hb3 hS.lt
      have hbw3 := hbwS.trans (hb3.mono hbwS.size)
      clear hrS hKS hS hbwS
      go_wp2_with (refine wl_loadG (by rfl) 23 _ rfl ⟨w.heap.size, 0, none⟩ rfl 32 KV HKL.out aggKey hK3.at0 ?_)
      refine (Fit_v hr3 HOK.out hn hcap hmax hno s hsl HSO.out _ _ _ HKV HFB HE2).mono ?_
      rintro e w4 ⟨rfl, hb4⟩
      have hr4 := hr3.below hb4
      have hK4 := hK3.below hb4 hK3.lt
      have hS4 := hS3.below hb4 hS3.lt
      have hbw4 := hbw3.trans (hb4.mono hbw3.size)
      clear hr3 hK3 hS3 hbw3
      go_wp2_with fail
      refine (shares_any _).mono ?_
      rintro e w5 ⟨rfl, hb5⟩
      have hr5 := hr4.below hb5
      have hK5 := hK4.below hb5 hK4.lt
      have hS5 := hS4.below hb5 hS4.lt
      have hbw5 := hbw4.trans (hb5.mono hbw4.size)
      clear hr4 hK4 hS4 hbw4
      go_wp2_with fail
      refine (CheckShares_v hr5 HOK.out hn hcap hmax _ HE).mono ?_
      rintro e w6 ⟨rfl, hb6⟩
      have hr6 := hr5.below hb6
      have hK6 := hK5.below hb6 hK5.lt
      have hS6 := hS5.below hb6 hS5.lt
      have hbw6 := hbw5.trans (hb6.mono hbw5.size)
      clear hr5 hK5 hS5 hbw5
      go_wp2_with fail
      refine (SecretOf_v _ _ m (l.take m) _ HTL.out.symm (hr6.take m) HOKT.out hgt (by rw [HTL.out]; omega) _ _ HKC HRB).mono ?_
      rintro e w7 ⟨rfl, hb7⟩
      have hK7 := hK6.below hb7 hK6.lt
      have hS7 := hS6.below hb7 hS6.lt
      have hbw7 := hbw6.trans (hb7.mono hbw6.size)
      clear hr6 hK6 hS6 hbw6
      obtain ⟨N7, HN7⟩ : ∃ N, Hid (w7.heap.size = N) := ⟨_, rfl⟩
      have hN27 : N2 < N7 := by rw [← HN7.out]; exact hS7.lt
      go_wp2_with (first | (with_reducible refine @wl_skip _ _ _ _ _ _ _ 81 ?_ ?_ ?_; with_reducible rfl; kernel_rfl; go_frame) | (with_reducible refine @wl_skip _ _ _ _ _ _ _ 82 ?_ ?_ ?_; with_reducible rfl; kernel_rfl; go_frame) | (with_reducible refine @wl_skip _ _ _ _ _ _ _ 83 ?_ ?_ ?_; with_reducible rfl; kernel_rfl; go_frame) | (refine wl_allocV rfl 23 rfl _ HZ0.out N7 HN7.out ?_; intro wB hB hbB hsB) | (refine wl_storeV rfl 23 _ _ rfl 23 N7 rfl CK rfl 32 aggKey HCL.out _ hB HZL.out hC1 ?_; intro w8 hT8 hb8 hs8; have hb78 : Below w7.heap.size w7 w8 := (by rw [HN7.out]; exact hbB.trans hb8); have hS9 := hS7.below hb78 hS7.lt; have hK9 := hK7.below hb78 hK7.lt; have hbw8 := hbw7.trans (hb78.mono hbw7.size)) | (refine wl_loadD 90 rfl (by kernel_rfl) 23 _ rfl ⟨N2, 0, none⟩ rfl 32 CK HCL.out aggKey hS9.at0 ?_; go_frame) | (refine wl_build0G (by kernel_rfl) 23 rfl _ HBU.out ?_; go_frame))
      generalize hD : l.length - m = D at *
      have hlD : (l.drop m).length = D := by rw [List.length_drop]; exact hD
      have HD := hid hD
      have hD32 : D ≤ 32 := by omega
      have HLD := hid hlD
      have hK9' := hK9
      have hbw8' := hbw8
      clear hD hlD hS9 hT8 hK9 hbw8 hb78 hB hbB hsB hb8 hs8 hK7 hS7 hbw7
      go_loopw [16, 103] (fun a i wr => ∃ (k : Nat) (ab : Bool), k ≤ D ∧ i = .int .i64 k ∧ a = .bool ab ∧ Hid (ab = ((l.drop m).take k).all (liesB (l.take m))) ∧ BlkV 23 wr w.heap.size KV ∧ Below w.heap.size w wr) (fun _ i _ => D - (intOf i).toNat)
      case atStart => exact ⟨0, true, Nat.zero_le _, rfl, rfl, rfl, hK9', hbw8'⟩
      case round =>
        clear hK9' hbw8'
        obtain ⟨k, ab, hk, rfl, rfl, HAL, hKr, hbl⟩ := hrel
        by_cases h0 : k < D
        · obtain ⟨b2, off2, t, e2, hb2, HT, hat⟩ := (hROWS wr hbl).elem (i := k) (by rw [HLD.out]; exact h0)
          obtain ⟨rfl, rfl⟩ : b = b2 ∧ off + m * 49 = off2 := by simpa using e2
          have htm : t ∈ l.drop m := by rw [HT.out, getD_lt' _ nil (by rw [HLD.out]; exact h0)]; exact List.getElem_mem _
          have ht : t.Ok := HOK.out _ (List.mem_of_mem_drop htm)
          have htx : 0 ≤ t.x ∧ t.x ≤ 256 := x_of_each HEA.out _ (List.mem_of_mem_drop htm)
          have HTCL := hid ht.csl
          have ht1 := cs_one t
          have HAS := hid (all_take_succ (l.drop m) (liesB (l.take m)) k (by rw [HLD.out]; exact h0))
          rw [← HT.out, ← HAL.out] at HAS
          obtain ⟨TC, HTC⟩ : ∃ T, Hid (T = t.cs) := ⟨_, rfl⟩
          rw [← HTC.out] at HTCL ht1 hat
          obtain ⟨N, HN⟩ : ∃ N, Hid (wr.heap.size = N) := ⟨_, rfl⟩
          have hlt : w.heap.size < N := by rw [← HN.out]; exact hKr.lt
          have hkI : (k : Int) < (D : Int) := by omega
          have hkd : decide ((k : Int) < (D : Int)) = true := by simp; omega
          clear e2 htm
          go_wp2_with (first | (refine wl_loadG (by kernel_rfl) 61 _ rfl ⟨b, off + m * 49 + k * 49, none⟩ rfl 49 TC HTCL.out aggS hat ?_) | (refine wl_allocV rfl 61 rfl sh0.cs sh0_zero N HN.out ?_; intro wA2 hA2 hbA2 hsA2) | (refine wl_storeV rfl 61 _ _ rfl 61 N rfl TC rfl 49 aggS HTCL.out sh0.cs hA2 sh0_len ht1 ?_; intro wT hT hbT hsT))
          have hbrT : Below wr.heap.size wr wT := by rw [HN.out]; exact hbA2.trans hbT
          have hKT := hKr.below hbrT hKr.lt
          have hbwT := hbl.trans (hbrT.mono hbl.size)
          have hat0 : At wT.drew ⟨N, 0, none⟩ TC := hT.at0
          have hrT := (hr.below hbwT).take m
          clear hA2 hbA2 hsA2 hbT hsT hat
          cases ab
          · have hfl := hid (show ((l.drop m).take (k + 1)).all (liesB (l.take m)) = false by rw [HAS.out]; rfl)
            refine wp_region_still_tail 6 (by kernel_rfl) (by kernel_rfl) ?_
            simp only [List.take_succ_cons, List.take_zero, List.drop_succ_cons, List.drop_zero]
            change wpStill _ _ wT.drew (fun a' => wpList _ _ _ _ a' wT.drew) _ _
            repeat still_step
            refine wpStill_nil ?_
            go_wp2
            go_roundw
            case rel => exact ⟨k + 1, false, by omega, by go_num, rfl, hid hfl.out.symm, hKT, hbwT.drew⟩
            case measure => simp [intOf] <;> omega
          · obtain ⟨lb, HLB⟩ : ∃ b, Hid (b = liesB (l.take m) t) := ⟨_, rfl⟩
            have hfl := hid (show ((l.drop m).take (k + 1)).all (liesB (l.take m)) = lb by rw [HAS.out, HLB.out, Bool.true_and])
            refine wp_region_still_tail 6 (by kernel_rfl) (by kernel_rfl) ?_
            simp only [List.take_succ_cons, List.take_zero, List.drop_succ_cons, List.drop_zero]
            change wpStill _ _ wT.drew (fun a' => wpList _ _ _ _ a' wT.drew) _ _
            iterate 5 still_step
            refine still_load (by kernel_rfl) 61 _ rfl ⟨N, 0, none⟩ rfl 49 TC HTCL.out aggS hat0 ?_
            refine wpStill_nil ?_
            go_wp2_with fail
            refine (Lies_v _ _ m (l.take m) t wT.drew HTL.out.symm hrT HOKT.out hgt (by rw [HTL.out]; omega) ht htx TC lb HTC HLB).mono ?_
            rintro e wL ⟨rfl, hbL⟩
            have hbL' : Below wT.heap.size wT wL := ((Below.refl _ _).drew).trans hbL
            go_wp2
            go_roundw
            case rel => exact ⟨k + 1, lb, by omega, by go_num, rfl, hid hfl.out.symm, hKT.below hbL' hKT.lt, hbwT.trans (hbL'.mono hbwT.size)⟩
            case measure => simp [intOf] <;> omega
        · have hkI : ¬ (k : Int) < (D : Int) := by omega
          obtain rfl : ab = AB := by rw [HAL.out, hAB.out, List.take_of_length_le (by rw [HLD.out]; omega)]; rfl
          have hrr := hr.below hbl
          go_wp2_with fail
          refine (SharesError_v hrr HOK.out hn hcap hmax true _ HE2).mono ?_
          rintro e wX ⟨rfl, hbX⟩
          have hrX := hrr.below hbX
          have hKX := hKr.below hbX hKr.lt
          have hbwX := hbl.trans (hbX.mono hbl.size)
          go_wp2_with (refine wl_loadG (by kernel_rfl) 23 _ rfl ⟨w.heap.size, 0, none⟩ rfl 32 KV HKL.out aggKey hKX.at0 ?_)
          refine (FitOf_v m _ _ l s _ hrX HOK.out hl32 hm1 (by omega) HEA.out hsl HSO.out _ _ HKV HFB2).mono ?_
          rintro e wY ⟨rfl, hbY⟩
          go_wp2
          go_ret
          exact ⟨rv (rb (by simp)), hbwX.trans (hbY.mono hbwX.size)⟩

    · have hdn : l.drop m = [] := List.drop_eq_nil_of_le (by omega)
      have hROWS : ∀ (w' : World) (ad : Option Addr), RowS w' ad (l.drop m) := fun w' ad => Or.inl hdn
      by_cases hcm : m = cap
      · subst hcm
        go_enter Try.func5, Try.ntmps5
        go_wp2_with fail
        refine (SharesError_v hr0 HOK.out hn hcap hmax false _ HE).mono ?_
        rintro e w1 ⟨rfl, hb1⟩
        have hr1 := hr0.below hb1
        have hK1 := hK0.below hb1 hK0.lt
        have hbw1 := hb0.trans (hb1.mono hb0.size)
        clear hr0 hK0 hb0
        go_wp2_with fail
        refine (Combine_v hr1 HOK.out hn hcap hmax _ _ HCK HCE).mono ?_
        rintro e w2 ⟨rfl, hb2⟩
        have hr2 := hr1.below hb2
        have hK2 := hK1.below hb2 hK1.lt
        have hbw2 := hbw1.trans (hb2.mono hbw1.size)
        clear hr1 hK1 hbw1
        obtain ⟨N2, HN2⟩ : ∃ N, Hid (w2.heap.size = N) := ⟨_, rfl⟩
        go_wp2_with (first | (refine wl_allocV rfl 23 rfl _ HZ0.out N2 HN2.out ?_; intro wA hA hbA hsA) | (refine wl_storeV rfl 23 _ _ rfl 23 N2 rfl CK rfl 32 aggKey HCL.out _ hA HZL.out hC1 ?_; intro wS hS hbS hsS))
        have hb2S : Below w2.heap.size w2 wS := by rw [HN2.out]; exact hbA.trans hbS
        have hrS := hr2.below hb2S
        have hKS := hK2.below hb2S hK2.lt
        have hbwS := hbw2.trans (hb2S.mono hbw2.size)
        clear hr2 hK2 hbw2 hA hbA hsA hbS hsS hb2S
        refine (Agree_v hrS HOK.out hn hcap hmax _ _ HAB HE).mono ?_
        rintro e w3 ⟨rfl, hb3⟩
        have hr3 := hrS.below hb3
        have hK3 := hKS.below hb3 hKS.lt
        have hS3 := hS.below hb3 hS.lt
        have hbw3 := hbwS.trans (hb3.mono hbwS.size)
        clear hrS hKS hS hbwS
        go_wp2_with (refine wl_loadG (by rfl) 23 _ rfl ⟨w.heap.size, 0, none⟩ rfl 32 KV HKL.out aggKey hK3.at0 ?_)
        refine (Fit_v hr3 HOK.out hn hcap hmax hno s hsl HSO.out _ _ _ HKV HFB HE2).mono ?_
        rintro e w4 ⟨rfl, hb4⟩
        have hr4 := hr3.below hb4
        have hK4 := hK3.below hb4 hK3.lt
        have hS4 := hS3.below hb4 hS3.lt
        have hbw4 := hbw3.trans (hb4.mono hbw3.size)
        clear hr3 hK3 hS3 hbw3
        go_wp2_with fail
        refine (shares_any _).mono ?_
        rintro e w5 ⟨rfl, hb5⟩
        have hr5 := hr4.below hb5
        have hK5 := hK4.below hb5 hK4.lt
        have hS5 := hS4.below hb5 hS4.lt
        have hbw5 := hbw4.trans (hb5.mono hbw4.size)
        clear hr4 hK4 hS4 hbw4
        go_wp2_with fail
        refine (CheckShares_v hr5 HOK.out hn hcap hmax _ HE).mono ?_
        rintro e w6 ⟨rfl, hb6⟩
        have hr6 := hr5.below hb6
        have hK6 := hK5.below hb6 hK5.lt
        have hS6 := hS5.below hb6 hS5.lt
        have hbw6 := hbw5.trans (hb6.mono hbw5.size)
        clear hr5 hK5 hS5 hbw5
        go_wp2_with fail
        refine (SecretOf_v _ _ m (l.take m) _ HTL.out.symm (hr6.take m) HOKT.out hgt (by rw [HTL.out]; omega) _ _ HKC HRB).mono ?_
        rintro e w7 ⟨rfl, hb7⟩
        have hK7 := hK6.below hb7 hK6.lt
        have hS7 := hS6.below hb7 hS6.lt
        have hbw7 := hbw6.trans (hb7.mono hbw6.size)
        clear hr6 hK6 hS6 hbw6
        obtain ⟨N7, HN7⟩ : ∃ N, Hid (w7.heap.size = N) := ⟨_, rfl⟩
        have hN27 : N2 < N7 := by rw [← HN7.out]; exact hS7.lt
        go_wp2_with (first | (with_reducible refine @wl_skip _ _ _ _ _ _ _ 81 ?_ ?_ ?_; with_reducible rfl; kernel_rfl; go_frame) | (with_reducible refine @wl_skip _ _ _ _ _ _ _ 82 ?_ ?_ ?_; with_reducible rfl; kernel_rfl; go_frame) | (with_reducible refine @wl_skip _ _ _ _ _ _ _ 83 ?_ ?_ ?_; with_reducible rfl; kernel_rfl; go_frame) | (refine wl_allocV rfl 23 rfl _ HZ0.out N7 HN7.out ?_; intro wB hB hbB hsB) | (refine wl_storeV rfl 23 _ _ rfl 23 N7 rfl CK rfl 32 aggKey HCL.out _ hB HZL.out hC1 ?_; intro w8 hT8 hb8 hs8; have hb78 : Below w7.heap.size w7 w8 := (by rw [HN7.out]; exact hbB.trans hb8); have hS9 := hS7.below hb78 hS7.lt; have hK9 := hK7.below hb78 hK7.lt; have hbw8 := hbw7.trans (hb78.mono hbw7.size)) | (refine wl_loadD 90 rfl (by kernel_rfl) 23 _ rfl ⟨N2, 0, none⟩ rfl 32 CK HCL.out aggKey hS9.at0 ?_; go_frame) | (refine wl_build0G (by kernel_rfl) 23 rfl _ HBU.out ?_; go_frame))
        generalize hD : l.length - m = D at *
        have hlD : (l.drop m).length = D := by rw [List.length_drop]; exact hD
        have HD := hid hD
        have hD0 : D = 0 := by omega
        have HLD := hid hlD
        have hK9' := hK9
        have hbw8' := hbw8
        clear hD hlD hS9 hT8 hK9 hbw8 hb78 hB hbB hsB hb8 hs8 hK7 hS7 hbw7
        go_loopw [16, 103] (fun a i wr => ∃ (k : Nat) (ab : Bool), k ≤ D ∧ i = .int .i64 k ∧ a = .bool ab ∧ Hid (ab = ((l.drop m).take k).all (liesB (l.take m))) ∧ BlkV 23 wr w.heap.size KV ∧ Below w.heap.size w wr) (fun _ i _ => D - (intOf i).toNat)
        case atStart => exact ⟨0, true, Nat.zero_le _, rfl, rfl, rfl, hK9', hbw8'⟩
        case round =>
          clear hK9' hbw8'
          obtain ⟨k, ab, hk, rfl, rfl, HAL, hKr, hbl⟩ := hrel
          have hkI : ¬ (k : Int) < (D : Int) := by omega
          obtain rfl : ab = AB := by rw [HAL.out, hAB.out, List.take_of_length_le (by rw [HLD.out]; omega)]; rfl
          have hrr := hr.below hbl
          go_wp2_with fail
          refine (SharesError_v hrr HOK.out hn hcap hmax true _ HE2).mono ?_
          rintro e wX ⟨rfl, hbX⟩
          have hrX := hrr.below hbX
          have hKX := hKr.below hbX hKr.lt
          have hbwX := hbl.trans (hbX.mono hbl.size)
          go_wp2_with (refine wl_loadG (by kernel_rfl) 23 _ rfl ⟨w.heap.size, 0, none⟩ rfl 32 KV HKL.out aggKey hKX.at0 ?_)
          refine (FitOf_v m _ _ l s _ hrX HOK.out hl32 hm1 (by omega) HEA.out hsl HSO.out _ _ HKV HFB2).mono ?_
          rintro e wY ⟨rfl, hbY⟩
          go_wp2
          go_ret
          exact ⟨rv (rb (by simp)), hbwX.trans (hbY.mono hbwX.size)⟩
  
      · have hcm2 : ¬ cap = m := fun e => hcm e.symm
        clear hcm
        go_enter Try.func5, Try.ntmps5
        go_wp2_with fail
        refine (SharesError_v hr0 HOK.out hn hcap hmax false _ HE).mono ?_
        rintro e w1 ⟨rfl, hb1⟩
        have hr1 := hr0.below hb1
        have hK1 := hK0.below hb1 hK0.lt
        have hbw1 := hb0.trans (hb1.mono hb0.size)
        clear hr0 hK0 hb0
        go_wp2_with fail
        refine (Combine_v hr1 HOK.out hn hcap hmax _ _ HCK HCE).mono ?_
        rintro e w2 ⟨rfl, hb2⟩
        have hr2 := hr1.below hb2
        have hK2 := hK1.below hb2 hK1.lt
        have hbw2 := hbw1.trans (hb2.mono hbw1.size)
        clear hr1 hK1 hbw1
        obtain ⟨N2, HN2⟩ : ∃ N, Hid (w2.heap.size = N) := ⟨_, rfl⟩
        go_wp2_with (first | (refine wl_allocV rfl 23 rfl _ HZ0.out N2 HN2.out ?_; intro wA hA hbA hsA) | (refine wl_storeV rfl 23 _ _ rfl 23 N2 rfl CK rfl 32 aggKey HCL.out _ hA HZL.out hC1 ?_; intro wS hS hbS hsS))
        have hb2S : Below w2.heap.size w2 wS := by rw [HN2.out]; exact hbA.trans hbS
        have hrS := hr2.below hb2S
        have hKS := hK2.below hb2S hK2.lt
        have hbwS := hbw2.trans (hb2S.mono hbw2.size)
        clear hr2 hK2 hbw2 hA hbA hsA hbS hsS hb2S
        refine (Agree_v hrS HOK.out hn hcap hmax _ _ HAB HE).mono ?_
        rintro e w3 ⟨rfl, hb3⟩
        have hr3 := hrS.below hb3
        have hK3 := hKS.below hb3 hKS.lt
        have hS3 := hS.below hb3 hS.lt
        have hbw3 := hbwS.trans (hb3.mono hbwS.size)
        clear hrS hKS hS hbwS
        go_wp2_with (refine wl_loadG (by rfl) 23 _ rfl ⟨w.heap.size, 0, none⟩ rfl 32 KV HKL.out aggKey hK3.at0 ?_)
        refine (Fit_v hr3 HOK.out hn hcap hmax hno s hsl HSO.out _ _ _ HKV HFB HE2).mono ?_
        rintro e w4 ⟨rfl, hb4⟩
        have hr4 := hr3.below hb4
        have hK4 := hK3.below hb4 hK3.lt
        have hS4 := hS3.below hb4 hS3.lt
        have hbw4 := hbw3.trans (hb4.mono hbw3.size)
        clear hr3 hK3 hS3 hbw3
        go_wp2_with fail
        refine (shares_any _).mono ?_
        rintro e w5 ⟨rfl, hb5⟩
        have hr5 := hr4.below hb5
        have hK5 := hK4.below hb5 hK4.lt
        have hS5 := hS4.below hb5 hS4.lt
        have hbw5 := hbw4.trans (hb5.mono hbw4.size)
        clear hr4 hK4 hS4 hbw4
        go_wp2_with fail
        refine (CheckShares_v hr5 HOK.out hn hcap hmax _ HE).mono ?_
        rintro e w6 ⟨rfl, hb6⟩
        have hr6 := hr5.below hb6
        have hK6 := hK5.below hb6 hK5.lt
        have hS6 := hS5.below hb6 hS5.lt
        have hbw6 := hbw5.trans (hb6.mono hbw5.size)
        clear hr5 hK5 hS5 hbw5
        go_wp2_with fail
        refine (SecretOf_v _ _ m (l.take m) _ HTL.out.symm (hr6.take m) HOKT.out hgt (by rw [HTL.out]; omega) _ _ HKC HRB).mono ?_
        rintro e w7 ⟨rfl, hb7⟩
        have hK7 := hK6.below hb7 hK6.lt
        have hS7 := hS6.below hb7 hS6.lt
        have hbw7 := hbw6.trans (hb7.mono hbw6.size)
        clear hr6 hK6 hS6 hbw6
        obtain ⟨N7, HN7⟩ : ∃ N, Hid (w7.heap.size = N) := ⟨_, rfl⟩
        have hN27 : N2 < N7 := by rw [← HN7.out]; exact hS7.lt
        go_wp2_with (first | (with_reducible refine @wl_skip _ _ _ _ _ _ _ 81 ?_ ?_ ?_; with_reducible rfl; kernel_rfl; go_frame) | (with_reducible refine @wl_skip _ _ _ _ _ _ _ 82 ?_ ?_ ?_; with_reducible rfl; kernel_rfl; go_frame) | (with_reducible refine @wl_skip _ _ _ _ _ _ _ 83 ?_ ?_ ?_; with_reducible rfl; kernel_rfl; go_frame) | (refine wl_allocV rfl 23 rfl _ HZ0.out N7 HN7.out ?_; intro wB hB hbB hsB) | (refine wl_storeV rfl 23 _ _ rfl 23 N7 rfl CK rfl 32 aggKey HCL.out _ hB HZL.out hC1 ?_; intro w8 hT8 hb8 hs8; have hb78 : Below w7.heap.size w7 w8 := (by rw [HN7.out]; exact hbB.trans hb8); have hS9 := hS7.below hb78 hS7.lt; have hK9 := hK7.below hb78 hK7.lt; have hbw8 := hbw7.trans (hb78.mono hbw7.size)) | (refine wl_loadD 90 rfl (by kernel_rfl) 23 _ rfl ⟨N2, 0, none⟩ rfl 32 CK HCL.out aggKey hS9.at0 ?_; go_frame) | (refine wl_build0G (by kernel_rfl) 23 rfl _ HBU.out ?_; go_frame))
        generalize hD : l.length - m = D at *
        have hlD : (l.drop m).length = D := by rw [List.length_drop]; exact hD
        have HD := hid hD
        have hD0 : D = 0 := by omega
        have HLD := hid hlD
        have hK9' := hK9
        have hbw8' := hbw8
        clear hD hlD hS9 hT8 hK9 hbw8 hb78 hB hbB hsB hb8 hs8 hK7 hS7 hbw7
        go_loopw [16, 103] (fun a i wr => ∃ (k : Nat) (ab : Bool), k ≤ D ∧ i = .int .i64 k ∧ a = .bool ab ∧ Hid (ab = ((l.drop m).take k).all (liesB (l.take m))) ∧ BlkV 23 wr w.heap.size KV ∧ Below w.heap.size w wr) (fun _ i _ => D - (intOf i).toNat)
        case atStart => exact ⟨0, true, Nat.zero_le _, rfl, rfl, rfl, hK9', hbw8'⟩
        case round =>
          clear hK9' hbw8'
          obtain ⟨k, ab, hk, rfl, rfl, HAL, hKr, hbl⟩ := hrel
          have hkI : ¬ (k : Int) < (D : Int) := by omega
          obtain rfl : ab = AB := by rw [HAL.out, hAB.out, List.take_of_length_le (by rw [HLD.out]; omega)]; rfl
          have hrr := hr.below hbl
          go_wp2_with fail
          refine (SharesError_v hrr HOK.out hn hcap hmax true _ HE2).mono ?_
          rintro e wX ⟨rfl, hbX⟩
          have hrX := hrr.below hbX
          have hKX := hKr.below hbX hKr.lt
          have hbwX := hbl.trans (hbX.mono hbl.size)
          go_wp2_with (refine wl_loadG (by kernel_rfl) 23 _ rfl ⟨w.heap.size, 0, none⟩ rfl 32 KV HKL.out aggKey hKX.at0 ?_)
          refine (FitOf_v m _ _ l s _ hrX HOK.out hl32 hm1 (by omega) HEA.out hsl HSO.out _ _ HKV HFB2).mono ?_
          rintro e wY ⟨rfl, hbY⟩
          go_wp2
          go_ret
          exact ⟨rv (rb (by simp)), hbwX.trans (hbY.mono hbwX.size)⟩
  
  · have hfa : faultAt0 (l.take m) = false := by have := HRB.out; simpa using this
    have hCE2 : CE = 0 := by rw [hCE]; unfold secretE; rw [if_neg (by rw [hfa]; decide)]
    subst hCE2
    clear hCE hfa
    by_cases hlm : m < l.length
    · have hlm2 : ¬ cap = m := by omega
      have hROWS : ∀ w', Below w.heap.size w w' → RowS w' (some ⟨b, off + m * 49, none⟩) (l.drop m) := fun w' h => (hr.below h).drop m hlm
      go_enter Try.func5, Try.ntmps5
      go_wp2_with fail
      refine (SharesError_v hr0 HOK.out hn hcap hmax false _ HE).mono ?_
      rintro e w1 ⟨rfl, hb1⟩
      have hr1 := hr0.below hb1
      have hK1 := hK0.below hb1 hK0.lt
      have hbw1 := hb0.trans (hb1.mono hb0.size)
      clear hr0 hK0 hb0
      go_wp2_with fail
      refine (Combine_v hr1 HOK.out hn hcap hmax _ _ HCK HCE).mono ?_
      rintro e w2 ⟨rfl, hb2⟩
      have hr2 := hr1.below hb2
      have hK2 := hK1.below hb2 hK1.lt
      have hbw2 := hbw1.trans (hb2.mono hbw1.size)
      clear hr1 hK1 hbw1
      obtain ⟨N2, HN2⟩ : ∃ N, Hid (w2.heap.size = N) := ⟨_, rfl⟩
      go_wp2_with (first | (refine wl_allocV rfl 23 rfl _ HZ0.out N2 HN2.out ?_; intro wA hA hbA hsA) | (refine wl_storeV rfl 23 _ _ rfl 23 N2 rfl CK rfl 32 aggKey HCL.out _ hA HZL.out hC1 ?_; intro wS hS hbS hsS))
      have hb2S : Below w2.heap.size w2 wS := by rw [HN2.out]; exact hbA.trans hbS
      have hrS := hr2.below hb2S
      have hKS := hK2.below hb2S hK2.lt
      have hbwS := hbw2.trans (hb2S.mono hbw2.size)
      clear hr2 hK2 hbw2 hA hbA hsA hbS hsS hb2S
      refine (Agree_v hrS HOK.out hn hcap hmax _ _ HAB HE).mono ?_
      rintro e w3 ⟨rfl, hb3⟩
      have hr3 := hrS.below hb3
      have hK3 := hKS.below hb3 hKS.lt
      have hS3 := hS.below hb3 hS.lt
      have hbw3 := hbwS.trans (hb3.mono hbwS.size)
      clear hrS hKS hS hbwS
      go_wp2_with (refine wl_loadG (by rfl) 23 _ rfl ⟨w.heap.size, 0, none⟩ rfl 32 KV HKL.out aggKey hK3.at0 ?_)
      refine (Fit_v hr3 HOK.out hn hcap hmax hno s hsl HSO.out _ _ _ HKV HFB HE2).mono ?_
      rintro e w4 ⟨rfl, hb4⟩
      have hr4 := hr3.below hb4
      have hK4 := hK3.below hb4 hK3.lt
      have hS4 := hS3.below hb4 hS3.lt
      have hbw4 := hbw3.trans (hb4.mono hbw3.size)
      clear hr3 hK3 hS3 hbw3
      go_wp2_with fail
      refine (shares_any _).mono ?_
      rintro e w5 ⟨rfl, hb5⟩
      have hr5 := hr4.below hb5
      have hK5 := hK4.below hb5 hK4.lt
      have hS5 := hS4.below hb5 hS4.lt
      have hbw5 := hbw4.trans (hb5.mono hbw4.size)
      clear hr4 hK4 hS4 hbw4
      go_wp2_with fail
      refine (CheckShares_v hr5 HOK.out hn hcap hmax _ HE).mono ?_
      rintro e w6 ⟨rfl, hb6⟩
      have hr6 := hr5.below hb6
      have hK6 := hK5.below hb6 hK5.lt
      have hS6 := hS5.below hb6 hS5.lt
      have hbw6 := hbw5.trans (hb6.mono hbw5.size)
      clear hr5 hK5 hS5 hbw5
      go_wp2_with fail
      refine (SecretOf_v _ _ m (l.take m) _ HTL.out.symm (hr6.take m) HOKT.out hgt (by rw [HTL.out]; omega) _ _ HKC HRB).mono ?_
      rintro e w7 ⟨rfl, hb7⟩
      have hK7 := hK6.below hb7 hK6.lt
      have hS7 := hS6.below hb7 hS6.lt
      have hbw7 := hbw6.trans (hb7.mono hbw6.size)
      clear hr6 hK6 hS6 hbw6
      obtain ⟨N7, HN7⟩ : ∃ N, Hid (w7.heap.size = N) := ⟨_, rfl⟩
      have hN27 : N2 < N7 := by rw [← HN7.out]; exact hS7.lt
      go_wp2_with (first | (with_reducible refine @wl_skip _ _ _ _ _ _ _ 90 ?_ ?_ ?_; with_reducible rfl; kernel_rfl; go_frame) | (with_reducible refine @wl_skip _ _ _ _ _ _ _ 91 ?_ ?_ ?_; with_reducible rfl; kernel_rfl; go_frame) | (with_reducible refine @wl_skip _ _ _ _ _ _ _ 92 ?_ ?_ ?_; with_reducible rfl; kernel_rfl; go_frame) | (with_reducible refine @wl_skip _ _ _ _ _ _ _ 93 ?_ ?_ ?_; with_reducible rfl; kernel_rfl; go_frame) | (with_reducible refine @wl_skip _ _ _ _ _ _ _ 94 ?_ ?_ ?_; with_reducible rfl; kernel_rfl; go_frame) | (with_reducible refine @wl_skip _ _ _ _ _ _ _ 95 ?_ ?_ ?_; with_reducible rfl; kernel_rfl; go_frame) | (with_reducible refine @wl_skip _ _ _ _ _ _ _ 96 ?_ ?_ ?_; with_reducible rfl; kernel_rfl; go_frame) | (refine wl_allocV rfl 23 rfl _ HZ0.out N7 HN7.out ?_; intro wB hB hbB hsB) | (refine wl_storeV rfl 23 _ _ rfl 23 N7 rfl CK rfl 32 aggKey HCL.out _ hB HZL.out hC1 ?_; intro w8 hT8 hb8 hs8; have hb78 : Below w7.heap.size w7 w8 := (by rw [HN7.out]; exact hbB.trans hb8); have hS9 := hS7.below hb78 hS7.lt; have hK9 := hK7.below hb78 hK7.lt; have hbw8 := hbw7.trans (hb78.mono hbw7.size)) | (refine wl_loadD 81 rfl (by kernel_rfl) 23 _ rfl ⟨N2, 0, none⟩ rfl 32 CK HCL.out aggKey hS9.at0 ?_; go_frame) | (refine wl_loadD 82 rfl (by kernel_rfl) 23 _ rfl ⟨N7, 0, none⟩ rfl 32 CK HCL.out aggKey hT8.at0 ?_; go_frame) | (refine wl_neqD 83 rfl (by kernel_rfl) 23 _ _ _ rfl CK.toArray CK.toArray rfl rfl true (hqc _) (by kernel_rfl) false rfl ?_; go_frame))
      generalize hD : l.length - m = D at *
      have hlD : (l.drop m).length = D := by rw [List.length_drop]; exact hD
      have HD := hid hD
      have hD32 : D ≤ 32 := by omega
      have HLD := hid hlD
      have hK9' := hK9
      have hbw8' := hbw8
      clear hD hlD hS9 hT8 hK9 hbw8 hb78 hB hbB hsB hb8 hs8 hK7 hS7 hbw7
      go_loopw [16, 103] (fun a i wr => ∃ (k : Nat) (ab : Bool), k ≤ D ∧ i = .int .i64 k ∧ a = .bool ab ∧ Hid (ab = ((l.drop m).take k).all (liesB (l.take m))) ∧ BlkV 23 wr w.heap.size KV ∧ Below w.heap.size w wr) (fun _ i _ => D - (intOf i).toNat)
      case atStart => exact ⟨0, true, Nat.zero_le _, rfl, rfl, rfl, hK9', hbw8'⟩
      case round =>
        clear hK9' hbw8'
        obtain ⟨k, ab, hk, rfl, rfl, HAL, hKr, hbl⟩ := hrel
        by_cases h0 : k < D
        · obtain ⟨b2, off2, t, e2, hb2, HT, hat⟩ := (hROWS wr hbl).elem (i := k) (by rw [HLD.out]; exact h0)
          obtain ⟨rfl, rfl⟩ : b = b2 ∧ off + m * 49 = off2 := by simpa using e2
          have htm : t ∈ l.drop m := by rw [HT.out, getD_lt' _ nil (by rw [HLD.out]; exact h0)]; exact List.getElem_mem _
          have ht : t.Ok := HOK.out _ (List.mem_of_mem_drop htm)
          have htx : 0 ≤ t.x ∧ t.x ≤ 256 := x_of_each HEA.out _ (List.mem_of_mem_drop htm)
          have HTCL := hid ht.csl
          have ht1 := cs_one t
          have HAS := hid (all_take_succ (l.drop m) (liesB (l.take m)) k (by rw [HLD.out]; exact h0))
          rw [← HT.out, ← HAL.out] at HAS
          obtain ⟨TC, HTC⟩ : ∃ T, Hid (T = t.cs) := ⟨_, rfl⟩
          rw [← HTC.out] at HTCL ht1 hat
          obtain ⟨N, HN⟩ : ∃ N, Hid (wr.heap.size = N) := ⟨_, rfl⟩
          have hlt : w.heap.size < N := by rw [← HN.out]; exact hKr.lt
          have hkI : (k : Int) < (D : Int) := by omega
          have hkd : decide ((k : Int) < (D : Int)) = true := by simp; omega
          clear e2 htm
          go_wp2_with (first | (refine wl_loadG (by kernel_rfl) 61 _ rfl ⟨b, off + m * 49 + k * 49, none⟩ rfl 49 TC HTCL.out aggS hat ?_) | (refine wl_allocV rfl 61 rfl sh0.cs sh0_zero N HN.out ?_; intro wA2 hA2 hbA2 hsA2) | (refine wl_storeV rfl 61 _ _ rfl 61 N rfl TC rfl 49 aggS HTCL.out sh0.cs hA2 sh0_len ht1 ?_; intro wT hT hbT hsT))
          have hbrT : Below wr.heap.size wr wT := by rw [HN.out]; exact hbA2.trans hbT
          have hKT := hKr.below hbrT hKr.lt
          have hbwT := hbl.trans (hbrT.mono hbl.size)
          have hat0 : At wT.drew ⟨N, 0, none⟩ TC := hT.at0
          have hrT := (hr.below hbwT).take m
          clear hA2 hbA2 hsA2 hbT hsT hat
          cases ab
          · have hfl := hid (show ((l.drop m).take (k + 1)).all (liesB (l.take m)) = false by rw [HAS.out]; rfl)
            refine wp_region_still_tail 6 (by kernel_rfl) (by kernel_rfl) ?_
            simp only [List.take_succ_cons, List.take_zero, List.drop_succ_cons, List.drop_zero]
            change wpStill _ _ wT.drew (fun a' => wpList _ _ _ _ a' wT.drew) _ _
            repeat still_step
            refine wpStill_nil ?_
            go_wp2
            go_roundw
            case rel => exact ⟨k + 1, false, by omega, by go_num, rfl, hid hfl.out.symm, hKT, hbwT.drew⟩
            case measure => simp [intOf] <;> omega
          · obtain ⟨lb, HLB⟩ : ∃ b, Hid (b = liesB (l.take m) t) := ⟨_, rfl⟩
            have hfl := hid (show ((l.drop m).take (k + 1)).all (liesB (l.take m)) = lb by rw [HAS.out, HLB.out, Bool.true_and])
            refine wp_region_still_tail 6 (by kernel_rfl) (by kernel_rfl) ?_
            simp only [List.take_succ_cons, List.take_zero, List.drop_succ_cons, List.drop_zero]
            change wpStill _ _ wT.drew (fun a' => wpList _ _ _ _ a' wT.drew) _ _
            iterate 5 still_step
            refine still_load (by kernel_rfl) 61 _ rfl ⟨N, 0, none⟩ rfl 49 TC HTCL.out aggS hat0 ?_
            refine wpStill_nil ?_
            go_wp2_with fail
            refine (Lies_v _ _ m (l.take m) t wT.drew HTL.out.symm hrT HOKT.out hgt (by rw [HTL.out]; omega) ht htx TC lb HTC HLB).mono ?_
            rintro e wL ⟨rfl, hbL⟩
            have hbL' : Below wT.heap.size wT wL := ((Below.refl _ _).drew).trans hbL
            go_wp2
            go_roundw
            case rel => exact ⟨k + 1, lb, by omega, by go_num, rfl, hid hfl.out.symm, hKT.below hbL' hKT.lt, hbwT.trans (hbL'.mono hbwT.size)⟩
            case measure => simp [intOf] <;> omega
        · have hkI : ¬ (k : Int) < (D : Int) := by omega
          obtain rfl : ab = AB := by rw [HAL.out, hAB.out, List.take_of_length_le (by rw [HLD.out]; omega)]; rfl
          have hrr := hr.below hbl
          go_wp2_with fail
          refine (SharesError_v hrr HOK.out hn hcap hmax true _ HE2).mono ?_
          rintro e wX ⟨rfl, hbX⟩
          have hrX := hrr.below hbX
          have hKX := hKr.below hbX hKr.lt
          have hbwX := hbl.trans (hbX.mono hbl.size)
          go_wp2_with (refine wl_loadG (by kernel_rfl) 23 _ rfl ⟨w.heap.size, 0, none⟩ rfl 32 KV HKL.out aggKey hKX.at0 ?_)
          refine (FitOf_v m _ _ l s _ hrX HOK.out hl32 hm1 (by omega) HEA.out hsl HSO.out _ _ HKV HFB2).mono ?_
          rintro e wY ⟨rfl, hbY⟩
          go_wp2
          go_ret
          exact ⟨rv (rb (by simp)), hbwX.trans (hbY.mono hbwX.size)⟩

    · have hdn : l.drop m = [] := List.drop_eq_nil_of_le (by omega)
      have hROWS : ∀ (w' : World) (ad : Option Addr), RowS w' ad (l.drop m) := fun w' ad => Or.inl hdn
      by_cases hcm : m = cap
      · subst hcm
        go_enter Try.func5, Try.ntmps5
        go_wp2_with fail
        refine (SharesError_v hr0 HOK.out hn hcap hmax false _ HE).mono ?_
        rintro e w1 ⟨rfl, hb1⟩
        have hr1 := hr0.below hb1
        have hK1 := hK0.below hb1 hK0.lt
        have hbw1 := hb0.trans (hb1.mono hb0.size)
        clear hr0 hK0 hb0
        go_wp2_with fail
        refine (Combine_v hr1 HOK.out hn hcap hmax _ _ HCK HCE).mono ?_
        rintro e w2 ⟨rfl, hb2⟩
        have hr2 := hr1.below hb2
        have hK2 := hK1.below hb2 hK1.lt
        have hbw2 := hbw1.trans (hb2.mono hbw1.size)
        clear hr1 hK1 hbw1
        obtain ⟨N2, HN2⟩ : ∃ N, Hid (w2.heap.size = N) := ⟨_, rfl⟩
        go_wp2_with (first | (refine wl_allocV rfl 23 rfl _ HZ0.out N2 HN2.out ?_; intro wA hA hbA hsA) | (refine wl_storeV rfl 23 _ _ rfl 23 N2 rfl CK rfl 32 aggKey HCL.out _ hA HZL.out hC1 ?_; intro wS hS hbS hsS))
        have hb2S : Below w2.heap.size w2 wS := by rw [HN2.out]; exact hbA.trans hbS
        have hrS := hr2.below hb2S
        have hKS := hK2.below hb2S hK2.lt
        have hbwS := hbw2.trans (hb2S.mono hbw2.size)
        clear hr2 hK2 hbw2 hA hbA hsA hbS hsS hb2S
        refine (Agree_v hrS HOK.out hn hcap hmax _ _ HAB HE).mono ?_
        rintro e w3 ⟨rfl, hb3⟩
        have hr3 := hrS.below hb3
        have hK3 := hKS.below hb3 hKS.lt
        have hS3 := hS.below hb3 hS.lt
        have hbw3 := hbwS.trans (hb3.mono hbwS.size)
        clear hrS hKS hS hbwS
        go_wp2_with (refine wl_loadG (by rfl) 23 _ rfl ⟨w.heap.size, 0, none⟩ rfl 32 KV HKL.out aggKey hK3.at0 ?_)
        refine (Fit_v hr3 HOK.out hn hcap hmax hno s hsl HSO.out _ _ _ HKV HFB HE2).mono ?_
        rintro e w4 ⟨rfl, hb4⟩
        have hr4 := hr3.below hb4
        have hK4 := hK3.below hb4 hK3.lt
        have hS4 := hS3.below hb4 hS3.lt
        have hbw4 := hbw3.trans (hb4.mono hbw3.size)
        clear hr3 hK3 hS3 hbw3
        go_wp2_with fail
        refine (shares_any _).mono ?_
        rintro e w5 ⟨rfl, hb5⟩
        have hr5 := hr4.below hb5
        have hK5 := hK4.below hb5 hK4.lt
        have hS5 := hS4.below hb5 hS4.lt
        have hbw5 := hbw4.trans (hb5.mono hbw4.size)
        clear hr4 hK4 hS4 hbw4
        go_wp2_with fail
        refine (CheckShares_v hr5 HOK.out hn hcap hmax _ HE).mono ?_
        rintro e w6 ⟨rfl, hb6⟩
        have hr6 := hr5.below hb6
        have hK6 := hK5.below hb6 hK5.lt
        have hS6 := hS5.below hb6 hS5.lt
        have hbw6 := hbw5.trans (hb6.mono hbw5.size)
        clear hr5 hK5 hS5 hbw5
        go_wp2_with fail
        refine (SecretOf_v _ _ m (l.take m) _ HTL.out.symm (hr6.take m) HOKT.out hgt (by rw [HTL.out]; omega) _ _ HKC HRB).mono ?_
        rintro e w7 ⟨rfl, hb7⟩
        have hK7 := hK6.below hb7 hK6.lt
        have hS7 := hS6.below hb7 hS6.lt
        have hbw7 := hbw6.trans (hb7.mono hbw6.size)
        clear hr6 hK6 hS6 hbw6
        obtain ⟨N7, HN7⟩ : ∃ N, Hid (w7.heap.size = N) := ⟨_, rfl⟩
        have hN27 : N2 < N7 := by rw [← HN7.out]; exact hS7.lt
        go_wp2_with (first | (with_reducible refine @wl_skip _ _ _ _ _ _ _ 90 ?_ ?_ ?_; with_reducible rfl; kernel_rfl; go_frame) | (with_reducible refine @wl_skip _ _ _ _ _ _ _ 91 ?_ ?_ ?_; with_reducible rfl; kernel_rfl; go_frame) | (with_reducible refine @wl_skip _ _ _ _ _ _ _ 92 ?_ ?_ ?_; with_reducible rfl; kernel_rfl; go_frame) | (with_reducible refine @wl_skip _ _ _ _ _ _ _ 93 ?_ ?_ ?_; with_reducible rfl; kernel_rfl; go_frame) | (with_reducible refine @wl_skip _ _ _ _ _ _ _ 94 ?_ ?_ ?_; with_reducible rfl; kernel_rfl; go_frame) | (with_reducible refine @wl_skip _ _ _ _ _ _ _ 95 ?_ ?_ ?_; with_reducible rfl; kernel_rfl; go_frame) | (with_reducible refine @wl_skip _ _ _ _ _ _ _ 96 ?_ ?_ ?_; with_reducible rfl; kernel_rfl; go_frame) | (refine wl_allocV rfl 23 rfl _ HZ0.out N7 HN7.out ?_; intro wB hB hbB hsB) | (refine wl_storeV rfl 23 _ _ rfl 23 N7 rfl CK rfl 32 aggKey HCL.out _ hB HZL.out hC1 ?_; intro w8 hT8 hb8 hs8; have hb78 : Below w7.heap.size w7 w8 := (by rw [HN7.out]; exact hbB.trans hb8); have hS9 := hS7.below hb78 hS7.lt; have hK9 := hK7.below hb78 hK7.lt; have hbw8 := hbw7.trans (hb78.mono hbw7.size)) | (refine wl_loadD 81 rfl (by kernel_rfl) 23 _ rfl ⟨N2, 0, none⟩ rfl 32 CK HCL.out aggKey hS9.at0 ?_; go_frame) | (refine wl_loadD 82 rfl (by kernel_rfl) 23 _ rfl ⟨N7, 0, none⟩ rfl 32 CK HCL.out aggKey hT8.at0 ?_; go_frame) | (refine wl_neqD 83 rfl (by kernel_rfl) 23 _ _ _ rfl CK.toArray CK.toArray rfl rfl true (hqc _) (by kernel_rfl) false rfl ?_; go_frame))
        generalize hD : l.length - m = D at *
        have hlD : (l.drop m).length = D := by rw [List.length_drop]; exact hD
        have HD := hid hD
        have hD0 : D = 0 := by omega
        have HLD := hid hlD
        have hK9' := hK9
        have hbw8' := hbw8
        clear hD hlD hS9 hT8 hK9 hbw8 hb78 hB hbB hsB hb8 hs8 hK7 hS7 hbw7
        go_loopw [16, 103] (fun a i wr => ∃ (k : Nat) (ab : Bool), k ≤ D ∧ i = .int .i64 k ∧ a = .bool ab ∧ Hid (ab = ((l.drop m).take k).all (liesB (l.take m))) ∧ BlkV 23 wr w.heap.size KV ∧ Below w.heap.size w wr) (fun _ i _ => D - (intOf i).toNat)
        case atStart => exact ⟨0, true, Nat.zero_le _, rfl, rfl, rfl, hK9', hbw8'⟩
        case round =>
          clear hK9' hbw8'
          obtain ⟨k, ab, hk, rfl, rfl, HAL, hKr, hbl⟩ := hrel
          have hkI : ¬ (k : Int) < (D : Int) := by omega
          obtain rfl : ab = AB := by rw [HAL.out, hAB.out, List.take_of_length_le (by rw [HLD.out]; omega)]; rfl
          have hrr := hr.below hbl
          go_wp2_with fail
          refine (SharesError_v hrr HOK.out hn hcap hmax true _ HE2).mono ?_
          rintro e wX ⟨rfl, hbX⟩
          have hrX := hrr.below hbX
          have hKX := hKr.below hbX hKr.lt
          have hbwX := hbl.trans (hbX.mono hbl.size)
          go_wp2_with (refine wl_loadG (by kernel_rfl) 23 _ rfl ⟨w.heap.size, 0, none⟩ rfl 32 KV HKL.out aggKey hKX.at0 ?_)
          refine (FitOf_v m _ _ l s _ hrX HOK.out hl32 hm1 (by omega) HEA.out hsl HSO.out _ _ HKV HFB2).mono ?_
          rintro e wY ⟨rfl, hbY⟩
          go_wp2
          go_ret
          exact ⟨rv (rb (by simp)), hbwX.trans (hbY.mono hbwX.size)⟩
  
      · have hcm2 : ¬ cap = m := fun e => hcm e.symm
        clear hcm
        go_enter Try.func5, Try.ntmps5
        go_wp2_with fail
        refine (SharesError_v hr0 HOK.out hn hcap hmax false _ HE).mono ?_
        rintro e w1 ⟨rfl, hb1⟩
        have hr1 := hr0.below hb1
        have hK1 := hK0.below hb1 hK0.lt
        have hbw1 := hb0.trans (hb1.mono hb0.size)
        clear hr0 hK0 hb0
        go_wp2_with fail
        refine (Combine_v hr1 HOK.out hn hcap hmax _ _ HCK HCE).mono ?_
        rintro e w2 ⟨rfl, hb2⟩
        have hr2 := hr1.below hb2
        have hK2 := hK1.below hb2 hK1.lt
        have hbw2 := hbw1.trans (hb2.mono hbw1.size)
        clear hr1 hK1 hbw1
        obtain ⟨N2, HN2⟩ : ∃ N, Hid (w2.heap.size = N) := ⟨_, rfl⟩
        go_wp2_with (first | (refine wl_allocV rfl 23 rfl _ HZ0.out N2 HN2.out ?_; intro wA hA hbA hsA) | (refine wl_storeV rfl 23 _ _ rfl 23 N2 rfl CK rfl 32 aggKey HCL.out _ hA HZL.out hC1 ?_; intro wS hS hbS hsS))
        have hb2S : Below w2.heap.size w2 wS := by rw [HN2.out]; exact hbA.trans hbS
        have hrS := hr2.below hb2S
        have hKS := hK2.below hb2S hK2.lt
        have hbwS := hbw2.trans (hb2S.mono hbw2.size)
        clear hr2 hK2 hbw2 hA hbA hsA hbS hsS hb2S
        refine (Agree_v hrS HOK.out hn hcap hmax _ _ HAB HE).mono ?_
        rintro e w3 ⟨rfl, hb3⟩
        have hr3 := hrS.below hb3
        have hK3 := hKS.below hb3 hKS.lt
        have hS3 := hS.below hb3 hS.lt
        have hbw3 := hbwS.trans (hb3.mono hbwS.size)
        clear hrS hKS hS hbwS
        go_wp2_with (refine wl_loadG (by rfl) 23 _ rfl ⟨w.heap.size, 0, none⟩ rfl 32 KV HKL.out aggKey hK3.at0 ?_)
        refine (Fit_v hr3 HOK.out hn hcap hmax hno s hsl HSO.out _ _ _ HKV HFB HE2).mono ?_
        rintro e w4 ⟨rfl, hb4⟩
        have hr4 := hr3.below hb4
        have hK4 := hK3.below hb4 hK3.lt
        have hS4 := hS3.below hb4 hS3.lt
        have hbw4 := hbw3.trans (hb4.mono hbw3.size)
        clear hr3 hK3 hS3 hbw3
        go_wp2_with fail
        refine (shares_any _).mono ?_
        rintro e w5 ⟨rfl, hb5⟩
        have hr5 := hr4.below hb5
        have hK5 := hK4.below hb5 hK4.lt
        have hS5 := hS4.below hb5 hS4.lt
        have hbw5 := hbw4.trans (hb5.mono hbw4.size)
        clear hr4 hK4 hS4 hbw4
        go_wp2_with fail
        refine (CheckShares_v hr5 HOK.out hn hcap hmax _ HE).mono ?_
        rintro e w6 ⟨rfl, hb6⟩
        have hr6 := hr5.below hb6
        have hK6 := hK5.below hb6 hK5.lt
        have hS6 := hS5.below hb6 hS5.lt
        have hbw6 := hbw5.trans (hb6.mono hbw5.size)
        clear hr5 hK5 hS5 hbw5
        go_wp2_with fail
        refine (SecretOf_v _ _ m (l.take m) _ HTL.out.symm (hr6.take m) HOKT.out hgt (by rw [HTL.out]; omega) _ _ HKC HRB).mono ?_
        rintro e w7 ⟨rfl, hb7⟩
        have hK7 := hK6.below hb7 hK6.lt
        have hS7 := hS6.below hb7 hS6.lt
        have hbw7 := hbw6.trans (hb7.mono hbw6.size)
        clear hr6 hK6 hS6 hbw6
        obtain ⟨N7, HN7⟩ : ∃ N, Hid (w7.heap.size = N) := ⟨_, rfl⟩
        have hN27 : N2 < N7 := by rw [← HN7.out]; exact hS7.lt
        go_wp2_with (first | (with_reducible refine @wl_skip _ _ _ _ _ _ _ 90 ?_ ?_ ?_; with_reducible rfl; kernel_rfl; go_frame) | (with_reducible refine @wl_skip _ _ _ _ _ _ _ 91 ?_ ?_ ?_; with_reducible rfl; kernel_rfl; go_frame) | (with_reducible refine @wl_skip _ _ _ _ _ _ _ 92 ?_ ?_ ?_; with_reducible rfl; kernel_rfl; go_frame) | (with_reducible refine @wl_skip _ _ _ _ _ _ _ 93 ?_ ?_ ?_; with_reducible rfl; kernel_rfl; go_frame) | (with_reducible refine @wl_skip _ _ _ _ _ _ _ 94 ?_ ?_ ?_; with_reducible rfl; kernel_rfl; go_frame) | (with_reducible refine @wl_skip _ _ _ _ _ _ _ 95 ?_ ?_ ?_; with_reducible rfl; kernel_rfl; go_frame) | (with_reducible refine @wl_skip _ _ _ _ _ _ _ 96 ?_ ?_ ?_; with_reducible rfl; kernel_rfl; go_frame) | (refine wl_allocV rfl 23 rfl _ HZ0.out N7 HN7.out ?_; intro wB hB hbB hsB) | (refine wl_storeV rfl 23 _ _ rfl 23 N7 rfl CK rfl 32 aggKey HCL.out _ hB HZL.out hC1 ?_; intro w8 hT8 hb8 hs8; have hb78 : Below w7.heap.size w7 w8 := (by rw [HN7.out]; exact hbB.trans hb8); have hS9 := hS7.below hb78 hS7.lt; have hK9 := hK7.below hb78 hK7.lt; have hbw8 := hbw7.trans (hb78.mono hbw7.size)) | (refine wl_loadD 81 rfl (by kernel_rfl) 23 _ rfl ⟨N2, 0, none⟩ rfl 32 CK HCL.out aggKey hS9.at0 ?_; go_frame) | (refine wl_loadD 82 rfl (by kernel_rfl) 23 _ rfl ⟨N7, 0, none⟩ rfl 32 CK HCL.out aggKey hT8.at0 ?_; go_frame) | (refine wl_neqD 83 rfl (by kernel_rfl) 23 _ _ _ rfl CK.toArray CK.toArray rfl rfl true (hqc _) (by kernel_rfl) false rfl ?_; go_frame))
        generalize hD : l.length - m = D at *
        have hlD : (l.drop m).length = D := by rw [List.length_drop]; exact hD
        have HD := hid hD
        have hD0 : D = 0 := by omega
        have HLD := hid hlD
        have hK9' := hK9
        have hbw8' := hbw8
        clear hD hlD hS9 hT8 hK9 hbw8 hb78 hB hbB hsB hb8 hs8 hK7 hS7 hbw7
        go_loopw [16, 103] (fun a i wr => ∃ (k : Nat) (ab : Bool), k ≤ D ∧ i = .int .i64 k ∧ a = .bool ab ∧ Hid (ab = ((l.drop m).take k).all (liesB (l.take m))) ∧ BlkV 23 wr w.heap.size KV ∧ Below w.heap.size w wr) (fun _ i _ => D - (intOf i).toNat)
        case atStart => exact ⟨0, true, Nat.zero_le _, rfl, rfl, rfl, hK9', hbw8'⟩
        case round =>
          clear hK9' hbw8'
          obtain ⟨k, ab, hk, rfl, rfl, HAL, hKr, hbl⟩ := hrel
          have hkI : ¬ (k : Int) < (D : Int) := by omega
          obtain rfl : ab = AB := by rw [HAL.out, hAB.out, List.take_of_length_le (by rw [HLD.out]; omega)]; rfl
          have hrr := hr.below hbl
          go_wp2_with fail
          refine (SharesError_v hrr HOK.out hn hcap hmax true _ HE2).mono ?_
          rintro e wX ⟨rfl, hbX⟩
          have hrX := hrr.below hbX
          have hKX := hKr.below hbX hKr.lt
          have hbwX := hbl.trans (hbX.mono hbl.size)
          go_wp2_with (refine wl_loadG (by kernel_rfl) 23 _ rfl ⟨w.heap.size, 0, none⟩ rfl 32 KV HKL.out aggKey hKX.at0 ?_)
          refine (FitOf_v m _ _ l s _ hrX HOK.out hl32 hm1 (by omega) HEA.out hsl HSO.out _ _ HKV HFB2).mono ?_
          rintro e wY ⟨rfl, hbY⟩
          go_wp2
          go_ret
          exact ⟨rv (rb (by simp)), hbwX.trans (hbY.mono hbwX.size)⟩
  

theorem law (need : Int) (ao : Option Addr) (cap : Nat) (l : List Sh) (s : List Int) (w : World) (hr : RowS w ao l) (hok : ∀ s ∈ l, s.Ok) (hcap : l.length ≤ cap) (hmax : cap ≤ maxLen) (hno : ao = none → cap = 0) (hsl : s.length = 32) (hso : ∀ c ∈ s, 0 ≤ c ∧ c ≤ 255) :
    Calls Try.prog 5 #[.int .i64 need, .slice ao l.length cap, .agg (s.map (Value.int .u8)).toArray] w fun e w' => e = .returned (.bool true) ∧ Below w.heap.size w w' := by
  have hn : l.length ≤ 9223372036854775807 := by unfold maxLen at hmax; omega
  by_cases hE : sharesE false need l = 0
  · obtain ⟨m, h1, h2, h3, h4, h5⟩ := sharesE_ok hE
    exact law_good need ao cap l s w hr hok hn hcap hmax hno hsl hso _ m h1 h2 h3 h4 h5 hE rfl
  · exact law_bad need ao cap l s w hr hok hn hcap hmax hno hsl hso hE
end Go.Proofs.Ytbljihhelladbaa.shr
