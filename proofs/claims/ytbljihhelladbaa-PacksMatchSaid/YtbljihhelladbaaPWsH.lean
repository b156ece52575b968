/-
  Contracts of wrap.open at any envelope that was read, and of wrap.Unwrap. Conditions: a key of octets, texts of octets that lie in memory.
-/
import Derived.Test.YtbljihhelladbaaPWsG
namespace Go.Proofs.Ytbljihhelladbaa.wr
open Go.RowKit Go.Proofs.Ytbljihhelladbaa.st Go.Proofs.Ytbljihhelladbaa.hs Go.Proofs.Ytbljihhelladbaa.shr Go.Proofs.Ytbljihhelladbaa.sh
set_option linter.unusedSimpArgs false
set_option linter.unusedVariables false
set_option pp.maxSteps 6000
theorem open_any (k : List Int) (x : Env) (c : List Int) (ao : Option Addr) (cap mc : Nat) (w : World) (hk : k.length = 32) (ok : Octs k) (hx : x.Ok) (hv : x.v = 1 ∨ x.v = 2) (he : 0 ≤ x.e ∧ x.e ≤ 4294967295) (hmc : mc = c.length) (HP : Pt.Ok w ⟨ao, cap, c⟩) (hno : ao = none → cap = 0) (hm : mc ≤ 1000000) :
    Calls Try.prog 216 #[.agg (k.map (Value.int .u8)).toArray, .agg x.cs.toArray, .slice ao mc cap] w fun r w' => r = .returned (openV k x c) ∧ Below w.heap.size w w' := by
  rcases hv with hv | hv
  · exact open_v1 k x c ao cap mc w hk ok hx hv he hmc HP hno hm
  · exact open_v2 k x c ao cap mc w hk ok hx hv he hmc HP hno hm
/-- what the unwrapping of an envelope's octets answers -/
def unwrapE (k l c : List Int) : Int := if 4096 < c.length then 5 else if readE l ≠ 0 then readE l else openE k (readX l) c
def unwrapS (k l c : List Int) : List Int := if unwrapE k l c = 0 then secretX k (readX l) else List.replicate 32 0
def unwrapV (k l c : List Int) : Value := .tuple #[.agg ((unwrapS k l c).map (Value.int .u8)).toArray, .int .i64 (unwrapE k l c)]
theorem unwrapV_large {k l c : List Int} (h : 4096 < c.length) : unwrapV k l c = .tuple #[.agg ((List.replicate 32 (0 : Int)).map (Value.int .u8)).toArray, .int .i64 5] := by
  have hE : unwrapE k l c = 5 := by unfold unwrapE; rw [if_pos h]
  unfold unwrapV unwrapS; rw [hE, if_neg (by decide)]
theorem unwrapV_read {k l c : List Int} (h : ¬ 4096 < c.length) (h2 : readE l ≠ 0) : unwrapV k l c = .tuple #[.agg ((List.replicate 32 (0 : Int)).map (Value.int .u8)).toArray, .int .i64 (readE l)] := by
  have hE : unwrapE k l c = readE l := by unfold unwrapE; rw [if_neg h, if_pos h2]
  unfold unwrapV unwrapS; rw [hE, if_neg h2]
theorem unwrapV_open {k l c : List Int} (h : ¬ 4096 < c.length) (h2 : readE l = 0) : unwrapV k l c = openV k (readX l) c := by
  have hE : unwrapE k l c = openE k (readX l) c := by unfold unwrapE; rw [if_neg h, if_neg (fun h => h h2)]
  unfold unwrapV unwrapS openV; rw [hE]
set_option maxRecDepth 100000 in
set_option maxHeartbeats 2000000 in
theorem Unwrap_L (k l c : List Int) (bo : Option Addr) (bc n : Nat) (ao : Option Addr) (cap mc : Nat) (w : World) (hk : k.length = 32) (ok : Octs k) (hn : n = l.length) (HL : Pt.Ok w ⟨bo, bc, l⟩) (hmc : mc = c.length) (HP : Pt.Ok w ⟨ao, cap, c⟩) (hno : ao = none → cap = 0) (h1 : 4096 < c.length) :
    Calls Try.prog 192 #[.agg (k.map (Value.int .u8)).toArray, .slice bo n bc, .slice ao mc cap] w fun r w' => r = .returned (unwrapV k l c) ∧ Below w.heap.size w w' := by
  obtain ⟨B, HB⟩ : ∃ B, Hid (B = w.heap.size) := ⟨_, rfl⟩
  have hsz : w.heap.size = B := HB.out.symm
  have hml := HP.cap
  obtain ⟨Z, HZ⟩ : ∃ Z, Hid (Z = (List.replicate 32 (0 : Int)).map (Value.int .u8)) := ⟨_, rfl⟩
  have hzK := hid zeroKey
  have HBK : Hid (Try.prog.built 23 [] = some ((List.replicate 32 (0 : Int)).map (Value.int .u8)).toArray) := hid (by kernel_rfl)
  rw [← HZ.out] at hzK HBK
  have hZl : Z.length = 32 := by rw [HZ.out]; simp
  have hZ1 : ∀ u ∈ Z, u.oneCell' = true := by rw [HZ.out]; exact ints_one _ _
  have hzE := hid zeroEnv
  obtain ⟨ZE, HZE⟩ : ∃ Z, Hid (Z = env0.cs) := ⟨_, rfl⟩
  rw [← HZE.out] at hzE
  have hZEl : ZE.length = 130 := by rw [HZE.out]; exact env0_ok.csl
  have hZE1 : ∀ u ∈ ZE, u.oneCell' = true := by rw [HZE.out]; exact env0.cs_one
  rw [unwrapV_large h1, ← HZ.out]
  have hmI : (4096 : Int) < (mc : Int) := by omega
  obtain ⟨K, HK⟩ : ∃ K, Hid (K = k.map (Value.int .u8)) := ⟨_, rfl⟩
  have hKl : K.length = 32 := by rw [HK.out, List.length_map, hk]
  rw [← HK.out] at ⊢
  clear hk hn HL hmc HP h1 hml
  go_enter Try.func192, Try.ntmps192
  go_wp2_with (first | (refine wl_storeV rfl 23 _ _ rfl 23 (B + 1) rfl Z rfl 32 aggKey hZl Z hR1 hZl hZ1 ?_; intro wF hRF hbF hsF; have bbF := bb1.trans (hbF.mono (by omega : B ≤ _)); clear hR1) | (refine wl_build0 rfl 23 rfl Z HBK.out ?_) | (refine wl_allocV rfl 23 rfl Z hzK.out (B + 1) hs0 ?_; intro w1 hR1 hb1 hs1; have hB1 := hB0.below hb1 (by omega); have bb1 := hb0.trans (hb1.mono (by omega : B ≤ _)); clear hB0 hb0) | (refine wl_boxV rfl 23 _ rfl K rfl B hsz ?_; intro w0 hB0 hb0 hs0))
  (try simp only [Exit.inBlock, Exit.then]); refine bodyPost_ret (results_cell2 rfl _ _ _ _ rfl Z (by rw [hZl]; exact aggKey) hRF.at0) rfl ?_
  exact ⟨rfl, by rw [← HB.out]; exact bbF⟩
set_option maxRecDepth 100000 in
set_option maxHeartbeats 2000000 in
theorem Unwrap_R (k l c : List Int) (bo : Option Addr) (bc n : Nat) (ao : Option Addr) (cap mc : Nat) (w : World) (hk : k.length = 32) (ok : Octs k) (hn : n = l.length) (HL : Pt.Ok w ⟨bo, bc, l⟩) (hmc : mc = c.length) (HP : Pt.Ok w ⟨ao, cap, c⟩) (hno : ao = none → cap = 0) (h1 : ¬ 4096 < c.length) (h2 : readE l ≠ 0) :
    Calls Try.prog 192 #[.agg (k.map (Value.int .u8)).toArray, .slice bo n bc, .slice ao mc cap] w fun r w' => r = .returned (unwrapV k l c) ∧ Below w.heap.size w w' := by
  obtain ⟨B, HB⟩ : ∃ B, Hid (B = w.heap.size) := ⟨_, rfl⟩
  have hsz : w.heap.size = B := HB.out.symm
  have hml := HP.cap
  obtain ⟨Z, HZ⟩ : ∃ Z, Hid (Z = (List.replicate 32 (0 : Int)).map (Value.int .u8)) := ⟨_, rfl⟩
  have hzK := hid zeroKey
  have HBK : Hid (Try.prog.built 23 [] = some ((List.replicate 32 (0 : Int)).map (Value.int .u8)).toArray) := hid (by kernel_rfl)
  rw [← HZ.out] at hzK HBK
  have hZl : Z.length = 32 := by rw [HZ.out]; simp
  have hZ1 : ∀ u ∈ Z, u.oneCell' = true := by rw [HZ.out]; exact ints_one _ _
  have hzE := hid zeroEnv
  obtain ⟨ZE, HZE⟩ : ∃ Z, Hid (Z = env0.cs) := ⟨_, rfl⟩
  rw [← HZE.out] at hzE
  have hZEl : ZE.length = 130 := by rw [HZE.out]; exact env0_ok.csl
  have hZE1 : ∀ u ∈ ZE, u.oneCell' = true := by rw [HZE.out]; exact env0.cs_one
  rw [unwrapV_read h1 h2, ← HZ.out]
  have hmI : ¬ (4096 : Int) < (mc : Int) := by omega
  obtain ⟨e, He⟩ : ∃ e, Hid (e = readE l) := ⟨_, rfl⟩
  rw [← He.out] at h2 ⊢
  have hrd := fun (y : World) (hb : Below B w y) => hid (Read_any bo bc n l y hn (fun _ => HL.below (hsz ▸ hb)))
  rw [readV_err He.out.symm h2, ← HZE.out] at hrd
  obtain ⟨K, HK⟩ : ∃ K, Hid (K = k.map (Value.int .u8)) := ⟨_, rfl⟩
  have hKl : K.length = 32 := by rw [HK.out, List.length_map, hk]
  rw [← HK.out] at ⊢
  clear hk hn HL hmc HP h1 hml
  go_enter Try.func192, Try.ntmps192
  go_wp2_with (first | (refine wl_storeV rfl 23 _ _ rfl 23 (B + 1) rfl Z rfl 32 aggKey hZl Z hR4 hZl hZ1 ?_; intro wF hRF hbF hsF; have bbF := bb4.trans (hbF.mono (by omega : B ≤ _)); clear hR4) | (refine wl_build0 rfl 23 rfl Z HBK.out ?_) | (refine wl_storeV rfl 107 _ _ rfl 107 G rfl ZE rfl 130 aggEnv hZEl ZE hG3 hZEl hZE1 ?_; intro w4 hG4 hb4 hs4; have hB4 := hB3.below hb4 (by omega); have hR4 := hR3.below hb4 (by omega); have bb4 := bb3.trans (hb4.mono (by omega : B ≤ _)); clear hB3 hR3 bb3 hb4 hG3) | (refine wl_allocV rfl 107 rfl ZE hzE.out w2.heap.size rfl ?_; intro w3 hG3 hb3 hs3; obtain ⟨G, HG⟩ : ∃ g, Hid (g = w2.heap.size) := ⟨_, rfl⟩; rw [← HG.out] at hG3 hb3 hs3; rw [← HG.out]; have hGB : B + 2 ≤ G := (by rw [HG.out]; exact hs2); have hB3 := hB2.below hb3 (by omega); have hR3 := hR2.below hb3 (by omega); have bb3 := bb2.trans (hb3.mono (by omega : B ≤ _)); clear hB2 hR2 bb2 hb3) | (go_at_call 71; refine (hrd w1 bb1).out.mono ?_; rintro r w2 ⟨rfl, hb2⟩; have hB2 := hB1.below hb2 hB1.lt; have hR2 := hR1.below hb2 hR1.lt; have bb2 := bb1.trans (hb2.mono (by omega : B ≤ _)); have hs2 : B + 2 ≤ w2.heap.size := (by have := hb2.size; omega); clear hB1 hR1 bb1 hb1 hb2) | (refine wl_allocV rfl 23 rfl Z hzK.out (B + 1) hs0 ?_; intro w1 hR1 hb1 hs1; have hB1 := hB0.below hb1 (by omega); have bb1 := hb0.trans (hb1.mono (by omega : B ≤ _)); clear hB0 hb0) | (refine wl_boxV rfl 23 _ rfl K rfl B hsz ?_; intro w0 hB0 hb0 hs0))
  (try simp only [Exit.inBlock, Exit.then]); refine bodyPost_ret (results_cell2 rfl _ _ _ _ rfl Z (by rw [hZl]; exact aggKey) hRF.at0) rfl ?_
  exact ⟨rfl, by rw [← HB.out]; exact bbF⟩
set_option maxRecDepth 100000 in
set_option maxHeartbeats 2000000 in
theorem Unwrap_O (k l c : List Int) (bo : Option Addr) (bc n : Nat) (ao : Option Addr) (cap mc : Nat) (w : World) (hk : k.length = 32) (ok : Octs k) (hn : n = l.length) (HL : Pt.Ok w ⟨bo, bc, l⟩) (hmc : mc = c.length) (HP : Pt.Ok w ⟨ao, cap, c⟩) (hno : ao = none → cap = 0) (h1 : ¬ 4096 < c.length) (h2 : readE l = 0) :
    Calls Try.prog 192 #[.agg (k.map (Value.int .u8)).toArray, .slice bo n bc, .slice ao mc cap] w fun r w' => r = .returned (unwrapV k l c) ∧ Below w.heap.size w w' := by
  obtain ⟨B, HB⟩ : ∃ B, Hid (B = w.heap.size) := ⟨_, rfl⟩
  have hsz : w.heap.size = B := HB.out.symm
  have hml := HP.cap
  obtain ⟨Z, HZ⟩ : ∃ Z, Hid (Z = (List.replicate 32 (0 : Int)).map (Value.int .u8)) := ⟨_, rfl⟩
  have hzK := hid zeroKey
  have HBK : Hid (Try.prog.built 23 [] = some ((List.replicate 32 (0 : Int)).map (Value.int .u8)).toArray) := hid (by kernel_rfl)
  rw [← HZ.out] at hzK HBK
  have hZl : Z.length = 32 := by rw [HZ.out]; simp
  have hZ1 : ∀ u ∈ Z, u.oneCell' = true := by rw [HZ.out]; exact ints_one _ _
  have hzE := hid zeroEnv
  obtain ⟨ZE, HZE⟩ : ∃ Z, Hid (Z = env0.cs) := ⟨_, rfl⟩
  rw [← HZE.out] at hzE
  have hZEl : ZE.length = 130 := by rw [HZE.out]; exact env0_ok.csl
  have hZE1 : ∀ u ∈ ZE, u.oneCell' = true := by rw [HZE.out]; exact env0.cs_one
  rw [unwrapV_open h1 h2]
  have hmI : ¬ (4096 : Int) < (mc : Int) := by omega
  have hrd := fun (y : World) (hb : Below B w y) => hid (Read_any bo bc n l y hn (fun _ => HL.below (hsz ▸ hb)))
  rw [readV_ok h2] at hrd
  have hx := readX_ok HL.oct h2
  have hop := fun (y : World) (hb : Below B w y) => hid (open_any k (readX l) c ao cap mc y hk ok hx readX_v (readX_e HL.oct) hmc (HP.below (hsz ▸ hb)) hno (by omega))
  obtain ⟨CS, HCS⟩ : ∃ C, Hid (C = (readX l).cs) := ⟨_, rfl⟩
  have hCl : CS.length = 130 := by rw [HCS.out]; exact hx.csl
  have hC1 : ∀ u ∈ CS, u.oneCell' = true := by rw [HCS.out]; exact (readX l).cs_one
  obtain ⟨e, He⟩ : ∃ e, Hid (e = openE k (readX l) c) := ⟨_, rfl⟩
  obtain ⟨s, Hs⟩ : ∃ s, Hid (s = if openE k (readX l) c = 0 then secretX k (readX l) else List.replicate 32 0) := ⟨_, rfl⟩
  have hsl : s.length = 32 := by
    rw [Hs.out]
    split
    · exact secretX_length hx
    · simp
  have hVV : openV k (readX l) c = .tuple #[.agg (s.map (Value.int .u8)).toArray, .int .i64 e] := by unfold openV; rw [Hs.out, He.out]
  rw [hVV] at hop ⊢
  clear hVV
  obtain ⟨SV, HSV⟩ : ∃ V, Hid (V = s.map (Value.int .u8)) := ⟨_, rfl⟩
  have hSl : SV.length = 32 := by rw [HSV.out, List.length_map, hsl]
  have hS1 : ∀ u ∈ SV, u.oneCell' = true := by rw [HSV.out]; exact ints_one _ _
  rw [← HSV.out] at hop ⊢
  rw [← HCS.out] at hop hrd
  obtain ⟨K, HK⟩ : ∃ K, Hid (K = k.map (Value.int .u8)) := ⟨_, rfl⟩
  have hKl : K.length = 32 := by rw [HK.out, List.length_map, hk]
  rw [← HK.out] at hop ⊢
  clear hk hn HL hmc HP h1 hml hx h2 hsl
  go_enter Try.func192, Try.ntmps192
  go_wp2_with (first | (refine wl_storeV rfl 23 _ _ rfl 23 (B + 1) rfl SV rfl 32 aggKey hSl Z hR5 hZl hS1 ?_; intro wF hRF hbF hsF; have bbF := bb5.trans (hbF.mono (by omega : B ≤ _)); clear hR5) | (go_at_call 216; refine (hop w4 bb4).out.mono ?_; rintro r w5 ⟨rfl, hb5⟩; have hR5 := hR4.below hb5 hR4.lt; have bb5 := bb4.trans (hb5.mono (by have := hR4.lt; omega : B ≤ _)); clear hB4 hR4 bb4 hb5) | (refine wl_load rfl 107 _ rfl ⟨G, 0, none⟩ rfl CS (by rw [hCl]; exact aggEnv) hG4.at0 ?_) | (refine wl_load rfl 23 _ rfl ⟨B, 0, none⟩ rfl K (by rw [hKl]; exact aggKey) hB4.at0 ?_) | (refine wl_storeV rfl 107 _ _ rfl 107 G rfl CS rfl 130 aggEnv hCl ZE hG3 hZEl hC1 ?_; intro w4 hG4 hb4 hs4; have hB4 := hB3.below hb4 (by omega); have hR4 := hR3.below hb4 (by omega); have bb4 := bb3.trans (hb4.mono (by omega : B ≤ _)); clear hB3 hR3 bb3 hb4 hG3) | (refine wl_allocV rfl 107 rfl ZE hzE.out w2.heap.size rfl ?_; intro w3 hG3 hb3 hs3; obtain ⟨G, HG⟩ : ∃ g, Hid (g = w2.heap.size) := ⟨_, rfl⟩; rw [← HG.out] at hG3 hb3 hs3; rw [← HG.out]; have hGB : B + 2 ≤ G := (by rw [HG.out]; exact hs2); have hB3 := hB2.below hb3 (by omega); have hR3 := hR2.below hb3 (by omega); have bb3 := bb2.trans (hb3.mono (by omega : B ≤ _)); clear hB2 hR2 bb2 hb3) | (go_at_call 71; refine (hrd w1 bb1).out.mono ?_; rintro r w2 ⟨rfl, hb2⟩; have hB2 := hB1.below hb2 hB1.lt; have hR2 := hR1.below hb2 hR1.lt; have bb2 := bb1.trans (hb2.mono (by omega : B ≤ _)); have hs2 : B + 2 ≤ w2.heap.size := (by have := hb2.size; omega); clear hB1 hR1 bb1 hb1 hb2) | (refine wl_allocV rfl 23 rfl Z hzK.out (B + 1) hs0 ?_; intro w1 hR1 hb1 hs1; have hB1 := hB0.below hb1 (by omega); have bb1 := hb0.trans (hb1.mono (by omega : B ≤ _)); clear hB0 hb0) | (refine wl_boxV rfl 23 _ rfl K rfl B hsz ?_; intro w0 hB0 hb0 hs0))
  (try simp only [Exit.inBlock, Exit.then]); refine bodyPost_ret (results_cell2 rfl _ _ _ _ rfl SV (by rw [hSl]; exact aggKey) hRF.at0) rfl ?_
  exact ⟨rfl, by rw [← HB.out]; exact bbF⟩
theorem Unwrap_any (k l c : List Int) (bo : Option Addr) (bc n : Nat) (ao : Option Addr) (cap mc : Nat) (w : World) (hk : k.length = 32) (ok : Octs k) (hn : n = l.length) (HL : Pt.Ok w ⟨bo, bc, l⟩) (hmc : mc = c.length) (HP : Pt.Ok w ⟨ao, cap, c⟩) (hno : ao = none → cap = 0) :
    Calls Try.prog 192 #[.agg (k.map (Value.int .u8)).toArray, .slice bo n bc, .slice ao mc cap] w fun r w' => r = .returned (unwrapV k l c) ∧ Below w.heap.size w w' := by
  by_cases h1 : 4096 < c.length
  · exact Unwrap_L k l c bo bc n ao cap mc w hk ok hn HL hmc HP hno h1
  · by_cases h2 : readE l = 0
    · exact Unwrap_O k l c bo bc n ao cap mc w hk ok hn HL hmc HP hno h1 h2
    · exact Unwrap_R k l c bo bc n ao cap mc w hk ok hn HL hmc HP hno h1 h2
end Go.Proofs.Ytbljihhelladbaa.wr
