/-
  Contract of keyref2.Unwrapped: what wrap.Unwrap answers. Conditions: a key of octets, texts of octets that lie in memory.
-/
import Derived.Test.YtbljihhelladbaaPWsI
namespace Go.Proofs.Ytbljihhelladbaa.wr
open Go.RowKit Go.Proofs.Ytbljihhelladbaa.st Go.Proofs.Ytbljihhelladbaa.hs Go.Proofs.Ytbljihhelladbaa.shr Go.Proofs.Ytbljihhelladbaa.sh
set_option linter.unusedSimpArgs false
set_option linter.unusedVariables false
set_option pp.maxSteps 6000
set_option maxRecDepth 100000 in
set_option maxHeartbeats 2000000 in
theorem Unwrapped_L (k l c : List Int) (bo : Option Addr) (bc n : Nat) (ao : Option Addr) (cap mc : Nat) (w : World) (hk : k.length = 32) (ok : Octs k) (hn : n = l.length) (HL : Pt.Ok w ⟨bo, bc, l⟩) (hmc : mc = c.length) (HP : Pt.Ok w ⟨ao, cap, c⟩) (hno : ao = none → cap = 0) (h1 : 4096 < c.length) :
    Calls Try.prog 149 #[.agg (k.map (Value.int .u8)).toArray, .slice bo n bc, .slice ao mc cap] w fun r w' => r = .returned (unwrapV k l c) ∧ Below w.heap.size w w' := by
  obtain ⟨B, HB⟩ : ∃ B, Hid (B = w.heap.size) := ⟨_, rfl⟩
  have hsz : w.heap.size = B := HB.out.symm
  have hml := HP.cap
  obtain ⟨Z, HZ⟩ : ∃ Z, Hid (Z = (List.replicate 32 (0 : Int)).map (Value.int .u8)) := ⟨_, rfl⟩
  have hzK := hid zeroKey
  have HBK : Hid (Try.prog.built 23 [] = some ((List.replicate 32 (0 : Int)).map (Value.int .u8)).toArray) := hid (by kernel_rfl)
  rw [← HZ.out] at hzK HBK
  have hZl : Z.length = 32 := by rw [HZ.out]; simp
  have hZ1 : ∀ u ∈ Z, u.oneCell' = true := by rw [HZ.out]; exact ints_one _ _
  have hzE := hid zeroEnv
  obtain ⟨ZE, HZE⟩ : ∃ Z, Hid (Z = env0.cs) := ⟨_, rfl⟩
  rw [← HZE.out] at hzE
  have hZEl : ZE.length = 130 := by rw [HZE.out]; exact env0_ok.csl
  have hZE1 : ∀ u ∈ ZE, u.oneCell' = true := by rw [HZE.out]; exact env0.cs_one
  rw [unwrapV_large h1, ← HZ.out]
  have hmI : (4096 : Int) < (mc : Int) := by omega
  obtain ⟨K, HK⟩ : ∃ K, Hid (K = k.map (Value.int .u8)) := ⟨_, rfl⟩
  have hKl : K.length = 32 := by rw [HK.out, List.length_map, hk]
  rw [← HK.out] at ⊢
  clear hk hn HL hmc HP h1 hml
  go_enter Try.func149, Try.ntmps149
  go_wp2_with (first | (refine wl_storeV rfl 23 _ _ rfl 23 (B + 1) rfl Z rfl 32 aggKey hZl Z hR1 hZl hZ1 ?_; intro wF hRF hbF hsF; have bbF := bb1.trans (hbF.mono (by omega : B ≤ _)); clear hR1) | (refine wl_build0 rfl 23 rfl Z HBK.out ?_) | (refine wl_allocV rfl 23 rfl Z hzK.out (B + 1) hs0 ?_; intro w1 hR1 hb1 hs1; have hB1 := hB0.below hb1 (by omega); have bb1 := hb0.trans (hb1.mono (by omega : B ≤ _)); clear hB0 hb0) | (refine wl_boxV rfl 23 _ rfl K rfl B hsz ?_; intro w0 hB0 hb0 hs0))
  (try simp only [Exit.inBlock, Exit.then]); refine bodyPost_ret (results_cell2 rfl _ _ _ _ rfl Z (by rw [hZl]; exact aggKey) hRF.at0) rfl ?_
  exact ⟨rfl, by rw [← HB.out]; exact bbF⟩
set_option maxRecDepth 100000 in
set_option maxHeartbeats 2000000 in
theorem Unwrapped_R (k l c : List Int) (bo : Option Addr) (bc n : Nat) (ao : Option Addr) (cap mc : Nat) (w : World) (hk : k.length = 32) (ok : Octs k) (hn : n = l.length) (HL : Pt.Ok w ⟨bo, bc, l⟩) (hmc : mc = c.length) (HP : Pt.Ok w ⟨ao, cap, c⟩) (hno : ao = none → cap = 0) (h1 : ¬ 4096 < c.length) (h2 : readE l ≠ 0) :
    Calls Try.prog 149 #[.agg (k.map (Value.int .u8)).toArray, .slice bo n bc, .slice ao mc cap] w fun r w' => r = .returned (unwrapV k l c) ∧ Below w.heap.size w w' := by
  obtain ⟨B, HB⟩ : ∃ B, Hid (B = w.heap.size) := ⟨_, rfl⟩
  have hsz : w.heap.size = B := HB.out.symm
  have hml := HP.cap
  obtain ⟨Z, HZ⟩ : ∃ Z, Hid (Z = (List.replicate 32 (0 : Int)).map (Value.int .u8)) := ⟨_, rfl⟩
  have hzK := hid zeroKey
  have HBK : Hid (Try.prog.built 23 [] = some ((List.replicate 32 (0 : Int)).map (Value.int .u8)).toArray) := hid (by kernel_rfl)
  rw [← HZ.out] at hzK HBK
  have hZl : Z.length = 32 := by rw [HZ.out]; simp
  have hZ1 : ∀ u ∈ Z, u.oneCell' = true := by rw [HZ.out]; exact ints_one _ _
  have hzE := hid zeroEnv
  obtain ⟨ZE, HZE⟩ : ∃ Z, Hid (Z = env0.cs) := ⟨_, rfl⟩
  rw [← HZE.out] at hzE
  have hZEl : ZE.length = 130 := by rw [HZE.out]; exact env0_ok.csl
  have hZE1 : ∀ u ∈ ZE, u.oneCell' = true := by rw [HZE.out]; exact env0.cs_one
  rw [unwrapV_read h1 h2, ← HZ.out]
  have hmI : ¬ (4096 : Int) < (mc : Int) := by omega
  obtain ⟨e, He⟩ : ∃ e, Hid (e = readE l) := ⟨_, rfl⟩
  rw [← He.out] at h2 ⊢
  have hrd := fun (y : World) (hb : Below B w y) => hid (RefRead_any bo bc n l y hn (fun _ => HL.below (hsz ▸ hb)))
  rw [readV_err He.out.symm h2, ← HZE.out] at hrd
  obtain ⟨K, HK⟩ : ∃ K, Hid (K = k.map (Value.int .u8)) := ⟨_, rfl⟩
  have hKl : K.length = 32 := by rw [HK.out, List.length_map, hk]
  rw [← HK.out] at ⊢
  clear hk hn HL hmc HP h1 hml
  go_enter Try.func149, Try.ntmps149
  go_wp2_with (first | (refine wl_storeV rfl 23 _ _ rfl 23 (B + 1) rfl Z rfl 32 aggKey hZl Z hR4 hZl hZ1 ?_; intro wF hRF hbF hsF; have bbF := bb4.trans (hbF.mono (by omega : B ≤ _)); clear hR4) | (refine wl_build0 rfl 23 rfl Z HBK.out ?_) | (refine wl_storeV rfl 107 _ _ rfl 107 G rfl ZE rfl 130 aggEnv hZEl ZE hG3 hZEl hZE1 ?_; intro w4 hG4 hb4 hs4; have hB4 := hB3.below hb4 (by omega); have hR4 := hR3.below hb4 (by omega); have bb4 := bb3.trans (hb4.mono (by omega : B ≤ _)); clear hB3 hR3 bb3 hb4 hG3) | (refine wl_allocV rfl 107 rfl ZE hzE.out w2.heap.size rfl ?_; intro w3 hG3 hb3 hs3; obtain ⟨G, HG⟩ : ∃ g, Hid (g = w2.heap.size) := ⟨_, rfl⟩; rw [← HG.out] at hG3 hb3 hs3; rw [← HG.out]; have hGB : B + 2 ≤ G := (by rw [HG.out]; exact hs2); have hB3 := hB2.below hb3 (by omega); have hR3 := hR2.below hb3 (by omega); have bb3 := bb2.trans (hb3.mono (by omega : B ≤ _)); clear hB2 hR2 bb2 hb3) | (go_at_call 72; refine (hrd w1 bb1).out.mono ?_; rintro r w2 ⟨rfl, hb2⟩; have hB2 := hB1.below hb2 hB1.lt; have hR2 := hR1.below hb2 hR1.lt; have bb2 := bb1.trans (hb2.mono (by omega : B ≤ _)); have hs2 : B + 2 ≤ w2.heap.size := (by have := hb2.size; omega); clear hB1 hR1 bb1 hb1 hb2) | (refine wl_allocV rfl 23 rfl Z hzK.out (B + 1) hs0 ?_; intro w1 hR1 hb1 hs1; have hB1 := hB0.below hb1 (by omega); have bb1 := hb0.trans (hb1.mono (by omega : B ≤ _)); clear hB0 hb0) | (refine wl_boxV rfl 23 _ rfl K rfl B hsz ?_; intro w0 hB0 hb0 hs0))
  (try simp only [Exit.inBlock, Exit.then]); refine bodyPost_ret (results_cell2 rfl _ _ _ _ rfl Z (by rw [hZl]; exact aggKey) hRF.at0) rfl ?_
  exact ⟨rfl, by rw [← HB.out]; exact bbF⟩
theorem Unwrapped_any (k l c : List Int) (bo : Option Addr) (bc n : Nat) (ao : Option Addr) (cap mc : Nat) (w : World) (hk : k.length = 32) (ok : Octs k) (hn : n = l.length) (HL : Pt.Ok w ⟨bo, bc, l⟩) (hmc : mc = c.length) (HP : Pt.Ok w ⟨ao, cap, c⟩) (hno : ao = none → cap = 0) :
    Calls Try.prog 149 #[.agg (k.map (Value.int .u8)).toArray, .slice bo n bc, .slice ao mc cap] w fun r w' => r = .returned (unwrapV k l c) ∧ Below w.heap.size w w' := by
  by_cases h1 : 4096 < c.length
  · exact Unwrapped_L k l c bo bc n ao cap mc w hk ok hn HL hmc HP hno h1
  · by_cases h2 : readE l = 0
    · rw [unwrapV_open h1 h2]
      have hx := readX_ok HL.oct h2
      have hrx := readV_ok h2
      have he := readX_e HL.oct
      have hx0 := readX_err HL.oct
      have hm : mc ≤ 4096 := by omega
      obtain ⟨x, Hx⟩ : ∃ x, x = readX l := ⟨_, rfl⟩
      have hv : x.v = 1 ∨ x.v = 2 := by rw [Hx]; exact readX_v
      rw [← Hx] at hx hrx he hx0 ⊢
      rcases hv with hv | hv
      · exact Unwrapped_v1 k l bo bc n x c ao cap mc w hk ok hn HL hrx hx hv hx0 he hmc HP hno hm
      · exact Unwrapped_v2 k l bo bc n x c ao cap mc w hk ok hn HL hrx hx hv hx0 he hmc HP hno hm
    · exact Unwrapped_R k l c bo bc n ao cap mc w hk ok hn HL hmc HP hno h1 h2
end Go.Proofs.Ytbljihhelladbaa.wr
