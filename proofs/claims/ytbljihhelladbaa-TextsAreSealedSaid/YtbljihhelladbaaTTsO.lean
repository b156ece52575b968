/-
  The law TextsAreSealed where it ends early. Conditions: keys and a nonce of octets, octets that lie in memory. Contracts of tree.steps and tree.lead. Conditions: sizes of at most 65536; a path of as many sums as there are steps.
-/
import Derived.Test.YtbljihhelladbaaTTsE
import Derived.Test.YtbljihhelladbaaTCkB
import Derived.Test.YtbljihhelladbaaTWrO
import Derived.Laws.Slices
namespace Go.Proofs.Ytbljihhelladbaa.wr
open Go.RowKit Go.Proofs.Ytbljihhelladbaa.st Go.Proofs.Ytbljihhelladbaa.hs Go.Proofs.Ytbljihhelladbaa.shr Go.Proofs.Ytbljihhelladbaa.sh
set_option linter.unusedSimpArgs false
set_option linter.unusedVariables false
set_option pp.maxSteps 6000
set_option maxRecDepth 100000 in
set_option maxHeartbeats 4000000 in
theorem sealed_out_head (k o n h t : List Int) (ha ta : Option Addr) (hp tp hn tn : Nat) (bs i at_ by_ cut : Int) (w : World) (hk : k.length = 32) (ok : Octs k) (hol : o.length = 32) (oo : Octs o) (hnn : n.length = 16) (on : Octs n) (hhn : hn = h.length) (htn : tn = t.length) (HH : Pt.Ok w ⟨ha, hp, h⟩) (HT : Pt.Ok w ⟨ta, tp, t⟩) (h0 : ha = none → hp = 0) (t0 : ta = none → tp = 0) (h1 : ¬ (16 ≤ bs ∧ bs ≤ 65536)) (h3 : 4096 < hn) :
    Calls Try.prog 13 #[.agg (k.map (Value.int .u8)).toArray, .agg (o.map (Value.int .u8)).toArray, .agg (n.map (Value.int .u8)).toArray, .slice ha hn hp, .slice ta tn tp, .int .i64 bs, .int .i64 i, .int .i64 at_, .int .u8 by_, .int .i64 cut] w fun e w' => e = .returned (.bool true) ∧ Below w.heap.size w w' := by
  obtain ⟨B, HB⟩ : ∃ B, Hid (B = w.heap.size) := ⟨_, rfl⟩
  have hsz : w.heap.size = B := HB.out.symm
  obtain ⟨K, HK⟩ : ∃ K, Hid (K = k.map (Value.int .u8)) := ⟨_, rfl⟩
  have hKl : K.length = 32 := by rw [HK.out, List.length_map, hk]
  obtain ⟨O, HO⟩ : ∃ K, Hid (K = o.map (Value.int .u8)) := ⟨_, rfl⟩
  have hOl : O.length = 32 := by rw [HO.out, List.length_map, hol]
  obtain ⟨NV, HNV⟩ : ∃ K, Hid (K = n.map (Value.int .u8)) := ⟨_, rfl⟩
  have hNl : NV.length = 16 := by rw [HNV.out, List.length_map, hnn]
  have hwr := fun y => hid (wraps_any y)
  have hin := fun y => hid (In_b bs 16 65536 y)
  have hE : sealE bs hn tn = 4 := by unfold sealE; rw [if_pos (by omega)]
  have hI : inB bs 16 65536 = false := by unfold inB; simp; omega
  have hst := fun y => hid (SealText_bad k n bs ha ta hp tp hn tn y hk hnn (by rw [hE]; decide))
  simp only [hE, ← HK.out, ← HNV.out] at hst
  rw [hI] at hin
  have HFL : Hid (firstE2 (whenE true 4) (whenE true 5) = 4) := hid rfl
  have hI3 : (4096 : Int) < (hn : Int) := by omega
  rw [← HK.out, ← HO.out, ← HNV.out]
  clear hk ok hol oo hnn on hhn htn HH HT h0 t0 h1 h3 hE hI
  go_enter Try.func13, Try.ntmps13
  go_wp2_with (first | (go_at_call 70; refine (hwr w4).out.mono ?_; rintro e w5 ⟨rfl, hb5⟩; have bb5 := bb4.trans (hb5.mono (by simp at hs4; omega : B ≤ _))) | (go_at_call 70; refine (hwr _).out.mono ?_; rintro e w4 ⟨rfl, hb4⟩; have bb4 := (bb3.alloc (by omega) _).trans (hb4.mono (by simp; omega : B ≤ _)); have hs4 := hb4.size) | (go_at_call 23; refine (First_two _ _ _ _ rfl).mono ?_; rintro e wx ⟨rfl, hwx⟩; subst wx; rw [HFL.out]) | (go_at_call 21; refine (When_any _ _ _).mono ?_; rintro e wx ⟨rfl, hwx⟩; subst wx) | (go_at_call 16; refine (hin _).out.mono ?_; rintro e wx ⟨rfl, hwx⟩; subst wx) | (go_at_call 75; refine (hst w2).out.mono ?_; rintro e w3 ⟨rfl, hb3⟩; have bb3 := bb2.trans (hb3.mono (by omega : B ≤ _)); have hs3 := hb3.size) | (refine wl_loadG (by rfl) 25 _ rfl ⟨B + 1 + 1, 0, none⟩ rfl 16 NV hNl aggNo hN2.at0 ?_) | (refine wl_loadG (by rfl) 23 _ rfl ⟨B, 0, none⟩ rfl 32 K hKl aggKey hK2.at0 ?_) | (refine wl_boxV rfl 25 _ rfl NV rfl (B + 1 + 1) hs1 ?_; intro w2 hN2 hb2 hs2; have hK2 := hK1.below hb2 (by omega); have hO2 := hO1.below hb2 (by omega); have bb2 := bb1.trans (hb2.mono (by omega : B ≤ _)); clear hs0 hs1) | (refine wl_boxV rfl 23 _ rfl O rfl (B + 1) hs0 ?_; intro w1 hO1 hb1 hs1; have hK1 := hK0.below hb1 (by omega); have bb1 := bb0.trans (hb1.mono (by omega : B ≤ _))) | (refine wl_boxV rfl 23 _ rfl K rfl B hsz ?_; intro w0 hK0 bb0 hs0))
  go_ret
  exact ⟨rfl, by first | exact bb5 | (rw [hsz]; exact bb5)⟩
set_option maxRecDepth 100000 in
set_option maxHeartbeats 4000000 in
theorem sealed_out_text (k o n h t : List Int) (ha ta : Option Addr) (hp tp hn tn : Nat) (bs i at_ by_ cut : Int) (w : World) (hk : k.length = 32) (ok : Octs k) (hol : o.length = 32) (oo : Octs o) (hnn : n.length = 16) (on : Octs n) (hhn : hn = h.length) (htn : tn = t.length) (HH : Pt.Ok w ⟨ha, hp, h⟩) (HT : Pt.Ok w ⟨ta, tp, t⟩) (h0 : ha = none → hp = 0) (t0 : ta = none → tp = 0) (h1 : ¬ (16 ≤ bs ∧ bs ≤ 65536)) (h3 : ¬ 4096 < hn) (h4 : 262144 < tn) :
    Calls Try.prog 13 #[.agg (k.map (Value.int .u8)).toArray, .agg (o.map (Value.int .u8)).toArray, .agg (n.map (Value.int .u8)).toArray, .slice ha hn hp, .slice ta tn tp, .int .i64 bs, .int .i64 i, .int .i64 at_, .int .u8 by_, .int .i64 cut] w fun e w' => e = .returned (.bool true) ∧ Below w.heap.size w w' := by
  obtain ⟨B, HB⟩ : ∃ B, Hid (B = w.heap.size) := ⟨_, rfl⟩
  have hsz : w.heap.size = B := HB.out.symm
  obtain ⟨K, HK⟩ : ∃ K, Hid (K = k.map (Value.int .u8)) := ⟨_, rfl⟩
  have hKl : K.length = 32 := by rw [HK.out, List.length_map, hk]
  obtain ⟨O, HO⟩ : ∃ K, Hid (K = o.map (Value.int .u8)) := ⟨_, rfl⟩
  have hOl : O.length = 32 := by rw [HO.out, List.length_map, hol]
  obtain ⟨NV, HNV⟩ : ∃ K, Hid (K = n.map (Value.int .u8)) := ⟨_, rfl⟩
  have hNl : NV.length = 16 := by rw [HNV.out, List.length_map, hnn]
  have hwr := fun y => hid (wraps_any y)
  have hin := fun y => hid (In_b bs 16 65536 y)
  have hE : sealE bs hn tn = 4 := by unfold sealE; rw [if_pos (by omega)]
  have hI : inB bs 16 65536 = false := by unfold inB; simp; omega
  have hst := fun y => hid (SealText_bad k n bs ha ta hp tp hn tn y hk hnn (by rw [hE]; decide))
  simp only [hE, ← HK.out, ← HNV.out] at hst
  rw [hI] at hin
  have HFL : Hid (firstE2 (whenE true 4) (whenE true 5) = 4) := hid rfl
  have hI3 : ¬ (4096 : Int) < (hn : Int) := by omega
  have hd3 : decide ((4096 : Int) < (hn : Int)) = false := decide_eq_false hI3
  have hI4 : (262144 : Int) < (tn : Int) := by omega
  rw [← HK.out, ← HO.out, ← HNV.out]
  clear hk ok hol oo hnn on hhn htn HH HT h0 t0 h1 h3 h4 hE hI
  go_enter Try.func13, Try.ntmps13
  go_wp2_with (first | (go_at_call 70; refine (hwr w4).out.mono ?_; rintro e w5 ⟨rfl, hb5⟩; have bb5 := bb4.trans (hb5.mono (by simp at hs4; omega : B ≤ _))) | (go_at_call 70; refine (hwr _).out.mono ?_; rintro e w4 ⟨rfl, hb4⟩; have bb4 := (bb3.alloc (by omega) _).trans (hb4.mono (by simp; omega : B ≤ _)); have hs4 := hb4.size) | (go_at_call 23; refine (First_two _ _ _ _ rfl).mono ?_; rintro e wx ⟨rfl, hwx⟩; subst wx; rw [HFL.out]) | (go_at_call 21; refine (When_any _ _ _).mono ?_; rintro e wx ⟨rfl, hwx⟩; subst wx) | (go_at_call 16; refine (hin _).out.mono ?_; rintro e wx ⟨rfl, hwx⟩; subst wx) | (go_at_call 75; refine (hst w2).out.mono ?_; rintro e w3 ⟨rfl, hb3⟩; have bb3 := bb2.trans (hb3.mono (by omega : B ≤ _)); have hs3 := hb3.size) | (refine wl_loadG (by rfl) 25 _ rfl ⟨B + 1 + 1, 0, none⟩ rfl 16 NV hNl aggNo hN2.at0 ?_) | (refine wl_loadG (by rfl) 23 _ rfl ⟨B, 0, none⟩ rfl 32 K hKl aggKey hK2.at0 ?_) | (refine wl_boxV rfl 25 _ rfl NV rfl (B + 1 + 1) hs1 ?_; intro w2 hN2 hb2 hs2; have hK2 := hK1.below hb2 (by omega); have hO2 := hO1.below hb2 (by omega); have bb2 := bb1.trans (hb2.mono (by omega : B ≤ _)); clear hs0 hs1) | (refine wl_boxV rfl 23 _ rfl O rfl (B + 1) hs0 ?_; intro w1 hO1 hb1 hs1; have hK1 := hK0.below hb1 (by omega); have bb1 := bb0.trans (hb1.mono (by omega : B ≤ _))) | (refine wl_boxV rfl 23 _ rfl K rfl B hsz ?_; intro w0 hK0 bb0 hs0))
  go_ret
  exact ⟨rfl, by first | exact bb5 | (rw [hsz]; exact bb5)⟩
set_option maxRecDepth 100000 in
set_option maxHeartbeats 4000000 in
theorem sealed_out_none (k o n h t : List Int) (ha ta : Option Addr) (hp tp hn tn : Nat) (bs i at_ by_ cut : Int) (w : World) (hk : k.length = 32) (ok : Octs k) (hol : o.length = 32) (oo : Octs o) (hnn : n.length = 16) (on : Octs n) (hhn : hn = h.length) (htn : tn = t.length) (HH : Pt.Ok w ⟨ha, hp, h⟩) (HT : Pt.Ok w ⟨ta, tp, t⟩) (h0 : ha = none → hp = 0) (t0 : ta = none → tp = 0) (h1 : ¬ (16 ≤ bs ∧ bs ≤ 65536)) (h3 : ¬ 4096 < hn) (h4 : ¬ 262144 < tn) :
    Calls Try.prog 13 #[.agg (k.map (Value.int .u8)).toArray, .agg (o.map (Value.int .u8)).toArray, .agg (n.map (Value.int .u8)).toArray, .slice ha hn hp, .slice ta tn tp, .int .i64 bs, .int .i64 i, .int .i64 at_, .int .u8 by_, .int .i64 cut] w fun e w' => e = .returned (.bool true) ∧ Below w.heap.size w w' := by
  obtain ⟨B, HB⟩ : ∃ B, Hid (B = w.heap.size) := ⟨_, rfl⟩
  have hsz : w.heap.size = B := HB.out.symm
  obtain ⟨K, HK⟩ : ∃ K, Hid (K = k.map (Value.int .u8)) := ⟨_, rfl⟩
  have hKl : K.length = 32 := by rw [HK.out, List.length_map, hk]
  obtain ⟨O, HO⟩ : ∃ K, Hid (K = o.map (Value.int .u8)) := ⟨_, rfl⟩
  have hOl : O.length = 32 := by rw [HO.out, List.length_map, hol]
  obtain ⟨NV, HNV⟩ : ∃ K, Hid (K = n.map (Value.int .u8)) := ⟨_, rfl⟩
  have hNl : NV.length = 16 := by rw [HNV.out, List.length_map, hnn]
  have hwr := fun y => hid (wraps_any y)
  have hin := fun y => hid (In_b bs 16 65536 y)
  have hE : sealE bs hn tn = 4 := by unfold sealE; rw [if_pos (by omega)]
  have hI : inB bs 16 65536 = false := by unfold inB; simp; omega
  have hst := fun y => hid (SealText_bad k n bs ha ta hp tp hn tn y hk hnn (by rw [hE]; decide))
  simp only [hE, ← HK.out, ← HNV.out] at hst
  rw [hI] at hin
  have HFL : Hid (firstE2 (whenE true 4) (whenE false 5) = 4) := hid rfl
  have hI3 : ¬ (4096 : Int) < (hn : Int) := by omega
  have hd3 : decide ((4096 : Int) < (hn : Int)) = false := decide_eq_false hI3
  have hI4 : ¬ (262144 : Int) < (tn : Int) := by omega
  have hd4 : decide ((262144 : Int) < (tn : Int)) = false := decide_eq_false hI4
  rw [← HK.out, ← HO.out, ← HNV.out]
  clear hk ok hol oo hnn on hhn htn HH HT h0 t0 h1 h3 h4 hE hI
  go_enter Try.func13, Try.ntmps13
  go_wp2_with (first | (go_at_call 70; refine (hwr w4).out.mono ?_; rintro e w5 ⟨rfl, hb5⟩; have bb5 := bb4.trans (hb5.mono (by simp at hs4; omega : B ≤ _))) | (go_at_call 70; refine (hwr _).out.mono ?_; rintro e w4 ⟨rfl, hb4⟩; have bb4 := (bb3.alloc (by omega) _).trans (hb4.mono (by simp; omega : B ≤ _)); have hs4 := hb4.size) | (go_at_call 23; refine (First_two _ _ _ _ rfl).mono ?_; rintro e wx ⟨rfl, hwx⟩; subst wx; rw [HFL.out]) | (go_at_call 21; refine (When_any _ _ _).mono ?_; rintro e wx ⟨rfl, hwx⟩; subst wx) | (go_at_call 16; refine (hin _).out.mono ?_; rintro e wx ⟨rfl, hwx⟩; subst wx) | (go_at_call 75; refine (hst w2).out.mono ?_; rintro e w3 ⟨rfl, hb3⟩; have bb3 := bb2.trans (hb3.mono (by omega : B ≤ _)); have hs3 := hb3.size) | (refine wl_loadG (by rfl) 25 _ rfl ⟨B + 1 + 1, 0, none⟩ rfl 16 NV hNl aggNo hN2.at0 ?_) | (refine wl_loadG (by rfl) 23 _ rfl ⟨B, 0, none⟩ rfl 32 K hKl aggKey hK2.at0 ?_) | (refine wl_boxV rfl 25 _ rfl NV rfl (B + 1 + 1) hs1 ?_; intro w2 hN2 hb2 hs2; have hK2 := hK1.below hb2 (by omega); have hO2 := hO1.below hb2 (by omega); have bb2 := bb1.trans (hb2.mono (by omega : B ≤ _)); clear hs0 hs1) | (refine wl_boxV rfl 23 _ rfl O rfl (B + 1) hs0 ?_; intro w1 hO1 hb1 hs1; have hK1 := hK0.below hb1 (by omega); have bb1 := bb0.trans (hb1.mono (by omega : B ≤ _))) | (refine wl_boxV rfl 23 _ rfl K rfl B hsz ?_; intro w0 hK0 bb0 hs0))
  go_ret
  exact ⟨rfl, by first | exact bb5 | (rw [hsz]; exact bb5)⟩
set_option maxRecDepth 100000 in
set_option maxHeartbeats 4000000 in
theorem sealed_in_head (k o n h t : List Int) (ha ta : Option Addr) (hp tp hn tn : Nat) (bs i at_ by_ cut : Int) (w : World) (hk : k.length = 32) (ok : Octs k) (hol : o.length = 32) (oo : Octs o) (hnn : n.length = 16) (on : Octs n) (hhn : hn = h.length) (htn : tn = t.length) (HH : Pt.Ok w ⟨ha, hp, h⟩) (HT : Pt.Ok w ⟨ta, tp, t⟩) (h0 : ha = none → hp = 0) (t0 : ta = none → tp = 0) (h1 : (16 ≤ bs ∧ bs ≤ 65536)) (h3 : 4096 < hn) :
    Calls Try.prog 13 #[.agg (k.map (Value.int .u8)).toArray, .agg (o.map (Value.int .u8)).toArray, .agg (n.map (Value.int .u8)).toArray, .slice ha hn hp, .slice ta tn tp, .int .i64 bs, .int .i64 i, .int .i64 at_, .int .u8 by_, .int .i64 cut] w fun e w' => e = .returned (.bool true) ∧ Below w.heap.size w w' := by
  obtain ⟨B, HB⟩ : ∃ B, Hid (B = w.heap.size) := ⟨_, rfl⟩
  have hsz : w.heap.size = B := HB.out.symm
  obtain ⟨K, HK⟩ : ∃ K, Hid (K = k.map (Value.int .u8)) := ⟨_, rfl⟩
  have hKl : K.length = 32 := by rw [HK.out, List.length_map, hk]
  obtain ⟨O, HO⟩ : ∃ K, Hid (K = o.map (Value.int .u8)) := ⟨_, rfl⟩
  have hOl : O.length = 32 := by rw [HO.out, List.length_map, hol]
  obtain ⟨NV, HNV⟩ : ∃ K, Hid (K = n.map (Value.int .u8)) := ⟨_, rfl⟩
  have hNl : NV.length = 16 := by rw [HNV.out, List.length_map, hnn]
  have hwr := fun y => hid (wraps_any y)
  have hin := fun y => hid (In_b bs 16 65536 y)
  have hE : sealE bs hn tn = 5 := by unfold sealE; rw [if_neg (by omega), if_pos (by omega)]
  have hI : inB bs 16 65536 = true := by unfold inB; simp; omega
  have hst := fun y => hid (SealText_bad k n bs ha ta hp tp hn tn y hk hnn (by rw [hE]; decide))
  simp only [hE, ← HK.out, ← HNV.out] at hst
  rw [hI] at hin
  have HFL : Hid (firstE2 (whenE false 4) (whenE true 5) = 5) := hid rfl
  have hI3 : (4096 : Int) < (hn : Int) := by omega
  rw [← HK.out, ← HO.out, ← HNV.out]
  clear hk ok hol oo hnn on hhn htn HH HT h0 t0 h1 h3 hE hI
  go_enter Try.func13, Try.ntmps13
  go_wp2_with (first | (go_at_call 70; refine (hwr w4).out.mono ?_; rintro e w5 ⟨rfl, hb5⟩; have bb5 := bb4.trans (hb5.mono (by simp at hs4; omega : B ≤ _))) | (go_at_call 70; refine (hwr _).out.mono ?_; rintro e w4 ⟨rfl, hb4⟩; have bb4 := (bb3.alloc (by omega) _).trans (hb4.mono (by simp; omega : B ≤ _)); have hs4 := hb4.size) | (go_at_call 23; refine (First_two _ _ _ _ rfl).mono ?_; rintro e wx ⟨rfl, hwx⟩; subst wx; rw [HFL.out]) | (go_at_call 21; refine (When_any _ _ _).mono ?_; rintro e wx ⟨rfl, hwx⟩; subst wx) | (go_at_call 16; refine (hin _).out.mono ?_; rintro e wx ⟨rfl, hwx⟩; subst wx) | (go_at_call 75; refine (hst w2).out.mono ?_; rintro e w3 ⟨rfl, hb3⟩; have bb3 := bb2.trans (hb3.mono (by omega : B ≤ _)); have hs3 := hb3.size) | (refine wl_loadG (by rfl) 25 _ rfl ⟨B + 1 + 1, 0, none⟩ rfl 16 NV hNl aggNo hN2.at0 ?_) | (refine wl_loadG (by rfl) 23 _ rfl ⟨B, 0, none⟩ rfl 32 K hKl aggKey hK2.at0 ?_) | (refine wl_boxV rfl 25 _ rfl NV rfl (B + 1 + 1) hs1 ?_; intro w2 hN2 hb2 hs2; have hK2 := hK1.below hb2 (by omega); have hO2 := hO1.below hb2 (by omega); have bb2 := bb1.trans (hb2.mono (by omega : B ≤ _)); clear hs0 hs1) | (refine wl_boxV rfl 23 _ rfl O rfl (B + 1) hs0 ?_; intro w1 hO1 hb1 hs1; have hK1 := hK0.below hb1 (by omega); have bb1 := bb0.trans (hb1.mono (by omega : B ≤ _))) | (refine wl_boxV rfl 23 _ rfl K rfl B hsz ?_; intro w0 hK0 bb0 hs0))
  go_ret
  exact ⟨rfl, by first | exact bb5 | (rw [hsz]; exact bb5)⟩
set_option maxRecDepth 100000 in
set_option maxHeartbeats 4000000 in
theorem sealed_in_text (k o n h t : List Int) (ha ta : Option Addr) (hp tp hn tn : Nat) (bs i at_ by_ cut : Int) (w : World) (hk : k.length = 32) (ok : Octs k) (hol : o.length = 32) (oo : Octs o) (hnn : n.length = 16) (on : Octs n) (hhn : hn = h.length) (htn : tn = t.length) (HH : Pt.Ok w ⟨ha, hp, h⟩) (HT : Pt.Ok w ⟨ta, tp, t⟩) (h0 : ha = none → hp = 0) (t0 : ta = none → tp = 0) (h1 : (16 ≤ bs ∧ bs ≤ 65536)) (h3 : ¬ 4096 < hn) (h4 : 262144 < tn) :
    Calls Try.prog 13 #[.agg (k.map (Value.int .u8)).toArray, .agg (o.map (Value.int .u8)).toArray, .agg (n.map (Value.int .u8)).toArray, .slice ha hn hp, .slice ta tn tp, .int .i64 bs, .int .i64 i, .int .i64 at_, .int .u8 by_, .int .i64 cut] w fun e w' => e = .returned (.bool true) ∧ Below w.heap.size w w' := by
  obtain ⟨B, HB⟩ : ∃ B, Hid (B = w.heap.size) := ⟨_, rfl⟩
  have hsz : w.heap.size = B := HB.out.symm
  obtain ⟨K, HK⟩ : ∃ K, Hid (K = k.map (Value.int .u8)) := ⟨_, rfl⟩
  have hKl : K.length = 32 := by rw [HK.out, List.length_map, hk]
  obtain ⟨O, HO⟩ : ∃ K, Hid (K = o.map (Value.int .u8)) := ⟨_, rfl⟩
  have hOl : O.length = 32 := by rw [HO.out, List.length_map, hol]
  obtain ⟨NV, HNV⟩ : ∃ K, Hid (K = n.map (Value.int .u8)) := ⟨_, rfl⟩
  have hNl : NV.length = 16 := by rw [HNV.out, List.length_map, hnn]
  have hwr := fun y => hid (wraps_any y)
  have hin := fun y => hid (In_b bs 16 65536 y)
  have hE : sealE bs hn tn = 5 := by unfold sealE; rw [if_neg (by omega), if_pos (by omega)]
  have hI : inB bs 16 65536 = true := by unfold inB; simp; omega
  have hst := fun y => hid (SealText_bad k n bs ha ta hp tp hn tn y hk hnn (by rw [hE]; decide))
  simp only [hE, ← HK.out, ← HNV.out] at hst
  rw [hI] at hin
  have HFL : Hid (firstE2 (whenE false 4) (whenE true 5) = 5) := hid rfl
  have hI3 : ¬ (4096 : Int) < (hn : Int) := by omega
  have hd3 : decide ((4096 : Int) < (hn : Int)) = false := decide_eq_false hI3
  have hI4 : (262144 : Int) < (tn : Int) := by omega
  rw [← HK.out, ← HO.out, ← HNV.out]
  clear hk ok hol oo hnn on hhn htn HH HT h0 t0 h1 h3 h4 hE hI
  go_enter Try.func13, Try.ntmps13
  go_wp2_with (first | (go_at_call 70; refine (hwr w4).out.mono ?_; rintro e w5 ⟨rfl, hb5⟩; have bb5 := bb4.trans (hb5.mono (by simp at hs4; omega : B ≤ _))) | (go_at_call 70; refine (hwr _).out.mono ?_; rintro e w4 ⟨rfl, hb4⟩; have bb4 := (bb3.alloc (by omega) _).trans (hb4.mono (by simp; omega : B ≤ _)); have hs4 := hb4.size) | (go_at_call 23; refine (First_two _ _ _ _ rfl).mono ?_; rintro e wx ⟨rfl, hwx⟩; subst wx; rw [HFL.out]) | (go_at_call 21; refine (When_any _ _ _).mono ?_; rintro e wx ⟨rfl, hwx⟩; subst wx) | (go_at_call 16; refine (hin _).out.mono ?_; rintro e wx ⟨rfl, hwx⟩; subst wx) | (go_at_call 75; refine (hst w2).out.mono ?_; rintro e w3 ⟨rfl, hb3⟩; have bb3 := bb2.trans (hb3.mono (by omega : B ≤ _)); have hs3 := hb3.size) | (refine wl_loadG (by rfl) 25 _ rfl ⟨B + 1 + 1, 0, none⟩ rfl 16 NV hNl aggNo hN2.at0 ?_) | (refine wl_loadG (by rfl) 23 _ rfl ⟨B, 0, none⟩ rfl 32 K hKl aggKey hK2.at0 ?_) | (refine wl_boxV rfl 25 _ rfl NV rfl (B + 1 + 1) hs1 ?_; intro w2 hN2 hb2 hs2; have hK2 := hK1.below hb2 (by omega); have hO2 := hO1.below hb2 (by omega); have bb2 := bb1.trans (hb2.mono (by omega : B ≤ _)); clear hs0 hs1) | (refine wl_boxV rfl 23 _ rfl O rfl (B + 1) hs0 ?_; intro w1 hO1 hb1 hs1; have hK1 := hK0.below hb1 (by omega); have bb1 := bb0.trans (hb1.mono (by omega : B ≤ _))) | (refine wl_boxV rfl 23 _ rfl K rfl B hsz ?_; intro w0 hK0 bb0 hs0))
  go_ret
  exact ⟨rfl, by first | exact bb5 | (rw [hsz]; exact bb5)⟩
set_option maxRecDepth 100000 in
set_option maxHeartbeats 4000000 in
theorem sealed_large (k o n h t : List Int) (ha ta : Option Addr) (hp tp hn tn : Nat) (bs i at_ by_ cut : Int) (w : World) (hk : k.length = 32) (ok : Octs k) (hol : o.length = 32) (oo : Octs o) (hnn : n.length = 16) (on : Octs n) (hhn : hn = h.length) (htn : tn = t.length) (HH : Pt.Ok w ⟨ha, hp, h⟩) (HT : Pt.Ok w ⟨ta, tp, t⟩) (h0 : ha = none → hp = 0) (t0 : ta = none → tp = 0) (h1 : 16 ≤ bs ∧ bs ≤ 65536) (h3 : ¬ 4096 < hn) (h4 : ¬ 262144 < tn) (h5 : 5000 < tn) :
    Calls Try.prog 13 #[.agg (k.map (Value.int .u8)).toArray, .agg (o.map (Value.int .u8)).toArray, .agg (n.map (Value.int .u8)).toArray, .slice ha hn hp, .slice ta tn tp, .int .i64 bs, .int .i64 i, .int .i64 at_, .int .u8 by_, .int .i64 cut] w fun e w' => e = .returned (.bool true) ∧ Below w.heap.size w w' := by
  obtain ⟨B, HB⟩ : ∃ B, Hid (B = w.heap.size) := ⟨_, rfl⟩
  have hsz : w.heap.size = B := HB.out.symm
  obtain ⟨K, HK⟩ : ∃ K, Hid (K = k.map (Value.int .u8)) := ⟨_, rfl⟩
  have hKl : K.length = 32 := by rw [HK.out, List.length_map, hk]
  obtain ⟨O, HO⟩ : ∃ K, Hid (K = o.map (Value.int .u8)) := ⟨_, rfl⟩
  have hOl : O.length = 32 := by rw [HO.out, List.length_map, hol]
  obtain ⟨NV, HNV⟩ : ∃ K, Hid (K = n.map (Value.int .u8)) := ⟨_, rfl⟩
  have hNl : NV.length = 16 := by rw [HNV.out, List.length_map, hnn]
  have hwr := fun y => hid (wraps_any y)
  have hin := fun y => hid (In_b bs 16 65536 y)
  obtain ⟨bn, hbn⟩ : ∃ b : Nat, bs = (b : Int) := ⟨bs.toNat, by omega⟩
  subst hbn
  have hI : inB (bn : Int) 16 65536 = true := by unfold inB; simp; omega
  rw [hI] at hin
  have hst := fun (y : World) (hb : Below B w y) => hid (SealText_ok k n h t bn ha ta hp tp hn tn y hk ok hnn on hhn htn (HH.below (hsz ▸ hb)) (HT.below (hsz ▸ hb)) h0 (by omega) (by omega) (by omega) (by omega))
  have HFL : Hid (firstE2 (whenE false 4) (whenE false 5) = 0) := hid rfl
  have hI3 : ¬ (4096 : Int) < (hn : Int) := by omega
  have hd3 : decide ((4096 : Int) < (hn : Int)) = false := decide_eq_false hI3
  have hI4 : ¬ (262144 : Int) < (tn : Int) := by omega
  have hd4 : decide ((262144 : Int) < (tn : Int)) = false := decide_eq_false hI4
  have hI5 : (5000 : Int) < (tn : Int) := by omega
  simp only [← HK.out, ← HNV.out] at hst
  rw [← HK.out, ← HO.out, ← HNV.out]
  clear hk ok hol oo hnn on hhn htn HH HT h0 t0 h1 h3 h4 hI
  go_enter Try.func13, Try.ntmps13
  go_wp2_with (first | (go_at_call 70; refine (hwr _).out.mono ?_; rintro e w4 ⟨rfl, hb4⟩; have bb4 := (bb3.alloc (by omega) _).trans (hb4.mono (by simp; omega : B ≤ _))) | (go_at_call 23; refine (First_two _ _ _ _ rfl).mono ?_; rintro e wx ⟨rfl, hwx⟩; subst wx; rw [HFL.out]) | (go_at_call 21; refine (When_any _ _ _).mono ?_; rintro e wx ⟨rfl, hwx⟩; subst wx) | (go_at_call 16; refine (hin _).out.mono ?_; rintro e wx ⟨rfl, hwx⟩; subst wx) | (go_at_call 75; refine (hst w2 bb2).out.mono ?_; rintro e w3 ⟨gs, cs, ms, rfl, hms, hPs, hgs, hm1, hm2, hb3⟩; have bb3 := bb2.trans (hb3.mono (by omega : B ≤ _)); have hs3 := hb3.size) | (refine wl_loadG (by rfl) 25 _ rfl ⟨B + 1 + 1, 0, none⟩ rfl 16 NV hNl aggNo hN2.at0 ?_) | (refine wl_loadG (by rfl) 23 _ rfl ⟨B, 0, none⟩ rfl 32 K hKl aggKey hK2.at0 ?_) | (refine wl_boxV rfl 25 _ rfl NV rfl (B + 1 + 1) hs1 ?_; intro w2 hN2 hb2 hs2; have hK2 := hK1.below hb2 (by omega); have hO2 := hO1.below hb2 (by omega); have bb2 := bb1.trans (hb2.mono (by omega : B ≤ _)); clear hs0 hs1) | (refine wl_boxV rfl 23 _ rfl O rfl (B + 1) hs0 ?_; intro w1 hO1 hb1 hs1; have hK1 := hK0.below hb1 (by omega); have bb1 := bb0.trans (hb1.mono (by omega : B ≤ _))) | (refine wl_boxV rfl 23 _ rfl K rfl B hsz ?_; intro w0 hK0 bb0 hs0))
  go_ret
  exact ⟨rfl, by first | exact bb4 | (rw [hsz]; exact bb4)⟩
end Go.Proofs.Ytbljihhelladbaa.wr
namespace Go.Proofs.Ytbljihhelladbaa.ck
open Go.RowKit Go.Proofs.Ytbljihhelladbaa.st Go.Proofs.Ytbljihhelladbaa.hs Go.Proofs.Ytbljihhelladbaa.shr Go.Proofs.Ytbljihhelladbaa.sh Go.Proofs.Ytbljihhelladbaa.wr
set_option linter.unusedSimpArgs false
set_option linter.unusedVariables false
set_option pp.maxSteps 6000
theorem yieldsIf_sliceH {P : Program} {ops : Array Oper} {S : World → Prop} {op : Oper} {a : Act} (hw : Region.wanted op (yielded ops a.tmps) = true) (t : TypeId) (x z : Operand) (ho : op.op = .slice t x none (some z) none)
    (ao : Option Addr) (n c h s : Nat) (hx : a.eval x = .slice ao n c) (hi : Int) (hz : a.eval z = .int .i64 hi) (hhi : hi = (h : Int)) (ht : P.underlying t = some (.slice (P.elem t))) (hs : ∀ w, (sizeOf (P.elem t)).run P w = .ok s w) (hh : h ≤ c) : YieldsIf P ops S op (.slice ao h c) a :=
  .inl ⟨hw, fun w _ => by
    subst hhi
    have hrun := run_slice_h (P := P) w t ao n c ht .i64 (h : Int) (by omega) (by omega)
    rw [hs] at hrun
    simp only [Result.andThen_ok, Int.toNat_natCast, sliced] at hrun
    have hao : (if c = 0 then ao else ao.map (·.add (0 * s))) = ao := by
      split
      · rfl
      · cases ao with
        | none => rfl
        | some a0 =>
          simp only [Option.map_some, Nat.zero_mul]
          unfold Addr.add
          rw [if_pos rfl]
    simp only [Nat.sub_zero, hao] at hrun
    unfold execOp
    simp only [ho, hx, Option.map_some, Option.map_none, hz, run_sliceAt_slice (P := P) w _ _ _ _ _ ht, hrun, Nat.sub_zero, Sem.run_bind, Result.andThen_ok, Sem.run_pure]⟩
theorem RowM.takeN {w : World} {ao : Option Addr} {l : List (List Int)} (h : RowM w ao l) (k : Nat) : RowM w ao (l.take k) := by
  rcases h with h | ⟨b, off, h1, h2, h3⟩
  · exact Or.inl (by rw [h]; simp)
  · refine Or.inr ⟨b, off, h1, h2, fun i hi => ?_⟩
    rw [List.length_take] at hi
    have e : (l.take k).getD i [] = l.getD i [] := by simp [List.getD_eq_getElem?_getD, List.getElem?_take, show i < k by omega]
    rw [e]
    exact h3 i (by omega)
end Go.Proofs.Ytbljihhelladbaa.ck
