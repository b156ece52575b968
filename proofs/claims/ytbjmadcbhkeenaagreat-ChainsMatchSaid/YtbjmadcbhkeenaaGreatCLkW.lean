/-
  Contract of wrap.Chain: the secret at a way's end. Conditions: a key of octets, lists of octets that lie in memory. The law ChainsMatch, walked: it returns true. Conditions: a key of octets, lists of octets that lie in memory.
-/
import Derived.Test.YtbjmadcbhkeenaaGreatCLkU
import Derived.Test.YtbjmadcbhkeenaaGreatCWsG
import Derived.Test.YtbjmadcbhkeenaaGreatCLkG
import Derived.Test.YtbjmadcbhkeenaaGreatCWsJ
import Derived.Deep.CutRange
set_option maxRecDepth 100000
set_option linter.unusedSimpArgs false
set_option linter.unusedVariables false
namespace Go.Proofs.YtbjmadcbhkeenaaGreat.lk
open Go.RowKit wr shr sh st hs
def chainGo (es : List Env) (c : List Int) : List Int → List Nat → List Int × Int
 | k, [] => (k, 0)
 | k, i :: r => if openE k (es.getD i env0) c = 0 then chainGo es c (secretX k (es.getD i env0)) r else (List.replicate 32 0, openE k (es.getD i env0) c)
theorem chainGo_ok {es : List Env} {c k : List Int} {i : Nat} {r : List Nat} (h : openE k (es.getD i env0) c = 0) : chainGo es c k (i :: r) = chainGo es c (secretX k (es.getD i env0)) r := by rw [chainGo, if_pos h]
theorem chainGo_bad {es : List Env} {c k : List Int} {i : Nat} {r : List Nat} (h : openE k (es.getD i env0) c ≠ 0) : chainGo es c k (i :: r) = (List.replicate 32 0, openE k (es.getD i env0) c) := by rw [chainGo, if_neg h]
theorem rowI_other {w w' : World} {ao : Option Addr} {l l8 : List Int} {t : TypeId} {g : Nat} (h : RowI .i64 w ao l) (hB : BlkV t w g (l8.map (Value.int .u8))) (hg : w.grownBy w' (some g)) : RowI .i64 w' ao l := by
 rcases h with h | ⟨b, off, h1, h2, h3⟩
 ·exact Or.inl h
 ·refine Or.inr ⟨b, off, h1, Nat.lt_of_lt_of_le h2 hg.size, fun i hi => hg.cell (h3 i hi) (fun e => ?_)⟩
  have e2 : b = g := by injection e
  have h4 := h3 i hi
  rw [e2, hB.cell, List.getElem?_map] at h4
  cases h5 : l8[off + i]? with
  | none => rw [h5] at h4; cases h4
  | some v => rw [h5] at h4; simp at h4
def chainE0 (c : List Int) (n : Nat) (ls : List (List Int)) : Int := if 4096 < c.length ∨ 200 < n then 5 else chE ls
def chainR (k : List Int) (n : Nat) (ls : List (List Int)) (c : List Int) (want : Id) : List Int × Int × List Nat :=
 if chainE0 c n ls ≠ 0 then (List.replicate 32 0, chainE0 c n ls, []) else
 match wayR ((ls.map readX).map lnk) (nameL k) want with
 | none => (List.replicate 32 0, 7, [])
 | some L => ((chainGo (ls.map readX) c k L).1, (chainGo (ls.map readX) c k L).2, if (chainGo (ls.map readX) c k L).2 = 0 then L else [])
def ChainPost (R : List Int × Int × List Nat) (w : World) (e : Ending) (w' : World) : Prop := Below w.heap.size w w' ∧ ∃ (ao : Option Addr) (m c : Nat), e = .returned (.tuple #[.agg (R.1.map (Value.int .u8)).toArray, .slice ao m c, .int .i64 R.2.1]) ∧ m = R.2.2.length ∧ RowI .i64 w' ao (intsN R.2.2)
theorem chain_bad {k : List Int} {n : Nat} {ls : List (List Int)} {c : List Int} {want : Id} {E : Int} {w w' : World} {Z : List Value} (hZ : Z = (List.replicate 32 (0 : Int)).map (Value.int .u8)) (h : chainR k n ls c want = (List.replicate 32 0, E, [])) (hb : Below w.heap.size w w') : ChainPost (chainR k n ls c want) w (.returned (.tuple #[.agg Z.toArray, .slice none 0 0, .int .i64 E])) w' := by
 rw [h, hZ]
 exact ⟨hb, none, 0, 0, rfl, rfl, Or.inl rfl⟩
theorem way_lt {E : List Link} : ∀ {l : List Nat} {a b : Id}, Way E a b l → ∀ i ∈ l, i < E.length
 | [], _, _, _, i, hi => by cases hi
 | j :: l, a, b, ⟨x, hx, _, h⟩, i, hi => by
  rcases List.mem_cons.1 hi with rfl | hi
  ·exact (List.getElem?_eq_some_iff.1 hx).1
  ·exact way_lt h i hi
theorem wayR_lt {E : List Link} {a b : Id} {L : List Nat} (h : wayR E a b = some L) : ∀ i ∈ L, i < E.length := by
 rw [← wayR_eq] at h
 exact way_lt ((wofN_spec E a E.length).1 _ _ h).1
theorem wayR_len {E : List Link} {a b : Id} {L : List Nat} (h : wayR E a b = some L) : L.length ≤ E.length := by
 rw [← wayR_eq] at h
 exact ((wofN_spec E a E.length).1 _ _ h).2
set_option maxHeartbeats 4000000 in
theorem Chain_L (k : List Int) (po ao : Option Addr) (cap ac n mc : Nat) (ps : List Pt) (c : List Int) (want : Id) (w : World) (hk : k.length = 32) (ok : Octs k) (hn : n = ps.length) (hrow : RowV w po (ps.map Pt.v)) (hps : ∀ x ∈ ps, 4 ≤ x.l.length → x.Ok w) (hmc : mc = c.length) (HP : Pt.Ok w ⟨ao, ac, c⟩) (hno : ao = none → ac = 0) (hw : want.length = 16) (h1 : 4096 < c.length) :
  Calls Tryz.prog 4 #[.agg (k.map (Value.int .u8)).toArray, .slice po n cap, .slice ao mc ac, idV want] w (ChainPost (chainR k n (ps.map Pt.l) c want) w) := by
 obtain ⟨B, HB⟩ : ∃ B, Hid (B = w.heap.size) := ⟨_, rfl⟩
 have hsz : w.heap.size = B := HB.out.symm
 obtain ⟨Z, HZ⟩ : ∃ Z, Hid (Z = (List.replicate 32 (0 : Int)).map (Value.int .u8)) := ⟨_, rfl⟩
 have hzK := hid wr.zeroKey
 have HBK : Hid (Tryz.prog.built 23 [] = some ((List.replicate 32 (0 : Int)).map (Value.int .u8)).toArray) := hid (by kernel_rfl)
 rw [← HZ.out] at hzK HBK
 have hZl : Z.length = 32 := by rw [HZ.out]; simp
 have hZ1 : ∀ u ∈ Z, u.oneCell' = true := by rw [HZ.out]; exact ints_one _ _
 obtain ⟨K, HK⟩ : ∃ K, Hid (K = k.map (Value.int .u8)) := ⟨_, rfl⟩
 have hKl : K.length = 32 := by rw [HK.out, List.length_map, hk]
 obtain ⟨W, HW⟩ : ∃ W, Hid (W = want.map (Value.int .u8)) := ⟨_, rfl⟩
 have hWl : W.length = 16 := by rw [HW.out, List.length_map, hw]
 have HIDW : Hid (Value.agg W.toArray = idV want) := hid (by rw [HW.out]; rfl)
 have hlk := fun (y : World) (hb : Below B w y) (h200 : n ≤ 200) => hid (links_any po cap n ps y hn h200 (hrow.below (hsz ▸ hb)) (fun x hx h4 => (hps x hx h4).below (hsz ▸ hb)))
 unfold LinksPost at hlk
 have hI : (4096 : Int) < (mc : Int) := by omega
 have HRR : Hid (chainR k n (ps.map Pt.l) c want = (List.replicate 32 0, 5, [])) := hid (by
  have h0 : chainE0 c n (ps.map Pt.l) = 5 := by unfold chainE0; rw [if_pos (Or.inl h1)]
  unfold chainR; rw [h0, if_pos (by decide)])
 rw [← HK.out, ← HIDW.out]
 clear hlk hk hn hmc h1 hno
 go_enter Tryz.func4, Tryz.ntmps4
 go_wp2_with (first | (refine wl_storeV rfl 23 _ _ rfl 23 (B + 2) rfl Z rfl 32 aggKey hZl Z hR2 hZl hZ1 ?_; intro wF hRF hbF hsF; have bbF := bb2.trans (hbF.mono (by omega : B ≤ _)); clear hR2) | (refine wl_build0 rfl 23 rfl Z HBK.out ?_) | (refine wl_allocV rfl 23 rfl Z hzK.out (B + 2) hs1 ?_; intro w2 hR2 hb2 hs2; have hA2 := hA1.below hb2 (by omega); have hD2 := hD1.below hb2 (by omega); have bb2 := bb1.trans (hb2.mono (by omega : B ≤ _)); clear hA1 hD1 bb1 hb2) | (refine wl_boxV rfl 27 _ rfl W rfl (B + 1) hs0 ?_; intro w1 hD1 hb1 hs1; have hA1 := hA0.below hb1 (by omega); have bb1 := hb0.trans (hb1.mono (by omega : B ≤ _)); clear hA0 hb0 hb1) | (refine wl_boxV rfl 23 _ rfl K rfl B hsz ?_; intro w0 hA0 hb0 hs0))
 (try simp only [Exit.inBlock, Exit.then]); refine bodyPost_ret (results_cell3 rfl _ _ _ _ rfl Z (by rw [hZl]; exact aggKey) hRF.at0) rfl ?_
 exact chain_bad HZ.out HRR.out (by rw [← HB.out]; exact bbF)
set_option maxHeartbeats 4000000 in
theorem Chain_M (k : List Int) (po ao : Option Addr) (cap ac n mc : Nat) (ps : List Pt) (c : List Int) (want : Id) (w : World) (hk : k.length = 32) (ok : Octs k) (hn : n = ps.length) (hrow : RowV w po (ps.map Pt.v)) (hps : ∀ x ∈ ps, 4 ≤ x.l.length → x.Ok w) (hmc : mc = c.length) (HP : Pt.Ok w ⟨ao, ac, c⟩) (hno : ao = none → ac = 0) (hw : want.length = 16) (h1 : ¬ 4096 < c.length) (h2 : 200 < n) :
  Calls Tryz.prog 4 #[.agg (k.map (Value.int .u8)).toArray, .slice po n cap, .slice ao mc ac, idV want] w (ChainPost (chainR k n (ps.map Pt.l) c want) w) := by
 obtain ⟨B, HB⟩ : ∃ B, Hid (B = w.heap.size) := ⟨_, rfl⟩
 have hsz : w.heap.size = B := HB.out.symm
 obtain ⟨Z, HZ⟩ : ∃ Z, Hid (Z = (List.replicate 32 (0 : Int)).map (Value.int .u8)) := ⟨_, rfl⟩
 have hzK := hid wr.zeroKey
 have HBK : Hid (Tryz.prog.built 23 [] = some ((List.replicate 32 (0 : Int)).map (Value.int .u8)).toArray) := hid (by kernel_rfl)
 rw [← HZ.out] at hzK HBK
 have hZl : Z.length = 32 := by rw [HZ.out]; simp
 have hZ1 : ∀ u ∈ Z, u.oneCell' = true := by rw [HZ.out]; exact ints_one _ _
 obtain ⟨K, HK⟩ : ∃ K, Hid (K = k.map (Value.int .u8)) := ⟨_, rfl⟩
 have hKl : K.length = 32 := by rw [HK.out, List.length_map, hk]
 obtain ⟨W, HW⟩ : ∃ W, Hid (W = want.map (Value.int .u8)) := ⟨_, rfl⟩
 have hWl : W.length = 16 := by rw [HW.out, List.length_map, hw]
 have HIDW : Hid (Value.agg W.toArray = idV want) := hid (by rw [HW.out]; rfl)
 have hlk := fun (y : World) (hb : Below B w y) (h200 : n ≤ 200) => hid (links_any po cap n ps y hn h200 (hrow.below (hsz ▸ hb)) (fun x hx h4 => (hps x hx h4).below (hsz ▸ hb)))
 unfold LinksPost at hlk
 have hI : ¬ (4096 : Int) < (mc : Int) := by omega
 have hI2 : (200 : Int) < (n : Int) := by omega
 have HRR : Hid (chainR k n (ps.map Pt.l) c want = (List.replicate 32 0, 5, [])) := hid (by
  have h0 : chainE0 c n (ps.map Pt.l) = 5 := by unfold chainE0; rw [if_pos (Or.inr h2)]
  unfold chainR; rw [h0, if_pos (by decide)])
 rw [← HK.out, ← HIDW.out]
 clear hlk hk hn hmc h1 h2 hno
 go_enter Tryz.func4, Tryz.ntmps4
 go_wp2_with (first | (refine wl_storeV rfl 23 _ _ rfl 23 (B + 2) rfl Z rfl 32 aggKey hZl Z hR2 hZl hZ1 ?_; intro wF hRF hbF hsF; have bbF := bb2.trans (hbF.mono (by omega : B ≤ _)); clear hR2) | (refine wl_build0 rfl 23 rfl Z HBK.out ?_) | (refine wl_allocV rfl 23 rfl Z hzK.out (B + 2) hs1 ?_; intro w2 hR2 hb2 hs2; have hA2 := hA1.below hb2 (by omega); have hD2 := hD1.below hb2 (by omega); have bb2 := bb1.trans (hb2.mono (by omega : B ≤ _)); clear hA1 hD1 bb1 hb2) | (refine wl_boxV rfl 27 _ rfl W rfl (B + 1) hs0 ?_; intro w1 hD1 hb1 hs1; have hA1 := hA0.below hb1 (by omega); have bb1 := hb0.trans (hb1.mono (by omega : B ≤ _)); clear hA0 hb0 hb1) | (refine wl_boxV rfl 23 _ rfl K rfl B hsz ?_; intro w0 hA0 hb0 hs0))
 (try simp only [Exit.inBlock, Exit.then]); refine bodyPost_ret (results_cell3 rfl _ _ _ _ rfl Z (by rw [hZl]; exact aggKey) hRF.at0) rfl ?_
 exact chain_bad HZ.out HRR.out (by rw [← HB.out]; exact bbF)
set_option maxHeartbeats 4000000 in
theorem Chain_E (k : List Int) (po ao : Option Addr) (cap ac n mc : Nat) (ps : List Pt) (c : List Int) (want : Id) (w : World) (hk : k.length = 32) (ok : Octs k) (hn : n = ps.length) (hrow : RowV w po (ps.map Pt.v)) (hps : ∀ x ∈ ps, 4 ≤ x.l.length → x.Ok w) (hmc : mc = c.length) (HP : Pt.Ok w ⟨ao, ac, c⟩) (hno : ao = none → ac = 0) (hw : want.length = 16) (h1 : ¬ 4096 < c.length) (h2 : ¬ 200 < n) (h3 : chE (ps.map Pt.l) ≠ 0) :
  Calls Tryz.prog 4 #[.agg (k.map (Value.int .u8)).toArray, .slice po n cap, .slice ao mc ac, idV want] w (ChainPost (chainR k n (ps.map Pt.l) c want) w) := by
 obtain ⟨B, HB⟩ : ∃ B, Hid (B = w.heap.size) := ⟨_, rfl⟩
 have hsz : w.heap.size = B := HB.out.symm
 obtain ⟨Z, HZ⟩ : ∃ Z, Hid (Z = (List.replicate 32 (0 : Int)).map (Value.int .u8)) := ⟨_, rfl⟩
 have hzK := hid wr.zeroKey
 have HBK : Hid (Tryz.prog.built 23 [] = some ((List.replicate 32 (0 : Int)).map (Value.int .u8)).toArray) := hid (by kernel_rfl)
 rw [← HZ.out] at hzK HBK
 have hZl : Z.length = 32 := by rw [HZ.out]; simp
 have hZ1 : ∀ u ∈ Z, u.oneCell' = true := by rw [HZ.out]; exact ints_one _ _
 obtain ⟨K, HK⟩ : ∃ K, Hid (K = k.map (Value.int .u8)) := ⟨_, rfl⟩
 have hKl : K.length = 32 := by rw [HK.out, List.length_map, hk]
 obtain ⟨W, HW⟩ : ∃ W, Hid (W = want.map (Value.int .u8)) := ⟨_, rfl⟩
 have hWl : W.length = 16 := by rw [HW.out, List.length_map, hw]
 have HIDW : Hid (Value.agg W.toArray = idV want) := hid (by rw [HW.out]; rfl)
 have hlk := fun (y : World) (hb : Below B w y) (h200 : n ≤ 200) => hid (links_any po cap n ps y hn h200 (hrow.below (hsz ▸ hb)) (fun x hx h4 => (hps x hx h4).below (hsz ▸ hb)))
 unfold LinksPost at hlk
 have hI : ¬ (4096 : Int) < (mc : Int) := by omega
 have hI2 : ¬ (200 : Int) < (n : Int) := by omega
 have h200 : n ≤ 200 := by omega
 obtain ⟨E, HE⟩ : ∃ E, Hid (E = chE (ps.map Pt.l)) := ⟨_, rfl⟩
 have hE0 : ¬ E = 0 := by rw [HE.out]; exact h3
 have hE1 : (E == 0) = false := by simpa using hE0
 have HRR : Hid (chainR k n (ps.map Pt.l) c want = (List.replicate 32 0, E, [])) := hid (by
  have h0 : chainE0 c n (ps.map Pt.l) = E := by unfold chainE0; rw [if_neg (by omega), HE.out]
  unfold chainR; rw [h0, if_pos hE0])
 rw [← HE.out] at hlk
 rw [← HK.out, ← HIDW.out]
 clear hk hn hmc h1 h2 h3 hno HE
 go_enter Tryz.func4, Tryz.ntmps4
 go_wp2_with (first | (refine wl_storeV rfl 23 _ _ rfl 23 (B + 2) rfl Z rfl 32 aggKey hZl Z hR3 hZl hZ1 ?_; intro wF hRF hbF hsF; have bbF := bb3.trans (hbF.mono (by omega : B ≤ _)); clear hR3) | (refine wl_build0 rfl 23 rfl Z HBK.out ?_) | (go_at_call 18; refine (hlk w2 bb2 h200).out.mono ?_; rintro e w3 ⟨hb3, eo, em, ec, rfl, hor⟩; have hA3 := hA2.below hb3 (by omega); have hD3 := hD2.below hb3 (by omega); have hR3 := hR2.below hb3 (by omega); have bb3 := bb2.trans (hb3.mono (by omega : B ≤ _)); have hs3 : B + 3 ≤ w3.heap.size := (by have := hb3.size; omega); clear hor; clear hA2 hD2 hR2 bb2 hb3) | (refine wl_allocV rfl 23 rfl Z hzK.out (B + 2) hs1 ?_; intro w2 hR2 hb2 hs2; have hA2 := hA1.below hb2 (by omega); have hD2 := hD1.below hb2 (by omega); have bb2 := bb1.trans (hb2.mono (by omega : B ≤ _)); clear hA1 hD1 bb1 hb2) | (refine wl_boxV rfl 27 _ rfl W rfl (B + 1) hs0 ?_; intro w1 hD1 hb1 hs1; have hA1 := hA0.below hb1 (by omega); have bb1 := hb0.trans (hb1.mono (by omega : B ≤ _)); clear hA0 hb0 hb1) | (refine wl_boxV rfl 23 _ rfl K rfl B hsz ?_; intro w0 hA0 hb0 hs0))
 (try simp only [Exit.inBlock, Exit.then]); refine bodyPost_ret (results_cell3 rfl _ _ _ _ rfl Z (by rw [hZl]; exact aggKey) hRF.at0) rfl ?_
 exact chain_bad HZ.out HRR.out (by rw [← HB.out]; exact bbF)
set_option maxHeartbeats 4000000 in
theorem Chain_N (k : List Int) (po ao : Option Addr) (cap ac n mc : Nat) (ps : List Pt) (c : List Int) (want : Id) (w : World) (hk : k.length = 32) (ok : Octs k) (hn : n = ps.length) (hrow : RowV w po (ps.map Pt.v)) (hps : ∀ x ∈ ps, 4 ≤ x.l.length → x.Ok w) (hmc : mc = c.length) (HP : Pt.Ok w ⟨ao, ac, c⟩) (hno : ao = none → ac = 0) (hw : want.length = 16) (h1 : ¬ 4096 < c.length) (h2 : ¬ 200 < n) (h3 : chE (ps.map Pt.l) = 0) (h4 : wayR (((ps.map Pt.l).map readX).map lnk) (nameL k) want = none) :
  Calls Tryz.prog 4 #[.agg (k.map (Value.int .u8)).toArray, .slice po n cap, .slice ao mc ac, idV want] w (ChainPost (chainR k n (ps.map Pt.l) c want) w) := by
 obtain ⟨B, HB⟩ : ∃ B, Hid (B = w.heap.size) := ⟨_, rfl⟩
 have hsz : w.heap.size = B := HB.out.symm
 obtain ⟨Z, HZ⟩ : ∃ Z, Hid (Z = (List.replicate 32 (0 : Int)).map (Value.int .u8)) := ⟨_, rfl⟩
 have hzK := hid wr.zeroKey
 have HBK : Hid (Tryz.prog.built 23 [] = some ((List.replicate 32 (0 : Int)).map (Value.int .u8)).toArray) := hid (by kernel_rfl)
 rw [← HZ.out] at hzK HBK
 have hZl : Z.length = 32 := by rw [HZ.out]; simp
 have hZ1 : ∀ u ∈ Z, u.oneCell' = true := by rw [HZ.out]; exact ints_one _ _
 obtain ⟨K, HK⟩ : ∃ K, Hid (K = k.map (Value.int .u8)) := ⟨_, rfl⟩
 have hKl : K.length = 32 := by rw [HK.out, List.length_map, hk]
 obtain ⟨W, HW⟩ : ∃ W, Hid (W = want.map (Value.int .u8)) := ⟨_, rfl⟩
 have hWl : W.length = 16 := by rw [HW.out, List.length_map, hw]
 have HIDW : Hid (Value.agg W.toArray = idV want) := hid (by rw [HW.out]; rfl)
 have hlk := fun (y : World) (hb : Below B w y) (h200 : n ≤ 200) => hid (links_any po cap n ps y hn h200 (hrow.below (hsz ▸ hb)) (fun x hx h4 => (hps x hx h4).below (hsz ▸ hb)))
 unfold LinksPost at hlk
 have hI : ¬ (4096 : Int) < (mc : Int) := by omega
 have hI2 : ¬ (200 : Int) < (n : Int) := by omega
 have h200 : n ≤ 200 := by omega
 have h0 : chainE0 c n (ps.map Pt.l) = 0 := by unfold chainE0; rw [if_neg (by omega)]; exact h3
 have hoct : ∀ l ∈ ps.map Pt.l, Octs l := fun l hl => by
  obtain ⟨x, hx, rfl⟩ := List.mem_map.1 hl
  exact (hps x hx (readE_zero (chE_zero h3 _ (List.mem_map.2 ⟨x, hx, rfl⟩)).1).1).oct
 have hEok : ∀ x ∈ (ps.map Pt.l).map readX, x.Ok ∧ x.v = 2 ∧ (0 ≤ x.e ∧ x.e ≤ 4294967295) := fun x hx => by
  obtain ⟨l, hl, rfl⟩ := List.mem_map.1 hx
  exact ⟨readX_ok (hoct l hl) (chE_zero h3 l hl).1, (chE_zero h3 l hl).2, readX_e (hoct l hl)⟩
 have hNL : n = ((ps.map Pt.l).map readX).length := by rw [List.length_map, List.length_map]; exact hn
 obtain ⟨es, HES⟩ : ∃ es, Hid (es = (ps.map Pt.l).map readX) := ⟨_, rfl⟩
 rw [← HES.out] at hEok hNL
 have HNL : Hid (n = (ps.map Pt.l).length) := hid (by rw [List.length_map]; exact hn)
 have HNE := hid hNL
 have hwy : Hid (∀ (y : World) (lo : Option Addr) (cc : Nat), RowE y lo es → Calls Tryz.prog 19 #[.slice lo n cc, idV (nameL k), idV want] y (WayPost (wayR (es.map lnk) (nameL k) want) y)) := hid (fun y lo cc h => way_any lo cc n es (nameL k) want y hNL h200 h (fun x hx => (hEok x hx).1) (nameL_length k) hw)
 have hnm := fun (y : World) => hid (NameOf_any k hk ok y)
 have HNMV : Hid (Value.agg ((nameL k).map (Value.int .u8)).toArray = idV (nameL k)) := rfl
 obtain ⟨NV, HNV⟩ : ∃ V, Hid (V = (nameL k).map (Value.int .u8)) := ⟨_, rfl⟩
 rw [← HNV.out] at hnm HNMV
 rw [h3] at hlk
 rw [← HNMV.out, ← HIDW.out] at hwy
 have huK := Tryz.underlying23
 have hiK : (Tryz.prog.info? 23).map (·.size) = some K.length := by rw [hKl]; exact aggKey.2
 have huW := Tryz.underlying27
 have hiW : (Tryz.prog.info? 27).map (·.size) = some W.length := by rw [hWl]; exact aggID.2
 have HRR : Hid (chainR k n (ps.map Pt.l) c want = (List.replicate 32 0, 7, [])) := hid (by
  unfold chainR; rw [h0, if_neg (fun h => h rfl), h4])
 rw [← HES.out] at h4
 rw [h4] at hwy
 have hwy : Hid (∀ (y : World) (lo : Option Addr) (cc : Nat), RowE y lo es → Calls Tryz.prog 19 #[.slice lo n cc, .agg NV.toArray, .agg W.toArray] y fun e w' => Below y.heap.size y w' ∧ ∃ (ao : Option Addr) (m c : Nat), e = .returned (.tuple #[.slice ao m c, .bool false]) ∧ m = 0 ∧ RowI .i64 w' ao (intsN [])) := hid (fun y lo cc h => (hwy.out y lo cc h).mono (fun e w' ⟨a1, a2, a3, a4, a5, a6, a7⟩ => ⟨a1, a2, a3, a4, a5, a6, a7⟩))
 rw [← HK.out] at hnm ⊢
 rw [← HIDW.out]
 clear hk hn hmc h1 h2 h3 hno h0 hoct hEok hNL h4
 go_enter Tryz.func4, Tryz.ntmps4
 go_wp2_with (first | (go_at_call 18; refine (hlk w2 bb2 h200).out.mono ?_; rintro e w3 ⟨hb3, eo, em, ec, rfl, hor⟩; have hA3 := hA2.below hb3 (by omega); have hD3 := hD2.below hb3 (by omega); have hR3 := hR2.below hb3 (by omega); have bb3 := bb2.trans (hb3.mono (by omega : B ≤ _)); have hs3 : B + 3 ≤ w3.heap.size := (by have := hb3.size; omega); have hor2 : em = n ∧ RowE w3 eo es := (by rcases hor with h | h; exact absurd rfl h.1; exact ⟨h.2.1.trans HNL.out.symm, by rw [HES.out]; exact h.2.2⟩); obtain ⟨hmn, hrw⟩ := hor2; have hmn := hmn.symm; subst hmn; have HRW := hid hrw; clear hor hrw; clear hA2 hD2 hR2 bb2 hb3) | (refine wl_allocV rfl 23 rfl Z hzK.out (B + 2) hs1 ?_; intro w2 hR2 hb2 hs2; have hA2 := hA1.below hb2 (by omega); have hD2 := hD1.below hb2 (by omega); have bb2 := bb1.trans (hb2.mono (by omega : B ≤ _)); clear hA1 hD1 bb1 hb2) | (refine wl_boxV rfl 27 _ rfl W rfl (B + 1) hs0 ?_; intro w1 hD1 hb1 hs1; have hA1 := hA0.below hb1 (by omega); have bb1 := hb0.trans (hb1.mono (by omega : B ≤ _)); clear hA0 hb0 hb1) | (refine wl_boxV rfl 23 _ rfl K rfl B hsz ?_; intro w0 hA0 hb0 hs0))
 refine wp_region_held_drew (S := (fun w' => BlkV 23 w' B K ∧ BlkV 27 w' (B + 1) W)) (by kernel_rfl) ⟨(show BlkV 23 w3.drew B K from hA3), (show BlkV 27 w3.drew (B + 1) W from hD3)⟩ (fun hHeld => ?_)
 obtain ⟨z0, HZ0⟩ : ∃ y, Hid (y = w3.drew) := ⟨_, rfl⟩
 rw [← HZ0.out] at hHeld ⊢
 have hA0 : BlkV 23 z0 B K := by rw [HZ0.out]; exact hA3
 have hD0 : BlkV 27 z0 (B + 1) W := by rw [HZ0.out]; exact hD3
 have hR0 : BlkV 23 z0 (B + 2) Z := by rw [HZ0.out]; exact hR3
 have bz0 : Below B w z0 := by rw [HZ0.out]; exact bb3.drew
 have HRW0 : Hid (RowE z0 eo es) := hid (by rw [HZ0.out]; exact HRW.out)
 have hs0 : B + 3 ≤ z0.heap.size := by rw [HZ0.out]; exact hs3
 clear hA3 hD3 hR3 bb3 HRW hs3
 refine tkP 0 rfl (by assumption) ⟨?_, ?_, ?_⟩
 rotate_left
 ·intro w hSw; (try dsimp only at hSw); go_simp; (try with_reducible rfl)
 try simp only [Act.put, sArr, sZ, sS]
 refine tkR 1 rfl (yieldsIf_load_mid (by rfl) 23 _ rfl B 0 rfl K _ (fun w hS => at_range hS.1.at0) huK rfl hiK) (by assumption) ?_
 try simp only [Act.put, sArr, sZ, sS]
 refine tkR 3 rfl (yieldsIf_load_mid (by rfl) 27 _ rfl (B + 1) 0 rfl W _ (fun w hS => at_range hS.2.at0) huW rfl hiW) (by assumption) ?_
 try simp only [Act.put, sArr, sZ, sS]
 refine wpAnyH_ready (rs := [2]) (by kernel_rfl) (by simp) (cons_l rfl (fun K' hK' => ?_) AllReadyH.nil)
 rw [if_pos (by kernel_rfl)]
 go_simp
 go_at_call 20
 refine (hnm z0).out.mono ?_
 rintro e z1 ⟨rfl, hz1⟩
 have hA1 := hA0.below hz1 hA0.lt
 have hD1 := hD0.below hz1 hD0.lt
 have hR1 := hR0.below hz1 hR0.lt
 have bz1 := bz0.trans (hz1.mono (by omega : B ≤ _))
 have hs1 : B + 3 ≤ z1.heap.size := Nat.le_trans hs0 hz1.size
 have HRW1 : Hid (RowE z1 eo es) := hid (HRW0.out.below hz1)
 have b01 : Below z0.heap.size z0 z1 := hz1
 refine hK'.out _ _ ⟨hA1, hD1⟩ (fun hHeld => ?_)
 clear hK' K'
 try simp only [Act.put, sArr, sZ, sS]
 refine wpAnyH_ready (rs := [4]) (by kernel_rfl) (by simp) (cons_l rfl (fun K' hK' => ?_) AllReadyH.nil)
 rw [if_pos (by kernel_rfl)]
 go_simp
 go_at_call 19
 refine (hwy.out z1 eo ec HRW1.out).mono ?_
 rintro e z2 ⟨hz2, wo, wm, wc, rfl, hwm, hwr⟩
 have HWR := hid hwr
 have HWM := hid hwm
 clear hwr hwm
 have hA2 := hA1.below hz2 hA1.lt
 have hD2 := hD1.below hz2 hD1.lt
 have hR2 := hR1.below hz2 hR1.lt
 have bz2 := bz1.trans (hz2.mono (by omega : B ≤ _))
 have hs2 : B + 3 ≤ z2.heap.size := Nat.le_trans hs1 hz2.size
 have HRW2 : Hid (RowE z2 eo es) := hid (HRW1.out.below hz2)
 refine hK'.out _ _ ⟨hA2, hD2⟩ (fun hHeld => ?_)
 clear hK' K'
 try simp only [Act.put, sArr, sZ, sS]
 refine tkP 5 rfl (by assumption) ⟨?_, ?_, ?_⟩
 rotate_left
 ·intro w hSw; (try dsimp only at hSw); go_simp; (try with_reducible rfl)
 try simp only [Act.put, sArr, sZ, sS]
 refine tkP 6 rfl (by assumption) ⟨?_, ?_, ?_⟩
 rotate_left
 ·intro w hSw; (try dsimp only at hSw); go_simp; (try with_reducible rfl)
 try simp only [Act.put, sArr, sZ, sS]
 refine tkP 7 rfl (by assumption) ⟨?_, ?_, ?_⟩
 rotate_left
 ·intro w hSw; (try dsimp only at hSw); go_simp; (try with_reducible rfl)
 try simp only [Act.put, sArr, sZ, sS]
 refine tkP 8 rfl (by assumption) ⟨?_, ?_, ?_⟩
 rotate_left
 ·intro w hSw; (try dsimp only at hSw); go_simp; (try with_reducible rfl)
 try simp only [Act.put, sArr, sZ, sS]
 refine tkP 9 rfl (by assumption) ⟨?_, ?_, ?_⟩
 rotate_left
 ·intro w hSw; (try dsimp only at hSw); go_simp; (try with_reducible rfl)
 try simp only [Act.put, sArr, sZ, sS]
 refine wpAnyH_done (by kernel_rfl) ?_ _
 clear hHeld
 go_wp2_with (first | (refine wl_storeV rfl 23 _ _ rfl 23 (B + 2) rfl Z rfl 32 aggKey hZl Z hR2 hZl hZ1 ?_; intro wF hRF hbF hsF; have bbF := bz2.trans (hbF.mono (by omega : B ≤ _)); clear hR2) | (refine wl_build0 rfl 23 rfl Z HBK.out ?_))
 (try simp only [Exit.inBlock, Exit.then]); refine bodyPost_ret (results_cell3 rfl _ _ _ _ rfl Z (by rw [hZl]; exact aggKey) hRF.at0) rfl ?_
 exact chain_bad HZ.out HRR.out (by rw [← HB.out]; exact bbF)
set_option maxHeartbeats 4000000 in
theorem at_lt {w w' : World} {b off G : Nat} {cs : List Value} (h : At w ⟨b, off, none⟩ cs) (hb : Below G w w') (hlt : b < G) : At w' ⟨b, off, none⟩ cs := fun j u hu => by
 have := h j u hu
 rw [addr_add] at this ⊢
 rw [hb.cell (p := ⟨b, off + j, none⟩) hlt]; exact this
set_option maxHeartbeats 4000000 in
theorem Chain_W (k : List Int) (po ao : Option Addr) (cap ac n mc : Nat) (ps : List Pt) (c : List Int) (want : Id) (w : World) (hk : k.length = 32) (ok : Octs k) (hn : n = ps.length) (hrow : RowV w po (ps.map Pt.v)) (hps : ∀ x ∈ ps, 4 ≤ x.l.length → x.Ok w) (hmc : mc = c.length) (HP : Pt.Ok w ⟨ao, ac, c⟩) (hno : ao = none → ac = 0) (hw : want.length = 16) (h1 : ¬ 4096 < c.length) (h2 : ¬ 200 < n) (h3 : chE (ps.map Pt.l) = 0) (L : List Nat) (h4 : wayR (((ps.map Pt.l).map readX).map lnk) (nameL k) want = some L) :
  Calls Tryz.prog 4 #[.agg (k.map (Value.int .u8)).toArray, .slice po n cap, .slice ao mc ac, idV want] w (ChainPost (chainR k n (ps.map Pt.l) c want) w) := by
 obtain ⟨B, HB⟩ : ∃ B, Hid (B = w.heap.size) := ⟨_, rfl⟩
 have hsz : w.heap.size = B := HB.out.symm
 obtain ⟨Z, HZ⟩ : ∃ Z, Hid (Z = (List.replicate 32 (0 : Int)).map (Value.int .u8)) := ⟨_, rfl⟩
 have hzK := hid wr.zeroKey
 have HBK : Hid (Tryz.prog.built 23 [] = some ((List.replicate 32 (0 : Int)).map (Value.int .u8)).toArray) := hid (by kernel_rfl)
 rw [← HZ.out] at hzK HBK
 have hZl : Z.length = 32 := by rw [HZ.out]; simp
 have hZ1 : ∀ u ∈ Z, u.oneCell' = true := by rw [HZ.out]; exact ints_one _ _
 obtain ⟨K, HK⟩ : ∃ K, Hid (K = k.map (Value.int .u8)) := ⟨_, rfl⟩
 have hKl : K.length = 32 := by rw [HK.out, List.length_map, hk]
 obtain ⟨W, HW⟩ : ∃ W, Hid (W = want.map (Value.int .u8)) := ⟨_, rfl⟩
 have hWl : W.length = 16 := by rw [HW.out, List.length_map, hw]
 have HIDW : Hid (Value.agg W.toArray = idV want) := hid (by rw [HW.out]; rfl)
 have hlk := fun (y : World) (hb : Below B w y) (h200 : n ≤ 200) => hid (links_any po cap n ps y hn h200 (hrow.below (hsz ▸ hb)) (fun x hx h4 => (hps x hx h4).below (hsz ▸ hb)))
 unfold LinksPost at hlk
 have hI : ¬ (4096 : Int) < (mc : Int) := by omega
 have hI2 : ¬ (200 : Int) < (n : Int) := by omega
 have h200 : n ≤ 200 := by omega
 have h0 : chainE0 c n (ps.map Pt.l) = 0 := by unfold chainE0; rw [if_neg (by omega)]; exact h3
 have hoct : ∀ l ∈ ps.map Pt.l, Octs l := fun l hl => by
  obtain ⟨x, hx, rfl⟩ := List.mem_map.1 hl
  exact (hps x hx (readE_zero (chE_zero h3 _ (List.mem_map.2 ⟨x, hx, rfl⟩)).1).1).oct
 have hEok : ∀ x ∈ (ps.map Pt.l).map readX, x.Ok ∧ x.v = 2 ∧ (0 ≤ x.e ∧ x.e ≤ 4294967295) := fun x hx => by
  obtain ⟨l, hl, rfl⟩ := List.mem_map.1 hx
  exact ⟨readX_ok (hoct l hl) (chE_zero h3 l hl).1, (chE_zero h3 l hl).2, readX_e (hoct l hl)⟩
 have hNL : n = ((ps.map Pt.l).map readX).length := by rw [List.length_map, List.length_map]; exact hn
 obtain ⟨es, HES⟩ : ∃ es, Hid (es = (ps.map Pt.l).map readX) := ⟨_, rfl⟩
 rw [← HES.out] at hEok hNL
 have HNL : Hid (n = (ps.map Pt.l).length) := hid (by rw [List.length_map]; exact hn)
 have HNE := hid hNL
 have hwy : Hid (∀ (y : World) (lo : Option Addr) (cc : Nat), RowE y lo es → Calls Tryz.prog 19 #[.slice lo n cc, idV (nameL k), idV want] y (WayPost (wayR (es.map lnk) (nameL k) want) y)) := hid (fun y lo cc h => way_any lo cc n es (nameL k) want y hNL h200 h (fun x hx => (hEok x hx).1) (nameL_length k) hw)
 have hnm := fun (y : World) => hid (NameOf_any k hk ok y)
 have HNMV : Hid (Value.agg ((nameL k).map (Value.int .u8)).toArray = idV (nameL k)) := rfl
 obtain ⟨NV, HNV⟩ : ∃ V, Hid (V = (nameL k).map (Value.int .u8)) := ⟨_, rfl⟩
 rw [← HNV.out] at hnm HNMV
 rw [h3] at hlk
 rw [← HNMV.out, ← HIDW.out] at hwy
 have huK := Tryz.underlying23
 have hiK : (Tryz.prog.info? 23).map (·.size) = some K.length := by rw [hKl]; exact aggKey.2
 have huW := Tryz.underlying27
 have hiW : (Tryz.prog.info? 27).map (·.size) = some W.length := by rw [hWl]; exact aggID.2
 obtain ⟨KF, HKF⟩ : ∃ K, Hid (K = (chainGo es c k L).1) := ⟨_, rfl⟩
 obtain ⟨EF, HEF⟩ : ∃ K, Hid (K = (chainGo es c k L).2) := ⟨_, rfl⟩
 have HCG : Hid (chainGo es c k L = (KF, EF)) := hid (by rw [HKF.out, HEF.out])
 have HRR : Hid (chainR k n (ps.map Pt.l) c want = (KF, EF, if EF = 0 then L else [])) := hid (by
  unfold chainR; rw [h0, if_neg (fun h => h rfl), h4]
  dsimp only
  rw [← HES.out, HCG.out])
 rw [← HES.out] at h4
 rw [h4] at hwy
 have hLI := wayR_lt h4
 have hLL := wayR_len h4
 rw [List.length_map, ← hNL] at hLI hLL
 have HLI := hid hLI
 have hwy : Hid (∀ (y : World) (lo : Option Addr) (cc : Nat), RowE y lo es → Calls Tryz.prog 19 #[.slice lo n cc, .agg NV.toArray, .agg W.toArray] y fun e w' => Below y.heap.size y w' ∧ ∃ (ao : Option Addr) (m c : Nat), e = .returned (.tuple #[.slice ao m c, .bool true]) ∧ m = L.length ∧ RowI .i64 w' ao (intsN L)) := hid (fun y lo cc h => (hwy.out y lo cc h).mono (fun e w' ⟨a1, a2, a3, a4, a5, a6, a7⟩ => ⟨a1, a2, a3, a4, a5, a6, a7⟩))
 have HEO := hid hEok
 have hopA : Hid (∀ (kc : List Int) (x : Env) (y : World), kc.length = 32 → Octs kc → x ∈ es → Below B w y → Calls Tryz.prog 21 #[.agg (kc.map (Value.int .u8)).toArray, .agg x.cs.toArray, .slice ao mc ac] y fun r w' => r = .returned (openV kc x c) ∧ Below y.heap.size y w') := hid (fun kc x y h5 h6 h7 hb => open_any kc x c ao ac mc y h5 h6 (hEok x h7).1 (Or.inr (hEok x h7).2.1) (hEok x h7).2.2 hmc (HP.below (hsz ▸ hb)) hno (by omega))
 have hK1 : ∀ u ∈ K, u.oneCell' = true := by rw [HK.out]; exact ints_one _ _
 have HOK := hid ok
 have HKL := hid hk
 rw [← HK.out] at hnm ⊢
 rw [← HIDW.out]
 clear hk hn hmc h1 h2 h3 hno h0 hoct hEok hNL h4 hLI ok
 go_enter Tryz.func4, Tryz.ntmps4
 go_wp2_with (first | (go_at_call 18; refine (hlk w2 bb2 h200).out.mono ?_; rintro e w3 ⟨hb3, eo, em, ec, rfl, hor⟩; have hA3 := hA2.below hb3 (by omega); have hD3 := hD2.below hb3 (by omega); have hR3 := hR2.below hb3 (by omega); have bb3 := bb2.trans (hb3.mono (by omega : B ≤ _)); have hs3 : B + 3 ≤ w3.heap.size := (by have := hb3.size; omega); have hor2 : em = n ∧ RowE w3 eo es := (by rcases hor with h | h; exact absurd rfl h.1; exact ⟨h.2.1.trans HNL.out.symm, by rw [HES.out]; exact h.2.2⟩); obtain ⟨hmn, hrw⟩ := hor2; have hmn := hmn.symm; subst hmn; have HRW := hid hrw; clear hor hrw; clear hA2 hD2 hR2 bb2 hb3) | (refine wl_allocV rfl 23 rfl Z hzK.out (B + 2) hs1 ?_; intro w2 hR2 hb2 hs2; have hA2 := hA1.below hb2 (by omega); have hD2 := hD1.below hb2 (by omega); have bb2 := bb1.trans (hb2.mono (by omega : B ≤ _)); clear hA1 hD1 bb1 hb2) | (refine wl_boxV rfl 27 _ rfl W rfl (B + 1) hs0 ?_; intro w1 hD1 hb1 hs1; have hA1 := hA0.below hb1 (by omega); have bb1 := hb0.trans (hb1.mono (by omega : B ≤ _)); clear hA0 hb0 hb1) | (refine wl_boxV rfl 23 _ rfl K rfl B hsz ?_; intro w0 hA0 hb0 hs0))
 refine wp_region_held_drew (S := (fun w' => BlkV 23 w' B K ∧ BlkV 27 w' (B + 1) W)) (by kernel_rfl) ⟨(show BlkV 23 w3.drew B K from hA3), (show BlkV 27 w3.drew (B + 1) W from hD3)⟩ (fun hHeld => ?_)
 obtain ⟨z0, HZ0⟩ : ∃ y, Hid (y = w3.drew) := ⟨_, rfl⟩
 rw [← HZ0.out] at hHeld ⊢
 have hA0 : BlkV 23 z0 B K := by rw [HZ0.out]; exact hA3
 have hD0 : BlkV 27 z0 (B + 1) W := by rw [HZ0.out]; exact hD3
 have hR0 : BlkV 23 z0 (B + 2) Z := by rw [HZ0.out]; exact hR3
 have bz0 : Below B w z0 := by rw [HZ0.out]; exact bb3.drew
 have HRW0 : Hid (RowE z0 eo es) := hid (by rw [HZ0.out]; exact HRW.out)
 have hs0 : B + 3 ≤ z0.heap.size := by rw [HZ0.out]; exact hs3
 clear hA3 hD3 hR3 bb3 HRW hs3
 refine tkP 0 rfl (by assumption) ⟨?_, ?_, ?_⟩
 rotate_left
 ·intro w hSw; (try dsimp only at hSw); go_simp; (try with_reducible rfl)
 try simp only [Act.put, sArr, sZ, sS]
 refine tkR 1 rfl (yieldsIf_load_mid (by rfl) 23 _ rfl B 0 rfl K _ (fun w hS => at_range hS.1.at0) huK rfl hiK) (by assumption) ?_
 try simp only [Act.put, sArr, sZ, sS]
 refine tkR 3 rfl (yieldsIf_load_mid (by rfl) 27 _ rfl (B + 1) 0 rfl W _ (fun w hS => at_range hS.2.at0) huW rfl hiW) (by assumption) ?_
 try simp only [Act.put, sArr, sZ, sS]
 refine wpAnyH_ready (rs := [2]) (by kernel_rfl) (by simp) (cons_l rfl (fun K' hK' => ?_) AllReadyH.nil)
 rw [if_pos (by kernel_rfl)]
 go_simp
 go_at_call 20
 refine (hnm z0).out.mono ?_
 rintro e z1 ⟨rfl, hz1⟩
 have hA1 := hA0.below hz1 hA0.lt
 have hD1 := hD0.below hz1 hD0.lt
 have hR1 := hR0.below hz1 hR0.lt
 have bz1 := bz0.trans (hz1.mono (by omega : B ≤ _))
 have hs1 : B + 3 ≤ z1.heap.size := Nat.le_trans hs0 hz1.size
 have HRW1 : Hid (RowE z1 eo es) := hid (HRW0.out.below hz1)
 have b01 : Below z0.heap.size z0 z1 := hz1
 refine hK'.out _ _ ⟨hA1, hD1⟩ (fun hHeld => ?_)
 clear hK' K'
 try simp only [Act.put, sArr, sZ, sS]
 refine wpAnyH_ready (rs := [4]) (by kernel_rfl) (by simp) (cons_l rfl (fun K' hK' => ?_) AllReadyH.nil)
 rw [if_pos (by kernel_rfl)]
 go_simp
 go_at_call 19
 refine (hwy.out z1 eo ec HRW1.out).mono ?_
 rintro e z2 ⟨hz2, wo, wm, wc, rfl, hwm, hwr⟩
 have HWR := hid hwr
 have HWM := hid hwm
 clear hwr hwm
 have hA2 := hA1.below hz2 hA1.lt
 have hD2 := hD1.below hz2 hD1.lt
 have hR2 := hR1.below hz2 hR1.lt
 have bz2 := bz1.trans (hz2.mono (by omega : B ≤ _))
 have hs2 : B + 3 ≤ z2.heap.size := Nat.le_trans hs1 hz2.size
 have HRW2 : Hid (RowE z2 eo es) := hid (HRW1.out.below hz2)
 refine hK'.out _ _ ⟨hA2, hD2⟩ (fun hHeld => ?_)
 clear hK' K'
 try simp only [Act.put, sArr, sZ, sS]
 refine tkP 5 rfl (by assumption) ⟨?_, ?_, ?_⟩
 rotate_left
 ·intro w hSw; (try dsimp only at hSw); go_simp; (try with_reducible rfl)
 try simp only [Act.put, sArr, sZ, sS]
 refine tkP 6 rfl (by assumption) ⟨?_, ?_, ?_⟩
 rotate_left
 ·intro w hSw; (try dsimp only at hSw); go_simp; (try with_reducible rfl)
 try simp only [Act.put, sArr, sZ, sS]
 refine tkP 7 rfl (by assumption) ⟨?_, ?_, ?_⟩
 rotate_left
 ·intro w hSw; (try dsimp only at hSw); go_simp; (try with_reducible rfl)
 try simp only [Act.put, sArr, sZ, sS]
 refine tkP 8 rfl (by assumption) ⟨?_, ?_, ?_⟩
 rotate_left
 ·intro w hSw; (try dsimp only at hSw); go_simp; (try with_reducible rfl)
 try simp only [Act.put, sArr, sZ, sS]
 refine tkP 9 rfl (by assumption) ⟨?_, ?_, ?_⟩
 rotate_left
 ·intro w hSw; (try dsimp only at hSw); go_simp; (try with_reducible rfl)
 try simp only [Act.put, sArr, sZ, sS]
 refine wpAnyH_done (by kernel_rfl) ?_ _
 clear hHeld
 go_wp2_with (first | (refine wl_storeV rfl 23 _ _ rfl 23 G rfl K rfl 32 aggKey hKl Z hG3 hZl hK1 ?_; intro z4 hG4 hb4 hs4; have hR4 := hR3.below hb4 (by omega); have bz4 := bz3.trans (hb4.mono (by omega : B ≤ _)); have bx4 : Below G z2 z4 := (bx3.mono (by rw [HGG.out]; exact Nat.le_refl _)).trans hb4; have hs4b : B + 3 ≤ z4.heap.size := (by omega); clear hG3 hR3 bz3 hb4 bx3 hs4 hs3) | (refine wl_allocV rfl 23 rfl Z hzK.out z2.heap.size rfl ?_; intro z3 hG3 bx3 hs3; obtain ⟨G, HGG⟩ : ∃ g, Hid (g = z2.heap.size) := ⟨_, rfl⟩; rw [← HGG.out] at hG3 hs3; rw [← HGG.out]; have hGB : B + 3 ≤ G := (by rw [HGG.out]; exact hs2); have hR3 := hR2.below bx3 hR2.lt; have bz3 := bz2.trans (bx3.mono (by omega : B ≤ _))) | (refine wl_load rfl 23 _ rfl ⟨B, 0, none⟩ rfl K (by rw [hKl]; exact aggKey) hA2.at0 ?_))
 have hwm2 : wm ≤ 200 := by rw [HWM.out]; omega
 go_loopw [12, 50] (fun t i wr => ∃ (p : Nat) (kc : List Int) (KC : List Value), p ≤ wm ∧ t = .int .i64 0 ∧ i = .int .i64 p ∧ BlkV 23 wr G KC ∧ BlkV 23 wr (B + 2) Z ∧ KC.length = 32 ∧ Hid (KC = kc.map (Value.int .u8)) ∧ Hid (kc.length = 32 ∧ Octs kc) ∧ Below B w wr ∧ B + 3 ≤ wr.heap.size ∧ Below G z2 wr ∧ Hid (chainGo es c kc (L.drop p) = (KF, EF))) (fun _ i _ => wm - (intOf i).toNat)
 case atStart => exact ⟨0, k, K, by omega, rfl, rfl, hG4, hR4, hKl, HK, hid ⟨HKL.out, HOK.out⟩, bz4, hs4b, bx4, hid (by rw [List.drop_zero]; exact HCG.out)⟩
 case round =>
  clear hG4 hR4 bz4 hs4b bx4
  obtain ⟨p, kc, KC, hp, rfl, rfl, hG, hRr, hKCl, HKC, HKO, hbr, hszr, hbz, HGO⟩ := hrel
  by_cases hpw : p < wm
  ·have hpI : (p : Int) < (wm : Int) := by omega
   have hpL : p < L.length := by rw [← HWM.out]; exact hpw
   obtain ⟨wb, woff, wx, rfl, hwb, Hwx, hcwE⟩ := HWR.out.elem (i := p) (by rw [intsN_length]; exact hpL)
   obtain ⟨i, HI⟩ : ∃ i, Hid (i = L.getD p 0) := ⟨_, rfl⟩
   rw [Hwx.out, intsN_getD _ _ hpL, ← HI.out] at hcwE
   have hin : i < n := by rw [HI.out]; exact HLI.out _ (by rw [getD_lt' L _ hpL]; exact List.getElem_mem hpL)
   have hie : i < es.length := by rw [← HNE.out]; exact hin
   have hiI : (i : Int) < (n : Int) := by omega
   obtain ⟨b, off, rfl, hbwE, hatE, hC130⟩ := HRW2.out.at (k := i) hie
   obtain ⟨x, Hx⟩ : ∃ x, Hid (x = es.getD i env0) := ⟨_, rfl⟩
   have hxm : x ∈ es := by rw [Hx.out, getD_lt' es _ hie]; exact List.getElem_mem hie
   rw [← Hx.out] at hatE hC130
   obtain ⟨CS, HCS⟩ : ∃ C, Hid (C = x.cs) := ⟨_, rfl⟩
   rw [← HCS.out] at hatE hC130
   have hbG : b < G := by rw [HGG.out]; exact hbwE
   have hwbG2 : wb < G := by rw [HGG.out]; exact hwb
   have hcw := (hbz.cell (p := ⟨wb, woff + p, none⟩) hwbG2).trans hcwE
   have hat := at_lt hatE hbz hbG
   have hGL : G < wr.heap.size := hG.lt
   have hbw0 : b < wr.heap.size := by omega
   have HST := HGO.out
   rw [List.drop_eq_getElem_cons hpL, ← getD_lt' L 0 hpL, ← HI.out] at HST
   have hop := fun (y : World) (hb : Below B w y) => hid (hopA.out kc x y HKO.out.1 HKO.out.2 hxm hb)
   rw [← HKC.out, ← HCS.out] at hop
   have huC := Tryz.underlying23
   have hiC : (Tryz.prog.info? 23).map (·.size) = some KC.length := by rw [hKCl]; exact aggKey.2
   have huE := Tryz.underlying57
   have hiE : (Tryz.prog.info? 57).map (·.size) = some CS.length := by rw [hC130]; exact aggEnv.2
   have hxo := (HEO.out x hxm).1
   clear hcwE hatE hwb hbwE hpL hie hxm
   unfold openV at hop
   by_cases hoe : openE kc x c = 0
   ·rw [if_pos hoe, hoe] at hop
    obtain ⟨SV, HSV⟩ : ∃ V, Hid (V = (secretX kc x).map (Value.int .u8)) := ⟨_, rfl⟩
    have hSX : Hid ((secretX kc x).length = 32 ∧ Octs (secretX kc x)) := hid ⟨secretX_length hxo, secretX_octs hxo⟩
    have hSl : SV.length = 32 := by rw [HSV.out, List.length_map, hSX.out.1]
    have hS1 : ∀ u ∈ SV, u.oneCell' = true := by rw [HSV.out]; exact ints_one _ _
    rw [← HSV.out] at hop
    have HGO2 : Hid (chainGo es c (secretX kc x) (L.drop (p + 1)) = (KF, EF)) := hid (by rw [← HST, Hx.out]; exact (chainGo_ok (by rw [← Hx.out]; exact hoe)).symm)
    clear HST HGO hoe hxo
    go_wp2
    refine wp_region_held_drew (S := (fun w' => w'.rangeAt b (off + i * 130) CS)) (by kernel_rfl) (show wr.drew.rangeAt b (off + i * 130) CS from at_range hat) (fun hHeld => ?_)
    obtain ⟨y0, HY0⟩ : ∃ y, Hid (y = wr.drew) := ⟨_, rfl⟩
    rw [← HY0.out] at hHeld ⊢
    have hG0 : BlkV 23 y0 G KC := by rw [HY0.out]; exact hG
    have hR0 : BlkV 23 y0 (B + 2) Z := by rw [HY0.out]; exact hRr
    have bw0 : Below B w y0 := by rw [HY0.out]; exact hbr.drew
    have sy0 : B + 3 ≤ y0.heap.size := by rw [HY0.out]; exact hszr
    have rt0 : y0.rangeAt b (off + i * 130) CS := by rw [HY0.out]; exact at_range hat
    have bzr0 : Below G z2 y0 := by rw [HY0.out]; exact hbz.drew
    have by0 : Below B w y0 := bw0
    have hbw : b < y0.heap.size := by rw [HY0.out]; exact hbw0
    clear hG hRr hbr hszr hat hbz hbw0
    refine tkP 1 rfl (by assumption) ⟨?_, ?_, ?_⟩
    rotate_left
    ·intro w hSw; (try dsimp only at hSw); go_simp; (try with_reducible rfl)
    try simp only [Act.put, sArr, sZ, sS]
    refine tkP 2 rfl (by assumption) ⟨?_, ?_, ?_⟩
    rotate_left
    ·intro w hSw; (try dsimp only at hSw); go_simp; (try with_reducible rfl)
    try simp only [Act.put, sArr, sZ, sS]
    refine tkP 3 rfl (by assumption) ⟨?_, ?_, ?_⟩
    rotate_left
    ·intro w hSw; (try dsimp only at hSw); go_simp; (try with_reducible rfl)
    try simp only [Act.put, sArr, sZ, sS]
    refine tkR 4 rfl (yieldsIf_load_mid (by rfl) 57 _ rfl b (off + i * 130) rfl CS _ (fun w hS => hS) huE rfl hiE) (by assumption) ?_
    try simp only [Act.put, sArr, sZ, sS]
    refine tkP 5 rfl (by assumption) ⟨?_, ?_, ?_⟩
    rotate_left
    ·intro w hSw; (try dsimp only at hSw); go_simp; (try with_reducible rfl)
    try simp only [Act.put, sArr, sZ, sS]
    refine wpAnyH_ready (rs := [0]) (by kernel_rfl) (by simp) (cons_l rfl (fun K' hK' => ?_) AllReadyH.nil)
    refine step_load rfl 23 _ rfl ⟨G, 0, none⟩ rfl KC (by rw [hKCl]; exact aggKey) hG0.at0 ?_
    refine hK'.out _ _ rt0 (fun hHeld => ?_)
    clear hK' K'
    try simp only [Act.put, sArr, sZ, sS]
    refine wpAnyH_ready (rs := [6]) (by kernel_rfl) (by simp) (cons_l rfl (fun K' hK' => ?_) AllReadyH.nil)
    rw [if_pos (by kernel_rfl)]
    go_simp
    go_at_call 21
    refine (hop y0 by0).out.mono ?_
    rintro e y1 ⟨rfl, hy1⟩
    have hG1 := hG0.below hy1 hG0.lt
    have hR1 := hR0.below hy1 hR0.lt
    have bw1 := bw0.trans (hy1.mono (by omega : B ≤ _))
    have sy1 : B + 3 ≤ y1.heap.size := Nat.le_trans sy0 hy1.size
    have rt1 := at_range (At.below (range_at rt0) hy1 hbw)
    have bz1 : Below G z2 y1 := bzr0.trans (hy1.mono (Nat.le_of_lt hG0.lt))
    refine hK'.out _ _ rt1 (fun hHeld => ?_)
    clear hK' K'
    try simp only [Act.put, sArr, sZ, sS]
    refine tkP 7 rfl (by assumption) ⟨?_, ?_, ?_⟩
    rotate_left
    ·intro w hSw; (try dsimp only at hSw); go_simp; (try with_reducible rfl)
    try simp only [Act.put, sArr, sZ, sS]
    refine tkP 8 rfl (by assumption) ⟨?_, ?_, ?_⟩
    rotate_left
    ·intro w hSw; (try dsimp only at hSw); go_simp; (try with_reducible rfl)
    try simp only [Act.put, sArr, sZ, sS]
    refine tkP 9 rfl (by assumption) ⟨?_, ?_, ?_⟩
    rotate_left
    ·intro w hSw; (try dsimp only at hSw); go_simp; (try with_reducible rfl)
    try simp only [Act.put, sArr, sZ, sS]
    refine wpAnyH_ready (rs := [10]) (by kernel_rfl) (by simp) (cons_l rfl (fun K' hK' => ?_) AllReadyH.nil)
    refine step_storeV rfl 23 _ _ rfl 23 G rfl SV rfl 32 aggKey hSl KC hG1 hKCl hS1 ?_
    intro y2 hG2 hy2 hsz2
    have hR2 := hR1.below hy2 (by omega)
    have bw2 := bw1.trans (hy2.mono (by omega : B ≤ _))
    have sy2 : B + 3 ≤ y2.heap.size := (by omega)
    have bz2 : Below G z2 y2 := bz1.trans hy2
    have rt2 := at_range (at_lt (range_at rt1) hy2 hbG)
    refine hK'.out _ _ rt2 (fun hHeld => ?_)
    clear hK' K'
    try simp only [Act.put, sArr, sZ, sS]
    refine tkP 11 rfl (by assumption) ⟨?_, ?_, ?_⟩
    rotate_left
    ·intro w hSw; (try dsimp only at hSw); go_simp; (try with_reducible rfl)
    try simp only [Act.put, sArr, sZ, sS]
    refine wpAnyH_done (by kernel_rfl) ?_ _
    clear hHeld
    go_wp2
    go_roundw
    case rel => exact ⟨p + 1, _, SV, by omega, rfl, by go_num, hG2, hR2, hSl, HSV, hSX, bw2, sy2, bz2, HGO2⟩
    case measure => simp [intOf] <;> omega
   ·rw [if_neg hoe] at hop
    obtain ⟨E, HE⟩ : ∃ E, Hid (E = openE kc x c) := ⟨_, rfl⟩
    have hE0 : ¬ E = 0 := by rw [HE.out]; exact hoe
    have hE1 : (E == 0) = false := by simpa using hE0
    rw [← HE.out, ← HZ.out] at hop
    have HBAD : Hid (chainR k n (ps.map Pt.l) c want = (List.replicate 32 0, E, [])) := hid (by
     have h1 : (List.replicate 32 0, E) = (KF, EF) := by rw [← HST, HE.out, Hx.out]; exact (chainGo_bad (by rw [← Hx.out]; exact hoe)).symm
     have h2 : KF = List.replicate 32 0 := (congrArg Prod.fst h1).symm
     have h3 : EF = E := (congrArg Prod.snd h1).symm
     rw [HRR.out, h2, h3, if_neg hE0])
    obtain ⟨SV, HSV⟩ : ∃ V, Hid (V = Z) := ⟨_, rfl⟩
    have hSl : SV.length = 32 := by rw [HSV.out]; exact hZl
    have hS1 : ∀ u ∈ SV, u.oneCell' = true := by rw [HSV.out]; exact hZ1
    rw [← HSV.out] at hop
    clear HST HGO hoe hxo
    go_wp2
    refine wp_region_held_drew (S := (fun w' => w'.rangeAt b (off + i * 130) CS)) (by kernel_rfl) (show wr.drew.rangeAt b (off + i * 130) CS from at_range hat) (fun hHeld => ?_)
    obtain ⟨y0, HY0⟩ : ∃ y, Hid (y = wr.drew) := ⟨_, rfl⟩
    rw [← HY0.out] at hHeld ⊢
    have hG0 : BlkV 23 y0 G KC := by rw [HY0.out]; exact hG
    have hR0 : BlkV 23 y0 (B + 2) Z := by rw [HY0.out]; exact hRr
    have bw0 : Below B w y0 := by rw [HY0.out]; exact hbr.drew
    have sy0 : B + 3 ≤ y0.heap.size := by rw [HY0.out]; exact hszr
    have rt0 : y0.rangeAt b (off + i * 130) CS := by rw [HY0.out]; exact at_range hat
    have bzr0 : Below G z2 y0 := by rw [HY0.out]; exact hbz.drew
    have by0 : Below B w y0 := bw0
    have hbw : b < y0.heap.size := by rw [HY0.out]; exact hbw0
    clear hG hRr hbr hszr hat hbz hbw0
    refine tkP 1 rfl (by assumption) ⟨?_, ?_, ?_⟩
    rotate_left
    ·intro w hSw; (try dsimp only at hSw); go_simp; (try with_reducible rfl)
    try simp only [Act.put, sArr, sZ, sS]
    refine tkP 2 rfl (by assumption) ⟨?_, ?_, ?_⟩
    rotate_left
    ·intro w hSw; (try dsimp only at hSw); go_simp; (try with_reducible rfl)
    try simp only [Act.put, sArr, sZ, sS]
    refine tkP 3 rfl (by assumption) ⟨?_, ?_, ?_⟩
    rotate_left
    ·intro w hSw; (try dsimp only at hSw); go_simp; (try with_reducible rfl)
    try simp only [Act.put, sArr, sZ, sS]
    refine tkR 4 rfl (yieldsIf_load_mid (by rfl) 57 _ rfl b (off + i * 130) rfl CS _ (fun w hS => hS) huE rfl hiE) (by assumption) ?_
    try simp only [Act.put, sArr, sZ, sS]
    refine tkP 5 rfl (by assumption) ⟨?_, ?_, ?_⟩
    rotate_left
    ·intro w hSw; (try dsimp only at hSw); go_simp; (try with_reducible rfl)
    try simp only [Act.put, sArr, sZ, sS]
    refine wpAnyH_ready (rs := [0]) (by kernel_rfl) (by simp) (cons_l rfl (fun K' hK' => ?_) AllReadyH.nil)
    refine step_load rfl 23 _ rfl ⟨G, 0, none⟩ rfl KC (by rw [hKCl]; exact aggKey) hG0.at0 ?_
    refine hK'.out _ _ rt0 (fun hHeld => ?_)
    clear hK' K'
    try simp only [Act.put, sArr, sZ, sS]
    refine wpAnyH_ready (rs := [6]) (by kernel_rfl) (by simp) (cons_l rfl (fun K' hK' => ?_) AllReadyH.nil)
    rw [if_pos (by kernel_rfl)]
    go_simp
    go_at_call 21
    refine (hop y0 by0).out.mono ?_
    rintro e y1 ⟨rfl, hy1⟩
    have hG1 := hG0.below hy1 hG0.lt
    have hR1 := hR0.below hy1 hR0.lt
    have bw1 := bw0.trans (hy1.mono (by omega : B ≤ _))
    have sy1 : B + 3 ≤ y1.heap.size := Nat.le_trans sy0 hy1.size
    have rt1 := at_range (At.below (range_at rt0) hy1 hbw)
    have bz1 : Below G z2 y1 := bzr0.trans (hy1.mono (Nat.le_of_lt hG0.lt))
    refine hK'.out _ _ rt1 (fun hHeld => ?_)
    clear hK' K'
    try simp only [Act.put, sArr, sZ, sS]
    refine tkP 7 rfl (by assumption) ⟨?_, ?_, ?_⟩
    rotate_left
    ·intro w hSw; (try dsimp only at hSw); go_simp; (try with_reducible rfl)
    try simp only [Act.put, sArr, sZ, sS]
    refine tkP 8 rfl (by assumption) ⟨?_, ?_, ?_⟩
    rotate_left
    ·intro w hSw; (try dsimp only at hSw); go_simp; (try with_reducible rfl)
    try simp only [Act.put, sArr, sZ, sS]
    refine tkP 9 rfl (by assumption) ⟨?_, ?_, ?_⟩
    rotate_left
    ·intro w hSw; (try dsimp only at hSw); go_simp; (try with_reducible rfl)
    try simp only [Act.put, sArr, sZ, sS]
    refine wpAnyH_ready (rs := [10]) (by kernel_rfl) (by simp) (cons_l rfl (fun K' hK' => ?_) AllReadyH.nil)
    refine step_storeV rfl 23 _ _ rfl 23 G rfl SV rfl 32 aggKey hSl KC hG1 hKCl hS1 ?_
    intro y2 hG2 hy2 hsz2
    have hR2 := hR1.below hy2 (by omega)
    have bw2 := bw1.trans (hy2.mono (by omega : B ≤ _))
    have sy2 : B + 3 ≤ y2.heap.size := (by omega)
    have bz2 : Below G z2 y2 := bz1.trans hy2
    have rt2 := at_range (at_lt (range_at rt1) hy2 hbG)
    refine hK'.out _ _ rt2 (fun hHeld => ?_)
    clear hK' K'
    try simp only [Act.put, sArr, sZ, sS]
    refine tkP 11 rfl (by assumption) ⟨?_, ?_, ?_⟩
    rotate_left
    ·intro w hSw; (try dsimp only at hSw); go_simp; (try with_reducible rfl)
    try simp only [Act.put, sArr, sZ, sS]
    refine wpAnyH_done (by kernel_rfl) ?_ _
    clear hHeld
    go_wp2_with (first | (refine wl_storeV rfl 23 _ _ rfl 23 (B + 2) rfl Z rfl 32 aggKey hZl Z hR2 hZl hZ1 ?_; intro wF hRF hbF hsF; have bbF := bw2.trans (hbF.mono (by omega : B ≤ _)); clear hR2) | (refine wl_build0 rfl 23 rfl Z HBK.out ?_))
    (try simp only [Exit.inBlock, Exit.then]); refine bodyPost_ret (results_cell3 rfl _ _ _ _ rfl Z (by rw [hZl]; exact aggKey) hRF.at0) rfl ?_
    exact chain_bad HZ.out HBAD.out (by rw [← HB.out]; exact bbF)
  ·obtain rfl : p = wm := by omega
   have hfin : (kc, (0 : Int)) = (KF, EF) := by
    have h := HGO.out
    rw [List.drop_eq_nil_of_le (by rw [← HWM.out]; exact Nat.le_refl _)] at h
    exact h
   have HKFE : Hid (KF = kc) := hid (congrArg Prod.fst hfin).symm
   have HEFE : Hid (EF = 0) := hid (congrArg Prod.snd hfin).symm
   have hKC1 : ∀ u ∈ KC, u.oneCell' = true := by rw [HKC.out]; exact ints_one _ _
   clear hfin HGO hpw
   go_wp2_with (first | (refine wl_storeG rfl 23 _ _ rfl 23 (B + 2) rfl KC rfl 32 aggKey hKCl Z hRr hZl hKC1 ?_; intro wF hRF hgF hsF; have bbF := hbr.grown hgF (by omega) (fun k hk => by injection hk with hk; omega)) | (refine wl_load rfl 23 _ rfl ⟨G, 0, none⟩ rfl KC (by rw [hKCl]; exact aggKey) hG.at0 ?_))
   (try simp only [Exit.inBlock, Exit.then]); refine bodyPost_ret (results_cell3 rfl _ _ _ _ rfl KC (by rw [hKCl]; exact aggKey) hRF.at0) rfl ?_
   rw [HRR.out, HEFE.out, if_pos rfl, HKFE.out, HKC.out]
   exact ⟨by rw [← HB.out]; exact bbF, wo, p, wc, rfl, HWM.out, rowI_other (l8 := List.replicate 32 0) (HWR.out.below (by rw [← HGG.out]; exact hbz)) (by rw [← HZ.out]; exact hRr) hgF⟩
theorem Chain_any (k : List Int) (po ao : Option Addr) (cap ac n mc : Nat) (ps : List Pt) (c : List Int) (want : Id) (w : World) (hk : k.length = 32) (ok : Octs k) (hn : n = ps.length) (hrow : RowV w po (ps.map Pt.v)) (hps : ∀ x ∈ ps, 4 ≤ x.l.length → x.Ok w) (hmc : mc = c.length) (HP : Pt.Ok w ⟨ao, ac, c⟩) (hno : ao = none → ac = 0) (hw : want.length = 16) :
  Calls Tryz.prog 4 #[.agg (k.map (Value.int .u8)).toArray, .slice po n cap, .slice ao mc ac, idV want] w (ChainPost (chainR k n (ps.map Pt.l) c want) w) := by
 by_cases h1 : 4096 < c.length
 ·exact Chain_L k po ao cap ac n mc ps c want w hk ok hn hrow hps hmc HP hno hw h1
 ·by_cases h2 : 200 < n
  ·exact Chain_M k po ao cap ac n mc ps c want w hk ok hn hrow hps hmc HP hno hw h1 h2
  ·by_cases h3 : chE (ps.map Pt.l) = 0
   ·cases h4 : wayR (((ps.map Pt.l).map readX).map lnk) (nameL k) want with
    | none => exact Chain_N k po ao cap ac n mc ps c want w hk ok hn hrow hps hmc HP hno hw h1 h2 h3 h4
    | some L => exact Chain_W k po ao cap ac n mc ps c want w hk ok hn hrow hps hmc HP hno hw h1 h2 h3 L h4
   ·exact Chain_E k po ao cap ac n mc ps c want w hk ok hn hrow hps hmc HP hno hw h1 h2 h3
end Go.Proofs.YtbjmadcbhkeenaaGreat.lk
namespace Go.Proofs.YtbjmadcbhkeenaaGreat.lk
open Go.RowKit wr shr sh st hs
def wrongE (n : Nat) (ls : List (List Int)) : Int := if 200 < n then 5 else chE ls
set_option maxHeartbeats 2000000 in
theorem ChainErr_any (po : Option Addr) (cap n : Nat) (ps : List Pt) (w : World) (hn : n = ps.length) (hrow : RowV w po (ps.map Pt.v)) (hps : ∀ x ∈ ps, 4 ≤ x.l.length → x.Ok w) :
  Calls Tryz.prog 7 #[.slice po n cap] w (LinkedPost (ps.map Pt.l) (wrongE n (ps.map Pt.l)) w) := by
 by_cases h1 : 200 < n
 ·have hI : (200 : Int) < (n : Int) := by omega
  have HE5 : Hid (wrongE n (ps.map Pt.l) = 5) := hid (by unfold wrongE; rw [if_pos h1])
  clear hn h1
  go_enter Tryz.func7, Tryz.ntmps7
  go_wp2
  go_ret2
  exact ⟨Below.refl _ _, none, 0, 0, by rw [HE5.out]; rfl, Or.inl ⟨by rw [HE5.out]; decide, rfl, rfl, rfl⟩⟩
 ·refine (ChainError_any po cap n ps w hn (by omega) hrow hps).mono fun e w' h => ?_
  have e1 : wrongE n (ps.map Pt.l) = chE (ps.map Pt.l) := by unfold wrongE; rw [if_neg h1]
  rw [e1]; exact h
theorem First_three (x y u t : Int) (w w0 : World) (hw : w0 = w.alloc (.cells #[.int .i64 x, .int .i64 y, .int .i64 u] 30)) (h : firstE [x, y, u] = t) :
  Calls Tryz.prog 9 #[.slice (some ⟨w.heap.size, 0, none⟩) 3 3] w0 fun e w' => e = .returned (.int .i64 t) ∧ w0 = w' := by
 subst hw
 subst h
 have h : RowI .i64 (w.alloc (.cells #[.int .i64 x, .int .i64 y, .int .i64 u] 30)) (some ⟨w.heap.size, 0, none⟩) [x, y, u] := by
  refine Or.inr ⟨_, _, rfl, by simp, fun i hi => ?_⟩
  rw [World.cell?_alloc_at _ _ _ _ (by simp)]
  match i, hi with
  | 0, _ => rfl
  | 1, _ => rfl
  | 2, _ => rfl
 exact First_any _ 3 [x, y, u] _ h (by simp)
theorem lost_eq {roots gone A1 A2 ks out : List Id} {E : List Link} (hl : LostIs roots gone E ks) (h1 : Reached roots [] E A1) (h2 : Reached roots gone E A2) (hn : ks.Nodup) (ho : Ord ks) (hn1 : A1.Nodup) (ho1 : Ord A1) (hout : out = A1.filter fun x => !decide (x ∈ A2) && !decide (x ∈ gone)) : ks = out := by
 obtain ⟨S1, S2, g1, s1, g2, s2, hm⟩ := hl
 subst hout
 refine ord_eq hn (hn1.sublist List.filter_sublist) ho (ho1.sublist List.filter_sublist) fun k => ?_
 rw [hm k, List.mem_filter]
 have e1 := Grow.same g1 h1.1 s1 h1.2 k
 have e2 := Grow.same g2 h2.1 s2 h2.2 k
 rw [Bool.and_eq_true, Bool.not_eq_true', Bool.not_eq_true', decide_eq_false_iff_not, decide_eq_false_iff_not, ← e1, ← e2]
theorem reached_eq {roots gone A1 A2 : List Id} {E : List Link} (h1 : Reached roots gone E A1) (h2 : Reached roots gone E A2) (hn1 : A1.Nodup) (ho1 : Ord A1) (hn2 : A2.Nodup) (ho2 : Ord A2) : A1 = A2 :=
 ord_eq hn1 hn2 ho1 ho2 (fun k => Grow.same h1.1 h2.1 h1.2 h2.2 k)
theorem filter_step (l : List Id) (p : Id → Bool) (j : Nat) (hj : j < l.length) : (l.take (j + 1)).filter p = if p (l.getD j []) = true then (l.take j).filter p ++ [l.getD j []] else (l.take j).filter p := by
 rw [List.take_succ_eq_append_getElem hj, List.filter_append, getD_lt' l [] hj]
 by_cases h : p l[j] = true
 ·rw [if_pos h]; simp [h]
 ·rw [if_neg h]; simp [h]
theorem chainGo_len {es : List Env} {c : List Int} (hes : ∀ x ∈ es, x.Ok) : ∀ (L : List Nat) (k : List Int), k.length = 32 → Octs k → (∀ i ∈ L, i < es.length) → (chainGo es c k L).1.length = 32 ∧ Octs (chainGo es c k L).1
 | [], k, hk, ok, _ => ⟨hk, ok⟩
 | i :: L, k, hk, ok, hL => by
  have hi := hL i (List.mem_cons_self ..)
  have hx := hes (es.getD i env0) (by rw [getD_lt' es _ hi]; exact List.getElem_mem hi)
  by_cases h : openE k (es.getD i env0) c = 0
  ·rw [chainGo_ok h]
   exact chainGo_len hes L _ (secretX_length hx) (secretX_octs hx) (fun j hj => hL j (List.mem_cons_of_mem _ hj))
  ·rw [chainGo_bad h]
   exact ⟨by simp, fun x hx => by rw [List.eq_of_mem_replicate hx]; exact ⟨by decide, by decide⟩⟩
theorem chainR_ok {k : List Int} {n : Nat} {ls : List (List Int)} {c : List Int} {want : Id} {KF : List Int} {EF : Int} {LF : List Nat} (h : chainR k n ls c want = (KF, EF, LF)) (hk : k.length = 32) (ok : Octs k) (hO : ∀ l ∈ ls, readE l = 0 → (readX l).Ok) : KF.length = 32 ∧ Octs KF := by
 have hz : (List.replicate 32 (0 : Int)).length = 32 ∧ Octs (List.replicate 32 (0 : Int)) := ⟨by simp, fun x hx => by rw [List.eq_of_mem_replicate hx]; exact ⟨by decide, by decide⟩⟩
 unfold chainR at h
 split at h
 ·cases h; exact hz
 ·rename_i h0
  split at h
  ·cases h; exact hz
  ·rename_i L hL
   cases h
   have hc : chE ls = 0 := by
    unfold chainE0 at h0
    split at h0
    ·exact absurd (by decide) h0
    ·simpa using h0
   refine chainGo_len (fun x hx => ?_) L k hk ok ?_
   ·obtain ⟨l, hl, rfl⟩ := List.mem_map.1 hx
    exact hO l hl (chE_zero hc l hl).1
   ·have := wayR_lt hL
    rwa [List.length_map] at this
theorem list_below {E : Int} {P : List Id → Prop} {w w' : World} {ao : Option Addr} {m c : Nat} (h : (E ≠ 0 ∧ ao = none ∧ m = 0 ∧ c = 0) ∨ (E = 0 ∧ ∃ ks : List Id, m = ks.length ∧ RowD w ao ks ∧ ks.Nodup ∧ Ord ks ∧ P ks)) (hb : Below w.heap.size w w') : (E ≠ 0 ∧ ao = none ∧ m = 0 ∧ c = 0) ∨ (E = 0 ∧ ∃ ks : List Id, m = ks.length ∧ RowD w' ao ks ∧ ks.Nodup ∧ Ord ks ∧ P ks) := by
 rcases h with h | ⟨h0, ks, h1, h2, h3⟩
 ·exact Or.inl h
 ·exact Or.inr ⟨h0, ks, h1, h2.below hb, h3⟩
theorem link_below {E : Int} {ls : List (List Int)} {w w' : World} {ao : Option Addr} {m c : Nat} (h : (E ≠ 0 ∧ ao = none ∧ m = 0 ∧ c = 0) ∨ (E = 0 ∧ m = ls.length ∧ RowE w ao (ls.map readX))) (hb : Below w.heap.size w w') : (E ≠ 0 ∧ ao = none ∧ m = 0 ∧ c = 0) ∨ (E = 0 ∧ m = ls.length ∧ RowE w' ao (ls.map readX)) := by
 rcases h with h | ⟨h0, h1, h2⟩
 ·exact Or.inl h
 ·exact Or.inr ⟨h0, h1, h2.below hb⟩
theorem list_nil {E : Int} {P : List Id → Prop} {w : World} {ao : Option Addr} {m c : Nat} (h : (E ≠ 0 ∧ ao = none ∧ m = 0 ∧ c = 0) ∨ (E = 0 ∧ ∃ ks : List Id, m = ks.length ∧ RowD w ao ks ∧ ks.Nodup ∧ Ord ks ∧ P ks)) (h0 : E ≠ 0) : ao = none ∧ m = 0 ∧ c = 0 := by
 rcases h with h | h
 ·exact h.2
 ·exact absurd h.1 h0
theorem list_some {E : Int} {P : List Id → Prop} {w : World} {ao : Option Addr} {m c : Nat} (h : (E ≠ 0 ∧ ao = none ∧ m = 0 ∧ c = 0) ∨ (E = 0 ∧ ∃ ks : List Id, m = ks.length ∧ RowD w ao ks ∧ ks.Nodup ∧ Ord ks ∧ P ks)) (h0 : E = 0) : ∃ ks : List Id, m = ks.length ∧ RowD w ao ks ∧ ks.Nodup ∧ Ord ks ∧ P ks := by
 rcases h with h | h
 ·exact absurd h0 h.1
 ·exact h.2
def WayIn (k : List Int) (n : Nat) (ls : List (List Int)) (c : List Int) (KF : List Int) (EF : Int) (LF : List Nat) (F1 : Int) (L : List Nat) : Prop :=
 (F1 ≠ 0 ∧ L = [] ∧ KF = List.replicate 32 0 ∧ EF = F1 ∧ LF = []) ∨ (F1 = 0 ∧ chainE0 c n ls = 0 ∧ chainGo (ls.map readX) c k L = (KF, EF) ∧ (LF = if EF = 0 then L else []) ∧ (∀ i ∈ L, i < ls.length) ∧ L.length ≤ ls.length)
theorem wayIn_err {k : List Int} {n : Nat} {ls : List (List Int)} {c : List Int} {want : Id} {KF : List Int} {EF : Int} {LF : List Nat} (h : chainR k n ls c want = (KF, EF, LF)) {F0 : Int} (h0 : chainE0 c n ls = F0) (hF : F0 ≠ 0) : WayIn k n ls c KF EF LF F0 [] := by
 unfold chainR at h
 rw [h0, if_pos hF] at h
 cases h
 exact Or.inl ⟨hF, rfl, rfl, rfl, rfl⟩
theorem wayIn_none {k : List Int} {n : Nat} {ls : List (List Int)} {c : List Int} {want : Id} {KF : List Int} {EF : Int} {LF : List Nat} (h : chainR k n ls c want = (KF, EF, LF)) (h0 : chainE0 c n ls = 0) (hW : wayR ((ls.map readX).map lnk) (nameL k) want = none) : WayIn k n ls c KF EF LF 7 [] := by
 unfold chainR at h
 rw [h0, if_neg (fun h => h rfl), hW] at h
 cases h
 exact Or.inl ⟨by decide, rfl, rfl, rfl, rfl⟩
theorem wayIn_some {k : List Int} {n : Nat} {ls : List (List Int)} {c : List Int} {want : Id} {KF : List Int} {EF : Int} {LF : List Nat} (h : chainR k n ls c want = (KF, EF, LF)) (h0 : chainE0 c n ls = 0) {L : List Nat} (hW : wayR ((ls.map readX).map lnk) (nameL k) want = some L) : WayIn k n ls c KF EF LF 0 L := by
 unfold chainR at h
 rw [h0, if_neg (fun h => h rfl), hW] at h
 cases h
 have h1 := wayR_lt hW
 have h2 := wayR_len hW
 rw [List.length_map, List.length_map] at h1 h2
 exact Or.inr ⟨rfl, h0, rfl, rfl, h1, h2⟩
theorem e0_first {c : List Int} {n mc : Nat} {ls : List (List Int)} (hmc : mc = c.length) {WH E1 F0 : Int} (hW : whenE (decide ((4096 : Int) < (mc : Int))) 5 = WH) (hE : E1 = wrongE n ls) (hF : firstE2 WH E1 = F0) : chainE0 c n ls = F0 := by
 subst hW; subst hE; subst hF
 unfold chainE0 wrongE firstE2
 by_cases h : 4096 < c.length
 ·rw [decide_eq_true (by omega), if_pos (Or.inl h)]; rfl
 ·rw [decide_eq_false (by omega), whenE_false, if_pos rfl]
  by_cases h2 : 200 < n
  ·rw [if_pos (Or.inr h2), if_pos h2]
  ·rw [if_neg (by omega), if_neg h2]
theorem e2_first {n m : Nat} {ls : List (List Int)} {LG E1 E2 : Int} (hW : whenE (decide (200 < n) || decide (200 < m)) 5 = LG) (hE : E1 = wrongE n ls) (h2 : E2 = linkE n m ls) : firstE2 LG E1 = E2 := by
 subst hW; subst hE; subst h2
 unfold linkE wrongE firstE2
 by_cases h : 200 < n
 ·rw [decide_eq_true h, if_pos (Or.inl h)]; rfl
 ·by_cases h3 : 200 < m
  ·rw [decide_eq_true h3, if_pos (Or.inr h3), Bool.or_true]; rfl
  ·have e : ¬ (200 < n ∨ 200 < m) := by omega
   rw [decide_eq_false h, decide_eq_false h3, Bool.or_false, whenE_false, if_pos rfl, if_neg h, if_neg e]
theorem e3_first {n m gn : Nat} {ls : List (List Int)} {LG E1 E3 WG : Int} (hW : whenE (decide (200 < n) || decide (200 < m)) 5 = LG) (hE : E1 = wrongE n ls) (hG : whenE (decide (200 < gn)) 5 = WG) (h3 : E3 = lostE n m gn ls) : firstE [LG, E1, WG] = E3 := by
 have h2 := e2_first (m := m) hW hE (rfl : linkE n m ls = _)
 subst hG; subst h3
 have e : firstE [LG, E1, whenE (decide (200 < gn)) 5] = if firstE2 LG E1 ≠ 0 then firstE2 LG E1 else if 200 < gn then 5 else 0 := by
  unfold firstE2
  by_cases hL : LG = 0
  ·by_cases h1 : E1 = 0
   ·by_cases hg : 200 < gn
    ·simp [firstE, hL, h1, hg, whenE]
    ·simp [firstE, hL, h1, hg, whenE]
   ·simp [firstE, hL, h1]
  ·simp [firstE, hL]
 rw [e, h2]
 rfl
theorem link_zero {n m : Nat} {ls : List (List Int)} (h : linkE n m ls = 0) : ¬ 200 < n ∧ ¬ 200 < m ∧ chE ls = 0 := by
 unfold linkE at h
 split at h
 ·cases h
 ·rename_i hn
  exact ⟨fun g => hn (Or.inl g), fun g => hn (Or.inr g), h⟩
theorem lost_zero {n m gn : Nat} {ls : List (List Int)} (h : lostE n m gn ls = 0) : linkE n m ls = 0 ∧ ¬ 200 < gn := by
 unfold lostE at h
 split at h
 ·rename_i h2; exact absurd h h2
 ·rename_i h2
  split at h
  ·cases h
  ·rename_i h3; exact ⟨by simpa using h2, h3⟩
theorem e0_zero {c : List Int} {n : Nat} {ls : List (List Int)} (h : chainE0 c n ls = 0) : ¬ 4096 < c.length ∧ ¬ 200 < n ∧ chE ls = 0 := by
 unfold chainE0 at h
 split at h
 ·cases h
 ·rename_i hn
  exact ⟨fun g => hn (Or.inl g), fun g => hn (Or.inr g), h⟩
def KeyIn (es : List Env) (c : List Int) (KF : List Int) (EF : Int) (f : Int) (kc : List Int) (r : List Nat) : Prop := (f = 0 ∧ chainGo es c kc r = (KF, EF)) ∨ (f ≠ 0 ∧ EF = f)
theorem KeyIn.ok {es : List Env} {c KF kc : List Int} {EF : Int} {i : Nat} {r : List Nat} (h : KeyIn es c KF EF 0 kc (i :: r)) (ho : openE kc (es.getD i env0) c = 0) : KeyIn es c KF EF 0 (secretX kc (es.getD i env0)) r := by
 rcases h with h | h
 ·exact Or.inl ⟨rfl, by rw [← h.2, chainGo_ok ho]⟩
 ·exact absurd rfl h.1
theorem KeyIn.bad {es : List Env} {c KF kc : List Int} {EF : Int} {i : Nat} {r : List Nat} (h : KeyIn es c KF EF 0 kc (i :: r)) (ho : openE kc (es.getD i env0) c ≠ 0) (kc' : List Int) : KeyIn es c KF EF (openE kc (es.getD i env0) c) kc' r := by
 rcases h with h | h
 ·exact Or.inr ⟨ho, by rw [chainGo_bad ho] at h; exact (congrArg Prod.snd h.2).symm⟩
 ·exact absurd rfl h.1
theorem KeyIn.stay {es : List Env} {c KF kc : List Int} {EF f : Int} {i : Nat} {r : List Nat} (h : KeyIn es c KF EF f kc (i :: r)) (hf : f ≠ 0) : KeyIn es c KF EF f kc r := by
 rcases h with h | h
 ·exact absurd h.1 hf
 ·exact Or.inr h
theorem KeyIn.end {es : List Env} {c KF kc : List Int} {EF f : Int} (h : KeyIn es c KF EF f kc []) : f = EF ∧ (EF = 0 → kc = KF) := by
 rcases h with h | h
 ·have h2 : (kc, (0 : Int)) = (KF, EF) := h.2
  have e1 : kc = KF := congrArg Prod.fst h2
  have e2 : (0 : Int) = EF := congrArg Prod.snd h2
  exact ⟨by rw [h.1, e2], fun _ => e1⟩
 ·exact ⟨h.2.symm, fun h0 => absurd (h.2 ▸ h0 : f = 0) h.1⟩
theorem KeyIn.start {k : List Int} {n : Nat} {ls : List (List Int)} {c KF : List Int} {EF : Int} {LF L : List Nat} {F1 : Int} (h : WayIn k n ls c KF EF LF F1 L) : KeyIn (ls.map readX) c KF EF F1 k L := by
 rcases h with ⟨h1, _, _, h4, _⟩ | ⟨h1, _, h3, _⟩
 ·exact Or.inr ⟨h1, h4⟩
 ·exact Or.inl ⟨h1, h3⟩
theorem chainGo_err {es : List Env} {c : List Int} : ∀ (L : List Nat) (k KF : List Int) (EF : Int), chainGo es c k L = (KF, EF) → EF ≠ 0 → KF = List.replicate 32 0
 | [], k, KF, EF, h, h0 => by cases h; exact absurd rfl h0
 | i :: L, k, KF, EF, h, h0 => by
  by_cases ho : openE k (es.getD i env0) c = 0
  ·rw [chainGo_ok ho] at h
   exact chainGo_err L _ KF EF h h0
  ·rw [chainGo_bad ho] at h
   cases h; rfl
theorem WayIn.bad {k : List Int} {n : Nat} {ls : List (List Int)} {c KF : List Int} {EF : Int} {LF L : List Nat} {F1 : Int} (h : WayIn k n ls c KF EF LF F1 L) (h0 : EF ≠ 0) : KF = List.replicate 32 0 ∧ LF = [] := by
 rcases h with ⟨_, _, h3, _, h5⟩ | ⟨_, _, h3, h4, _, _⟩
 ·exact ⟨h3, h5⟩
 ·exact ⟨chainGo_err _ _ _ _ h3 h0, by rw [h4, if_neg h0]⟩
theorem WayIn.good {k : List Int} {n : Nat} {ls : List (List Int)} {c KF : List Int} {LF L : List Nat} {F1 : Int} (h : WayIn k n ls c KF 0 LF F1 L) : LF = L := by
 rcases h with ⟨h1, _, _, h4, _⟩ | ⟨_, _, _, h4, _⟩
 ·exact absurd h4.symm h1
 ·rw [h4, if_pos rfl]
theorem WayIn.len {k : List Int} {n : Nat} {ls : List (List Int)} {c KF : List Int} {EF : Int} {LF L : List Nat} {F1 : Int} (h : WayIn k n ls c KF EF LF F1 L) : L.length ≤ ls.length := by
 rcases h with ⟨_, h2, _⟩ | ⟨_, _, _, _, _, h6⟩
 ·rw [h2]; exact Nat.zero_le _
 ·exact h6
theorem WayIn.in {k : List Int} {n : Nat} {ls : List (List Int)} {c KF : List Int} {EF : Int} {LF L : List Nat} {F1 : Int} (h : WayIn k n ls c KF EF LF F1 L) {p : Nat} (hp : p < L.length) : chainE0 c n ls = 0 ∧ L.getD p 0 < ls.length := by
 rcases h with ⟨_, h2, _⟩ | ⟨_, h2, _, _, h5, _⟩
 ·rw [h2] at hp; cases hp
 ·exact ⟨h2, h5 _ (by rw [getD_lt' L 0 hp]; exact List.getElem_mem hp)⟩
end Go.Proofs.YtbjmadcbhkeenaaGreat.lk
