/-
  Contract of keyref2.Unwrapped: what wrap.Unwrap answers. Conditions: a key of octets, texts of octets that lie in memory. Rows of envelopes; contracts of wrap.links and keyref2.ChainError. Conditions: at most 200 parts of octets that lie in memory. keylaw2.openPack returns true. Conditions: a key of octets, texts of octets that lie in memory, a pack of at most 2^40 octets.
-/
import Derived.Test.YtbjmadcbhkeenaaGreatCWsI
import Derived.Test.YtbjmadcbhkeenaaGreatCWsG
import Derived.Test.YtbjmadcbhkeenaaGreatCBsl
import Derived.Test.YtbjmadcbhkeenaaGreatCHld
set_option maxRecDepth 100000
set_option linter.unusedSimpArgs false
set_option linter.unusedVariables false
namespace Go.Proofs.YtbjmadcbhkeenaaGreat.wr
open Go.RowKit st hs shr sh
set_option maxHeartbeats 2000000 in
theorem Unwrapped_L (k l c : List Int) (bo : Option Addr) (bc n : Nat) (ao : Option Addr) (cap mc : Nat) (w : World) (hk : k.length = 32) (ok : Octs k) (hn : n = l.length) (HL : Pt.Ok w ⟨bo, bc, l⟩) (hmc : mc = c.length) (HP : Pt.Ok w ⟨ao, cap, c⟩) (hno : ao = none → cap = 0) (h1 : 4096 < c.length) :
  Calls Tryz.prog 13 #[.agg (k.map (Value.int .u8)).toArray, .slice bo n bc, .slice ao mc cap] w fun r w' => r = .returned (unwrapV k l c) ∧ Below w.heap.size w w' := by
 obtain ⟨B, HB⟩ : ∃ B, Hid (B = w.heap.size) := ⟨_, rfl⟩
 have hsz : w.heap.size = B := HB.out.symm
 have hml := HP.cap
 obtain ⟨Z, HZ⟩ : ∃ Z, Hid (Z = (List.replicate 32 (0 : Int)).map (Value.int .u8)) := ⟨_, rfl⟩
 have hzK := hid zeroKey
 have HBK : Hid (Tryz.prog.built 23 [] = some ((List.replicate 32 (0 : Int)).map (Value.int .u8)).toArray) := hid (by kernel_rfl)
 rw [← HZ.out] at hzK HBK
 have hZl : Z.length = 32 := by rw [HZ.out]; simp
 have hZ1 : ∀ u ∈ Z, u.oneCell' = true := by rw [HZ.out]; exact ints_one _ _
 have hzE := hid zeroEnv
 obtain ⟨ZE, HZE⟩ : ∃ Z, Hid (Z = env0.cs) := ⟨_, rfl⟩
 rw [← HZE.out] at hzE
 have hZEl : ZE.length = 130 := by rw [HZE.out]; exact env0_ok.csl
 have hZE1 : ∀ u ∈ ZE, u.oneCell' = true := by rw [HZE.out]; exact env0.cs_one
 rw [unwrapV_large h1, ← HZ.out]
 have hmI : (4096 : Int) < (mc : Int) := by omega
 obtain ⟨K, HK⟩ : ∃ K, Hid (K = k.map (Value.int .u8)) := ⟨_, rfl⟩
 have hKl : K.length = 32 := by rw [HK.out, List.length_map, hk]
 rw [← HK.out] at ⊢
 clear hk hn HL hmc HP h1 hml
 go_enter Tryz.func13, Tryz.ntmps13
 go_wp2_with (first | (refine wl_storeV rfl 23 _ _ rfl 23 (B + 1) rfl Z rfl 32 aggKey hZl Z hR1 hZl hZ1 ?_; intro wF hRF hbF hsF; have bbF := bb1.trans (hbF.mono (by omega : B ≤ _)); clear hR1) | (refine wl_build0 rfl 23 rfl Z HBK.out ?_) | (refine wl_allocV rfl 23 rfl Z hzK.out (B + 1) hs0 ?_; intro w1 hR1 hb1 hs1; have hB1 := hB0.below hb1 (by omega); have bb1 := hb0.trans (hb1.mono (by omega : B ≤ _)); clear hB0 hb0) | (refine wl_boxV rfl 23 _ rfl K rfl B hsz ?_; intro w0 hB0 hb0 hs0))
 (try simp only [Exit.inBlock, Exit.then]); refine bodyPost_ret (results_cell2 rfl _ _ _ _ rfl Z (by rw [hZl]; exact aggKey) hRF.at0) rfl ?_
 exact ⟨rfl, by rw [← HB.out]; exact bbF⟩
set_option maxHeartbeats 2000000 in
theorem Unwrapped_R (k l c : List Int) (bo : Option Addr) (bc n : Nat) (ao : Option Addr) (cap mc : Nat) (w : World) (hk : k.length = 32) (ok : Octs k) (hn : n = l.length) (HL : Pt.Ok w ⟨bo, bc, l⟩) (hmc : mc = c.length) (HP : Pt.Ok w ⟨ao, cap, c⟩) (hno : ao = none → cap = 0) (h1 : ¬ 4096 < c.length) (h2 : readE l ≠ 0) :
  Calls Tryz.prog 13 #[.agg (k.map (Value.int .u8)).toArray, .slice bo n bc, .slice ao mc cap] w fun r w' => r = .returned (unwrapV k l c) ∧ Below w.heap.size w w' := by
 obtain ⟨B, HB⟩ : ∃ B, Hid (B = w.heap.size) := ⟨_, rfl⟩
 have hsz : w.heap.size = B := HB.out.symm
 have hml := HP.cap
 obtain ⟨Z, HZ⟩ : ∃ Z, Hid (Z = (List.replicate 32 (0 : Int)).map (Value.int .u8)) := ⟨_, rfl⟩
 have hzK := hid zeroKey
 have HBK : Hid (Tryz.prog.built 23 [] = some ((List.replicate 32 (0 : Int)).map (Value.int .u8)).toArray) := hid (by kernel_rfl)
 rw [← HZ.out] at hzK HBK
 have hZl : Z.length = 32 := by rw [HZ.out]; simp
 have hZ1 : ∀ u ∈ Z, u.oneCell' = true := by rw [HZ.out]; exact ints_one _ _
 have hzE := hid zeroEnv
 obtain ⟨ZE, HZE⟩ : ∃ Z, Hid (Z = env0.cs) := ⟨_, rfl⟩
 rw [← HZE.out] at hzE
 have hZEl : ZE.length = 130 := by rw [HZE.out]; exact env0_ok.csl
 have hZE1 : ∀ u ∈ ZE, u.oneCell' = true := by rw [HZE.out]; exact env0.cs_one
 rw [unwrapV_read h1 h2, ← HZ.out]
 have hmI : ¬ (4096 : Int) < (mc : Int) := by omega
 obtain ⟨e, He⟩ : ∃ e, Hid (e = readE l) := ⟨_, rfl⟩
 rw [← He.out] at h2 ⊢
 have hrd := fun (y : World) (hb : Below B w y) => hid (RefRead_any bo bc n l y hn (fun _ => HL.below (hsz ▸ hb)))
 rw [readV_err He.out.symm h2, ← HZE.out] at hrd
 obtain ⟨K, HK⟩ : ∃ K, Hid (K = k.map (Value.int .u8)) := ⟨_, rfl⟩
 have hKl : K.length = 32 := by rw [HK.out, List.length_map, hk]
 rw [← HK.out] at ⊢
 clear hk hn HL hmc HP h1 hml
 go_enter Tryz.func13, Tryz.ntmps13
 go_wp2_with (first | (refine wl_storeV rfl 23 _ _ rfl 23 (B + 1) rfl Z rfl 32 aggKey hZl Z hR4 hZl hZ1 ?_; intro wF hRF hbF hsF; have bbF := bb4.trans (hbF.mono (by omega : B ≤ _)); clear hR4) | (refine wl_build0 rfl 23 rfl Z HBK.out ?_) | (refine wl_storeV rfl 57 _ _ rfl 57 G rfl ZE rfl 130 aggEnv hZEl ZE hG3 hZEl hZE1 ?_; intro w4 hG4 hb4 hs4; have hB4 := hB3.below hb4 (by omega); have hR4 := hR3.below hb4 (by omega); have bb4 := bb3.trans (hb4.mono (by omega : B ≤ _)); clear hB3 hR3 bb3 hb4 hG3) | (refine wl_allocV rfl 57 rfl ZE hzE.out w2.heap.size rfl ?_; intro w3 hG3 hb3 hs3; obtain ⟨G, HG⟩ : ∃ g, Hid (g = w2.heap.size) := ⟨_, rfl⟩; rw [← HG.out] at hG3 hb3 hs3; rw [← HG.out]; have hGB : B + 2 ≤ G := (by rw [HG.out]; exact hs2); have hB3 := hB2.below hb3 (by omega); have hR3 := hR2.below hb3 (by omega); have bb3 := bb2.trans (hb3.mono (by omega : B ≤ _)); clear hB2 hR2 bb2 hb3) | (go_at_call 27; refine (hrd w1 bb1).out.mono ?_; rintro r w2 ⟨rfl, hb2⟩; have hB2 := hB1.below hb2 hB1.lt; have hR2 := hR1.below hb2 hR1.lt; have bb2 := bb1.trans (hb2.mono (by omega : B ≤ _)); have hs2 : B + 2 ≤ w2.heap.size := (by have := hb2.size; omega); clear hB1 hR1 bb1 hb1 hb2) | (refine wl_allocV rfl 23 rfl Z hzK.out (B + 1) hs0 ?_; intro w1 hR1 hb1 hs1; have hB1 := hB0.below hb1 (by omega); have bb1 := hb0.trans (hb1.mono (by omega : B ≤ _)); clear hB0 hb0) | (refine wl_boxV rfl 23 _ rfl K rfl B hsz ?_; intro w0 hB0 hb0 hs0))
 (try simp only [Exit.inBlock, Exit.then]); refine bodyPost_ret (results_cell2 rfl _ _ _ _ rfl Z (by rw [hZl]; exact aggKey) hRF.at0) rfl ?_
 exact ⟨rfl, by rw [← HB.out]; exact bbF⟩
theorem Unwrapped_any (k l c : List Int) (bo : Option Addr) (bc n : Nat) (ao : Option Addr) (cap mc : Nat) (w : World) (hk : k.length = 32) (ok : Octs k) (hn : n = l.length) (HL : Pt.Ok w ⟨bo, bc, l⟩) (hmc : mc = c.length) (HP : Pt.Ok w ⟨ao, cap, c⟩) (hno : ao = none → cap = 0) :
  Calls Tryz.prog 13 #[.agg (k.map (Value.int .u8)).toArray, .slice bo n bc, .slice ao mc cap] w fun r w' => r = .returned (unwrapV k l c) ∧ Below w.heap.size w w' := by
 by_cases h1 : 4096 < c.length
 ·exact Unwrapped_L k l c bo bc n ao cap mc w hk ok hn HL hmc HP hno h1
 ·by_cases h2 : readE l = 0
  ·rw [unwrapV_open h1 h2]
   have hx := readX_ok HL.oct h2
   have hrx := readV_ok h2
   have he := readX_e HL.oct
   have hx0 := readX_err HL.oct
   have hm : mc ≤ 4096 := by omega
   obtain ⟨x, Hx⟩ : ∃ x, x = readX l := ⟨_, rfl⟩
   have hv : x.v = 1 ∨ x.v = 2 := by rw [Hx]; exact readX_v
   rw [← Hx] at hx hrx he hx0 ⊢
   rcases hv with hv | hv
   ·exact Unwrapped_v1 k l bo bc n x c ao cap mc w hk ok hn HL hrx hx hv hx0 he hmc HP hno hm
   ·exact Unwrapped_v2 k l bo bc n x c ao cap mc w hk ok hn HL hrx hx hv hx0 he hmc HP hno hm
  ·exact Unwrapped_R k l c bo bc n ao cap mc w hk ok hn HL hmc HP hno h1 h2
end Go.Proofs.YtbjmadcbhkeenaaGreat.wr
namespace Go.Proofs.YtbjmadcbhkeenaaGreat.lk
open Go.RowKit wr st hs shr sh
def flatE (l : List Env) : List Value := l.flatMap Env.cs
theorem flatE_cons (x : Env) (l : List Env) : flatE (x :: l) = x.cs ++ flatE l := rfl
theorem flatE_snoc (l : List Env) (x : Env) : flatE (l ++ [x]) = flatE l ++ x.cs := by unfold flatE; simp
theorem flatE_get : ∀ (l : List Env), (∀ x ∈ l, x.cs.length = 130) → ∀ (k j : Nat), k < l.length → j < 130 → (flatE l)[k * 130 + j]? = (l.getD k env0).cs[j]?
 | [], _, k, j, hk, _ => by cases hk
 | x :: l, hl, 0, j, hk, hj => by
  rw [flatE_cons, List.getElem?_append_left (by rw [hl x (List.mem_cons_self ..)]; omega), show 0 * 130 + j = j by omega]
  rfl
 | x :: l, hl, k + 1, j, hk, hj => by
  have h := hl x (List.mem_cons_self ..)
  rw [flatE_cons, List.getElem?_append_right (by omega), h, show (k + 1) * 130 + j - 130 = k * 130 + j by omega]
  exact flatE_get l (fun y hy => hl y (List.mem_cons_of_mem _ hy)) k j (by simpa using hk) hj
def RowE (w : World) (ao : Option Addr) (l : List Env) : Prop := (∀ x ∈ l, x.cs.length = 130) ∧ (l = [] ∨ ∃ b off, ao = some ⟨b, off, none⟩ ∧ b < w.heap.size ∧ ∀ i, i < l.length → At w ⟨b, off + i * 130, none⟩ (l.getD i env0).cs)
theorem RowE.below {w w' : World} {ao : Option Addr} {l : List Env} (h : RowE w ao l) (hb : Below w.heap.size w w') : RowE w' ao l := by
 refine ⟨h.1, ?_⟩
 rcases h.2 with h | ⟨b, off, h1, h2, h3⟩
 ·exact Or.inl h
 ·exact Or.inr ⟨b, off, h1, Nat.lt_of_lt_of_le h2 hb.size, fun i hi => At.below (h3 i hi) hb h2⟩
theorem RowE.at {w : World} {ao : Option Addr} {l : List Env} (h : RowE w ao l) {k : Nat} (hk : k < l.length) : ∃ b off, ao = some ⟨b, off, none⟩ ∧ b < w.heap.size ∧ At w ⟨b, off + k * 130, none⟩ (l.getD k env0).cs ∧ (l.getD k env0).cs.length = 130 := by
 rcases h.2 with h2 | ⟨b, off, h1, h2, h3⟩
 ·rw [h2] at hk; cases hk
 ·exact ⟨b, off, h1, h2, h3 k hk, h.1 _ (by rw [getD_lt' l _ hk]; exact List.getElem_mem hk)⟩
theorem RowE.of_flat {w : World} {ao : Option Addr} {l : List Env} (hl : ∀ x ∈ l, x.cs.length = 130) (h : RowV w ao (flatE l)) : RowE w ao l := by
 refine ⟨hl, ?_⟩
 by_cases h0 : l = []
 ·exact Or.inl h0
 ·rcases h with h | ⟨b, off, h1, h2, h3⟩
  ·exfalso
   have hp : 0 < l.length := List.length_pos_iff.2 h0
   have := flatE_get l hl 0 0 hp (by omega)
   rw [h] at this
   have h2 := hl (l.getD 0 env0) (by rw [getD_lt' l _ hp]; exact List.getElem_mem hp)
   have h3 : (l.getD 0 env0).cs[0]? = none := by rw [← this]; rfl
   rw [List.getElem?_eq_none_iff] at h3
   omega
  ·refine Or.inr ⟨b, off, h1, h2, fun i hi j u hu => ?_⟩
   have hj : j < 130 := by
    have := (List.getElem?_eq_some_iff.1 hu).1
    rwa [hl (l.getD i env0) (by rw [getD_lt' l _ hi]; exact List.getElem_mem hi)] at this
   have := h3 (i * 130 + j) u (by rw [flatE_get l hl i j hi hj]; exact hu)
   rw [addr_add, Nat.add_assoc]; exact this
theorem infoEnv2 : (Tryz.prog.info? 57).map (fun i => (i.zero, i.size)) = some (some (.agg env0.cs.toArray), 130) := by kernel_rfl
theorem infoEnv3 : Info Tryz.prog 57 (.agg env0.cs.toArray) 130 144 := by unfold Info; kernel_rfl
def chE : List (List Int) → Int
 | [] => 0
 | l :: r => if readE l ≠ 0 then readE l else if (readX l).v = 1 then 19 else chE r
theorem chE_err {l : List Int} {r : List (List Int)} (h : readE l ≠ 0) : chE (l :: r) = readE l := by rw [chE, if_pos h]
theorem chE_one {l : List Int} {r : List (List Int)} (h : readE l = 0) (h2 : (readX l).v = 1) : chE (l :: r) = 19 := by rw [chE, if_neg (fun g => g h), if_pos h2]
theorem chE_next {l : List Int} {r : List (List Int)} (h : readE l = 0) (h2 : (readX l).v ≠ 1) : chE (l :: r) = chE r := by rw [chE, if_neg (fun g => g h), if_neg h2]
theorem chE_zero : ∀ {ls : List (List Int)}, chE ls = 0 → ∀ l ∈ ls, readE l = 0 ∧ (readX l).v = 2
 | [], _, l, hl => by cases hl
 | x :: r, h, l, hl => by
  by_cases h1 : readE x = 0
  ·by_cases h2 : (readX x).v = 1
   ·rw [chE_one h1 h2] at h; cases h
   ·rw [chE_next h1 h2] at h
    rcases List.mem_cons.1 hl with rfl | hl
    ·exact ⟨h1, readX_v.resolve_left h2⟩
    ·exact chE_zero h l hl
  ·rw [chE_err h1] at h; exact absurd h h1
def LinksPost (ls : List (List Int)) (w : World) (e : Ending) (w' : World) : Prop := Below w.heap.size w w' ∧ ∃ (ao : Option Addr) (m c : Nat), e = .returned (.tuple #[.slice ao m c, .int .i64 (chE ls)]) ∧ ((chE ls ≠ 0 ∧ ao = none ∧ m = 0 ∧ c = 0) ∨ (chE ls = 0 ∧ m = ls.length ∧ RowE w' ao (ls.map readX)))
theorem links_bad {ls : List (List Int)} {w w' : World} {e : Int} (h : chE ls = e) (h0 : e ≠ 0) (hb : Below w.heap.size w w') : LinksPost ls w (.returned (.tuple #[.slice none 0 0, .int .i64 e])) w' :=
 ⟨hb, none, 0, 0, by rw [h], Or.inl ⟨by rw [h]; exact h0, rfl, rfl, rfl⟩⟩
set_option maxHeartbeats 4000000 in
theorem links_any (po : Option Addr) (cap n : Nat) (ps : List Pt) (w : World) (hn : n = ps.length) (h1 : n ≤ 200) (hrow : RowV w po (ps.map Pt.v)) (hps : ∀ x ∈ ps, 4 ≤ x.l.length → x.Ok w) :
  Calls Tryz.prog 18 #[.slice po n cap] w (LinksPost (ps.map Pt.l) w) := by
 obtain ⟨B, HB⟩ : ∃ B, Hid (B = w.heap.size) := ⟨_, rfl⟩
 have hsz : w.heap.size = B := HB.out.symm
 obtain ⟨V, HV⟩ : ∃ V, Hid (V = chE (ps.map Pt.l)) := ⟨_, rfl⟩
 have HN := hid hn
 have hzE := hid zeroEnv
 obtain ⟨ZE, HZE⟩ : ∃ Z, Hid (Z = env0.cs) := ⟨_, rfl⟩
 rw [← HZE.out] at hzE
 have hZEl : ZE.length = 130 := by rw [HZE.out]; exact env0_ok.csl
 have hiE : Hid ((Tryz.prog.info? 57).map (fun i => (i.zero, i.size)) = some (some (.agg ZE.toArray), 130)) := hid (by rw [HZE.out]; exact infoEnv2)
 have hiE3 : Hid (Info Tryz.prog 57 (.agg ZE.toArray) 130 144) := hid (by rw [HZE.out]; exact infoEnv3)
 have HZC : Hid ((Value.agg ZE.toArray).cells.size = 130) := hid (by show ZE.toArray.size = 130; simpa using hZEl)
 have hn1 : ¬ (200 : Int) < (n : Int) := by omega
 clear hn
 go_enter Tryz.func18, Tryz.ntmps18
 go_wp2
 go_loopw [4, 11] (fun out i wr => ∃ (j : Nat) (ao : Option Addr) (c : Nat), j ≤ n ∧ i = .int .i64 j ∧ out = .slice ao j c ∧ wr.ownsRow B 57 130 (.slice ao j c) j (flatE (((ps.map Pt.l).take j).map readX)) ∧ Below B w wr ∧ B ≤ wr.heap.size ∧ Hid (∀ x ∈ ((ps.map Pt.l).take j).map readX, x.cs.length = 130) ∧ Hid (chE ((ps.map Pt.l).drop j) = V)) (fun _ i _ => n - (intOf i).toNat)
 case atStart => exact ⟨0, none, 0, by omega, rfl, rfl, World.ownsRow_nil _ _ _ _, by rw [← hsz]; exact Below.refl _ _, by rw [hsz]; exact Nat.le_refl _, hid (fun x hx => by rw [List.take_zero] at hx; cases hx), hid (by rw [List.drop_zero]; exact HV.out.symm)⟩
 case round =>
  obtain ⟨j, oa, oc, hj, rfl, rfl, hown, hb, hszr, HL, HGo⟩ := hrel
  by_cases hjn : j < n
  ·have hjI : (j : Int) < (n : Int) := by omega
   have hjp : j < ps.length := by have := HN.out; omega
   have hjm : j < (ps.map Pt.v).length := by rw [List.length_map]; exact hjp
   obtain ⟨b, off, rfl, hbw, hcell⟩ := hrow.resolve_left (by intro e; rw [e] at hjm; cases hjm)
   have hx := hps ps[j] (List.getElem_mem hjp)
   have hc := hcell j _ (List.getElem?_eq_getElem hjm)
   rw [List.getElem_map] at hc
   obtain ⟨xa, HXA⟩ : ∃ xa, Hid (xa = (ps[j]'hjp).a) := ⟨_, rfl⟩
   obtain ⟨xc, HXC⟩ : ∃ xc, Hid (xc = (ps[j]'hjp).c) := ⟨_, rfl⟩
   obtain ⟨xl, HXL⟩ : ∃ xl : List Int, Hid (xl = (ps[j]'hjp).l) := ⟨_, rfl⟩
   obtain ⟨mx, HM⟩ : ∃ m, Hid (m = xl.length) := ⟨_, rfl⟩
   have hv : Pt.v ps[j] = .slice xa mx xc := by rw [HM.out, HXA.out, HXC.out, HXL.out]; rfl
   rw [hv] at hc
   have hcw : wr.cell? ⟨b, off + j, none⟩ = some (.slice xa mx xc) := by rw [hb.cell (p := ⟨b, off + j, none⟩) (by rw [HB.out]; exact hbw)]; exact hc
   have hPx : 4 ≤ mx → Pt.Ok wr ⟨xa, xc, xl⟩ := fun h4 => by
    have h5 := hx (by rw [← HXL.out, ← HM.out]; exact h4)
    rw [HXA.out, HXL.out, HXC.out]; exact h5.below (by rw [← HB.out]; exact hb)
   have hjl : j < (ps.map Pt.l).length := by rw [List.length_map]; exact hjp
   have hxj : (ps.map Pt.l)[j] = xl := by rw [List.getElem_map, HXL.out]
   have hdrop : (ps.map Pt.l).drop j = xl :: (ps.map Pt.l).drop (j + 1) := by rw [List.drop_eq_getElem_cons hjl, hxj]
   have htake : (ps.map Pt.l).take (j + 1) = (ps.map Pt.l).take j ++ [xl] := by rw [List.take_succ_eq_append_getElem hjl, hxj]
   have HTK := hid htake
   have hGo := HGo.out
   rw [hdrop] at hGo
   have hrd := hid (Read_any xa xc mx xl wr HM.out hPx)
   clear hc hcell hv hx hjm hdrop htake hxj hjl
   by_cases hE : readE xl = 0
   ·have hx := readX_ok (hPx (by rw [HM.out]; exact (readE_zero hE).1)).oct hE
    rw [readV_ok hE] at hrd
    obtain ⟨x, Hx⟩ : ∃ x, Hid (x = readX xl) := ⟨_, rfl⟩
    have hxv : x.v = 1 ∨ x.v = 2 := by rw [Hx.out]; exact readX_v
    rw [← Hx.out] at hx hrd
    have hcv := x.cv
    obtain ⟨CS, HCS⟩ : ∃ C, Hid (C = x.cs) := ⟨_, rfl⟩
    have hCl : CS.length = 130 := by rw [HCS.out]; exact hx.csl
    have hC1 : ∀ u ∈ CS, u.oneCell' = true := by rw [HCS.out]; exact x.cs_one
    rw [← HCS.out] at hrd hcv
    rcases hxv with hxv | hxv
    ·rw [hxv] at hcv
     have hcv := hid hcv
     have HE : Hid (V = 19) := hid (by rw [← hGo]; exact chE_one hE (by rw [← Hx.out]; exact hxv))
     clear hGo hE hxv hx hPx HGo
     go_wp2_with (first | (refine wl_storeV rfl 57 _ _ rfl 57 M rfl CS rfl 130 aggEnv hCl ZE hG3 hZEl hC1 ?_; intro w4 hX4 hb4 hs4; have bb4 : Below wr.heap.size wr w4 := bb3.trans (hb4.mono hMr); have c0 := (hX4.cell 0).trans hcv.out; clear hb4 hG3 bb3) | (refine wl_allocV rfl 57 rfl ZE hzE.out w2.heap.size rfl ?_; intro w3 hG3 hb3 hs3; obtain ⟨M, HMM⟩ : ∃ g, Hid (g = w2.heap.size) := ⟨_, rfl⟩; rw [← HMM.out] at hG3 hb3 hs3; rw [← HMM.out]; have hMr : wr.heap.size ≤ M := (by rw [HMM.out]; exact bb2.size); have hMB : B ≤ M := Nat.le_trans hszr hMr; have bb3 := bb2.trans (hb3.mono hMr); clear bb2 hb3) | (go_at_call 39; refine hrd.out.mono ?_; rintro r w2 ⟨rfl, bb2⟩))
     go_ret2
     exact links_bad (HV.out.symm.trans HE.out) (by decide) (by rw [hsz]; exact hb.trans (bb4.mono hszr))
    ·rw [hxv] at hcv
     have hcv := hid hcv
     have HGo2 : Hid (chE ((ps.map Pt.l).drop (j + 1)) = V) := hid (by rw [← hGo, chE_next hE (by rw [← Hx.out, hxv]; decide)])
     have hHL := HL.out
     have HL2 : Hid (∀ x ∈ ((ps.map Pt.l).take (j + 1)).map readX, x.cs.length = 130) := hid (by
      rw [HTK.out, List.map_append]
      intro y hy
      rcases List.mem_append.1 hy with hy | hy
      ·exact hHL y hy
      ·rw [List.map_cons, List.map_nil, List.mem_singleton] at hy
       rw [hy, ← Hx.out, ← HCS.out]; exact hCl)
     have HFL : Hid (flatE (((ps.map Pt.l).take (j + 1)).map readX) = flatE (((ps.map Pt.l).take j).map readX) ++ CS) := hid (by
      rw [HTK.out, List.map_append, List.map_cons, List.map_nil, ← Hx.out, HCS.out]; exact flatE_snoc _ _)
     clear hGo hE hxv hx hPx HGo hHL HL
     go_wp2_with (first | (at_builtin; refine wl_push rfl _ _ 36 rfl 57 (.agg ZE.toArray) 130 144 Tryz.underlying36 hiE3.out HZC.out (by decide) B (.slice oa j oc) j _ rfl hO5 ⟨w4.heap.size, 0, none⟩ 1 1 rfl CS (by rw [hCl]) hS5.at0 hC1 (by unfold maxLen; omega) (by omega) hs5B (j + 1) rfl ?_; intro ao6 cap6 w6 hcap6 hO6 hg6 hl6; rw [← HFL.out] at hO6; have bb6 : Below B w w6 := bb5.grown hg6 hs5B (fun k hk => (hO5.lt k hk).1); have hs6 : B ≤ w6.heap.size := Nat.le_trans hs5B hg6.size) | (refine wl_slice1 rfl 36 57 _ rfl Tryz.underlying36 130 ZE hiE.out hZEl (by decide) (by decide) CS rfl hCl w4.heap.size rfl ?_; intro w5 hS5 hb5 hs5; have hO5 := owns_up hO4 hb5; have bb5 : Below B w w5 := (hb.trans (bb4.mono hszr)).trans (hb5.mono (Nat.le_trans hszr bb4.size)); have hs5B : B ≤ w5.heap.size := (by rw [hs5]; exact Nat.le_succ_of_le (Nat.le_trans hszr bb4.size)); clear hO4) | (refine wl_load rfl 57 _ rfl ⟨M, 0, none⟩ rfl CS (by rw [hCl]; exact aggEnv) hX4.at0 ?_) | (refine wl_storeV rfl 57 _ _ rfl 57 M rfl CS rfl 130 aggEnv hCl ZE hG3 hZEl hC1 ?_; intro w4 hX4 hb4 hs4; have bb4 : Below wr.heap.size wr w4 := bb3.trans (hb4.mono hMr); have c0 := (hX4.cell 0).trans hcv.out; have hO4 := owns_up hown bb4; clear hb4 hG3 bb3) | (refine wl_allocV rfl 57 rfl ZE hzE.out w2.heap.size rfl ?_; intro w3 hG3 hb3 hs3; obtain ⟨M, HMM⟩ : ∃ g, Hid (g = w2.heap.size) := ⟨_, rfl⟩; rw [← HMM.out] at hG3 hb3 hs3; rw [← HMM.out]; have hMr : wr.heap.size ≤ M := (by rw [HMM.out]; exact bb2.size); have hMB : B ≤ M := Nat.le_trans hszr hMr; have bb3 := bb2.trans (hb3.mono hMr); clear bb2 hb3) | (go_at_call 39; refine hrd.out.mono ?_; rintro r w2 ⟨rfl, bb2⟩))
     go_roundw
     case rel => exact ⟨j + 1, ao6, cap6, by omega, by go_num, rfl, hO6, bb6, hs6, HL2, HGo2⟩
     case measure => simp [intOf] <;> omega
   ·rw [readV_err rfl hE] at hrd
    have HE : Hid (V = readE xl) := hid (by rw [← hGo]; exact chE_err hE)
    obtain ⟨E, HEE⟩ : ∃ E, Hid (E = readE xl) := ⟨_, rfl⟩
    have hE0 : ¬ E = 0 := by rw [HEE.out]; exact hE
    have hE1 : (E == 0) = false := by simpa using hE0
    rw [← HEE.out] at hrd
    rw [← HZE.out] at hrd
    have hZE1 : ∀ u ∈ ZE, u.oneCell' = true := by rw [HZE.out]; exact env0.cs_one
    clear hGo hE hPx HGo
    go_wp2_with (first | (refine wl_storeV rfl 57 _ _ rfl 57 M rfl ZE rfl 130 aggEnv hZEl ZE hG3 hZEl hZE1 ?_; intro w4 hX4 hb4 hs4; have bb4 : Below wr.heap.size wr w4 := bb3.trans (hb4.mono hMr); clear hb4 hG3 bb3) | (refine wl_allocV rfl 57 rfl ZE hzE.out w2.heap.size rfl ?_; intro w3 hG3 hb3 hs3; obtain ⟨M, HMM⟩ : ∃ g, Hid (g = w2.heap.size) := ⟨_, rfl⟩; rw [← HMM.out] at hG3 hb3 hs3; rw [← HMM.out]; have hMr : wr.heap.size ≤ M := (by rw [HMM.out]; exact bb2.size); have bb3 := bb2.trans (hb3.mono hMr); clear bb2 hb3) | (go_at_call 39; refine hrd.out.mono ?_; rintro r w2 ⟨rfl, bb2⟩))
    go_ret2
    exact links_bad (HV.out.symm.trans (HE.out.trans HEE.out.symm)) hE0 (by rw [hsz]; exact hb.trans (bb4.mono hszr))
  ·obtain rfl : j = n := by omega
   have HZ : Hid (chE (ps.map Pt.l) = 0) := hid (by rw [← HV.out, ← HGo.out, List.drop_eq_nil_of_le (by rw [List.length_map, ← HN.out]; exact Nat.le_refl _)]; rfl)
   have hfull : (ps.map Pt.l).take j = ps.map Pt.l := List.take_of_length_le (by rw [List.length_map, ← HN.out]; exact Nat.le_refl _)
   have HF := hid hfull
   clear hfull hjn
   go_wp2
   go_ret2
   refine ⟨by rw [hsz]; exact hb, oa, j, oc, by rw [HZ.out]; rfl, Or.inr ⟨HZ.out, by rw [List.length_map, ← HN.out], ?_⟩⟩
   have h2 := HL.out
   rw [HF.out] at h2 hown
   exact RowE.of_flat h2 (rowV_of_owns' hown)
set_option maxHeartbeats 4000000 in
theorem ChainError_any (po : Option Addr) (cap n : Nat) (ps : List Pt) (w : World) (hn : n = ps.length) (h1 : n ≤ 200) (hrow : RowV w po (ps.map Pt.v)) (hps : ∀ x ∈ ps, 4 ≤ x.l.length → x.Ok w) :
  Calls Tryz.prog 7 #[.slice po n cap] w (LinksPost (ps.map Pt.l) w) := by
 obtain ⟨B, HB⟩ : ∃ B, Hid (B = w.heap.size) := ⟨_, rfl⟩
 have hsz : w.heap.size = B := HB.out.symm
 obtain ⟨V, HV⟩ : ∃ V, Hid (V = chE (ps.map Pt.l)) := ⟨_, rfl⟩
 have HN := hid hn
 have hzE := hid zeroEnv
 obtain ⟨ZE, HZE⟩ : ∃ Z, Hid (Z = env0.cs) := ⟨_, rfl⟩
 rw [← HZE.out] at hzE
 have hZEl : ZE.length = 130 := by rw [HZE.out]; exact env0_ok.csl
 have hiE : Hid ((Tryz.prog.info? 57).map (fun i => (i.zero, i.size)) = some (some (.agg ZE.toArray), 130)) := hid (by rw [HZE.out]; exact infoEnv2)
 have hiE3 : Hid (Info Tryz.prog 57 (.agg ZE.toArray) 130 144) := hid (by rw [HZE.out]; exact infoEnv3)
 have HZC : Hid ((Value.agg ZE.toArray).cells.size = 130) := hid (by show ZE.toArray.size = 130; simpa using hZEl)
 have hn1 : ¬ (200 : Int) < (n : Int) := by omega
 clear hn
 go_enter Tryz.func7, Tryz.ntmps7
 go_wp2
 go_loopw [4, 14] (fun out i wr => ∃ (j : Nat) (ao : Option Addr) (c : Nat), j ≤ n ∧ i = .int .i64 j ∧ out = .slice ao j c ∧ wr.ownsRow B 57 130 (.slice ao j c) j (flatE (((ps.map Pt.l).take j).map readX)) ∧ Below B w wr ∧ B ≤ wr.heap.size ∧ Hid (∀ x ∈ ((ps.map Pt.l).take j).map readX, x.cs.length = 130) ∧ Hid (chE ((ps.map Pt.l).drop j) = V)) (fun _ i _ => n - (intOf i).toNat)
 case atStart => exact ⟨0, none, 0, by omega, rfl, rfl, World.ownsRow_nil _ _ _ _, by rw [← hsz]; exact Below.refl _ _, by rw [hsz]; exact Nat.le_refl _, hid (fun x hx => by rw [List.take_zero] at hx; cases hx), hid (by rw [List.drop_zero]; exact HV.out.symm)⟩
 case round =>
  obtain ⟨j, oa, oc, hj, rfl, rfl, hown, hb, hszr, HL, HGo⟩ := hrel
  by_cases hjn : j < n
  ·have hjI : (j : Int) < (n : Int) := by omega
   have hjp : j < ps.length := by have := HN.out; omega
   have hjm : j < (ps.map Pt.v).length := by rw [List.length_map]; exact hjp
   obtain ⟨b, off, rfl, hbw, hcell⟩ := hrow.resolve_left (by intro e; rw [e] at hjm; cases hjm)
   have hx := hps ps[j] (List.getElem_mem hjp)
   have hc := hcell j _ (List.getElem?_eq_getElem hjm)
   rw [List.getElem_map] at hc
   obtain ⟨xa, HXA⟩ : ∃ xa, Hid (xa = (ps[j]'hjp).a) := ⟨_, rfl⟩
   obtain ⟨xc, HXC⟩ : ∃ xc, Hid (xc = (ps[j]'hjp).c) := ⟨_, rfl⟩
   obtain ⟨xl, HXL⟩ : ∃ xl : List Int, Hid (xl = (ps[j]'hjp).l) := ⟨_, rfl⟩
   obtain ⟨mx, HM⟩ : ∃ m, Hid (m = xl.length) := ⟨_, rfl⟩
   have hv : Pt.v ps[j] = .slice xa mx xc := by rw [HM.out, HXA.out, HXC.out, HXL.out]; rfl
   rw [hv] at hc
   have hcw : wr.cell? ⟨b, off + j, none⟩ = some (.slice xa mx xc) := by rw [hb.cell (p := ⟨b, off + j, none⟩) (by rw [HB.out]; exact hbw)]; exact hc
   have hPx : 4 ≤ mx → Pt.Ok wr ⟨xa, xc, xl⟩ := fun h4 => by
    have h5 := hx (by rw [← HXL.out, ← HM.out]; exact h4)
    rw [HXA.out, HXL.out, HXC.out]; exact h5.below (by rw [← HB.out]; exact hb)
   have hjl : j < (ps.map Pt.l).length := by rw [List.length_map]; exact hjp
   have hxj : (ps.map Pt.l)[j] = xl := by rw [List.getElem_map, HXL.out]
   have hdrop : (ps.map Pt.l).drop j = xl :: (ps.map Pt.l).drop (j + 1) := by rw [List.drop_eq_getElem_cons hjl, hxj]
   have htake : (ps.map Pt.l).take (j + 1) = (ps.map Pt.l).take j ++ [xl] := by rw [List.take_succ_eq_append_getElem hjl, hxj]
   have HTK := hid htake
   have hGo := HGo.out
   rw [hdrop] at hGo
   have hrd := hid (RefRead_any xa xc mx xl wr HM.out hPx)
   clear hc hcell hv hx hjm hdrop htake hxj hjl
   by_cases hE : readE xl = 0
   ·have hx := readX_ok (hPx (by rw [HM.out]; exact (readE_zero hE).1)).oct hE
    rw [readV_ok hE] at hrd
    obtain ⟨x, Hx⟩ : ∃ x, Hid (x = readX xl) := ⟨_, rfl⟩
    have hxv : x.v = 1 ∨ x.v = 2 := by rw [Hx.out]; exact readX_v
    rw [← Hx.out] at hx hrd
    have hcv := x.cv
    obtain ⟨CS, HCS⟩ : ∃ C, Hid (C = x.cs) := ⟨_, rfl⟩
    have hCl : CS.length = 130 := by rw [HCS.out]; exact hx.csl
    have hC1 : ∀ u ∈ CS, u.oneCell' = true := by rw [HCS.out]; exact x.cs_one
    rw [← HCS.out] at hrd hcv
    rcases hxv with hxv | hxv
    ·rw [hxv] at hcv
     have hcv := hid hcv
     have HE : Hid (V = 19) := hid (by rw [← hGo]; exact chE_one hE (by rw [← Hx.out]; exact hxv))
     clear hGo hE hxv hx hPx HGo
     go_wp2_with (first | (refine wl_storeV rfl 57 _ _ rfl 57 M rfl CS rfl 130 aggEnv hCl ZE hG3 hZEl hC1 ?_; intro w4 hX4 hb4 hs4; have bb4 : Below wr.heap.size wr w4 := bb3.trans (hb4.mono hMr); have c0 := (hX4.cell 0).trans hcv.out; clear hb4 hG3 bb3) | (refine wl_allocV rfl 57 rfl ZE hzE.out w2.heap.size rfl ?_; intro w3 hG3 hb3 hs3; obtain ⟨M, HMM⟩ : ∃ g, Hid (g = w2.heap.size) := ⟨_, rfl⟩; rw [← HMM.out] at hG3 hb3 hs3; rw [← HMM.out]; have hMr : wr.heap.size ≤ M := (by rw [HMM.out]; exact bb2.size); have hMB : B ≤ M := Nat.le_trans hszr hMr; have bb3 := bb2.trans (hb3.mono hMr); clear bb2 hb3) | (go_at_call 27; refine hrd.out.mono ?_; rintro r w2 ⟨rfl, bb2⟩))
     go_ret2
     exact links_bad (HV.out.symm.trans HE.out) (by decide) (by rw [hsz]; exact hb.trans (bb4.mono hszr))
    ·rw [hxv] at hcv
     have hcv := hid hcv
     have HGo2 : Hid (chE ((ps.map Pt.l).drop (j + 1)) = V) := hid (by rw [← hGo, chE_next hE (by rw [← Hx.out, hxv]; decide)])
     have hHL := HL.out
     have HL2 : Hid (∀ x ∈ ((ps.map Pt.l).take (j + 1)).map readX, x.cs.length = 130) := hid (by
      rw [HTK.out, List.map_append]
      intro y hy
      rcases List.mem_append.1 hy with hy | hy
      ·exact hHL y hy
      ·rw [List.map_cons, List.map_nil, List.mem_singleton] at hy
       rw [hy, ← Hx.out, ← HCS.out]; exact hCl)
     have HFL : Hid (flatE (((ps.map Pt.l).take (j + 1)).map readX) = flatE (((ps.map Pt.l).take j).map readX) ++ CS) := hid (by
      rw [HTK.out, List.map_append, List.map_cons, List.map_nil, ← Hx.out, HCS.out]; exact flatE_snoc _ _)
     clear hGo hE hxv hx hPx HGo hHL HL
     go_wp2_with (first | (at_builtin; refine wl_push rfl _ _ 36 rfl 57 (.agg ZE.toArray) 130 144 Tryz.underlying36 hiE3.out HZC.out (by decide) B (.slice oa j oc) j _ rfl hO5 ⟨w4.heap.size, 0, none⟩ 1 1 rfl CS (by rw [hCl]) hS5.at0 hC1 (by unfold maxLen; omega) (by omega) hs5B (j + 1) rfl ?_; intro ao6 cap6 w6 hcap6 hO6 hg6 hl6; rw [← HFL.out] at hO6; have bb6 : Below B w w6 := bb5.grown hg6 hs5B (fun k hk => (hO5.lt k hk).1); have hs6 : B ≤ w6.heap.size := Nat.le_trans hs5B hg6.size) | (refine wl_slice1 rfl 36 57 _ rfl Tryz.underlying36 130 ZE hiE.out hZEl (by decide) (by decide) CS rfl hCl w4.heap.size rfl ?_; intro w5 hS5 hb5 hs5; have hO5 := owns_up hO4 hb5; have bb5 : Below B w w5 := (hb.trans (bb4.mono hszr)).trans (hb5.mono (Nat.le_trans hszr bb4.size)); have hs5B : B ≤ w5.heap.size := (by rw [hs5]; exact Nat.le_succ_of_le (Nat.le_trans hszr bb4.size)); clear hO4) | (refine wl_load rfl 57 _ rfl ⟨M, 0, none⟩ rfl CS (by rw [hCl]; exact aggEnv) hX4.at0 ?_) | (refine wl_storeV rfl 57 _ _ rfl 57 M rfl CS rfl 130 aggEnv hCl ZE hG3 hZEl hC1 ?_; intro w4 hX4 hb4 hs4; have bb4 : Below wr.heap.size wr w4 := bb3.trans (hb4.mono hMr); have c0 := (hX4.cell 0).trans hcv.out; have hO4 := owns_up hown bb4; clear hb4 hG3 bb3) | (refine wl_allocV rfl 57 rfl ZE hzE.out w2.heap.size rfl ?_; intro w3 hG3 hb3 hs3; obtain ⟨M, HMM⟩ : ∃ g, Hid (g = w2.heap.size) := ⟨_, rfl⟩; rw [← HMM.out] at hG3 hb3 hs3; rw [← HMM.out]; have hMr : wr.heap.size ≤ M := (by rw [HMM.out]; exact bb2.size); have hMB : B ≤ M := Nat.le_trans hszr hMr; have bb3 := bb2.trans (hb3.mono hMr); clear bb2 hb3) | (go_at_call 27; refine hrd.out.mono ?_; rintro r w2 ⟨rfl, bb2⟩))
     go_roundw
     case rel => exact ⟨j + 1, ao6, cap6, by omega, by go_num, rfl, hO6, bb6, hs6, HL2, HGo2⟩
     case measure => simp [intOf] <;> omega
   ·rw [readV_err rfl hE] at hrd
    have HE : Hid (V = readE xl) := hid (by rw [← hGo]; exact chE_err hE)
    obtain ⟨E, HEE⟩ : ∃ E, Hid (E = readE xl) := ⟨_, rfl⟩
    have hE0 : ¬ E = 0 := by rw [HEE.out]; exact hE
    have hE1 : (E == 0) = false := by simpa using hE0
    rw [← HEE.out] at hrd
    rw [← HZE.out] at hrd
    have hZE1 : ∀ u ∈ ZE, u.oneCell' = true := by rw [HZE.out]; exact env0.cs_one
    clear hGo hE hPx HGo
    go_wp2_with (first | (refine wl_storeV rfl 57 _ _ rfl 57 M rfl ZE rfl 130 aggEnv hZEl ZE hG3 hZEl hZE1 ?_; intro w4 hX4 hb4 hs4; have bb4 : Below wr.heap.size wr w4 := bb3.trans (hb4.mono hMr); clear hb4 hG3 bb3) | (refine wl_allocV rfl 57 rfl ZE hzE.out w2.heap.size rfl ?_; intro w3 hG3 hb3 hs3; obtain ⟨M, HMM⟩ : ∃ g, Hid (g = w2.heap.size) := ⟨_, rfl⟩; rw [← HMM.out] at hG3 hb3 hs3; rw [← HMM.out]; have hMr : wr.heap.size ≤ M := (by rw [HMM.out]; exact bb2.size); have bb3 := bb2.trans (hb3.mono hMr); clear bb2 hb3) | (go_at_call 27; refine hrd.out.mono ?_; rintro r w2 ⟨rfl, bb2⟩))
    go_ret2
    exact links_bad (HV.out.symm.trans (HE.out.trans HEE.out.symm)) hE0 (by rw [hsz]; exact hb.trans (bb4.mono hszr))
  ·obtain rfl : j = n := by omega
   have HZ : Hid (chE (ps.map Pt.l) = 0) := hid (by rw [← HV.out, ← HGo.out, List.drop_eq_nil_of_le (by rw [List.length_map, ← HN.out]; exact Nat.le_refl _)]; rfl)
   have hfull : (ps.map Pt.l).take j = ps.map Pt.l := List.take_of_length_le (by rw [List.length_map, ← HN.out]; exact Nat.le_refl _)
   have HF := hid hfull
   clear hfull hjn
   go_wp2
   go_ret2
   refine ⟨by rw [hsz]; exact hb, oa, j, oc, by rw [HZ.out]; rfl, Or.inr ⟨HZ.out, by rw [List.length_map, ← HN.out], ?_⟩⟩
   have h2 := HL.out
   rw [HF.out] at h2 hown
   exact RowE.of_flat h2 (rowV_of_owns' hown)
end Go.Proofs.YtbjmadcbhkeenaaGreat.lk
namespace Go.Proofs.YtbjmadcbhkeenaaGreat.wr
open Go.RowKit st hs shr sh
theorem run_eq_key (w : World) (s t : List Int) (hs : s.length = 32) (ht : t.length = 32) : (Op.equalIn 10000 23 (.agg (s.map (Value.int .u8)).toArray) (.agg (t.map (Value.int .u8)).toArray)).run Tryz.prog w = .ok (s == t) w :=
 run_equalIn_ints w 9998 23 5 32 .u8 Tryz.underlying23 Tryz.underlying5 size5' s t hs ht
theorem When_e (b : Bool) (n t : Int) (w : World) (h : whenE b n = t) : Calls Tryz.prog 10 #[.bool b, .int .i64 n] w fun e w' => e = .returned (.int .i64 t) ∧ w = w' := by
 subst h; exact When_any b n w
theorem First_e (x y t : Int) (w w0 : World) (hw : w0 = w.alloc (.cells #[.int .i64 x, .int .i64 y] 30)) (h : firstE2 x y = t) :
  Calls Tryz.prog 9 #[.slice (some ⟨w.heap.size, 0, none⟩) 2 2] w0 fun e w' => e = .returned (.int .i64 t) ∧ w0 = w' := by
 subst h; exact First_two x y w w0 hw
end Go.Proofs.YtbjmadcbhkeenaaGreat.wr
