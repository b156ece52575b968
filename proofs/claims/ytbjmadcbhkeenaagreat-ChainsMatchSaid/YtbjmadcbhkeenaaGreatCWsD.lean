/-
  Contract of keyref1.Derive at a label that is a name. Conditions: a key of octets, an epoch in range. Contract of keyref2.tagged. Conditions: a key of octets, an envelope that can be written, a context of at most 10^6 octets.
-/
import Derived.Test.YtbjmadcbhkeenaaGreatCWrK
import Derived.Test.YtbjmadcbhkeenaaGreatCCmA
import Derived.Test.YtbjmadcbhkeenaaGreatCWrN
import Derived.Lib.AppendStr
set_option maxRecDepth 100000
set_option linter.unusedSimpArgs false
set_option linter.unusedVariables false
namespace Go.Proofs.YtbjmadcbhkeenaaGreat.wr
open Go.RowKit st hs shr sh
theorem strCells_nums {L : List Int} (hL : Octs L) : Lib.strCells (strOfNums L) = L.map (Value.int .u8) := by
 apply List.ext_getElem?
 intro i
 by_cases hi : i < L.length
 ·have h := str_cells hL i (by rw [strOfNums_size]; exact hi)
  have h2 : i < (strOfNums L).data.toList.length := by
   have h3 : (strOfNums L).data.toList.length = (strOfNums L).size := by rw [Array.length_toList]; rfl
   rw [h3, strOfNums_size]; exact hi
  unfold Lib.strCells
  rw [List.getElem?_map, List.getElem?_map, List.getElem?_eq_getElem h2, List.getElem?_eq_getElem hi]
  rw [List.getD_eq_getElem?_getD, List.getElem?_eq_getElem h2, List.getD_eq_getElem?_getD, List.getElem?_eq_getElem hi] at h
  simp only [Option.getD_some] at h
  simp only [Option.map_some, h]
 ·rw [List.getElem?_eq_none (by rw [Lib.strCells_length, strOfNums_size]; omega), List.getElem?_eq_none (by rw [List.length_map]; omega)]
set_option maxHeartbeats 2000000 in
theorem RefDerive_ok (k : List Int) (hk : k.length = 32) (ok : Octs k) (L : List Int) (hL : Octs L) (hname : isName (strOfNums L) = true) (e : Int) (he : 0 ≤ e ∧ e ≤ 4294967295) (w : World) :
  Calls Tryz.prog 32 #[.agg (k.map (Value.int .u8)).toArray, .string (strOfNums L), .int .i64 e] w fun r w' => r = .returned (.tuple #[.agg ((deriveL k L e).map (Value.int .u8)).toArray, .int .i64 0]) ∧ Below w.heap.size w w' := by
 obtain ⟨B, HB⟩ : ∃ B, Hid (B = w.heap.size) := ⟨_, rfl⟩
 have hsz : w.heap.size = B := HB.out.symm
 obtain ⟨K, HK⟩ : ∃ K, Hid (K = k.map (Value.int .u8)) := ⟨_, rfl⟩
 have hKl : K.length = 32 := by rw [HK.out, List.length_map, hk]
 have hK1 : ∀ u ∈ K, u.oneCell' = true := by rw [HK.out]; exact ints_one _ _
 obtain ⟨Z, HZ⟩ : ∃ Z, Hid (Z = (List.replicate 32 (0 : Int)).map (Value.int .u8)) := ⟨_, rfl⟩
 have hzK := hid zeroKey
 rw [← HZ.out] at hzK
 have hZl : Z.length = 32 := by rw [HZ.out]; simp
 obtain ⟨O, HO⟩ : ∃ O, Hid (O = (o8 e).map (Value.int .u8)) := ⟨_, rfl⟩
 have hOl : O.length = 8 := by rw [HO.out]; rfl
 have hO1 : ∀ u ∈ O, u.oneCell' = true := by rw [HO.out]; exact ints_one _ _
 obtain ⟨S, HS⟩ : ∃ S : List Value, Hid (S = (deriveL k L e).map (Value.int .u8)) := ⟨_, rfl⟩
 have hSl : S.length = 32 := by rw [HS.out, List.length_map, deriveL_length]
 have hS1 : ∀ u ∈ S, u.oneCell' = true := by rw [HS.out]; exact ints_one _ _
 have hLn : L.length ≤ 32 := by
  have h1 := hname
  unfold isName at h1
  rw [strOfNums_size] at h1
  simp at h1
  exact h1.2.2
 have hin := fun w => hid (RefIsName_any (strOfNums L) w (by rw [strOfNums_size]; unfold maxLen; omega))
 rw [hname] at hin
 obtain ⟨q, rfl⟩ : ∃ q : Nat, e = q := ⟨e.toNat, by omega⟩
 have hlo := fun w => hid (longR (q : Int) w)
 obtain ⟨T, HT⟩ : ∃ T, Hid (T = derT k L (q : Int)) := ⟨_, rfl⟩
 have hTl : Hid (41 + L.length = T.length) := hid (by rw [HT.out, derT_length hk])
 have hTo : Octs T := by rw [HT.out]; exact octs_app ok (octs_app hL (octs_app oct_zero (o8_octs _)))
 obtain ⟨n, Hn⟩ : ∃ n, Hid (n = L.length) := ⟨_, rfl⟩
 rw [← Hn.out] at hTl hLn
 have hsum := fun (y : World) (a : Option Addr) (c : Nat) (hP : Pt.Ok y ⟨a, c, T⟩) (h : a = none → c = 0 ∧ 41 + n = 0) => hid (sumR 7 oct7 a c (41 + n) T y hTl.out hP h (by omega))
 have hTS : (sumL 7 T).map (Value.int .u8) = S := by rw [HS.out, HT.out]; rfl
 rw [hTS] at hsum
 have hcl := fun (y : World) (hB : BlkV 23 y B K) => hid (cloneB (some ⟨B, 0, none⟩) 32 32 K y (at_row hB.lt hB.at0) (by rw [hKl]) hK1 (fun h => by cases h) (by decide))
 obtain ⟨s, Hs⟩ : ∃ s, Hid (s = strOfNums L) := ⟨_, rfl⟩
 have hss : Hid (s.size = n) := hid (by rw [Hs.out, strOfNums_size, Hn.out])
 have hsc : Hid (Lib.strCells s = L.map (Value.int .u8)) := hid (by rw [Hs.out]; exact strCells_nums hL)
 rw [← Hs.out] at hin ⊢
 have hal : Tryz.prog.arrayLen 23 = 32 := by kernel_rfl
 have hXT : ((K ++ L.map (Value.int .u8)) ++ [Value.int .u8 0]) ++ O = T.map (Value.int .u8) := by rw [HT.out, HK.out, HO.out]; unfold derT; simp
 rw [← HK.out, ← HS.out]
 obtain ⟨i8, hi8, hz8, hsi8, hby8⟩ := (info8 : Info Tryz.prog 5 (.int .u8 0) 1 1).parts
 have hnl : (L.map (Value.int .u8)).length = n := by rw [List.length_map, Hn.out]
 have he1 : (0 : Int) ≤ (q : Int) := he.1
 have he2 : ¬ 4294967295 < (q : Int) := by omega
 have he3 : ¬ (q : Int) < 0 := by omega
 clear hk hname he hTS hL
 go_enter Tryz.func32, Tryz.ntmps32
 go_wp2_with (first | (refine wl_storeV rfl 23 _ _ rfl 23 (B + 1) rfl S rfl 32 aggKey hSl Z hR9 hZl hS1 ?_; intro w10 hR10 hb10 hs10; have bb10 := bb9.trans (hb10.mono (by omega : B ≤ _)); clear hR9 bb9 hb10) | (go_at_call 31; refine (hsum w8 ao8 c8 hPP.1 hPP.2).out.mono ?_; rintro r w9 ⟨rfl, hb9⟩; have hR9 := hR8.below hb9 hR8.lt; have bb9 := bb8.trans (hb9.mono (by omega : B ≤ _)); clear hR8 bb8 hb9 hPP) | (at_builtin; refine wl_appendS rfl _ _ 25 rfl 5 (.int .u8 0) 1 1 Tryz.underlying25 info8 rfl (by decide) (B + 2) (.slice ao6 (33 + n) c6) (33 + n) ((K ++ L.map (Value.int .u8)) ++ [.int .u8 0]) rfl hM7 (some ⟨w6.heap.size, 0, none⟩) 8 8 rfl (fun h => by cases h) O (by rw [hOl]) (at_row hO7'.lt hO7'.at0) hO1 (by unfold maxLen; omega) (by omega) hs7 (41 + n) (by omega) ?_; intro ao8 c8 w8 row8 hc8 hM8 hv8 hg8 hr8; have hR8 := hR7.grown hg8 (by intro h; have := (hr8 _ h).1; omega); have bb8 : Below B w w8 := bb7.grown hg8 (by omega) (fun k hk => by have := (hr8 k hk).1; omega); have hs8 : B + 2 ≤ w8.heap.size := Nat.le_trans hs7 hg8.size; have hPP := mine_pt (l := T) (by rw [← hXT]; exact hM8) hTl.out (by omega) hTo; clear hO7' hM8; clear hR7 bb7 hv8 hg8 hr8 hM7) | (go_at_call 57; refine (hlo w6).out.mono ?_; rintro r w7 ⟨rfl, hO7, hb7⟩; have hM7 := hM6.belowAll hb7; have hR7 := hR6.below hb7 hR6.lt; have bb7 := bb6.trans (hb7.mono (by omega : B ≤ _)); have hs7 : B + 2 ≤ w7.heap.size := Nat.le_trans hs6 hb7.size; have hO7' : BlkV 5 w7 w6.heap.size O := (by rw [HO.out]; exact BlkI.v hO7); clear hM6 hR6 bb6 hb7 hO7) | (at_builtin; refine wl_appendS rfl _ _ 25 rfl 5 (.int .u8 0) 1 1 Tryz.underlying25 info8 rfl (by decide) (B + 2) v4 (32 + n) (K ++ L.map (Value.int .u8)) rfl hM5 (some ⟨w4.heap.size, 0, none⟩) 1 1 rfl (fun h => by cases h) [.int .u8 0] rfl (at_row hN5.lt hN5.at0) (by simp [Value.oneCell']) (by unfold maxLen; omega) (by omega) hs5 (33 + n) (by omega) ?_; intro ao6 c6 w6 row6 hc6 hM6 hv6 hg6 hr6; have hR6 := hR5.grown hg6 (by intro h; have := (hr6 _ h).1; omega); have bb6 : Below B w w6 := bb5.grown hg6 (by omega) (fun k hk => by have := (hr6 k hk).1; omega); have hs6 : B + 2 ≤ w6.heap.size := Nat.le_trans hs5 hg6.size; clear hN5; clear hR5 bb5 hv6 hg6 hr6 hM5) | (refine wl_lit rfl 25 5 1 _ rfl Tryz.underlying25 (.int .u8 0) 1 1 info8 (by decide) (by decide) [.int .u8 0] (by kernel_rfl) w4.heap.size rfl ?_; intro w5 hN5 hb5 hs5'; have hM5 := hM4.belowAll hb5; have hR5 := hR4.below hb5 hR4.lt; have bb5 := bb4.trans (hb5.mono (by omega : B ≤ _)); have hs5 : B + 2 ≤ w5.heap.size := Nat.le_trans hs4 hb5.size; clear hM4 hR4 bb4 hb5 hs5') | (at_builtin; refine Lib.wpList_append_own_string w3 rfl _ _ 25 9 rfl (B + 2) 5 i8 Tryz.underlying25 Tryz.underlying9 hi8 hz8 hsi8 hby8 v 32 K rfl (mine_own hM3 (by decide)) s rfl (by rw [hss.out]; unfold maxLen; omega) (by rw [hss.out]; omega) hs3 ?_; intro v4 w4 hM4' hg4 _; have hM4 : Mine w4 (B + 2) 5 1 v4 (32 + n) (K ++ L.map (Value.int .u8)) := (by have h := hM4'; rw [hsc.out, hss.out] at h; exact Or.inl h); have hge4 : ∀ g, v.ownBlock = some g → B + 2 ≤ g := (fun g h => ((mine_own hM3 (by decide)).lt g h).1); have hR4 := hR3.grown hg4 (by intro h; have := hge4 _ h; omega); have bb4 : Below B w w4 := bb3.grown hg4 (by omega) (fun k hk => by have := hge4 k hk; omega); have hs4 : B + 2 ≤ w4.heap.size := Nat.le_trans hs3 hg4.size; clear hR3 bb3 hM3 hg4 hge4 hM4') | (go_at_call 56; refine (hcl w2 hB2).out.mono ?_; rintro r w3 ⟨v, rfl, hM3', hb3⟩; have hM3 := hM3'.mono hs2; have hR3 := hR2.below hb3 (by omega); have bb3 := bb2.trans (hb3.mono (by omega : B ≤ _)); have hs3 : B + 2 ≤ w3.heap.size := Nat.le_trans hs2 hb3.size; clear hR2 bb2 hb3 hB2 hM3') | (go_at_call 55; refine (hin w1).out.mono ?_; rintro r w2 ⟨rfl, hb2⟩; have hB2 := hB1.below hb2 (by omega); have hR2 := hR1.below hb2 (by omega); have bb2 := bb1.trans (hb2.mono (by omega : B ≤ _)); have hs2 : B + 2 ≤ w2.heap.size := (by have := hb2.size; omega); clear hB1 hR1 bb1 hb2) | (refine wl_allocV rfl 23 rfl Z hzK.out (B + 1) hs0 ?_; intro w1 hR1 hb1 hs1; have hB1 := hB0.below hb1 (by omega); have bb1 := hb0.trans (hb1.mono (by omega : B ≤ _)); clear hB0 hb0 hb1) | (refine wl_boxV rfl 23 _ rfl K rfl B hsz ?_; intro w0 hB0 hb0 hs0))
 (try simp only [Exit.inBlock, Exit.then]); refine bodyPost_ret (results_cell2 rfl _ _ _ _ rfl S (by rw [hSl]; exact aggKey) hR10.at0) rfl ?_
 exact ⟨rfl, by rw [← HB.out]; exact bb10⟩
end Go.Proofs.YtbjmadcbhkeenaaGreat.wr
namespace Go.Proofs.YtbjmadcbhkeenaaGreat.wr
open Go.RowKit st hs shr sh
theorem mine_take {w : World} {base n m c : Nat} {e : TypeId} {ao : Option Addr} {xs : List Value} (h : Mine w base e 1 (.slice ao n c) n xs) (hn : 0 < n) (hm : m ≤ n) : ∃ g, ao = some ⟨g, 0, none⟩ ∧ n ≤ c ∧ Mine w base e 1 (.slice (some ⟨g, 0, none⟩) m c) m (xs.take m) := by
 obtain ⟨g, cur, rfl, h1, h2, h3, h4, h5, h6⟩ := own_blk (mine_own h hn) hn
 refine ⟨g, rfl, h3, Or.inl (blk_own h1 h2 (by omega) h4 h5 ?_)⟩
 rw [← h6, List.take_take, Nat.min_eq_left hm]
set_option maxHeartbeats 2000000 in
theorem RefTagged_1 (k : List Int) (x : Env) (c : List Int) (ao : Option Addr) (cap mc : Nat) (w : World) (hk : k.length = 32) (ok : Octs k) (hx : x.Ok) (hv : x.v = 1) (hx0 : errV x = 0) (he : 0 ≤ x.e ∧ x.e ≤ 4294967295) (hmc : mc = c.length) (HP : Pt.Ok w ⟨ao, cap, c⟩) (hno : ao = none → cap = 0) (hm : mc ≤ 1000000) :
  Calls Tryz.prog 34 #[.agg (k.map (Value.int .u8)).toArray, .agg x.cs.toArray, .slice ao mc cap] w fun r w' => r = .returned (.agg ((tagX k x c).map (Value.int .u8)).toArray) ∧ Below w.heap.size w w' := by
 obtain ⟨B, HB⟩ : ∃ B, Hid (B = w.heap.size) := ⟨_, rfl⟩
 have hsz : w.heap.size = B := HB.out.symm
 obtain ⟨K, HK⟩ : ∃ K, Hid (K = k.map (Value.int .u8)) := ⟨_, rfl⟩
 have hKl : K.length = 32 := by rw [HK.out, List.length_map, hk]
 have hzK := hid zeroKey
 have hzT := hid zeroTag
 obtain ⟨Z, HZ⟩ : ∃ Z, Hid (Z = (List.replicate 32 (0 : Int)).map (Value.int .u8)) := ⟨_, rfl⟩
 obtain ⟨ZT, HZT⟩ : ∃ Z, Hid (Z = (List.replicate 16 (0 : Int)).map (Value.int .u8)) := ⟨_, rfl⟩
 have hZl : Z.length = 32 := by rw [HZ.out]; simp
 have hZTl : ZT.length = 16 := by rw [HZT.out]; simp
 rw [← HZ.out] at hzK
 rw [← HZT.out] at hzT
 have hde := fun w => hid (RefDerive_ok k hk ok tagS tagS_octs tagS_name x.e he w)
 obtain ⟨kd, HKD⟩ : ∃ kd, Hid (kd = deriveL k tagS x.e) := ⟨_, rfl⟩
 have hkd : kd.length = 32 := by rw [HKD.out]; exact deriveL_length _ _ _
 have okd : Octs kd := by rw [HKD.out]; exact deriveL_octs _ _ _
 obtain ⟨L, HL⟩ : ∃ L, Hid (L = aheadL x ++ c) := ⟨_, rfl⟩
 have hal := hid (aheadL_length hx)
 have hsv : sizeV x = 88 := by unfold sizeV; rw [if_neg (by omega)]
 rw [hsv] at hal
 have hAl : Hid ((aheadL x).length = 72) := hid (by have := hal.out; omega)
 have hLl : (72 + mc) = L.length := by rw [HL.out]; rw [List.length_append, hAl.out, hmc]
 have oA : Octs (aheadL x) := aheadL_octs hx (Or.inl hv)
 have oL : Octs L := by rw [HL.out]; exact octs_app oA HP.oct
 have HTX : Hid (tagX k x c = tagL kd L) := hid (by unfold tagX tagT; rw [if_pos hv, ← HKD.out, ← HL.out])
 obtain ⟨KW, HKW⟩ : ∃ KW, Hid (KW = kd.map (Value.int .u8)) := ⟨_, rfl⟩
 have hKWl : KW.length = 32 := by rw [HKW.out, List.length_map, hkd]
 have hKW1 : ∀ u ∈ KW, u.oneCell' = true := by rw [HKW.out]; exact ints_one _ _
 rw [← HKD.out, ← HKW.out] at hde
 have hen : ∀ w, Hid (Calls Tryz.prog 59 #[.agg x.cs.toArray] w fun e w' => Below w.heap.size w w' ∧ ∃ ao c, e = .returned (.tuple #[.slice ao 88 c, .int .i64 0]) ∧ Mine w' w.heap.size 5 1 (.slice ao 88 c) 88 ((envL x).map (Value.int .u8))) := fun w => hid ((Envelope_any x hx w).mono fun e w' h => by
  unfold EnvPost at h
  rw [if_pos hx0, hsv] at h
  exact h)
 have hta : (envL x).take 72 = aheadL x := by
  unfold envL
  rw [List.take_append_of_le_length (by have := hAl.out; omega)]
  exact List.take_of_length_le (by have := hAl.out; omega)
 have htk : Hid (((envL x).map (Value.int .u8)).take 72 = (aheadL x).map (Value.int .u8)) := hid (by rw [← List.map_take, hta])
 clear hta
 obtain ⟨EV, HEV⟩ : ∃ E, Hid (E = (envL x).map (Value.int .u8)) := ⟨_, rfl⟩
 rw [← HEV.out] at htk hen
 have htg := fun w ao cap (HP : Pt.Ok w ⟨ao, cap, L⟩) (h0 : ao = none → cap = 0) => hid (RefTag_any kd hkd okd ao cap (72 + mc) L w hLl HP h0 (by omega))
 rw [← HKW.out] at htg
 obtain ⟨V, HV⟩ : ∃ V, Hid (V = (tagL kd L).map (Value.int .u8)) := ⟨_, rfl⟩
 have hVl : V.length = 16 := by rw [HV.out, List.length_map, tagL_length]
 have hV1 : ∀ u ∈ V, u.oneCell' = true := by rw [HV.out]; exact ints_one _ _
 rw [← HV.out] at htg
 rw [HTX.out, ← HV.out]
 have hcv : Hid (x.cs[0]? = some (.int .i64 1)) := hid (by rw [← hv]; exact x.cv)
 have hce := hid x.ce
 have HPB : ∀ y, Below B w y → Pt.Ok y ⟨ao, cap, c⟩ := fun y hb => HP.below (hsz ▸ hb)
 have hcl : Hid ((c.map (Value.int .u8)).length = mc * 1) := hid (by rw [List.length_map, hmc, Nat.mul_one])
 have hLm : Hid (L.map (Value.int .u8) = (aheadL x).map (Value.int .u8) ++ c.map (Value.int .u8)) := hid (by rw [HL.out, List.map_append])
 obtain ⟨CS, HCS⟩ : ∃ C, Hid (C = x.cs) := ⟨_, rfl⟩
 have hCl : CS.length = 130 := by rw [HCS.out]; exact hx.csl
 obtain ⟨E, HE⟩ : ∃ E, Hid (E = x.e) := ⟨_, rfl⟩
 rw [← HE.out] at hde hce
 rw [← HK.out] at hde ⊢
 rw [← HCS.out] at hen hcv hce ⊢
 have HLl := hid hLl
 clear hk hx hv he hmc HP hal hsv hx0 hLl
 go_enter Tryz.func34, Tryz.ntmps34
 go_wp2_with (first | (refine wl_storeV rfl 55 _ _ rfl 55 (B + 2) rfl V rfl 16 aggTag hVl ZT hR8 hZTl hV1 ?_; intro wF hRF hbF hsF) | (go_at_call 60; refine (htg w7 a4 c4 hP7 (fun h => (hPn h).1)).out.mono ?_; rintro r w8 ⟨rfl, hb8⟩; have hR8 := hR7.below hb8 hR7.lt; have bb8 := bb7.trans (hb8.mono (by have := hT7.lt; omega : B ≤ _)); clear hR7 bb7 hb8 hP7 hT7) | (refine wl_load rfl 23 _ rfl ⟨g5, 0, none⟩ rfl KW (by rw [hKWl]; exact aggKey) hT7.at0 ?_) | (refine wl_storeV rfl 23 _ _ rfl 23 g5 rfl KW rfl 32 aggKey hKWl Z hT6 hZl hKW1 ?_; intro w7 hT7 hb7 hs7; have hP7 : Pt.Ok w7 ⟨a4, c4, L⟩ := hP6.out _ hb7; have hR7 := hR6.below hb7 (by omega); have bb7 := bb6.trans (hb7.mono (by omega : B ≤ _)); clear hP6 hR6 bb6 hb7 hT6) | (refine wl_allocV rfl 23 rfl Z hzK.out w5.heap.size rfl ?_; intro w6 hT6 hb6 hs6; obtain ⟨g5, HG5⟩ : ∃ g, Hid (g = w5.heap.size) := ⟨_, rfl⟩; have hP6 := hid (fun (y : World) (h : Below w5.heap.size w6 y) => hP5.below (hb6.trans h)); rw [← HG5.out] at hT6 hb6 hs6 hP6; rw [← HG5.out]; have hg5 : B + 3 ≤ g5 := (by rw [HG5.out]; exact hs5); have hR6 := hR5.below hb6 (by omega); have bb6 := bb5.trans (hb6.mono (by omega : B ≤ _)); clear hP5 hR5 bb5 hb6) | (go_at_call 32; refine (hde w4).out.mono ?_; rintro r w5 ⟨rfl, hb5⟩; have hP5 := hPP.1.below hb5; have hPn := hPP.2; have hR5 := hR4.below hb5 hR4.lt; have bb5 := bb4.trans (hb5.mono (by omega : B ≤ _)); have hs5 : B + 3 ≤ w5.heap.size := Nat.le_trans hs4 hb5.size; clear hB4 hX4 hR4 bb4 hb5 hPP) | (refine wl_load rfl 23 _ rfl ⟨B, 0, none⟩ rfl K (by rw [hKl]; exact aggKey) hB4.at0 ?_) | (at_builtin; refine wl_appendS rfl _ _ 25 rfl 5 (.int .u8 0) 1 1 Tryz.underlying25 info8 rfl (by decide) (B + 3) (.slice (some ⟨g3, 0, none⟩) 72 c3) 72 _ rfl hM3b ao mc cap rfl hno (c.map (Value.int .u8)) hcl.out (RowI.v (HPB _ bb3).row) (ints_one _ _) (by unfold maxLen; omega) (by omega) hs3 (72 + mc) (by omega) ?_; intro a4 c4 w4 row4 hc4 hM4 hv4 hg4 hr4; have hlo : ∀ k, row4 = some k → B + 3 ≤ k := (fun k hk => (hr4 k hk).1); rw [← hLm.out] at hM4; have hPP := mine_pt (l := L) hM4 HLl.out (by omega) oL; have hB4 := hB3.grown hg4 (by intro h; have := hlo _ h; omega); have hX4 := hX3.grown hg4 (by intro h; have := hlo _ h; omega); have hR4 := hR3.grown hg4 (by intro h; have := hlo _ h; omega); have bb4 : Below B w w4 := bb3.grown hg4 (by omega) (fun k hk => by have := hlo k hk; omega); have hs4 : B + 3 ≤ w4.heap.size := Nat.le_trans hs3 hg4.size; have cE4 := hX4.cell 1; rw [hce.out] at cE4; clear hB3 hX3 hR3 bb3 hM3b hv4 hg4 hr4 hlo hM4 cV cE) | (go_at_call 59; refine (hen w2).out.mono ?_; rintro r w3 ⟨hb3, a3, c3, rfl, hM3⟩; obtain ⟨g3, rfl, hc3, hM3'⟩ := mine_take (m := 72) hM3 (by decide) (by decide); rw [htk.out] at hM3'; have hM3b := hM3'.mono (by omega : B + 3 ≤ _); have hB3 := hB2.below hb3 (by omega); have hX3 := hX2.below hb3 (by omega); have hR3 := hR2.below hb3 (by omega); have bb3 := bb2.trans (hb3.mono (by omega : B ≤ _)); have hs3 : B + 3 ≤ w3.heap.size := (by have := hb3.size; omega); have hcc : (72 : Int) ≤ (c3 : Int) := (by omega); have cV := hX3.cell 0; have cE := hX3.cell 1; rw [hcv.out] at cV; rw [hce.out] at cE; clear hB2 hX2 hR2 bb2 hb3 hM3 hM3') | (refine wl_load rfl 57 _ rfl ⟨B + 1, 0, none⟩ rfl CS (by rw [hCl]; exact aggEnv) hX2.at0 ?_) | (refine wl_allocV rfl 55 rfl ZT hzT.out (B + 2) hs1 ?_; intro w2 hR2 hb2 hs2; have hB2 := hB1.below hb2 (by omega); have hX2 := hX1.below hb2 (by omega); have bb2 := bb1.trans (hb2.mono (by omega : B ≤ _)); clear hB1 hX1 bb1 hb2) | (refine wl_boxV rfl 57 _ rfl CS rfl (B + 1) hs0 ?_; intro w1 hX1 hb1 hs1; have hB1 := hB0.below hb1 (by omega); have bb1 := hb0.trans (hb1.mono (by omega : B ≤ _)); clear hB0 hb0 hb1) | (refine wl_boxV rfl 23 _ rfl K rfl B hsz ?_; intro w0 hB0 hb0 hs0))
 (try simp only [Exit.inBlock, Exit.then]); refine bodyPost_ret (results_cell rfl _ _ _ _ rfl V (by rw [hVl]; exact aggTag) hRF.at0) rfl ?_
 exact ⟨rfl, by rw [← HB.out]; exact bb8.trans (hbF.mono (by omega))⟩
set_option maxHeartbeats 2000000 in
theorem RefTagged_2 (k : List Int) (x : Env) (c : List Int) (ao : Option Addr) (cap mc : Nat) (w : World) (hk : k.length = 32) (ok : Octs k) (hx : x.Ok) (hv : x.v = 2) (hx0 : errV x = 0) (he : 0 ≤ x.e ∧ x.e ≤ 4294967295) (hmc : mc = c.length) (HP : Pt.Ok w ⟨ao, cap, c⟩) (hno : ao = none → cap = 0) (hm : mc ≤ 1000000) :
  Calls Tryz.prog 34 #[.agg (k.map (Value.int .u8)).toArray, .agg x.cs.toArray, .slice ao mc cap] w fun r w' => r = .returned (.agg ((tagX k x c).map (Value.int .u8)).toArray) ∧ Below w.heap.size w w' := by
 obtain ⟨B, HB⟩ : ∃ B, Hid (B = w.heap.size) := ⟨_, rfl⟩
 have hsz : w.heap.size = B := HB.out.symm
 obtain ⟨K, HK⟩ : ∃ K, Hid (K = k.map (Value.int .u8)) := ⟨_, rfl⟩
 have hKl : K.length = 32 := by rw [HK.out, List.length_map, hk]
 have hzK := hid zeroKey
 have hzT := hid zeroTag
 obtain ⟨Z, HZ⟩ : ∃ Z, Hid (Z = (List.replicate 32 (0 : Int)).map (Value.int .u8)) := ⟨_, rfl⟩
 obtain ⟨ZT, HZT⟩ : ∃ Z, Hid (Z = (List.replicate 16 (0 : Int)).map (Value.int .u8)) := ⟨_, rfl⟩
 have hZl : Z.length = 32 := by rw [HZ.out]; simp
 have hZTl : ZT.length = 16 := by rw [HZT.out]; simp
 rw [← HZ.out] at hzK
 rw [← HZT.out] at hzT
 have hde := fun w => hid (RefDerive_ok k hk ok tagS tagS_octs tagS_name x.e he w)
 obtain ⟨kd, HKD⟩ : ∃ kd, Hid (kd = deriveL k tagS x.e) := ⟨_, rfl⟩
 have hkd : kd.length = 32 := by rw [HKD.out]; exact deriveL_length _ _ _
 have okd : Octs kd := by rw [HKD.out]; exact deriveL_octs _ _ _
 obtain ⟨L, HL⟩ : ∃ L, Hid (L = aheadL x) := ⟨_, rfl⟩
 have hal := hid (aheadL_length hx)
 have hsv : sizeV x = 136 := by unfold sizeV; rw [if_pos hv]
 rw [hsv] at hal
 have hAl : Hid ((aheadL x).length = 120) := hid (by have := hal.out; omega)
 have hLl : 120 = L.length := by rw [HL.out]; exact hAl.out.symm
 have oA : Octs (aheadL x) := aheadL_octs hx (Or.inr hv)
 have oL : Octs L := by rw [HL.out]; exact oA
 have HTX : Hid (tagX k x c = tagL kd L) := hid (by unfold tagX tagT; rw [if_neg (by omega), ← HKD.out, ← HL.out])
 obtain ⟨KW, HKW⟩ : ∃ KW, Hid (KW = kd.map (Value.int .u8)) := ⟨_, rfl⟩
 have hKWl : KW.length = 32 := by rw [HKW.out, List.length_map, hkd]
 have hKW1 : ∀ u ∈ KW, u.oneCell' = true := by rw [HKW.out]; exact ints_one _ _
 rw [← HKD.out, ← HKW.out] at hde
 have hen : ∀ w, Hid (Calls Tryz.prog 59 #[.agg x.cs.toArray] w fun e w' => Below w.heap.size w w' ∧ ∃ ao c, e = .returned (.tuple #[.slice ao 136 c, .int .i64 0]) ∧ Mine w' w.heap.size 5 1 (.slice ao 136 c) 136 ((envL x).map (Value.int .u8))) := fun w => hid ((Envelope_any x hx w).mono fun e w' h => by
  unfold EnvPost at h
  rw [if_pos hx0, hsv] at h
  exact h)
 have hta : (envL x).take 120 = aheadL x := by
  unfold envL
  rw [List.take_append_of_le_length (by have := hAl.out; omega)]
  exact List.take_of_length_le (by have := hAl.out; omega)
 have htk : Hid (((envL x).map (Value.int .u8)).take 120 = (aheadL x).map (Value.int .u8)) := hid (by rw [← List.map_take, hta])
 clear hta
 obtain ⟨EV, HEV⟩ : ∃ E, Hid (E = (envL x).map (Value.int .u8)) := ⟨_, rfl⟩
 rw [← HEV.out] at htk hen
 have htg := fun w ao cap (HP : Pt.Ok w ⟨ao, cap, L⟩) (h0 : ao = none → cap = 0) => hid (RefTag_any kd hkd okd ao cap 120 L w hLl HP h0 (by omega))
 rw [← HKW.out] at htg
 obtain ⟨V, HV⟩ : ∃ V, Hid (V = (tagL kd L).map (Value.int .u8)) := ⟨_, rfl⟩
 have hVl : V.length = 16 := by rw [HV.out, List.length_map, tagL_length]
 have hV1 : ∀ u ∈ V, u.oneCell' = true := by rw [HV.out]; exact ints_one _ _
 rw [← HV.out] at htg
 rw [HTX.out, ← HV.out]
 have hcv : Hid (x.cs[0]? = some (.int .i64 2)) := hid (by rw [← hv]; exact x.cv)
 have hce := hid x.ce
 have HPB : ∀ y, Below B w y → Pt.Ok y ⟨ao, cap, c⟩ := fun y hb => HP.below (hsz ▸ hb)
 have hcl : Hid ((c.map (Value.int .u8)).length = mc * 1) := hid (by rw [List.length_map, hmc, Nat.mul_one])
 have hLm : Hid (L.map (Value.int .u8) = (aheadL x).map (Value.int .u8)) := hid (by rw [HL.out])
 obtain ⟨CS, HCS⟩ : ∃ C, Hid (C = x.cs) := ⟨_, rfl⟩
 have hCl : CS.length = 130 := by rw [HCS.out]; exact hx.csl
 obtain ⟨E, HE⟩ : ∃ E, Hid (E = x.e) := ⟨_, rfl⟩
 rw [← HE.out] at hde hce
 rw [← HK.out] at hde ⊢
 rw [← HCS.out] at hen hcv hce ⊢
 have HLl := hid hLl
 clear hk hx hv he hmc HP hal hsv hx0 hLl
 go_enter Tryz.func34, Tryz.ntmps34
 go_wp2_with (first | (refine wl_storeV rfl 55 _ _ rfl 55 (B + 2) rfl V rfl 16 aggTag hVl ZT hR8 hZTl hV1 ?_; intro wF hRF hbF hsF) | (go_at_call 60; refine (htg w7 (some ⟨g3, 0, none⟩) c3 hP7 (fun h => (hPn h).1)).out.mono ?_; rintro r w8 ⟨rfl, hb8⟩; have hR8 := hR7.below hb8 hR7.lt; have bb8 := bb7.trans (hb8.mono (by have := hT7.lt; omega : B ≤ _)); clear hR7 bb7 hb8 hP7 hT7) | (refine wl_load rfl 23 _ rfl ⟨g5, 0, none⟩ rfl KW (by rw [hKWl]; exact aggKey) hT7.at0 ?_) | (refine wl_storeV rfl 23 _ _ rfl 23 g5 rfl KW rfl 32 aggKey hKWl Z hT6 hZl hKW1 ?_; intro w7 hT7 hb7 hs7; have hP7 : Pt.Ok w7 ⟨(some ⟨g3, 0, none⟩), c3, L⟩ := hP6.out _ hb7; have hR7 := hR6.below hb7 (by omega); have bb7 := bb6.trans (hb7.mono (by omega : B ≤ _)); clear hP6 hR6 bb6 hb7 hT6) | (refine wl_allocV rfl 23 rfl Z hzK.out w5.heap.size rfl ?_; intro w6 hT6 hb6 hs6; obtain ⟨g5, HG5⟩ : ∃ g, Hid (g = w5.heap.size) := ⟨_, rfl⟩; have hP6 := hid (fun (y : World) (h : Below w5.heap.size w6 y) => hP5.below (hb6.trans h)); rw [← HG5.out] at hT6 hb6 hs6 hP6; rw [← HG5.out]; have hg5 : B + 3 ≤ g5 := (by rw [HG5.out]; exact hs5); have hR6 := hR5.below hb6 (by omega); have bb6 := bb5.trans (hb6.mono (by omega : B ≤ _)); clear hP5 hR5 bb5 hb6) | (go_at_call 32; refine (hde w3).out.mono ?_; rintro r w5 ⟨rfl, hb5⟩; rw [← hLm.out] at hM3b; have hPP := mine_pt (l := L) hM3b HLl.out (by omega) oL; have hP5 := hPP.1.below hb5; have hPn := hPP.2; have hR5 := hR3.below hb5 hR3.lt; have bb5 := bb3.trans (hb5.mono (by omega : B ≤ _)); have hs5 : B + 3 ≤ w5.heap.size := Nat.le_trans hs3 hb5.size; clear hB3 hX3 hR3 bb3 hb5 hPP) | (refine wl_load rfl 23 _ rfl ⟨B, 0, none⟩ rfl K (by rw [hKl]; exact aggKey) hB3.at0 ?_) | (go_at_call 59; refine (hen w2).out.mono ?_; rintro r w3 ⟨hb3, a3, c3, rfl, hM3⟩; obtain ⟨g3, rfl, hc3, hM3'⟩ := mine_take (m := 120) hM3 (by decide) (by decide); rw [htk.out] at hM3'; have hM3b := hM3'.mono (by omega : B + 3 ≤ _); have hB3 := hB2.below hb3 (by omega); have hX3 := hX2.below hb3 (by omega); have hR3 := hR2.below hb3 (by omega); have bb3 := bb2.trans (hb3.mono (by omega : B ≤ _)); have hs3 : B + 3 ≤ w3.heap.size := (by have := hb3.size; omega); have hcc : (120 : Int) ≤ (c3 : Int) := (by omega); have cV := hX3.cell 0; have cE := hX3.cell 1; rw [hcv.out] at cV; rw [hce.out] at cE; clear hB2 hX2 hR2 bb2 hb3 hM3 hM3') | (refine wl_load rfl 57 _ rfl ⟨B + 1, 0, none⟩ rfl CS (by rw [hCl]; exact aggEnv) hX2.at0 ?_) | (refine wl_allocV rfl 55 rfl ZT hzT.out (B + 2) hs1 ?_; intro w2 hR2 hb2 hs2; have hB2 := hB1.below hb2 (by omega); have hX2 := hX1.below hb2 (by omega); have bb2 := bb1.trans (hb2.mono (by omega : B ≤ _)); clear hB1 hX1 bb1 hb2) | (refine wl_boxV rfl 57 _ rfl CS rfl (B + 1) hs0 ?_; intro w1 hX1 hb1 hs1; have hB1 := hB0.below hb1 (by omega); have bb1 := hb0.trans (hb1.mono (by omega : B ≤ _)); clear hB0 hb0 hb1) | (refine wl_boxV rfl 23 _ rfl K rfl B hsz ?_; intro w0 hB0 hb0 hs0))
 (try simp only [Exit.inBlock, Exit.then]); refine bodyPost_ret (results_cell rfl _ _ _ _ rfl V (by rw [hVl]; exact aggTag) hRF.at0) rfl ?_
 exact ⟨rfl, by rw [← HB.out]; exact bb8.trans (hbF.mono (by omega))⟩
end Go.Proofs.YtbjmadcbhkeenaaGreat.wr
