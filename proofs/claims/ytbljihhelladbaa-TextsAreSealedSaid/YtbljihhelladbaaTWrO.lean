/-
  Contracts of wrap.tag and of wrap.Wrap at version 1; keylaw2.wraps says yes. Conditions: keys and nonces of octets, a context of at most 4096 octets. Contracts of mix.PutLong, wrap.Commit and keyref2.CommitOf. Conditions: a key of octets; a string of at most maxLen octets. Contracts of keyref1.NameOf and keyref1.Tag. Conditions: a key of octets, a text of at most 2^20 octets. Reading operations of a region that draws its order, in short words. Conditions: what each names.
-/
import Derived.Test.YtbljihhelladbaaTWrJ
import Derived.Test.YtbljihhelladbaaTWrD
import Derived.Test.YtbljihhelladbaaTWrB
import Derived.Test.YtbljihhelladbaaTWrI
import Derived.Test.YtbljihhelladbaaTMkX
import Derived.Deep.LoopGhost
import Derived.WalkMore
import Derived.Lib.OthersKept
import Derived.Lib.TrimU
import Derived.Lib.Bytealg
import Derived.Laws.RangeString
import Derived.Laws.Runes
namespace Go.Proofs.Ytbljihhelladbaa.wr
open Go.RowKit Go.Proofs.Ytbljihhelladbaa.st Go.Proofs.Ytbljihhelladbaa.hs Go.Proofs.Ytbljihhelladbaa.shr Go.Proofs.Ytbljihhelladbaa.sh
set_option linter.unusedSimpArgs false
set_option linter.unusedVariables false
set_option pp.maxSteps 6000
set_option maxRecDepth 100000 in
set_option maxHeartbeats 2000000 in
theorem tag_1 (k : List Int) (x : Env) (c : List Int) (ao : Option Addr) (cap mc : Nat) (w : World) (hk : k.length = 32) (ok : Octs k) (hx : x.Ok) (hv : x.v = 1) (he : 0 ≤ x.e ∧ x.e ≤ 4294967295) (hmc : mc = c.length) (HP : Pt.Ok w ⟨ao, cap, c⟩) (hno : ao = none → cap = 0) (hm : mc ≤ 1000000) :
    Calls Try.prog 177 #[.agg (k.map (Value.int .u8)).toArray, .agg x.cs.toArray, .slice ao mc cap] w fun r w' => r = .returned (.agg ((tagX k x c).map (Value.int .u8)).toArray) ∧ Below w.heap.size w w' := by
  obtain ⟨B, HB⟩ : ∃ B, Hid (B = w.heap.size) := ⟨_, rfl⟩
  have hsz : w.heap.size = B := HB.out.symm
  obtain ⟨K, HK⟩ : ∃ K, Hid (K = k.map (Value.int .u8)) := ⟨_, rfl⟩
  have hKl : K.length = 32 := by rw [HK.out, List.length_map, hk]
  have hzK := hid zeroKey
  have hzT := hid zeroTag
  obtain ⟨Z, HZ⟩ : ∃ Z, Hid (Z = (List.replicate 32 (0 : Int)).map (Value.int .u8)) := ⟨_, rfl⟩
  obtain ⟨ZT, HZT⟩ : ∃ Z, Hid (Z = (List.replicate 16 (0 : Int)).map (Value.int .u8)) := ⟨_, rfl⟩
  have hZl : Z.length = 32 := by rw [HZ.out]; simp
  have hZTl : ZT.length = 16 := by rw [HZT.out]; simp
  rw [← HZ.out] at hzK
  rw [← HZT.out] at hzT
  have hde := fun w => hid (Derive_ok k hk ok tagS tagS_octs tagS_name x.e he w)
  obtain ⟨kd, HKD⟩ : ∃ kd, Hid (kd = deriveL k tagS x.e) := ⟨_, rfl⟩
  have hkd : kd.length = 32 := by rw [HKD.out]; exact deriveL_length _ _ _
  have okd : Octs kd := by rw [HKD.out]; exact deriveL_octs _ _ _
  obtain ⟨L, HL⟩ : ∃ L, Hid (L = aheadL x ++ c) := ⟨_, rfl⟩
  have hal := hid (aheadL_length hx)
  have hsv : sizeV x = 88 := by unfold sizeV; rw [if_neg (by omega)]
  rw [hsv] at hal
  have hAl : Hid ((aheadL x).length = 72) := hid (by have := hal.out; omega)
  have hLl : L.length = 72 + mc := by rw [HL.out]; rw [List.length_append, hAl.out, hmc]
  have oA : Octs (aheadL x) := aheadL_octs hx (Or.inl hv)
  have oL : Octs L := by rw [HL.out]; exact octs_app oA HP.oct
  have HTX : Hid (tagX k x c = tagL kd L) := hid (by unfold tagX tagT; rw [if_pos hv, ← HKD.out, ← HL.out])
  obtain ⟨KW, HKW⟩ : ∃ KW, Hid (KW = kd.map (Value.int .u8)) := ⟨_, rfl⟩
  have hKWl : KW.length = 32 := by rw [HKW.out, List.length_map, hkd]
  have hKW1 : ∀ u ∈ KW, u.oneCell' = true := by rw [HKW.out]; exact ints_one _ _
  rw [← HKD.out, ← HKW.out] at hde
  have hah := fun w => hid (ahead_1 x hx w hv he)
  have htg := fun w ao cap (HP : Pt.Ok w ⟨ao, cap, L⟩) => hid (TagOf_in kd hkd okd ao cap (72 + mc) L w hLl.symm HP (by omega))
  rw [← HKW.out] at htg
  obtain ⟨V, HV⟩ : ∃ V, Hid (V = (tagL kd L).map (Value.int .u8)) := ⟨_, rfl⟩
  have hVl : V.length = 16 := by rw [HV.out, List.length_map, tagL_length]
  have hV1 : ∀ u ∈ V, u.oneCell' = true := by rw [HV.out]; exact ints_one _ _
  rw [← HV.out] at htg
  rw [HTX.out, ← HV.out]
  have hcv : Hid (x.cs[0]? = some (.int .i64 1)) := hid (by rw [← hv]; exact x.cv)
  have hce := hid x.ce
  have hrow := HP.row.v
  have hlt := fun b h => HP.lt b h
  have hcl : Hid ((c.map (Value.int .u8)).length = mc * 1) := hid (by rw [List.length_map, hmc, Nat.mul_one])
  have hLm : Hid (L.map (Value.int .u8) = (aheadL x).map (Value.int .u8) ++ c.map (Value.int .u8)) := hid (by rw [HL.out, List.map_append])
  obtain ⟨CS, HCS⟩ : ∃ C, Hid (C = x.cs) := ⟨_, rfl⟩
  have hCl : CS.length = 130 := by rw [HCS.out]; exact hx.csl
  obtain ⟨E, HE⟩ : ∃ E, Hid (E = x.e) := ⟨_, rfl⟩
  rw [← HE.out] at hde hce
  rw [← HK.out] at hde ⊢
  rw [← HCS.out] at hah hcv hce ⊢
  clear hk hx hv he hmc HP hal hsv
  go_enter Try.func177, Try.ntmps177
  go_wp2_with (first | (refine wl_storeV rfl 105 _ _ rfl 105 (B + 2) rfl V rfl 16 aggTag hVl ZT hRA hZTl hV1 ?_; intro wF hRF hbF hsF) | (refine wl_load rfl 105 _ rfl ⟨w8.heap.size, 0, none⟩ rfl V (by rw [hVl]; exact aggTag) hTA.at0 ?_) | (refine wl_storeV rfl 105 _ _ rfl 105 w8.heap.size rfl V rfl 16 aggTag hVl ZT hT9 hZTl hV1 ?_; intro wA hTA hbA hsA; have hRA := hR9.below hbA (by omega); have bbA := bb9.trans (hbA.mono (by omega : B ≤ _)); clear hT9 hR9 bb9 hbA) | (refine wl_allocV rfl 105 rfl ZT hzT.out w8.heap.size rfl ?_; intro w9 hT9 hb9 hs9; have hR9 := hR8.below hb9 (by omega); have bb9 := bb8.trans (hb9.mono (by omega : B ≤ _)); clear hR8 bb8 hb9) | (go_at_call 185; refine (htg w7 ao7 c7 (mine_pt hM7 hLl.symm (by omega) oL).1).out.mono ?_; rintro e w8 ⟨rfl, hb8⟩; have hR8 := hR7.below hb8 (by omega); have bb8 := bb7.trans (hb8.mono (by omega : B ≤ _)); have hs8 := hb8.size; clear hR7 hG7 bb7 hb8 hM7) | (refine wl_load rfl 23 _ rfl ⟨w3.heap.size, 0, none⟩ rfl KW (by rw [hKWl]; exact aggKey) hG7.at0 ?_) | (at_builtin; refine wl_appendS rfl _ _ 69 rfl 5 (.int .u8 0) 1 1 Try.underlying69 info8 rfl (by decide) w5.heap.size _ 72 _ rfl hM6 ao mc cap rfl hno (c.map (Value.int .u8)) hcl.out (hrow.below (hsz ▸ bb6)) (ints_one _ _) (by unfold maxLen; omega) (by omega) hs6 (72 + mc) rfl ?_; intro ao7 c7 w7 row7 hc7 hM7 hv7 hg7 hrow7; have hR7 := blk_grown hR6 hg7 (fun k hk => (hrow7 k hk).1) (by omega); have hG7 := blk_grown hG6 hg7 (fun k hk => (hrow7 k hk).1) (by omega); have bb7 := bb6.grown hg7 (by omega) (fun k hk => by have := (hrow7 k hk).1; omega); have hs7 := hg7.size; rw [← hLm.out] at hM7 hv7; clear hX6 hR6 hG6 bb6 hM6 hg7 hrow7 cv6 hv7) | (go_at_call 126; refine (hah w5).out.mono ?_; rintro e w6 ⟨ao6, c6, rfl, hM6, hb6⟩; have hX6 := hX5.below hb6 (by omega); have hR6 := hR5.below hb6 (by omega); have hG6 := hG5.below hb6 (by omega); have bb6 := bb5.trans (hb6.mono (by omega : B ≤ _)); have cv6 := (hX6.cell 0).trans hcv.out; have hs6 := hb6.size; clear hX5 hR5 hG5 bb5 hb6) | (refine wl_load rfl 107 _ rfl ⟨B + 1, 0, none⟩ rfl CS (by rw [hCl]; exact aggEnv) hX5.at0 ?_) | (refine wl_storeV rfl 23 _ _ rfl 23 w3.heap.size rfl KW rfl 32 aggKey hKWl Z hG4 hZl hKW1 ?_; intro w5 hG5 hb5 hs5; have hX5 := hX4.below hb5 (by omega); have hR5 := hR4.below hb5 (by omega); have bb5 := bb4.trans (hb5.mono (by omega : B ≤ _)); clear hG4 hX4 hR4 bb4 hb5) | (refine wl_allocV rfl 23 rfl Z hzK.out w3.heap.size rfl ?_; intro w4 hG4 hb4 hs4; have hX4 := hX3.below hb4 (by omega); have hR4 := hR3.below hb4 (by omega); have bb4 := bb3.trans (hb4.mono (by omega : B ≤ _)); clear hX3 hR3 bb3 hb4) | (go_at_call 211; refine (hde w2).out.mono ?_; rintro e w3 ⟨rfl, hb3⟩; have hX3 := hX2.below hb3 (by omega); have hR3 := hR2.below hb3 (by omega); have bb3 := bb2.trans (hb3.mono (by omega : B ≤ _)); have hs3 := hb3.size; clear hB2 hX2 hR2 bb2 hb3 ce2) | (refine wl_load rfl 23 _ rfl ⟨B, 0, none⟩ rfl K (by rw [hKl]; exact aggKey) hB2.at0 ?_) | (refine wl_allocV rfl 105 rfl ZT hzT.out (B + 2) hs1 ?_; intro w2 hR2 hb2 hs2; have hB2 := hB1.below hb2 (by omega); have hX2 := hX1.below hb2 (by omega); have bb2 := bb1.trans (hb2.mono (by omega : B ≤ _)); have ce2 := (hX2.cell 1).trans hce.out; clear hB1 hX1 bb1 hb2) | (refine wl_boxV rfl 23 _ rfl K rfl B hsz ?_; intro w0 hB0 hb0 hs0) | (refine wl_boxV rfl 107 _ rfl CS rfl (B + 1) hs0 ?_; intro w1 hX1 hb1 hs1; have hB1 := hB0.below hb1 (by omega); have bb1 := hb0.trans (hb1.mono (by omega : B ≤ _)); clear hB0 hb0 hb1))
  (try simp only [Exit.inBlock, Exit.then]); refine bodyPost_ret (results_cell rfl _ _ _ _ rfl V (by rw [hVl]; exact aggTag) hRF.at0) rfl ?_
  exact ⟨rfl, by first | exact bbA.trans (hbF.mono (by omega)) | (rw [hsz]; exact bbA.trans (hbF.mono (by omega)))⟩
end Go.Proofs.Ytbljihhelladbaa.wr
namespace Go.Proofs.Ytbljihhelladbaa.wr
open Go.RowKit Go.Proofs.Ytbljihhelladbaa.st Go.Proofs.Ytbljihhelladbaa.hs Go.Proofs.Ytbljihhelladbaa.shr Go.Proofs.Ytbljihhelladbaa.sh
set_option linter.unusedSimpArgs false
set_option linter.unusedVariables false
set_option pp.maxSteps 6000
theorem octN_eight (n : Int) : octN n 8 = o8 n := by
  unfold octN octTo o8
  rw [show List.range 8 = [0, 1, 2, 3, 4, 5, 6, 7] from rfl]
  simp
theorem o8_length (n : Int) : (o8 n).length = 8 := rfl
theorem zeroA8' : (Try.prog.info? 216).map (·.zero) = some (some (.agg ((List.replicate 8 (0 : Int)).map (Value.int .u8)).toArray)) := by kernel_rfl
/-- parts with their lengths -/
def frm (ls : List (List Int)) : List Int := (ls.map fun l => o4 (l.length : Int) ++ l).flatten
theorem framed_frm (ps : List Pt) : framed ps = frm (ps.map Pt.l) := by unfold framed frm; rw [List.map_map]; rfl
set_option maxRecDepth 100000 in
set_option maxHeartbeats 2000000 in
theorem PutLong_any (ao : Option Addr) (n cap : Nat) (l : List Int) (v : Int) (w : World) (hn : n = l.length) (HR : RowI .u8 w ao l) (hlt : ∀ b, ao = some b → b.block < w.heap.size) (hno : ao = none → cap = 0) (hm : n ≤ 1048576) (hv : 0 ≤ v ∧ v ≤ 4611686018427387904) :
    Calls Try.prog 131 #[.slice ao n cap, .int .i64 v] w fun e w' => ∃ ao' c', e = .returned (.slice ao' (n + 8) c') ∧ Mine w' w.heap.size 5 1 (.slice ao' (n + 8) c') (n + 8) ((l ++ o8 v).map (Value.int .u8)) ∧ Below w.heap.size w w' := by
  obtain ⟨B, HB⟩ : ∃ B, Hid (B = w.heap.size) := ⟨_, rfl⟩
  have hsz : w.heap.size = B := HB.out.symm
  obtain ⟨O, HO⟩ : ∃ O, Hid (O = (o8 v).map (Value.int .u8)) := ⟨_, rfl⟩
  have hOl : O.length = 8 := by rw [HO.out]; rfl
  have hO1 : ∀ u ∈ O, u.oneCell' = true := by rw [HO.out]; exact ints_one _ _
  obtain ⟨Z, HZ⟩ : ∃ Z, Hid (Z = (List.replicate 8 (0 : Int)).map (Value.int .u8)) := ⟨_, rfl⟩
  have hz8 := hid zeroA8'
  rw [← HZ.out] at hz8
  have hZl : Z.length = 8 := by rw [HZ.out]; rfl
  have ho8 := fun w => hid (longOctets v w ⟨hv.1, by omega⟩)
  rw [← HO.out] at ho8
  have hal : Try.prog.arrayLen 216 = 8 := by kernel_rfl
  have hv0 : ¬ v < 0 := by omega
  have hv1 : ¬ 4611686018427387904 < v := by omega
  have hwv : IntKind.u64.wrap v = v := IntWalk.u64_in _ (by omega)
  have hLN : Hid ((l.map (Value.int .u8)).length = n * 1) := by show _ = _; rw [List.length_map, hn, Nat.mul_one]
  have hEQ : Hid ((l ++ o8 v).map (Value.int .u8) = l.map (Value.int .u8) ++ O) := by show _ = _; rw [List.map_append, HO.out]
  clear hn hv
  rw [← HB.out]
  go_enter Try.func131, Try.ntmps131
  go_wp2_with (first | (go_at_call 180; refine (ho8 w).out.mono ?_; rintro e w1 ⟨rfl, hb1⟩; have hR1 := HR.below hb1; have hs1 := hb1.size) | (refine wl_allocV rfl 216 rfl Z hz8.out w1.heap.size rfl ?_; intro w2 hO2 hb2 hs2) | (refine wl_storeV rfl 216 _ _ rfl 216 w1.heap.size rfl O rfl 8 agg8 hOl Z hO2 hZl hO1 ?_; intro w3 hO3 hb3 hs3; have hb13 := hb2.trans hb3; have hR3 := hR1.below hb13; have bb3 : Below B w w3 := (hsz ▸ hb1).trans (hb13.mono (by omega)); have hs3' : B ≤ w3.heap.size := (by omega); clear hO2 hb2 hb3 hb13 hR1))
  have hnew : ∀ o, (w3.alloc o).heap[w1.heap.size + 1]? = some o := fun o => by have h := heap_alloc_new w3 o; rwa [show w3.heap.size = w1.heap.size + 1 by omega] at h
  refine (slB.Concat_two ⟨ao, n, cap, l.map (Value.int .u8)⟩ ⟨some ⟨w1.heap.size, 0, none⟩, 8, 8, O⟩ (w1.heap.size + 1) _ (hnew _) ⟨hR3.v.alloc _, hLN.out, ints_one _ _, hno⟩ ⟨(at_row hO3.lt hO3.at0).alloc _, hOl, hO1, fun h => by cases h⟩ (by simp only; omega)).mono ?_
  rintro e w4 ⟨v4, rfl, hM4, hb4⟩
  obtain ⟨ao4, c4, rfl, hc4, _⟩ := hM4.row
  go_wp2_with fail
  go_ret
  refine ⟨_, _, rfl, ?_, (bb3.alloc hs3' _).trans (hb4.mono (by simp; omega))⟩
  rw [hEQ.out]
  exact hM4.mono (by simp; omega)
end Go.Proofs.Ytbljihhelladbaa.wr
namespace Go.Proofs.Ytbljihhelladbaa.wr
open Go.RowKit Go.Proofs.Ytbljihhelladbaa.st Go.Proofs.Ytbljihhelladbaa.hs Go.Proofs.Ytbljihhelladbaa.shr Go.Proofs.Ytbljihhelladbaa.sh
set_option linter.unusedSimpArgs false
set_option linter.unusedVariables false
set_option pp.maxSteps 6000
set_option maxRecDepth 100000 in
set_option maxHeartbeats 2000000 in
theorem RefTag_any (k : List Int) (hk : k.length = 32) (ok : Octs k) (ao : Option Addr) (cap n : Nat) (l : List Int) (w : World) (hn : n = l.length) (HP : Pt.Ok w ⟨ao, cap, l⟩) (h0 : ao = none → cap = 0) (hm : 32 + n ≤ 2097152) :
    Calls Try.prog 186 #[.agg (k.map (Value.int .u8)).toArray, .slice ao n cap] w fun e w' => e = .returned (.agg ((tagL k l).map (Value.int .u8)).toArray) ∧ Below w.heap.size w w' := by
  obtain ⟨B, HB⟩ : ∃ B, Hid (B = w.heap.size) := ⟨_, rfl⟩
  have hsz : w.heap.size = B := HB.out.symm
  obtain ⟨K, HK⟩ : ∃ K, Hid (K = k.map (Value.int .u8)) := ⟨_, rfl⟩
  have hKl : K.length = 32 := by rw [HK.out, List.length_map, hk]
  have hK1 : ∀ u ∈ K, u.oneCell' = true := by rw [HK.out]; exact ints_one _ _
  obtain ⟨Y, HY⟩ : ∃ Z, Hid (Z = (List.replicate 16 (0 : Int)).map (Value.int .u8)) := ⟨_, rfl⟩
  have hz16 := hid zeroTag
  rw [← HY.out] at hz16
  have hYl : Y.length = 16 := by rw [HY.out]; simp
  obtain ⟨Z, HZ⟩ : ∃ Z, Hid (Z = zSum) := ⟨_, rfl⟩
  have hz32 := hid zeroSumZ
  rw [← HZ.out] at hz32
  have hZl : Z.length = 32 := by rw [HZ.out]; simp [zSum]
  obtain ⟨S, HS⟩ : ∃ S : List Value, Hid (S = (sumL 8 (k ++ l)).map (Value.int .u8)) := ⟨_, rfl⟩
  have hSl : S.length = 32 := by rw [HS.out, List.length_map, sumL_length]
  have hS1 : ∀ u ∈ S, u.oneCell' = true := by rw [HS.out]; exact ints_one _ _
  obtain ⟨N, HN⟩ : ∃ S : List Value, Hid (S = (tagL k l).map (Value.int .u8)) := ⟨_, rfl⟩
  have hNl : N.length = 16 := by rw [HN.out, List.length_map, tagL_length]
  have hN1 : ∀ u ∈ N, u.oneCell' = true := by rw [HN.out]; exact ints_one _ _
  have hNS : Hid (N = S.take 16) := hid (by rw [HN.out, HS.out, ← List.map_take]; rfl)
  have hal : Try.prog.arrayLen 23 = 32 := by kernel_rfl
  have halS : Try.prog.arrayLen 73 = 32 := by kernel_rfl
  have halY : Try.prog.arrayLen 105 = 16 := by kernel_rfl
  have HKK := hid hk
  have HNN := hid hn
  have HM : ∀ y, Below B w y → Pt.Ok y ⟨ao, cap, l⟩ := fun y hb => HP.below (hsz ▸ hb)
  have hlen : Hid (32 + n = (k ++ l).length) := hid (by rw [List.length_append, hk, hn])
  have okl : Octs (k ++ l) := octs_app ok HP.oct
  have hsum := fun (y : World) (a : Option Addr) (c : Nat) (hP : Pt.Ok y ⟨a, c, k ++ l⟩) (h : a = none → c = 0 ∧ 32 + n = 0) => hid (sumR 8 oct8 a c (32 + n) (k ++ l) y hlen.out hP h (by omega))
  rw [← HS.out] at hsum
  have hcl := fun (y : World) (hB : BlkV 23 y B K) => hid (cloneB (some ⟨B, 0, none⟩) 32 32 K y (at_row hB.lt hB.at0) (by rw [hKl]) hK1 (fun h => by cases h) (by decide))
  rw [← HK.out, ← HN.out]
  clear hk hn
  go_enter Try.func186, Try.ntmps186
  go_wp2_with (first | (refine wl_storeV rfl 73 _ _ rfl 73 g5 rfl S rfl 32 aggSumT hSl Z hE4 hZl hS1 ?_; intro w5 hE5 hb5 hs5; have hR5 := hR4.below hb5 (by omega); have bb5 := bb4.trans (hb5.mono (by omega : B ≤ _)); clear hR4 bb4 hb5 hE4) | (refine wl_allocV rfl 73 rfl Z hz32.out w3.heap.size rfl ?_; intro w4 hE4 hb4 hs4; obtain ⟨g5, HG5⟩ : ∃ g, Hid (g = w3.heap.size) := ⟨_, rfl⟩; rw [← HG5.out] at hE4 hb4 hs4; rw [← HG5.out]; have hg5 : B + 2 ≤ g5 := (by rw [HG5.out]; exact hs3); have hR4 := hR3.below hb4 (by omega); have bb4 := bb3.trans (hb4.mono (by omega : B ≤ _)); clear hR3 bb3 hb4) | (go_at_call 51; refine (hsum wb aob cb hPb hnob).out.mono ?_; rintro e w3 ⟨rfl, hb3⟩; have hR3 := hRb.below hb3 hRb.lt; have bb3 := bbb.trans (hb3.mono hbbs); have hs3 : B + 2 ≤ w3.heap.size := Nat.le_trans (by have := hRb.lt; omega) hb3.size; clear hRb bbb hb3 hPb hnob) | (at_builtin; refine wl_appendS rfl _ _ 69 rfl 5 (.int .u8 0) 1 1 Try.underlying69 info8 rfl (by decide) (B + 2) v 32 K rfl hM2 ao n cap rfl h0 (l.map (Value.int .u8)) (by rw [List.length_map, HNN.out]; omega) (RowI.v (HM _ bb2).row) (ints_one _ _) (by unfold maxLen; omega) (by omega) hs2 (32 + n) (by omega) ?_; intro aob cb wb rowb hcb hMb hvb hgb hrowb; have hRb := hR2.grown hgb (by intro h; have := (hrowb _ h).1; omega); have bbb : Below B w wb := bb2.grown hgb (by omega) (fun k hk => by have := (hrowb k hk).1; omega); have hbbs : B ≤ wb.heap.size := (by have := hRb.lt; omega); have hPP := mine_pt (l := k ++ l) (by rw [List.map_append, ← HK.out]; exact hMb) hlen.out (by omega) okl; have hPb := hPP.1; have hnob := hPP.2; clear hPP; clear hR2 bb2 hMb hvb hgb hrowb hM2) | (go_at_call 77; refine (hcl w1 hB1).out.mono ?_; rintro e w2 ⟨v, rfl, hM2', hb2⟩; have hM2 := hM2'.mono (by omega : B + 2 ≤ _); have hR2 := hR1.below hb2 (by omega); have bb2 := bb1.trans (hb2.mono (by omega : B ≤ _)); have hs2 : B + 2 ≤ w2.heap.size := (by have := hb2.size; omega); clear hR1 bb1 hb2 hB1 hM2') | (refine wl_allocV rfl 105 rfl Y hz16.out (B + 1) hs0 ?_; intro w1 hR1 hb1 hs1; have hB1 := hB0.below hb1 (by omega); have bb1 := hb0.trans (hb1.mono (by omega : B ≤ _)); clear hB0 hb0 hb1) | (refine wl_boxV rfl 23 _ rfl K rfl B hsz ?_; intro w0 hB0 hb0 hs0))
  have hfit : 0 + N.length ≤ Y.length := by rw [hNl, hYl]; decide
  have hmin : N.length = Nat.min 16 32 := by rw [hNl]; rfl
  have hat : At w5 ⟨g5, 0, none⟩ N := hE5.at 0 _ fun j u hu => by
    rw [Nat.zero_add]; rw [hNS.out, List.getElem?_take] at hu; split at hu; exact hu; cases hu
  go_region_law (refine step_copy_splice rfl (.tmp 11) (.tmp 12) 69 69 rfl 5 Try.underlying69 size5 (some ⟨B + 1, 0, none⟩) (some ⟨g5, 0, none⟩) 16 16 32 32 rfl rfl (B + 1) 0 Y 105 hR5 N hmin (fun _ => ⟨rfl, _, rfl, hat⟩) hfit hN1 (B + 1) w5 ((Below.refl _ _).drew) (Nat.le_refl _) ?_; intro w6 hg6 hb6)
  have hR6 : BlkV 105 w6 (B + 1) N := by
    have h1 := hg6.out
    unfold splice at h1
    rw [List.take_zero, List.nil_append, List.drop_of_length_le (by rw [hNl, hYl]; decide), List.append_nil] at h1
    exact h1
  have bb6 : Below B w w6 := bb5.trans (hb6.mono (by omega))
  clear hR5 hE5 bb5 hg6 hb6 hat hfit hmin
  go_wp2_with (first | (refine wl_load rfl 105 _ rfl ⟨B + 1, 0, none⟩ rfl N (by rw [hNl]; exact aggTag) hR6.at0 ?_) | (refine wl_storeV rfl 105 _ _ rfl 105 (B + 1) rfl N rfl 16 aggTag hNl N hR6 hNl hN1 ?_; intro w7 hR7 hb7 hs7))
  (try simp only [Exit.inBlock, Exit.then]); refine bodyPost_ret (results_cell rfl _ _ _ _ rfl N (by rw [hNl]; exact aggTag) hR7.at0) rfl ?_
  exact ⟨rfl, by rw [← HB.out]; exact bb6.trans (hb7.mono (by omega))⟩
end Go.Proofs.Ytbljihhelladbaa.wr
namespace Go.Proofs.Ytbljihhelladbaa
set_option linter.unusedSimpArgs false
set_option linter.unusedVariables false
open Go.RowKit
section
variable {P : Program} {md : Region.Mode} {ops : Array Oper} {Q : Exit → Act → World → Prop} {S : World → Prop}
theorem tkR (i : Nat) {oi : Oper} {v : Value} {fuel : Nat} {listed : Array Bool} {a : Act} {w : World} (hi : ops.toList[i]? = some oi) (hy : YieldsIf P ops S oi v a) (hS : S w)
    (h : wpAnyH P md ops Q S fuel (listed.setIfInBounds i true) (a.put oi.dst v) w)
    (hs : Region.noSelect ops = true := by kernel_rfl) (hf : Region.free md ops listed i = true := by kernel_rfl) (hr : (Region.ready md ops listed).contains i = true := by kernel_rfl)
    (hQ : ∀ c a w, Q (.panic c) (a.put oi.dst v) w → Q (.panic c) a w := by exact fun _ _ _ h => h) : wpAnyH P md ops Q S (fuel + 1) listed a w :=
  take_l hi hs hf hr hQ hy hS h
theorem tkP (i : Nat) {oi : Oper} {fuel : Nat} {listed : Array Bool} {a : Act} {w : World} (hi : ops.toList[i]? = some oi) (hS : S w)
    (h : ∃ v, (∀ w, S w → (execOp a.eval oi).run P w = .ok (.value v) w) ∧ wpAnyH P md ops Q S fuel (listed.setIfInBounds i true) (a.put oi.dst v) w)
    (hs : Region.noSelect ops = true := by kernel_rfl) (hf : Region.free md ops listed i = true := by kernel_rfl) (hr : (Region.ready md ops listed).contains i = true := by kernel_rfl) (hw : Region.wanted oi (yielded ops a.tmps) = true := by rfl)
    (hQ : ∀ v c a w, Q (.panic c) (a.put oi.dst v) w → Q (.panic c) a w := by exact fun _ _ _ _ h => h) : wpAnyH P md ops Q S (fuel + 1) listed a w := by
  obtain ⟨v, h1, h2⟩ := h
  exact take_l hi hs hf hr (hQ v) (Or.inl ⟨hw, h1⟩) hS h2
end
theorem sArr {α : Type} (l : List α) (i : Nat) (x : α) : l.toArray.setIfInBounds i x = (l.set i x).toArray := by simp
theorem sZ {α : Type} (a x : α) (l : List α) : (a :: l).set 0 x = x :: l := rfl
theorem sS {α : Type} (a x : α) (l : List α) (n : Nat) : (a :: l).set (n + 1) x = a :: l.set n x := rfl
end Go.Proofs.Ytbljihhelladbaa
