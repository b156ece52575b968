/-
  Contract of wrap.open. Conditions: a key of octets, an envelope that was read, a context of at most 2^20 octets. Contracts of wrap.open at any envelope that was read, and of wrap.Unwrap. Conditions: a key of octets, texts of octets that lie in memory. Contracts of slices.EqualFunc at slices of octets and of wrap.OpenPack. Conditions: slices that lie in memory; a pack of at most 2^40 octets.
-/
import Derived.Test.YtbjmadcbhkeenaaGreatCWsF
import Derived.Test.YtbjmadcbhkeenaaGreatCHld
import Derived.Test.YtbjmadcbhkeenaaGreatCBsl
import Derived.Laws.Slices
set_option maxRecDepth 100000
set_option linter.unusedSimpArgs false
set_option linter.unusedVariables false
namespace Go.Proofs.YtbjmadcbhkeenaaGreat.wr
open Go.RowKit st hs shr sh
set_option maxHeartbeats 4000000 in
theorem open_v1 (k : List Int) (x : Env) (c : List Int) (ao : Option Addr) (cap mc : Nat) (w : World) (hk : k.length = 32) (ok : Octs k) (hx : x.Ok) (hv : x.v = 1) (he : 0 ≤ x.e ∧ x.e ≤ 4294967295) (hmc : mc = c.length) (HP : Pt.Ok w ⟨ao, cap, c⟩) (hno : ao = none → cap = 0) (hm : mc ≤ 1000000) :
  Calls Tryz.prog 21 #[.agg (k.map (Value.int .u8)).toArray, .agg x.cs.toArray, .slice ao mc cap] w fun r w' => r = .returned (openV k x c) ∧ Below w.heap.size w w' := by
 obtain ⟨B, HB⟩ : ∃ B, Hid (B = w.heap.size) := ⟨_, rfl⟩
 have hsz : w.heap.size = B := HB.out.symm
 obtain ⟨Z, HZ⟩ : ∃ Z, Hid (Z = (List.replicate 32 (0 : Int)).map (Value.int .u8)) := ⟨_, rfl⟩
 have hzK := hid zeroKey
 have HBK : Hid (Tryz.prog.built 23 [] = some ((List.replicate 32 (0 : Int)).map (Value.int .u8)).toArray) := hid (by kernel_rfl)
 rw [← HZ.out] at hzK HBK
 have hZl : Z.length = 32 := by rw [HZ.out]; simp
 have hZ1 : ∀ u ∈ Z, u.oneCell' = true := by rw [HZ.out]; exact ints_one _ _
 obtain ⟨SV, HSV⟩ : ∃ V, Hid (V = (secretX k x).map (Value.int .u8)) := ⟨_, rfl⟩
 have hSl : SV.length = 32 := by rw [HSV.out, List.length_map, secretX_length hx]
 have hS1 : ∀ u ∈ SV, u.oneCell' = true := by rw [HSV.out]; exact ints_one _ _
 have hoV := fun (e : Int) (he0 : e ≠ 0) (h : openE k x c = e) => hid (show openV k x c = .tuple #[.agg Z.toArray, .int .i64 e] by unfold openV; rw [h, if_neg he0, HZ.out])
 have hoA := fun (h1 : (x.b == nameL k) = false) => hoV 6 (by decide) (by unfold openE; rw [if_pos (Ne.symm (beq_eq_false_iff_ne.1 h1))])
 have hoT := fun (h1 : (x.b == nameL k) = true) (h3 : (tagX k x c == x.t) = false) => hoV 13 (by decide) (by unfold openE; rw [if_neg (fun h => h (eq_of_beq h1).symm), if_neg (fun h => by have := h.1; omega), if_pos (beq_eq_false_iff_ne.1 h3)])
 have hoE := fun (h1 : (x.b == nameL k) = true) (h3 : (tagX k x c == x.t) = true) => hid (show openV k x c = .tuple #[.agg SV.toArray, .int .i64 0] by
  have hE : openE k x c = 0 := by unfold openE; rw [if_neg (fun h => h (eq_of_beq h1).symm), if_neg (fun h => by have := h.1; omega), if_neg (fun h => h (eq_of_beq h3)), if_neg (fun h => by have := h.1; omega)]
  unfold openV; rw [hE, if_pos rfl, HSV.out])
 have hnm := fun w => hid (NameOf_any k hk ok w)
 have hcx := fun (y : World) (hb : Below B w y) => hid (contextOf_any ao cap mc c y hmc (HP.below (hsz ▸ hb)) (by omega))
 have htg := fun (y : World) (hb : Below B w y) => hid (tag_1 k x c ao cap mc y hk ok hx hv he hmc (HP.below (hsz ▸ hb)) hno hm)
 have hco := fun w => hid (cover_any k x.e x.n x.g w hk ok he hx.nl hx.no hx.gl hx.go)
 have hns := fun w => hid (NameOf_any (secretX k x) (secretX_length hx) (secretX_octs hx) w)
 rw [show (wrapL k x.e x.n x.g).map (Value.int .u8) = SV by rw [HSV.out]; rfl] at hco
 rw [← HSV.out] at hns
 obtain ⟨K, HK⟩ : ∃ K, Hid (K = k.map (Value.int .u8)) := ⟨_, rfl⟩
 have hKl : K.length = 32 := by rw [HK.out, List.length_map, hk]
 obtain ⟨NV, HNV⟩ : ∃ V, Hid (V = (nameL k).map (Value.int .u8)) := ⟨_, rfl⟩
 obtain ⟨CV, HCV⟩ : ∃ V, Hid (V = (sumL 0 c).map (Value.int .u8)) := ⟨_, rfl⟩
 obtain ⟨TV, HTV⟩ : ∃ V, Hid (V = (tagX k x c).map (Value.int .u8)) := ⟨_, rfl⟩
 obtain ⟨NS, HNS⟩ : ∃ V, Hid (V = (nameL (secretX k x)).map (Value.int .u8)) := ⟨_, rfl⟩
 obtain ⟨XB, HXB⟩ : ∃ V, Hid (V = x.b.map (Value.int .u8)) := ⟨_, rfl⟩
 obtain ⟨XO, HXO⟩ : ∃ V, Hid (V = x.o.map (Value.int .u8)) := ⟨_, rfl⟩
 obtain ⟨XN, HXN⟩ : ∃ V, Hid (V = x.n.map (Value.int .u8)) := ⟨_, rfl⟩
 obtain ⟨XC, HXC⟩ : ∃ V, Hid (V = x.c.map (Value.int .u8)) := ⟨_, rfl⟩
 obtain ⟨XG, HXG⟩ : ∃ V, Hid (V = x.g.map (Value.int .u8)) := ⟨_, rfl⟩
 obtain ⟨XT, HXT⟩ : ∃ V, Hid (V = x.t.map (Value.int .u8)) := ⟨_, rfl⟩
 have hXBl : XB.length = 16 := by rw [HXB.out, List.length_map, hx.bl]
 have hXOl : XO.length = 16 := by rw [HXO.out, List.length_map, hx.ol]
 have hXNl : XN.length = 16 := by rw [HXN.out, List.length_map, hx.nl]
 have hXCl : XC.length = 32 := by rw [HXC.out, List.length_map, hx.cl]
 have hXGl : XG.length = 32 := by rw [HXG.out, List.length_map, hx.gl]
 have hXTl : XT.length = 16 := by rw [HXT.out, List.length_map, hx.tl]
 have heN := fun (t : Bool) (h : (x.b == nameL k) = t) => hid (show ∀ w, (Op.equalIn 10000 27 (.agg XB.toArray) (.agg NV.toArray)).run Tryz.prog w = .ok t w from fun w => by rw [HXB.out, HNV.out, run_eq_id w x.b (nameL k) hx.bl (nameL_length k), h])
 have heC := fun (t : Bool) (h : (x.c == sumL 0 c) = t) => hid (show ∀ w, (Op.equalIn 10000 54 (.agg XC.toArray) (.agg CV.toArray)).run Tryz.prog w = .ok t w from fun w => by rw [HXC.out, HCV.out, run_eq_sum' w x.c (sumL 0 c) hx.cl (sumL_length _ _), h])
 have heT := fun (t : Bool) (h : (tagX k x c == x.t) = t) => hid (show ∀ w, (Op.equalIn 10000 55 (.agg TV.toArray) (.agg XT.toArray)).run Tryz.prog w = .ok t w from fun w => by rw [HXT.out, HTV.out, run_eq_tag w (tagX k x c) x.t (tagX_length _ _ _) hx.tl, h])
 have heO := fun (t : Bool) (h : (nameL (secretX k x) == x.o) = t) => hid (show ∀ w, (Op.equalIn 10000 27 (.agg NS.toArray) (.agg XO.toArray)).run Tryz.prog w = .ok t w from fun w => by rw [HXO.out, HNS.out, run_eq_id w (nameL (secretX k x)) x.o (nameL_length _) hx.ol, h])
 have hcv : Hid (x.cs[0]? = some (.int .i64 1)) := hid (by rw [← hv]; exact x.cv)
 have hce := hid x.ce
 have fB : Hid (∀ w, BlkV 57 w (B + 1) x.cs → w.rangeAt (B + 1) 2 XB) := hid (fun w h => by rw [HXB.out]; exact at_range (env_b h))
 have fO : Hid (∀ w, BlkV 57 w (B + 1) x.cs → w.rangeAt (B + 1) 18 XO) := hid (fun w h => by rw [HXO.out]; exact at_range (env_o hx h))
 have fN : Hid (∀ w, BlkV 57 w (B + 1) x.cs → At w ⟨B + 1, 34, none⟩ XN) := hid (fun w h => by rw [HXN.out]; exact env_n hx h)
 have fC : Hid (∀ w, BlkV 57 w (B + 1) x.cs → w.rangeAt (B + 1) 50 XC) := hid (fun w h => by rw [HXC.out]; exact at_range (env_c hx h))
 have fG : Hid (∀ w, BlkV 57 w (B + 1) x.cs → At w ⟨B + 1, 82, none⟩ XG) := hid (fun w h => by rw [HXG.out]; exact env_g hx h)
 have fT : Hid (∀ w, BlkV 57 w (B + 1) x.cs → w.rangeAt (B + 1) 114 XT) := hid (fun w h => by rw [HXT.out]; exact at_range (env_t hx h))
 obtain ⟨CS, HCS⟩ : ∃ C, Hid (C = x.cs) := ⟨_, rfl⟩
 have hCl : CS.length = 130 := by rw [HCS.out]; exact hx.csl
 obtain ⟨E, HE⟩ : ∃ E, Hid (E = x.e) := ⟨_, rfl⟩
 rw [← HE.out] at hco hce
 rw [← HXN.out, ← HXG.out] at hco
 rw [← HK.out] at hnm htg hco ⊢
 rw [← HNV.out] at hnm
 rw [← HCV.out] at hcx
 rw [← HTV.out] at htg
 rw [← HNS.out] at hns
 rw [← HCS.out] at htg hcv hce fB fO fN fC fG fT ⊢
 have hu23 := Tryz.underlying23
 have hi23 : (Tryz.prog.info? 23).map (·.size) = some K.length := by rw [hKl]; exact aggKey.2
 have hiS : (Tryz.prog.info? 23).map (·.size) = some SV.length := by rw [hSl]; exact aggKey.2
 have huI := Tryz.underlying27
 have hiI : (Tryz.prog.info? 27).map (·.size) = some XB.length := by rw [hXBl]; exact aggID.2
 have hiO : (Tryz.prog.info? 27).map (·.size) = some XO.length := by rw [hXOl]; exact aggID.2
 have huC := Tryz.underlying54
 have hiC : (Tryz.prog.info? 54).map (·.size) = some XC.length := by rw [hXCl]; exact aggSumT.2
 have huT := Tryz.underlying55
 have hiT : (Tryz.prog.info? 55).map (·.size) = some XT.length := by rw [hXTl]; exact aggTag.2
 have huE := Tryz.underlying57
 have hiE : (Tryz.prog.info? 57).map (·.size) = some CS.length := by rw [hCl]; exact aggEnv.2
 have huS := hu23
 have huO := huI
 clear hk hx hv he hmc HP hoV
 go_enter Tryz.func21, Tryz.ntmps21
 go_wp2_with (first | (refine wl_allocV rfl 23 rfl Z hzK.out (B + 2) hs1 ?_; intro w2 hR2 hb2 hs2; have hB2 := hB1.below hb2 (by omega); have hX2 := hX1.below hb2 (by omega); have bb2 := bb1.trans (hb2.mono (by omega : B ≤ _)); clear hB1 hX1 bb1 hb2) | (refine wl_boxV rfl 57 _ rfl CS rfl (B + 1) hs0 ?_; intro w1 hX1 hb1 hs1; have hB1 := hB0.below hb1 (by omega); have bb1 := hb0.trans (hb1.mono (by omega : B ≤ _)); clear hB0 hb0 hb1) | (refine wl_boxV rfl 23 _ rfl K rfl B hsz ?_; intro w0 hB0 hb0 hs0))
 have hs2' : B + 3 ≤ w2.heap.size := by omega
 clear hs0 hs1 hs2
 cases h1 : (x.b == nameL k)
 ·skip
  have heN := heN _ h1
  refine wp_region_held_drew (S := (fun w' => BlkV 23 w' B K ∧ BlkV 57 w' (B + 1) CS ∧ True)) (by kernel_rfl) ⟨(show BlkV 23 w2.drew B K from hB2), (show BlkV 57 w2.drew (B + 1) CS from hX2), trivial⟩ (fun hHeld => ?_)
  obtain ⟨y3, HY3⟩ : ∃ y, Hid (y = w2.drew) := ⟨_, rfl⟩
  rw [← HY3.out] at hHeld ⊢
  have hB3 : BlkV 23 y3 B K := by rw [HY3.out]; exact hB2
  have hX3 : BlkV 57 y3 (B + 1) CS := by rw [HY3.out]; exact hX2
  have hR3 : BlkV 23 y3 (B + 2) Z := by rw [HY3.out]; exact hR2
  have bb3 : Below B w y3 := by rw [HY3.out]; exact bb2.drew
  have hsy3 : B + 3 ≤ y3.heap.size := by rw [HY3.out]; show B + 3 ≤ w2.heap.size; exact hs2'
  refine tkP 0 rfl (by assumption) ⟨?_, ?_, ?_⟩
  rotate_left
  ·intro w hSw; (try dsimp only at hSw); go_simp; (try with_reducible rfl)
  try simp only [Act.put, sArr, sZ, sS]
  refine tkR 1 rfl (yieldsIf_load_mid (by rfl) 27 _ rfl (B + 1) 2 rfl XB _ (fun w hS => fB.out w hS.2.1) huI rfl hiI) (by assumption) ?_
  try simp only [Act.put, sArr, sZ, sS]
  refine tkR 2 rfl (yieldsIf_load_mid (by rfl) 23 _ rfl B 0 rfl K _ (fun w hS => at_range hS.1.at0) hu23 rfl hi23) (by assumption) ?_
  try simp only [Act.put, sArr, sZ, sS]
  refine wpAnyH_ready (rs := [3]) (by kernel_rfl) (by simp) (cons_l rfl (fun K' hK' => ?_) AllReadyH.nil)
  rw [if_pos (by kernel_rfl)]
  go_simp
  go_at_call 20
  refine (hnm y3).out.mono ?_
  rintro e y4 ⟨rfl, hbx4⟩
  have hB4 := hB3.below hbx4 hB3.lt
  have hX4 := hX3.below hbx4 hX3.lt
  have hR4 := hR3.below hbx4 hR3.lt
  have bb4 := bb3.trans (hbx4.mono (by omega : B ≤ _))
  have hsy4 : B + 3 ≤ y4.heap.size := Nat.le_trans hsy3 hbx4.size
  refine hK'.out _ _ ⟨hB4, hX4, trivial⟩ (fun hHeld => ?_)
  clear hK' K'
  try simp only [Act.put, sArr, sZ, sS]
  refine tkR 4 rfl (yieldsIf_neM (by rfl) 27 _ _ _ rfl XB.toArray NV.toArray rfl rfl false heN.out (by kernel_rfl)) (by assumption) ?_
  try simp only [Act.put, sArr, sZ, sS]
  refine wpAnyH_done (by kernel_rfl) ?_ _
  clear hHeld
  go_wp2_with (first | (refine wl_storeV rfl 23 _ _ rfl 23 (B + 2) rfl Z rfl 32 aggKey hZl Z hR4 hZl hZ1 ?_; intro vF hRF hbF hsF; have bbF := bb4.trans (hbF.mono (by omega : B ≤ _)); clear hR4) | (refine wl_build0 rfl 23 rfl Z HBK.out ?_))
  (try simp only [Exit.inBlock, Exit.then]); refine bodyPost_ret (results_cell2 rfl _ _ _ _ rfl Z (by rw [hZl]; exact aggKey) hRF.at0) rfl ?_
  exact ⟨by rw [(hoA h1).out]; rfl, by rw [← HB.out]; exact bbF⟩
 have heN := heN _ h1
 refine wp_region_held_drew (S := (fun w' => BlkV 23 w' B K ∧ BlkV 57 w' (B + 1) CS ∧ True)) (by kernel_rfl) ⟨(show BlkV 23 w2.drew B K from hB2), (show BlkV 57 w2.drew (B + 1) CS from hX2), trivial⟩ (fun hHeld => ?_)
 obtain ⟨y3, HY3⟩ : ∃ y, Hid (y = w2.drew) := ⟨_, rfl⟩
 rw [← HY3.out] at hHeld ⊢
 have hB3 : BlkV 23 y3 B K := by rw [HY3.out]; exact hB2
 have hX3 : BlkV 57 y3 (B + 1) CS := by rw [HY3.out]; exact hX2
 have hR3 : BlkV 23 y3 (B + 2) Z := by rw [HY3.out]; exact hR2
 have bb3 : Below B w y3 := by rw [HY3.out]; exact bb2.drew
 have hsy3 : B + 3 ≤ y3.heap.size := by rw [HY3.out]; show B + 3 ≤ w2.heap.size; exact hs2'
 refine tkP 0 rfl (by assumption) ⟨?_, ?_, ?_⟩
 rotate_left
 ·intro w hSw; (try dsimp only at hSw); go_simp; (try with_reducible rfl)
 try simp only [Act.put, sArr, sZ, sS]
 refine tkR 1 rfl (yieldsIf_load_mid (by rfl) 27 _ rfl (B + 1) 2 rfl XB _ (fun w hS => fB.out w hS.2.1) huI rfl hiI) (by assumption) ?_
 try simp only [Act.put, sArr, sZ, sS]
 refine tkR 2 rfl (yieldsIf_load_mid (by rfl) 23 _ rfl B 0 rfl K _ (fun w hS => at_range hS.1.at0) hu23 rfl hi23) (by assumption) ?_
 try simp only [Act.put, sArr, sZ, sS]
 refine wpAnyH_ready (rs := [3]) (by kernel_rfl) (by simp) (cons_l rfl (fun K' hK' => ?_) AllReadyH.nil)
 rw [if_pos (by kernel_rfl)]
 go_simp
 go_at_call 20
 refine (hnm y3).out.mono ?_
 rintro e y4 ⟨rfl, hbx4⟩
 have hB4 := hB3.below hbx4 hB3.lt
 have hX4 := hX3.below hbx4 hX3.lt
 have hR4 := hR3.below hbx4 hR3.lt
 have bb4 := bb3.trans (hbx4.mono (by omega : B ≤ _))
 have hsy4 : B + 3 ≤ y4.heap.size := Nat.le_trans hsy3 hbx4.size
 refine hK'.out _ _ ⟨hB4, hX4, trivial⟩ (fun hHeld => ?_)
 clear hK' K'
 try simp only [Act.put, sArr, sZ, sS]
 refine tkR 4 rfl (yieldsIf_neM (by rfl) 27 _ _ _ rfl XB.toArray NV.toArray rfl rfl true heN.out (by kernel_rfl)) (by assumption) ?_
 try simp only [Act.put, sArr, sZ, sS]
 refine wpAnyH_done (by kernel_rfl) ?_ _
 clear hHeld
 go_wp2_with fail
 refine wp_region_held_drew (S := (fun w' => BlkV 23 w' B K ∧ BlkV 57 w' (B + 1) CS ∧ True)) (by kernel_rfl) ⟨(show BlkV 23 y4.drew B K from hB4), (show BlkV 57 y4.drew (B + 1) CS from hX4), trivial⟩ (fun hHeld => ?_)
 obtain ⟨y5, HY5⟩ : ∃ y, Hid (y = y4.drew) := ⟨_, rfl⟩
 rw [← HY5.out] at hHeld ⊢
 have hB5 : BlkV 23 y5 B K := by rw [HY5.out]; exact hB4
 have hX5 : BlkV 57 y5 (B + 1) CS := by rw [HY5.out]; exact hX4
 have hR5 : BlkV 23 y5 (B + 2) Z := by rw [HY5.out]; exact hR4
 have bb5 : Below B w y5 := by rw [HY5.out]; exact bb4.drew
 have hsy5 : B + 3 ≤ y5.heap.size := by rw [HY5.out]; show B + 3 ≤ y4.heap.size; exact hsy4
 refine tkP 0 rfl (by assumption) ⟨?_, ?_, ?_⟩
 rotate_left
 ·intro w hSw; (try dsimp only at hSw); go_simp; (try with_reducible rfl)
 try simp only [Act.put, sArr, sZ, sS]
 refine tkP 1 rfl (by assumption) ⟨?_, ?_, ?_⟩
 rotate_left
 ·intro w hSw; have c0 := (hSw.2.1.cell 0).trans hcv.out; (try dsimp only at hSw); go_simp; (try with_reducible rfl)
 try simp only [Act.put, sArr, sZ, sS]
 refine tkP 2 rfl (by assumption) ⟨?_, ?_, ?_⟩
 rotate_left
 ·intro w hSw; (try dsimp only at hSw); go_simp; (try with_reducible rfl)
 try simp only [Act.put, sArr, sZ, sS]
 refine tkP 3 rfl (by assumption) ⟨?_, ?_, ?_⟩
 rotate_left
 ·intro w hSw; (try dsimp only at hSw); go_simp; (try with_reducible rfl)
 try simp only [Act.put, sArr, sZ, sS]
 refine tkR 4 rfl (Or.inr ⟨by kernel_rfl, rfl⟩) (by assumption) ?_
 try simp only [Act.put, sArr, sZ, sS]
 refine tkR 5 rfl (Or.inr ⟨by kernel_rfl, rfl⟩) (by assumption) ?_
 try simp only [Act.put, sArr, sZ, sS]
 refine tkR 6 rfl (Or.inr ⟨by kernel_rfl, rfl⟩) (by assumption) ?_
 try simp only [Act.put, sArr, sZ, sS]
 refine tkR 7 rfl (Or.inr ⟨by kernel_rfl, rfl⟩) (by assumption) ?_
 try simp only [Act.put, sArr, sZ, sS]
 refine tkR 8 rfl (Or.inr ⟨by kernel_rfl, rfl⟩) (by assumption) ?_
 try simp only [Act.put, sArr, sZ, sS]
 refine tkP 9 rfl (by assumption) ⟨?_, ?_, ?_⟩
 rotate_left
 ·intro w hSw; (try dsimp only at hSw); go_simp; (try with_reducible rfl)
 try simp only [Act.put, sArr, sZ, sS]
 refine wpAnyH_done (by kernel_rfl) ?_ _
 clear hHeld
 go_wp2_with fail
 cases h3 : (tagX k x c == x.t)
 ·skip
  have heT := heT _ h3
  refine wp_region_held_drew (S := (fun w' => BlkV 23 w' B K ∧ BlkV 57 w' (B + 1) CS ∧ True)) (by kernel_rfl) ⟨(show BlkV 23 y5.drew B K from hB5), (show BlkV 57 y5.drew (B + 1) CS from hX5), trivial⟩ (fun hHeld => ?_)
  obtain ⟨y6, HY6⟩ : ∃ y, Hid (y = y5.drew) := ⟨_, rfl⟩
  rw [← HY6.out] at hHeld ⊢
  have hB6 : BlkV 23 y6 B K := by rw [HY6.out]; exact hB5
  have hX6 : BlkV 57 y6 (B + 1) CS := by rw [HY6.out]; exact hX5
  have hR6 : BlkV 23 y6 (B + 2) Z := by rw [HY6.out]; exact hR5
  have bb6 : Below B w y6 := by rw [HY6.out]; exact bb5.drew
  have hsy6 : B + 3 ≤ y6.heap.size := by rw [HY6.out]; show B + 3 ≤ y5.heap.size; exact hsy5
  refine tkR 0 rfl (yieldsIf_load_mid (by rfl) 23 _ rfl B 0 rfl K _ (fun w hS => at_range hS.1.at0) hu23 rfl hi23) (by assumption) ?_
  try simp only [Act.put, sArr, sZ, sS]
  refine tkR 1 rfl (yieldsIf_load_mid (by rfl) 57 _ rfl (B + 1) 0 rfl CS _ (fun w hS => at_range hS.2.1.at0) huE rfl hiE) (by assumption) ?_
  try simp only [Act.put, sArr, sZ, sS]
  refine tkP 2 rfl (by assumption) ⟨?_, ?_, ?_⟩
  rotate_left
  ·intro w hSw; (try dsimp only at hSw); go_simp; (try with_reducible rfl)
  try simp only [Act.put, sArr, sZ, sS]
  refine tkP 4 rfl (by assumption) ⟨?_, ?_, ?_⟩
  rotate_left
  ·intro w hSw; (try dsimp only at hSw); go_simp; (try with_reducible rfl)
  try simp only [Act.put, sArr, sZ, sS]
  refine tkR 5 rfl (yieldsIf_load_mid (by rfl) 55 _ rfl (B + 1) 114 rfl XT _ (fun w hS => fT.out w hS.2.1) huT rfl hiT) (by assumption) ?_
  try simp only [Act.put, sArr, sZ, sS]
  refine wpAnyH_ready (rs := [3]) (by kernel_rfl) (by simp) (cons_l rfl (fun K' hK' => ?_) AllReadyH.nil)
  rw [if_pos (by kernel_rfl)]
  go_simp
  go_at_call 44
  refine (htg y6 bb6).out.mono ?_
  rintro e y7 ⟨rfl, hbx7⟩
  have hB7 := hB6.below hbx7 hB6.lt
  have hX7 := hX6.below hbx7 hX6.lt
  have hR7 := hR6.below hbx7 hR6.lt
  have bb7 := bb6.trans (hbx7.mono (by omega : B ≤ _))
  have hsy7 : B + 3 ≤ y7.heap.size := Nat.le_trans hsy6 hbx7.size
  refine hK'.out _ _ ⟨hB7, hX7, trivial⟩ (fun hHeld => ?_)
  clear hK' K'
  try simp only [Act.put, sArr, sZ, sS]
  refine tkR 6 rfl (yieldsIf_neM (by rfl) 55 _ _ _ rfl TV.toArray XT.toArray rfl rfl false heT.out (by kernel_rfl)) (by assumption) ?_
  try simp only [Act.put, sArr, sZ, sS]
  refine wpAnyH_done (by kernel_rfl) ?_ _
  clear hHeld
  go_wp2_with (first | (refine wl_storeV rfl 23 _ _ rfl 23 (B + 2) rfl Z rfl 32 aggKey hZl Z hR7 hZl hZ1 ?_; intro vF hRF hbF hsF; have bbF := bb7.trans (hbF.mono (by omega : B ≤ _)); clear hR7) | (refine wl_build0 rfl 23 rfl Z HBK.out ?_))
  (try simp only [Exit.inBlock, Exit.then]); refine bodyPost_ret (results_cell2 rfl _ _ _ _ rfl Z (by rw [hZl]; exact aggKey) hRF.at0) rfl ?_
  exact ⟨by rw [(hoT h1 h3).out]; rfl, by rw [← HB.out]; exact bbF⟩
 have heT := heT _ h3
 refine wp_region_held_drew (S := (fun w' => BlkV 23 w' B K ∧ BlkV 57 w' (B + 1) CS ∧ True)) (by kernel_rfl) ⟨(show BlkV 23 y5.drew B K from hB5), (show BlkV 57 y5.drew (B + 1) CS from hX5), trivial⟩ (fun hHeld => ?_)
 obtain ⟨y6, HY6⟩ : ∃ y, Hid (y = y5.drew) := ⟨_, rfl⟩
 rw [← HY6.out] at hHeld ⊢
 have hB6 : BlkV 23 y6 B K := by rw [HY6.out]; exact hB5
 have hX6 : BlkV 57 y6 (B + 1) CS := by rw [HY6.out]; exact hX5
 have hR6 : BlkV 23 y6 (B + 2) Z := by rw [HY6.out]; exact hR5
 have bb6 : Below B w y6 := by rw [HY6.out]; exact bb5.drew
 have hsy6 : B + 3 ≤ y6.heap.size := by rw [HY6.out]; show B + 3 ≤ y5.heap.size; exact hsy5
 refine tkR 0 rfl (yieldsIf_load_mid (by rfl) 23 _ rfl B 0 rfl K _ (fun w hS => at_range hS.1.at0) hu23 rfl hi23) (by assumption) ?_
 try simp only [Act.put, sArr, sZ, sS]
 refine tkR 1 rfl (yieldsIf_load_mid (by rfl) 57 _ rfl (B + 1) 0 rfl CS _ (fun w hS => at_range hS.2.1.at0) huE rfl hiE) (by assumption) ?_
 try simp only [Act.put, sArr, sZ, sS]
 refine tkP 2 rfl (by assumption) ⟨?_, ?_, ?_⟩
 rotate_left
 ·intro w hSw; (try dsimp only at hSw); go_simp; (try with_reducible rfl)
 try simp only [Act.put, sArr, sZ, sS]
 refine tkP 4 rfl (by assumption) ⟨?_, ?_, ?_⟩
 rotate_left
 ·intro w hSw; (try dsimp only at hSw); go_simp; (try with_reducible rfl)
 try simp only [Act.put, sArr, sZ, sS]
 refine tkR 5 rfl (yieldsIf_load_mid (by rfl) 55 _ rfl (B + 1) 114 rfl XT _ (fun w hS => fT.out w hS.2.1) huT rfl hiT) (by assumption) ?_
 try simp only [Act.put, sArr, sZ, sS]
 refine wpAnyH_ready (rs := [3]) (by kernel_rfl) (by simp) (cons_l rfl (fun K' hK' => ?_) AllReadyH.nil)
 rw [if_pos (by kernel_rfl)]
 go_simp
 go_at_call 44
 refine (htg y6 bb6).out.mono ?_
 rintro e y7 ⟨rfl, hbx7⟩
 have hB7 := hB6.below hbx7 hB6.lt
 have hX7 := hX6.below hbx7 hX6.lt
 have hR7 := hR6.below hbx7 hR6.lt
 have bb7 := bb6.trans (hbx7.mono (by omega : B ≤ _))
 have hsy7 : B + 3 ≤ y7.heap.size := Nat.le_trans hsy6 hbx7.size
 refine hK'.out _ _ ⟨hB7, hX7, trivial⟩ (fun hHeld => ?_)
 clear hK' K'
 try simp only [Act.put, sArr, sZ, sS]
 refine tkR 6 rfl (yieldsIf_neM (by rfl) 55 _ _ _ rfl TV.toArray XT.toArray rfl rfl true heT.out (by kernel_rfl)) (by assumption) ?_
 try simp only [Act.put, sArr, sZ, sS]
 refine wpAnyH_done (by kernel_rfl) ?_ _
 clear hHeld
 have cE := (hX7.cell 1).trans hce.out
 go_wp2_with (first | (refine wl_storeV rfl 23 _ _ rfl 23 G rfl SV rfl 32 aggKey hSl Z hG9 hZl hS1 ?_; intro y10 hG10 hbx10 hsx10; have hB10 := hB9.below hbx10 (by omega); have hX10 := hX9.below hbx10 (by omega); have hR10 := hR9.below hbx10 (by omega); have bb10 := bb9.trans (hbx10.mono (by omega : B ≤ _)); have hsy10 : B + 3 ≤ y10.heap.size := (by have := hG10.lt; omega); clear hB9 hX9 hR9 bb9 hG9) | (refine wl_allocV rfl 23 rfl Z hzK.out y8.heap.size rfl ?_; intro y9 hG9 hbx9 hsx9; obtain ⟨G, HG⟩ : ∃ g, Hid (g = y8.heap.size) := ⟨_, rfl⟩; rw [← HG.out] at hG9 hbx9 hsx9; rw [← HG.out]; have hG3 : B + 3 ≤ G := (by rw [HG.out]; exact hsy8); have hB9 := hB8.below hbx9 (by omega); have hX9 := hX8.below hbx9 (by omega); have hR9 := hR8.below hbx9 (by omega); have bb9 := bb8.trans (hbx9.mono (by omega : B ≤ _)); clear hB8 hX8 hR8 bb8) | (go_at_call 45; refine (hco y7).out.mono ?_; rintro e y8 ⟨rfl, hbx8⟩; have hB8 := hB7.below hbx8 hB7.lt; have hX8 := hX7.below hbx8 hX7.lt; have hR8 := hR7.below hbx8 hR7.lt; have bb8 := bb7.trans (hbx8.mono (by omega : B ≤ _)); have hsy8 : B + 3 ≤ y8.heap.size := Nat.le_trans hsy7 hbx8.size; clear hB7 hX7 hR7 bb7) | (refine wl_load rfl 22 _ rfl ⟨B + 1, 82, none⟩ rfl XG (by rw [hXGl]; exact agg32) (fG.out _ hX7) ?_) | (refine wl_load rfl 53 _ rfl ⟨B + 1, 34, none⟩ rfl XN (by rw [hXNl]; exact aggNo) (fN.out _ hX7) ?_) | (refine wl_load rfl 23 _ rfl ⟨B, 0, none⟩ rfl K (by rw [hKl]; exact aggKey) hB7.at0 ?_))
 refine wp_region_held_drew (S := (fun w' => BlkV 23 w' B K ∧ BlkV 57 w' (B + 1) CS ∧ BlkV 23 w' G SV)) (by kernel_rfl) ⟨(show BlkV 23 y10.drew B K from hB10), (show BlkV 57 y10.drew (B + 1) CS from hX10), (show BlkV 23 y10.drew G SV from hG10)⟩ (fun hHeld => ?_)
 obtain ⟨y11, HY11⟩ : ∃ y, Hid (y = y10.drew) := ⟨_, rfl⟩
 rw [← HY11.out] at hHeld ⊢
 have hB11 : BlkV 23 y11 B K := by rw [HY11.out]; exact hB10
 have hX11 : BlkV 57 y11 (B + 1) CS := by rw [HY11.out]; exact hX10
 have hR11 : BlkV 23 y11 (B + 2) Z := by rw [HY11.out]; exact hR10
 have bb11 : Below B w y11 := by rw [HY11.out]; exact bb10.drew
 have hsy11 : B + 3 ≤ y11.heap.size := by rw [HY11.out]; show B + 3 ≤ y10.heap.size; exact hsy10
 have hG11 : BlkV 23 y11 G SV := by rw [HY11.out]; exact hG10
 refine tkP 0 rfl (by assumption) ⟨?_, ?_, ?_⟩
 rotate_left
 ·intro w hSw; (try dsimp only at hSw); go_simp; (try with_reducible rfl)
 try simp only [Act.put, sArr, sZ, sS]
 refine tkP 1 rfl (by assumption) ⟨?_, ?_, ?_⟩
 rotate_left
 ·intro w hSw; have c0 := (hSw.2.1.cell 0).trans hcv.out; (try dsimp only at hSw); go_simp; (try with_reducible rfl)
 try simp only [Act.put, sArr, sZ, sS]
 refine tkP 2 rfl (by assumption) ⟨?_, ?_, ?_⟩
 rotate_left
 ·intro w hSw; (try dsimp only at hSw); go_simp; (try with_reducible rfl)
 try simp only [Act.put, sArr, sZ, sS]
 refine tkP 3 rfl (by assumption) ⟨?_, ?_, ?_⟩
 rotate_left
 ·intro w hSw; (try dsimp only at hSw); go_simp; (try with_reducible rfl)
 try simp only [Act.put, sArr, sZ, sS]
 refine tkR 4 rfl (Or.inr ⟨by kernel_rfl, rfl⟩) (by assumption) ?_
 try simp only [Act.put, sArr, sZ, sS]
 refine tkR 5 rfl (Or.inr ⟨by kernel_rfl, rfl⟩) (by assumption) ?_
 try simp only [Act.put, sArr, sZ, sS]
 refine tkR 6 rfl (Or.inr ⟨by kernel_rfl, rfl⟩) (by assumption) ?_
 try simp only [Act.put, sArr, sZ, sS]
 refine tkR 7 rfl (Or.inr ⟨by kernel_rfl, rfl⟩) (by assumption) ?_
 try simp only [Act.put, sArr, sZ, sS]
 refine tkR 8 rfl (Or.inr ⟨by kernel_rfl, rfl⟩) (by assumption) ?_
 try simp only [Act.put, sArr, sZ, sS]
 refine tkP 9 rfl (by assumption) ⟨?_, ?_, ?_⟩
 rotate_left
 ·intro w hSw; (try dsimp only at hSw); go_simp; (try with_reducible rfl)
 try simp only [Act.put, sArr, sZ, sS]
 refine wpAnyH_done (by kernel_rfl) ?_ _
 clear hHeld
 go_wp2_with (first | (refine wl_storeV rfl 23 _ _ rfl 23 (B + 2) rfl SV rfl 32 aggKey hSl Z hR11 hZl hS1 ?_; intro vF hRF hbF hsF; have bbF := bb11.trans (hbF.mono (by omega : B ≤ _)); clear hR11) | (refine wl_load rfl 23 _ rfl ⟨G, 0, none⟩ rfl SV (by rw [hSl]; exact aggKey) hG11.at0 ?_))
 (try simp only [Exit.inBlock, Exit.then]); refine bodyPost_ret (results_cell2 rfl _ _ _ _ rfl SV (by rw [hSl]; exact aggKey) hRF.at0) rfl ?_
 exact ⟨by rw [(hoE h1 h3).out]; rfl, by rw [← HB.out]; exact bbF⟩
set_option maxHeartbeats 4000000 in
theorem open_v2 (k : List Int) (x : Env) (c : List Int) (ao : Option Addr) (cap mc : Nat) (w : World) (hk : k.length = 32) (ok : Octs k) (hx : x.Ok) (hv : x.v = 2) (he : 0 ≤ x.e ∧ x.e ≤ 4294967295) (hmc : mc = c.length) (HP : Pt.Ok w ⟨ao, cap, c⟩) (hno : ao = none → cap = 0) (hm : mc ≤ 1000000) :
  Calls Tryz.prog 21 #[.agg (k.map (Value.int .u8)).toArray, .agg x.cs.toArray, .slice ao mc cap] w fun r w' => r = .returned (openV k x c) ∧ Below w.heap.size w w' := by
 obtain ⟨B, HB⟩ : ∃ B, Hid (B = w.heap.size) := ⟨_, rfl⟩
 have hsz : w.heap.size = B := HB.out.symm
 obtain ⟨Z, HZ⟩ : ∃ Z, Hid (Z = (List.replicate 32 (0 : Int)).map (Value.int .u8)) := ⟨_, rfl⟩
 have hzK := hid zeroKey
 have HBK : Hid (Tryz.prog.built 23 [] = some ((List.replicate 32 (0 : Int)).map (Value.int .u8)).toArray) := hid (by kernel_rfl)
 rw [← HZ.out] at hzK HBK
 have hZl : Z.length = 32 := by rw [HZ.out]; simp
 have hZ1 : ∀ u ∈ Z, u.oneCell' = true := by rw [HZ.out]; exact ints_one _ _
 obtain ⟨SV, HSV⟩ : ∃ V, Hid (V = (secretX k x).map (Value.int .u8)) := ⟨_, rfl⟩
 have hSl : SV.length = 32 := by rw [HSV.out, List.length_map, secretX_length hx]
 have hS1 : ∀ u ∈ SV, u.oneCell' = true := by rw [HSV.out]; exact ints_one _ _
 have hoV := fun (e : Int) (he0 : e ≠ 0) (h : openE k x c = e) => hid (show openV k x c = .tuple #[.agg Z.toArray, .int .i64 e] by unfold openV; rw [h, if_neg he0, HZ.out])
 have hoA := fun (h1 : (x.b == nameL k) = false) => hoV 6 (by decide) (by unfold openE; rw [if_pos (Ne.symm (beq_eq_false_iff_ne.1 h1))])
 have hoC := fun (h1 : (x.b == nameL k) = true) (h2 : (x.c == sumL 0 c) = false) => hoV 17 (by decide) (by unfold openE; rw [if_neg (fun h => h (eq_of_beq h1).symm), if_pos ⟨hv, Ne.symm (beq_eq_false_iff_ne.1 h2)⟩])
 have hoT := fun (h1 : (x.b == nameL k) = true) (h2 : (x.c == sumL 0 c) = true) (h3 : (tagX k x c == x.t) = false) => hoV 13 (by decide) (by unfold openE; rw [if_neg (fun h => h (eq_of_beq h1).symm), if_neg (fun h => h.2 (eq_of_beq h2).symm), if_pos (beq_eq_false_iff_ne.1 h3)])
 have hoO := fun (h1 : (x.b == nameL k) = true) (h2 : (x.c == sumL 0 c) = true) (h3 : (tagX k x c == x.t) = true) (h4 : (nameL (secretX k x) == x.o) = false) => hoV 13 (by decide) (by unfold openE; rw [if_neg (fun h => h (eq_of_beq h1).symm), if_neg (fun h => h.2 (eq_of_beq h2).symm), if_neg (fun h => h (eq_of_beq h3)), if_pos ⟨hv, beq_eq_false_iff_ne.1 h4⟩])
 have hoE := fun (h1 : (x.b == nameL k) = true) (h2 : (x.c == sumL 0 c) = true) (h3 : (tagX k x c == x.t) = true) (h4 : (nameL (secretX k x) == x.o) = true) => hid (show openV k x c = .tuple #[.agg SV.toArray, .int .i64 0] by
  have hE : openE k x c = 0 := by unfold openE; rw [if_neg (fun h => h (eq_of_beq h1).symm), if_neg (fun h => h.2 (eq_of_beq h2).symm), if_neg (fun h => h (eq_of_beq h3)), if_neg (fun h => h.2 (eq_of_beq h4))]
  unfold openV; rw [hE, if_pos rfl, HSV.out])
 have hnm := fun w => hid (NameOf_any k hk ok w)
 have hcx := fun (y : World) (hb : Below B w y) => hid (contextOf_any ao cap mc c y hmc (HP.below (hsz ▸ hb)) (by omega))
 have htg := fun (y : World) (hb : Below B w y) => hid (tag_2 k x c ao cap mc y hk ok hx hv he hmc (HP.below (hsz ▸ hb)) hno hm)
 have hco := fun w => hid (cover_any k x.e x.n x.g w hk ok he hx.nl hx.no hx.gl hx.go)
 have hns := fun w => hid (NameOf_any (secretX k x) (secretX_length hx) (secretX_octs hx) w)
 rw [show (wrapL k x.e x.n x.g).map (Value.int .u8) = SV by rw [HSV.out]; rfl] at hco
 rw [← HSV.out] at hns
 obtain ⟨K, HK⟩ : ∃ K, Hid (K = k.map (Value.int .u8)) := ⟨_, rfl⟩
 have hKl : K.length = 32 := by rw [HK.out, List.length_map, hk]
 obtain ⟨NV, HNV⟩ : ∃ V, Hid (V = (nameL k).map (Value.int .u8)) := ⟨_, rfl⟩
 obtain ⟨CV, HCV⟩ : ∃ V, Hid (V = (sumL 0 c).map (Value.int .u8)) := ⟨_, rfl⟩
 obtain ⟨TV, HTV⟩ : ∃ V, Hid (V = (tagX k x c).map (Value.int .u8)) := ⟨_, rfl⟩
 obtain ⟨NS, HNS⟩ : ∃ V, Hid (V = (nameL (secretX k x)).map (Value.int .u8)) := ⟨_, rfl⟩
 obtain ⟨XB, HXB⟩ : ∃ V, Hid (V = x.b.map (Value.int .u8)) := ⟨_, rfl⟩
 obtain ⟨XO, HXO⟩ : ∃ V, Hid (V = x.o.map (Value.int .u8)) := ⟨_, rfl⟩
 obtain ⟨XN, HXN⟩ : ∃ V, Hid (V = x.n.map (Value.int .u8)) := ⟨_, rfl⟩
 obtain ⟨XC, HXC⟩ : ∃ V, Hid (V = x.c.map (Value.int .u8)) := ⟨_, rfl⟩
 obtain ⟨XG, HXG⟩ : ∃ V, Hid (V = x.g.map (Value.int .u8)) := ⟨_, rfl⟩
 obtain ⟨XT, HXT⟩ : ∃ V, Hid (V = x.t.map (Value.int .u8)) := ⟨_, rfl⟩
 have hXBl : XB.length = 16 := by rw [HXB.out, List.length_map, hx.bl]
 have hXOl : XO.length = 16 := by rw [HXO.out, List.length_map, hx.ol]
 have hXNl : XN.length = 16 := by rw [HXN.out, List.length_map, hx.nl]
 have hXCl : XC.length = 32 := by rw [HXC.out, List.length_map, hx.cl]
 have hXGl : XG.length = 32 := by rw [HXG.out, List.length_map, hx.gl]
 have hXTl : XT.length = 16 := by rw [HXT.out, List.length_map, hx.tl]
 have heN := fun (t : Bool) (h : (x.b == nameL k) = t) => hid (show ∀ w, (Op.equalIn 10000 27 (.agg XB.toArray) (.agg NV.toArray)).run Tryz.prog w = .ok t w from fun w => by rw [HXB.out, HNV.out, run_eq_id w x.b (nameL k) hx.bl (nameL_length k), h])
 have heC := fun (t : Bool) (h : (x.c == sumL 0 c) = t) => hid (show ∀ w, (Op.equalIn 10000 54 (.agg XC.toArray) (.agg CV.toArray)).run Tryz.prog w = .ok t w from fun w => by rw [HXC.out, HCV.out, run_eq_sum' w x.c (sumL 0 c) hx.cl (sumL_length _ _), h])
 have heT := fun (t : Bool) (h : (tagX k x c == x.t) = t) => hid (show ∀ w, (Op.equalIn 10000 55 (.agg TV.toArray) (.agg XT.toArray)).run Tryz.prog w = .ok t w from fun w => by rw [HXT.out, HTV.out, run_eq_tag w (tagX k x c) x.t (tagX_length _ _ _) hx.tl, h])
 have heO := fun (t : Bool) (h : (nameL (secretX k x) == x.o) = t) => hid (show ∀ w, (Op.equalIn 10000 27 (.agg NS.toArray) (.agg XO.toArray)).run Tryz.prog w = .ok t w from fun w => by rw [HXO.out, HNS.out, run_eq_id w (nameL (secretX k x)) x.o (nameL_length _) hx.ol, h])
 have hcv : Hid (x.cs[0]? = some (.int .i64 2)) := hid (by rw [← hv]; exact x.cv)
 have hce := hid x.ce
 have fB : Hid (∀ w, BlkV 57 w (B + 1) x.cs → w.rangeAt (B + 1) 2 XB) := hid (fun w h => by rw [HXB.out]; exact at_range (env_b h))
 have fO : Hid (∀ w, BlkV 57 w (B + 1) x.cs → w.rangeAt (B + 1) 18 XO) := hid (fun w h => by rw [HXO.out]; exact at_range (env_o hx h))
 have fN : Hid (∀ w, BlkV 57 w (B + 1) x.cs → At w ⟨B + 1, 34, none⟩ XN) := hid (fun w h => by rw [HXN.out]; exact env_n hx h)
 have fC : Hid (∀ w, BlkV 57 w (B + 1) x.cs → w.rangeAt (B + 1) 50 XC) := hid (fun w h => by rw [HXC.out]; exact at_range (env_c hx h))
 have fG : Hid (∀ w, BlkV 57 w (B + 1) x.cs → At w ⟨B + 1, 82, none⟩ XG) := hid (fun w h => by rw [HXG.out]; exact env_g hx h)
 have fT : Hid (∀ w, BlkV 57 w (B + 1) x.cs → w.rangeAt (B + 1) 114 XT) := hid (fun w h => by rw [HXT.out]; exact at_range (env_t hx h))
 obtain ⟨CS, HCS⟩ : ∃ C, Hid (C = x.cs) := ⟨_, rfl⟩
 have hCl : CS.length = 130 := by rw [HCS.out]; exact hx.csl
 obtain ⟨E, HE⟩ : ∃ E, Hid (E = x.e) := ⟨_, rfl⟩
 rw [← HE.out] at hco hce
 rw [← HXN.out, ← HXG.out] at hco
 rw [← HK.out] at hnm htg hco ⊢
 rw [← HNV.out] at hnm
 rw [← HCV.out] at hcx
 rw [← HTV.out] at htg
 rw [← HNS.out] at hns
 rw [← HCS.out] at htg hcv hce fB fO fN fC fG fT ⊢
 have hu23 := Tryz.underlying23
 have hi23 : (Tryz.prog.info? 23).map (·.size) = some K.length := by rw [hKl]; exact aggKey.2
 have hiS : (Tryz.prog.info? 23).map (·.size) = some SV.length := by rw [hSl]; exact aggKey.2
 have huI := Tryz.underlying27
 have hiI : (Tryz.prog.info? 27).map (·.size) = some XB.length := by rw [hXBl]; exact aggID.2
 have hiO : (Tryz.prog.info? 27).map (·.size) = some XO.length := by rw [hXOl]; exact aggID.2
 have huC := Tryz.underlying54
 have hiC : (Tryz.prog.info? 54).map (·.size) = some XC.length := by rw [hXCl]; exact aggSumT.2
 have huT := Tryz.underlying55
 have hiT : (Tryz.prog.info? 55).map (·.size) = some XT.length := by rw [hXTl]; exact aggTag.2
 have huE := Tryz.underlying57
 have hiE : (Tryz.prog.info? 57).map (·.size) = some CS.length := by rw [hCl]; exact aggEnv.2
 have huS := hu23
 have huO := huI
 clear hk hx hv he hmc HP hoV
 go_enter Tryz.func21, Tryz.ntmps21
 go_wp2_with (first | (refine wl_allocV rfl 23 rfl Z hzK.out (B + 2) hs1 ?_; intro w2 hR2 hb2 hs2; have hB2 := hB1.below hb2 (by omega); have hX2 := hX1.below hb2 (by omega); have bb2 := bb1.trans (hb2.mono (by omega : B ≤ _)); clear hB1 hX1 bb1 hb2) | (refine wl_boxV rfl 57 _ rfl CS rfl (B + 1) hs0 ?_; intro w1 hX1 hb1 hs1; have hB1 := hB0.below hb1 (by omega); have bb1 := hb0.trans (hb1.mono (by omega : B ≤ _)); clear hB0 hb0 hb1) | (refine wl_boxV rfl 23 _ rfl K rfl B hsz ?_; intro w0 hB0 hb0 hs0))
 have hs2' : B + 3 ≤ w2.heap.size := by omega
 clear hs0 hs1 hs2
 cases h1 : (x.b == nameL k)
 ·skip
  have heN := heN _ h1
  refine wp_region_held_drew (S := (fun w' => BlkV 23 w' B K ∧ BlkV 57 w' (B + 1) CS ∧ True)) (by kernel_rfl) ⟨(show BlkV 23 w2.drew B K from hB2), (show BlkV 57 w2.drew (B + 1) CS from hX2), trivial⟩ (fun hHeld => ?_)
  obtain ⟨y3, HY3⟩ : ∃ y, Hid (y = w2.drew) := ⟨_, rfl⟩
  rw [← HY3.out] at hHeld ⊢
  have hB3 : BlkV 23 y3 B K := by rw [HY3.out]; exact hB2
  have hX3 : BlkV 57 y3 (B + 1) CS := by rw [HY3.out]; exact hX2
  have hR3 : BlkV 23 y3 (B + 2) Z := by rw [HY3.out]; exact hR2
  have bb3 : Below B w y3 := by rw [HY3.out]; exact bb2.drew
  have hsy3 : B + 3 ≤ y3.heap.size := by rw [HY3.out]; show B + 3 ≤ w2.heap.size; exact hs2'
  refine tkP 0 rfl (by assumption) ⟨?_, ?_, ?_⟩
  rotate_left
  ·intro w hSw; (try dsimp only at hSw); go_simp; (try with_reducible rfl)
  try simp only [Act.put, sArr, sZ, sS]
  refine tkR 1 rfl (yieldsIf_load_mid (by rfl) 27 _ rfl (B + 1) 2 rfl XB _ (fun w hS => fB.out w hS.2.1) huI rfl hiI) (by assumption) ?_
  try simp only [Act.put, sArr, sZ, sS]
  refine tkR 2 rfl (yieldsIf_load_mid (by rfl) 23 _ rfl B 0 rfl K _ (fun w hS => at_range hS.1.at0) hu23 rfl hi23) (by assumption) ?_
  try simp only [Act.put, sArr, sZ, sS]
  refine wpAnyH_ready (rs := [3]) (by kernel_rfl) (by simp) (cons_l rfl (fun K' hK' => ?_) AllReadyH.nil)
  rw [if_pos (by kernel_rfl)]
  go_simp
  go_at_call 20
  refine (hnm y3).out.mono ?_
  rintro e y4 ⟨rfl, hbx4⟩
  have hB4 := hB3.below hbx4 hB3.lt
  have hX4 := hX3.below hbx4 hX3.lt
  have hR4 := hR3.below hbx4 hR3.lt
  have bb4 := bb3.trans (hbx4.mono (by omega : B ≤ _))
  have hsy4 : B + 3 ≤ y4.heap.size := Nat.le_trans hsy3 hbx4.size
  refine hK'.out _ _ ⟨hB4, hX4, trivial⟩ (fun hHeld => ?_)
  clear hK' K'
  try simp only [Act.put, sArr, sZ, sS]
  refine tkR 4 rfl (yieldsIf_neM (by rfl) 27 _ _ _ rfl XB.toArray NV.toArray rfl rfl false heN.out (by kernel_rfl)) (by assumption) ?_
  try simp only [Act.put, sArr, sZ, sS]
  refine wpAnyH_done (by kernel_rfl) ?_ _
  clear hHeld
  go_wp2_with (first | (refine wl_storeV rfl 23 _ _ rfl 23 (B + 2) rfl Z rfl 32 aggKey hZl Z hR4 hZl hZ1 ?_; intro vF hRF hbF hsF; have bbF := bb4.trans (hbF.mono (by omega : B ≤ _)); clear hR4) | (refine wl_build0 rfl 23 rfl Z HBK.out ?_))
  (try simp only [Exit.inBlock, Exit.then]); refine bodyPost_ret (results_cell2 rfl _ _ _ _ rfl Z (by rw [hZl]; exact aggKey) hRF.at0) rfl ?_
  exact ⟨by rw [(hoA h1).out]; rfl, by rw [← HB.out]; exact bbF⟩
 have heN := heN _ h1
 refine wp_region_held_drew (S := (fun w' => BlkV 23 w' B K ∧ BlkV 57 w' (B + 1) CS ∧ True)) (by kernel_rfl) ⟨(show BlkV 23 w2.drew B K from hB2), (show BlkV 57 w2.drew (B + 1) CS from hX2), trivial⟩ (fun hHeld => ?_)
 obtain ⟨y3, HY3⟩ : ∃ y, Hid (y = w2.drew) := ⟨_, rfl⟩
 rw [← HY3.out] at hHeld ⊢
 have hB3 : BlkV 23 y3 B K := by rw [HY3.out]; exact hB2
 have hX3 : BlkV 57 y3 (B + 1) CS := by rw [HY3.out]; exact hX2
 have hR3 : BlkV 23 y3 (B + 2) Z := by rw [HY3.out]; exact hR2
 have bb3 : Below B w y3 := by rw [HY3.out]; exact bb2.drew
 have hsy3 : B + 3 ≤ y3.heap.size := by rw [HY3.out]; show B + 3 ≤ w2.heap.size; exact hs2'
 refine tkP 0 rfl (by assumption) ⟨?_, ?_, ?_⟩
 rotate_left
 ·intro w hSw; (try dsimp only at hSw); go_simp; (try with_reducible rfl)
 try simp only [Act.put, sArr, sZ, sS]
 refine tkR 1 rfl (yieldsIf_load_mid (by rfl) 27 _ rfl (B + 1) 2 rfl XB _ (fun w hS => fB.out w hS.2.1) huI rfl hiI) (by assumption) ?_
 try simp only [Act.put, sArr, sZ, sS]
 refine tkR 2 rfl (yieldsIf_load_mid (by rfl) 23 _ rfl B 0 rfl K _ (fun w hS => at_range hS.1.at0) hu23 rfl hi23) (by assumption) ?_
 try simp only [Act.put, sArr, sZ, sS]
 refine wpAnyH_ready (rs := [3]) (by kernel_rfl) (by simp) (cons_l rfl (fun K' hK' => ?_) AllReadyH.nil)
 rw [if_pos (by kernel_rfl)]
 go_simp
 go_at_call 20
 refine (hnm y3).out.mono ?_
 rintro e y4 ⟨rfl, hbx4⟩
 have hB4 := hB3.below hbx4 hB3.lt
 have hX4 := hX3.below hbx4 hX3.lt
 have hR4 := hR3.below hbx4 hR3.lt
 have bb4 := bb3.trans (hbx4.mono (by omega : B ≤ _))
 have hsy4 : B + 3 ≤ y4.heap.size := Nat.le_trans hsy3 hbx4.size
 refine hK'.out _ _ ⟨hB4, hX4, trivial⟩ (fun hHeld => ?_)
 clear hK' K'
 try simp only [Act.put, sArr, sZ, sS]
 refine tkR 4 rfl (yieldsIf_neM (by rfl) 27 _ _ _ rfl XB.toArray NV.toArray rfl rfl true heN.out (by kernel_rfl)) (by assumption) ?_
 try simp only [Act.put, sArr, sZ, sS]
 refine wpAnyH_done (by kernel_rfl) ?_ _
 clear hHeld
 go_wp2_with fail
 cases h2 : (x.c == sumL 0 c)
 ·skip
  have heC := heC _ h2
  refine wp_region_held_drew (S := (fun w' => BlkV 23 w' B K ∧ BlkV 57 w' (B + 1) CS ∧ True)) (by kernel_rfl) ⟨(show BlkV 23 y4.drew B K from hB4), (show BlkV 57 y4.drew (B + 1) CS from hX4), trivial⟩ (fun hHeld => ?_)
  obtain ⟨y5, HY5⟩ : ∃ y, Hid (y = y4.drew) := ⟨_, rfl⟩
  rw [← HY5.out] at hHeld ⊢
  have hB5 : BlkV 23 y5 B K := by rw [HY5.out]; exact hB4
  have hX5 : BlkV 57 y5 (B + 1) CS := by rw [HY5.out]; exact hX4
  have hR5 : BlkV 23 y5 (B + 2) Z := by rw [HY5.out]; exact hR4
  have bb5 : Below B w y5 := by rw [HY5.out]; exact bb4.drew
  have hsy5 : B + 3 ≤ y5.heap.size := by rw [HY5.out]; show B + 3 ≤ y4.heap.size; exact hsy4
  refine tkP 0 rfl (by assumption) ⟨?_, ?_, ?_⟩
  rotate_left
  ·intro w hSw; (try dsimp only at hSw); go_simp; (try with_reducible rfl)
  try simp only [Act.put, sArr, sZ, sS]
  refine tkP 1 rfl (by assumption) ⟨?_, ?_, ?_⟩
  rotate_left
  ·intro w hSw; have c0 := (hSw.2.1.cell 0).trans hcv.out; (try dsimp only at hSw); go_simp; (try with_reducible rfl)
  try simp only [Act.put, sArr, sZ, sS]
  refine tkP 2 rfl (by assumption) ⟨?_, ?_, ?_⟩
  rotate_left
  ·intro w hSw; (try dsimp only at hSw); go_simp; (try with_reducible rfl)
  try simp only [Act.put, sArr, sZ, sS]
  refine tkP 3 rfl (by assumption) ⟨?_, ?_, ?_⟩
  rotate_left
  ·intro w hSw; (try dsimp only at hSw); go_simp; (try with_reducible rfl)
  try simp only [Act.put, sArr, sZ, sS]
  refine tkP 4 rfl (by assumption) ⟨?_, ?_, ?_⟩
  rotate_left
  ·intro w hSw; (try dsimp only at hSw); go_simp; (try with_reducible rfl)
  try simp only [Act.put, sArr, sZ, sS]
  refine tkR 5 rfl (yieldsIf_load_mid (by rfl) 54 _ rfl (B + 1) 50 rfl XC _ (fun w hS => fC.out w hS.2.1) huC rfl hiC) (by assumption) ?_
  try simp only [Act.put, sArr, sZ, sS]
  refine tkP 6 rfl (by assumption) ⟨?_, ?_, ?_⟩
  rotate_left
  ·intro w hSw; (try dsimp only at hSw); go_simp; (try with_reducible rfl)
  try simp only [Act.put, sArr, sZ, sS]
  refine wpAnyH_ready (rs := [7]) (by kernel_rfl) (by simp) (cons_l rfl (fun K' hK' => ?_) AllReadyH.nil)
  rw [if_pos (by kernel_rfl)]
  go_simp
  go_at_call 43
  refine (hcx y5 bb5).out.mono ?_
  rintro e y6 ⟨rfl, hbx6⟩
  have hB6 := hB5.below hbx6 hB5.lt
  have hX6 := hX5.below hbx6 hX5.lt
  have hR6 := hR5.below hbx6 hR5.lt
  have bb6 := bb5.trans (hbx6.mono (by omega : B ≤ _))
  have hsy6 : B + 3 ≤ y6.heap.size := Nat.le_trans hsy5 hbx6.size
  refine hK'.out _ _ ⟨hB6, hX6, trivial⟩ (fun hHeld => ?_)
  clear hK' K'
  try simp only [Act.put, sArr, sZ, sS]
  refine tkR 8 rfl (yieldsIf_neM (by rfl) 54 _ _ _ rfl XC.toArray CV.toArray rfl rfl false heC.out (by kernel_rfl)) (by assumption) ?_
  try simp only [Act.put, sArr, sZ, sS]
  refine tkP 9 rfl (by assumption) ⟨?_, ?_, ?_⟩
  rotate_left
  ·intro w hSw; (try dsimp only at hSw); go_simp; (try with_reducible rfl)
  try simp only [Act.put, sArr, sZ, sS]
  refine wpAnyH_done (by kernel_rfl) ?_ _
  clear hHeld
  go_wp2_with (first | (refine wl_storeV rfl 23 _ _ rfl 23 (B + 2) rfl Z rfl 32 aggKey hZl Z hR6 hZl hZ1 ?_; intro vF hRF hbF hsF; have bbF := bb6.trans (hbF.mono (by omega : B ≤ _)); clear hR6) | (refine wl_build0 rfl 23 rfl Z HBK.out ?_))
  (try simp only [Exit.inBlock, Exit.then]); refine bodyPost_ret (results_cell2 rfl _ _ _ _ rfl Z (by rw [hZl]; exact aggKey) hRF.at0) rfl ?_
  exact ⟨by rw [(hoC h1 h2).out]; rfl, by rw [← HB.out]; exact bbF⟩
 have heC := heC _ h2
 refine wp_region_held_drew (S := (fun w' => BlkV 23 w' B K ∧ BlkV 57 w' (B + 1) CS ∧ True)) (by kernel_rfl) ⟨(show BlkV 23 y4.drew B K from hB4), (show BlkV 57 y4.drew (B + 1) CS from hX4), trivial⟩ (fun hHeld => ?_)
 obtain ⟨y5, HY5⟩ : ∃ y, Hid (y = y4.drew) := ⟨_, rfl⟩
 rw [← HY5.out] at hHeld ⊢
 have hB5 : BlkV 23 y5 B K := by rw [HY5.out]; exact hB4
 have hX5 : BlkV 57 y5 (B + 1) CS := by rw [HY5.out]; exact hX4
 have hR5 : BlkV 23 y5 (B + 2) Z := by rw [HY5.out]; exact hR4
 have bb5 : Below B w y5 := by rw [HY5.out]; exact bb4.drew
 have hsy5 : B + 3 ≤ y5.heap.size := by rw [HY5.out]; show B + 3 ≤ y4.heap.size; exact hsy4
 refine tkP 0 rfl (by assumption) ⟨?_, ?_, ?_⟩
 rotate_left
 ·intro w hSw; (try dsimp only at hSw); go_simp; (try with_reducible rfl)
 try simp only [Act.put, sArr, sZ, sS]
 refine tkP 1 rfl (by assumption) ⟨?_, ?_, ?_⟩
 rotate_left
 ·intro w hSw; have c0 := (hSw.2.1.cell 0).trans hcv.out; (try dsimp only at hSw); go_simp; (try with_reducible rfl)
 try simp only [Act.put, sArr, sZ, sS]
 refine tkP 2 rfl (by assumption) ⟨?_, ?_, ?_⟩
 rotate_left
 ·intro w hSw; (try dsimp only at hSw); go_simp; (try with_reducible rfl)
 try simp only [Act.put, sArr, sZ, sS]
 refine tkP 3 rfl (by assumption) ⟨?_, ?_, ?_⟩
 rotate_left
 ·intro w hSw; (try dsimp only at hSw); go_simp; (try with_reducible rfl)
 try simp only [Act.put, sArr, sZ, sS]
 refine tkP 4 rfl (by assumption) ⟨?_, ?_, ?_⟩
 rotate_left
 ·intro w hSw; (try dsimp only at hSw); go_simp; (try with_reducible rfl)
 try simp only [Act.put, sArr, sZ, sS]
 refine tkR 5 rfl (yieldsIf_load_mid (by rfl) 54 _ rfl (B + 1) 50 rfl XC _ (fun w hS => fC.out w hS.2.1) huC rfl hiC) (by assumption) ?_
 try simp only [Act.put, sArr, sZ, sS]
 refine tkP 6 rfl (by assumption) ⟨?_, ?_, ?_⟩
 rotate_left
 ·intro w hSw; (try dsimp only at hSw); go_simp; (try with_reducible rfl)
 try simp only [Act.put, sArr, sZ, sS]
 refine wpAnyH_ready (rs := [7]) (by kernel_rfl) (by simp) (cons_l rfl (fun K' hK' => ?_) AllReadyH.nil)
 rw [if_pos (by kernel_rfl)]
 go_simp
 go_at_call 43
 refine (hcx y5 bb5).out.mono ?_
 rintro e y6 ⟨rfl, hbx6⟩
 have hB6 := hB5.below hbx6 hB5.lt
 have hX6 := hX5.below hbx6 hX5.lt
 have hR6 := hR5.below hbx6 hR5.lt
 have bb6 := bb5.trans (hbx6.mono (by omega : B ≤ _))
 have hsy6 : B + 3 ≤ y6.heap.size := Nat.le_trans hsy5 hbx6.size
 refine hK'.out _ _ ⟨hB6, hX6, trivial⟩ (fun hHeld => ?_)
 clear hK' K'
 try simp only [Act.put, sArr, sZ, sS]
 refine tkR 8 rfl (yieldsIf_neM (by rfl) 54 _ _ _ rfl XC.toArray CV.toArray rfl rfl true heC.out (by kernel_rfl)) (by assumption) ?_
 try simp only [Act.put, sArr, sZ, sS]
 refine tkP 9 rfl (by assumption) ⟨?_, ?_, ?_⟩
 rotate_left
 ·intro w hSw; (try dsimp only at hSw); go_simp; (try with_reducible rfl)
 try simp only [Act.put, sArr, sZ, sS]
 refine wpAnyH_done (by kernel_rfl) ?_ _
 clear hHeld
 go_wp2_with fail
 cases h3 : (tagX k x c == x.t)
 ·skip
  have heT := heT _ h3
  refine wp_region_held_drew (S := (fun w' => BlkV 23 w' B K ∧ BlkV 57 w' (B + 1) CS ∧ True)) (by kernel_rfl) ⟨(show BlkV 23 y6.drew B K from hB6), (show BlkV 57 y6.drew (B + 1) CS from hX6), trivial⟩ (fun hHeld => ?_)
  obtain ⟨y7, HY7⟩ : ∃ y, Hid (y = y6.drew) := ⟨_, rfl⟩
  rw [← HY7.out] at hHeld ⊢
  have hB7 : BlkV 23 y7 B K := by rw [HY7.out]; exact hB6
  have hX7 : BlkV 57 y7 (B + 1) CS := by rw [HY7.out]; exact hX6
  have hR7 : BlkV 23 y7 (B + 2) Z := by rw [HY7.out]; exact hR6
  have bb7 : Below B w y7 := by rw [HY7.out]; exact bb6.drew
  have hsy7 : B + 3 ≤ y7.heap.size := by rw [HY7.out]; show B + 3 ≤ y6.heap.size; exact hsy6
  refine tkR 0 rfl (yieldsIf_load_mid (by rfl) 23 _ rfl B 0 rfl K _ (fun w hS => at_range hS.1.at0) hu23 rfl hi23) (by assumption) ?_
  try simp only [Act.put, sArr, sZ, sS]
  refine tkR 1 rfl (yieldsIf_load_mid (by rfl) 57 _ rfl (B + 1) 0 rfl CS _ (fun w hS => at_range hS.2.1.at0) huE rfl hiE) (by assumption) ?_
  try simp only [Act.put, sArr, sZ, sS]
  refine tkP 2 rfl (by assumption) ⟨?_, ?_, ?_⟩
  rotate_left
  ·intro w hSw; (try dsimp only at hSw); go_simp; (try with_reducible rfl)
  try simp only [Act.put, sArr, sZ, sS]
  refine tkP 4 rfl (by assumption) ⟨?_, ?_, ?_⟩
  rotate_left
  ·intro w hSw; (try dsimp only at hSw); go_simp; (try with_reducible rfl)
  try simp only [Act.put, sArr, sZ, sS]
  refine tkR 5 rfl (yieldsIf_load_mid (by rfl) 55 _ rfl (B + 1) 114 rfl XT _ (fun w hS => fT.out w hS.2.1) huT rfl hiT) (by assumption) ?_
  try simp only [Act.put, sArr, sZ, sS]
  refine wpAnyH_ready (rs := [3]) (by kernel_rfl) (by simp) (cons_l rfl (fun K' hK' => ?_) AllReadyH.nil)
  rw [if_pos (by kernel_rfl)]
  go_simp
  go_at_call 44
  refine (htg y7 bb7).out.mono ?_
  rintro e y8 ⟨rfl, hbx8⟩
  have hB8 := hB7.below hbx8 hB7.lt
  have hX8 := hX7.below hbx8 hX7.lt
  have hR8 := hR7.below hbx8 hR7.lt
  have bb8 := bb7.trans (hbx8.mono (by omega : B ≤ _))
  have hsy8 : B + 3 ≤ y8.heap.size := Nat.le_trans hsy7 hbx8.size
  refine hK'.out _ _ ⟨hB8, hX8, trivial⟩ (fun hHeld => ?_)
  clear hK' K'
  try simp only [Act.put, sArr, sZ, sS]
  refine tkR 6 rfl (yieldsIf_neM (by rfl) 55 _ _ _ rfl TV.toArray XT.toArray rfl rfl false heT.out (by kernel_rfl)) (by assumption) ?_
  try simp only [Act.put, sArr, sZ, sS]
  refine wpAnyH_done (by kernel_rfl) ?_ _
  clear hHeld
  go_wp2_with (first | (refine wl_storeV rfl 23 _ _ rfl 23 (B + 2) rfl Z rfl 32 aggKey hZl Z hR8 hZl hZ1 ?_; intro vF hRF hbF hsF; have bbF := bb8.trans (hbF.mono (by omega : B ≤ _)); clear hR8) | (refine wl_build0 rfl 23 rfl Z HBK.out ?_))
  (try simp only [Exit.inBlock, Exit.then]); refine bodyPost_ret (results_cell2 rfl _ _ _ _ rfl Z (by rw [hZl]; exact aggKey) hRF.at0) rfl ?_
  exact ⟨by rw [(hoT h1 h2 h3).out]; rfl, by rw [← HB.out]; exact bbF⟩
 have heT := heT _ h3
 refine wp_region_held_drew (S := (fun w' => BlkV 23 w' B K ∧ BlkV 57 w' (B + 1) CS ∧ True)) (by kernel_rfl) ⟨(show BlkV 23 y6.drew B K from hB6), (show BlkV 57 y6.drew (B + 1) CS from hX6), trivial⟩ (fun hHeld => ?_)
 obtain ⟨y7, HY7⟩ : ∃ y, Hid (y = y6.drew) := ⟨_, rfl⟩
 rw [← HY7.out] at hHeld ⊢
 have hB7 : BlkV 23 y7 B K := by rw [HY7.out]; exact hB6
 have hX7 : BlkV 57 y7 (B + 1) CS := by rw [HY7.out]; exact hX6
 have hR7 : BlkV 23 y7 (B + 2) Z := by rw [HY7.out]; exact hR6
 have bb7 : Below B w y7 := by rw [HY7.out]; exact bb6.drew
 have hsy7 : B + 3 ≤ y7.heap.size := by rw [HY7.out]; show B + 3 ≤ y6.heap.size; exact hsy6
 refine tkR 0 rfl (yieldsIf_load_mid (by rfl) 23 _ rfl B 0 rfl K _ (fun w hS => at_range hS.1.at0) hu23 rfl hi23) (by assumption) ?_
 try simp only [Act.put, sArr, sZ, sS]
 refine tkR 1 rfl (yieldsIf_load_mid (by rfl) 57 _ rfl (B + 1) 0 rfl CS _ (fun w hS => at_range hS.2.1.at0) huE rfl hiE) (by assumption) ?_
 try simp only [Act.put, sArr, sZ, sS]
 refine tkP 2 rfl (by assumption) ⟨?_, ?_, ?_⟩
 rotate_left
 ·intro w hSw; (try dsimp only at hSw); go_simp; (try with_reducible rfl)
 try simp only [Act.put, sArr, sZ, sS]
 refine tkP 4 rfl (by assumption) ⟨?_, ?_, ?_⟩
 rotate_left
 ·intro w hSw; (try dsimp only at hSw); go_simp; (try with_reducible rfl)
 try simp only [Act.put, sArr, sZ, sS]
 refine tkR 5 rfl (yieldsIf_load_mid (by rfl) 55 _ rfl (B + 1) 114 rfl XT _ (fun w hS => fT.out w hS.2.1) huT rfl hiT) (by assumption) ?_
 try simp only [Act.put, sArr, sZ, sS]
 refine wpAnyH_ready (rs := [3]) (by kernel_rfl) (by simp) (cons_l rfl (fun K' hK' => ?_) AllReadyH.nil)
 rw [if_pos (by kernel_rfl)]
 go_simp
 go_at_call 44
 refine (htg y7 bb7).out.mono ?_
 rintro e y8 ⟨rfl, hbx8⟩
 have hB8 := hB7.below hbx8 hB7.lt
 have hX8 := hX7.below hbx8 hX7.lt
 have hR8 := hR7.below hbx8 hR7.lt
 have bb8 := bb7.trans (hbx8.mono (by omega : B ≤ _))
 have hsy8 : B + 3 ≤ y8.heap.size := Nat.le_trans hsy7 hbx8.size
 refine hK'.out _ _ ⟨hB8, hX8, trivial⟩ (fun hHeld => ?_)
 clear hK' K'
 try simp only [Act.put, sArr, sZ, sS]
 refine tkR 6 rfl (yieldsIf_neM (by rfl) 55 _ _ _ rfl TV.toArray XT.toArray rfl rfl true heT.out (by kernel_rfl)) (by assumption) ?_
 try simp only [Act.put, sArr, sZ, sS]
 refine wpAnyH_done (by kernel_rfl) ?_ _
 clear hHeld
 have cE := (hX8.cell 1).trans hce.out
 go_wp2_with (first | (refine wl_storeV rfl 23 _ _ rfl 23 G rfl SV rfl 32 aggKey hSl Z hG10 hZl hS1 ?_; intro y11 hG11 hbx11 hsx11; have hB11 := hB10.below hbx11 (by omega); have hX11 := hX10.below hbx11 (by omega); have hR11 := hR10.below hbx11 (by omega); have bb11 := bb10.trans (hbx11.mono (by omega : B ≤ _)); have hsy11 : B + 3 ≤ y11.heap.size := (by have := hG11.lt; omega); clear hB10 hX10 hR10 bb10 hG10) | (refine wl_allocV rfl 23 rfl Z hzK.out y9.heap.size rfl ?_; intro y10 hG10 hbx10 hsx10; obtain ⟨G, HG⟩ : ∃ g, Hid (g = y9.heap.size) := ⟨_, rfl⟩; rw [← HG.out] at hG10 hbx10 hsx10; rw [← HG.out]; have hG3 : B + 3 ≤ G := (by rw [HG.out]; exact hsy9); have hB10 := hB9.below hbx10 (by omega); have hX10 := hX9.below hbx10 (by omega); have hR10 := hR9.below hbx10 (by omega); have bb10 := bb9.trans (hbx10.mono (by omega : B ≤ _)); clear hB9 hX9 hR9 bb9) | (go_at_call 45; refine (hco y8).out.mono ?_; rintro e y9 ⟨rfl, hbx9⟩; have hB9 := hB8.below hbx9 hB8.lt; have hX9 := hX8.below hbx9 hX8.lt; have hR9 := hR8.below hbx9 hR8.lt; have bb9 := bb8.trans (hbx9.mono (by omega : B ≤ _)); have hsy9 : B + 3 ≤ y9.heap.size := Nat.le_trans hsy8 hbx9.size; clear hB8 hX8 hR8 bb8) | (refine wl_load rfl 22 _ rfl ⟨B + 1, 82, none⟩ rfl XG (by rw [hXGl]; exact agg32) (fG.out _ hX8) ?_) | (refine wl_load rfl 53 _ rfl ⟨B + 1, 34, none⟩ rfl XN (by rw [hXNl]; exact aggNo) (fN.out _ hX8) ?_) | (refine wl_load rfl 23 _ rfl ⟨B, 0, none⟩ rfl K (by rw [hKl]; exact aggKey) hB8.at0 ?_))
 cases h4 : (nameL (secretX k x) == x.o)
 ·skip
  have heO := heO _ h4
  refine wp_region_held_drew (S := (fun w' => BlkV 23 w' B K ∧ BlkV 57 w' (B + 1) CS ∧ BlkV 23 w' G SV)) (by kernel_rfl) ⟨(show BlkV 23 y11.drew B K from hB11), (show BlkV 57 y11.drew (B + 1) CS from hX11), (show BlkV 23 y11.drew G SV from hG11)⟩ (fun hHeld => ?_)
  obtain ⟨y12, HY12⟩ : ∃ y, Hid (y = y11.drew) := ⟨_, rfl⟩
  rw [← HY12.out] at hHeld ⊢
  have hB12 : BlkV 23 y12 B K := by rw [HY12.out]; exact hB11
  have hX12 : BlkV 57 y12 (B + 1) CS := by rw [HY12.out]; exact hX11
  have hR12 : BlkV 23 y12 (B + 2) Z := by rw [HY12.out]; exact hR11
  have bb12 : Below B w y12 := by rw [HY12.out]; exact bb11.drew
  have hsy12 : B + 3 ≤ y12.heap.size := by rw [HY12.out]; show B + 3 ≤ y11.heap.size; exact hsy11
  have hG12 : BlkV 23 y12 G SV := by rw [HY12.out]; exact hG11
  refine tkP 0 rfl (by assumption) ⟨?_, ?_, ?_⟩
  rotate_left
  ·intro w hSw; (try dsimp only at hSw); go_simp; (try with_reducible rfl)
  try simp only [Act.put, sArr, sZ, sS]
  refine tkP 1 rfl (by assumption) ⟨?_, ?_, ?_⟩
  rotate_left
  ·intro w hSw; have c0 := (hSw.2.1.cell 0).trans hcv.out; (try dsimp only at hSw); go_simp; (try with_reducible rfl)
  try simp only [Act.put, sArr, sZ, sS]
  refine tkP 2 rfl (by assumption) ⟨?_, ?_, ?_⟩
  rotate_left
  ·intro w hSw; (try dsimp only at hSw); go_simp; (try with_reducible rfl)
  try simp only [Act.put, sArr, sZ, sS]
  refine tkP 3 rfl (by assumption) ⟨?_, ?_, ?_⟩
  rotate_left
  ·intro w hSw; (try dsimp only at hSw); go_simp; (try with_reducible rfl)
  try simp only [Act.put, sArr, sZ, sS]
  refine tkR 4 rfl (yieldsIf_load_mid (by rfl) 23 _ rfl G 0 rfl SV _ (fun w hS => at_range hS.2.2.at0) huS rfl hiS) (by assumption) ?_
  try simp only [Act.put, sArr, sZ, sS]
  refine tkP 6 rfl (by assumption) ⟨?_, ?_, ?_⟩
  rotate_left
  ·intro w hSw; (try dsimp only at hSw); go_simp; (try with_reducible rfl)
  try simp only [Act.put, sArr, sZ, sS]
  refine tkR 7 rfl (yieldsIf_load_mid (by rfl) 27 _ rfl (B + 1) 18 rfl XO _ (fun w hS => fO.out w hS.2.1) huO rfl hiO) (by assumption) ?_
  try simp only [Act.put, sArr, sZ, sS]
  refine wpAnyH_ready (rs := [5]) (by kernel_rfl) (by simp) (cons_l rfl (fun K' hK' => ?_) AllReadyH.nil)
  rw [if_pos (by kernel_rfl)]
  go_simp
  go_at_call 20
  refine (hns y12).out.mono ?_
  rintro e y13 ⟨rfl, hbx13⟩
  have hB13 := hB12.below hbx13 hB12.lt
  have hX13 := hX12.below hbx13 hX12.lt
  have hR13 := hR12.below hbx13 hR12.lt
  have bb13 := bb12.trans (hbx13.mono (by omega : B ≤ _))
  have hsy13 : B + 3 ≤ y13.heap.size := Nat.le_trans hsy12 hbx13.size
  have hG13 := hG12.below hbx13 hG12.lt
  refine hK'.out _ _ ⟨hB13, hX13, hG13⟩ (fun hHeld => ?_)
  clear hK' K'
  try simp only [Act.put, sArr, sZ, sS]
  refine tkR 8 rfl (yieldsIf_neM (by rfl) 27 _ _ _ rfl NS.toArray XO.toArray rfl rfl false heO.out (by kernel_rfl)) (by assumption) ?_
  try simp only [Act.put, sArr, sZ, sS]
  refine tkP 9 rfl (by assumption) ⟨?_, ?_, ?_⟩
  rotate_left
  ·intro w hSw; (try dsimp only at hSw); go_simp; (try with_reducible rfl)
  try simp only [Act.put, sArr, sZ, sS]
  refine wpAnyH_done (by kernel_rfl) ?_ _
  clear hHeld
  go_wp2_with (first | (refine wl_storeV rfl 23 _ _ rfl 23 (B + 2) rfl Z rfl 32 aggKey hZl Z hR13 hZl hZ1 ?_; intro vF hRF hbF hsF; have bbF := bb13.trans (hbF.mono (by omega : B ≤ _)); clear hR13) | (refine wl_build0 rfl 23 rfl Z HBK.out ?_))
  (try simp only [Exit.inBlock, Exit.then]); refine bodyPost_ret (results_cell2 rfl _ _ _ _ rfl Z (by rw [hZl]; exact aggKey) hRF.at0) rfl ?_
  exact ⟨by rw [(hoO h1 h2 h3 h4).out]; rfl, by rw [← HB.out]; exact bbF⟩
 have heO := heO _ h4
 refine wp_region_held_drew (S := (fun w' => BlkV 23 w' B K ∧ BlkV 57 w' (B + 1) CS ∧ BlkV 23 w' G SV)) (by kernel_rfl) ⟨(show BlkV 23 y11.drew B K from hB11), (show BlkV 57 y11.drew (B + 1) CS from hX11), (show BlkV 23 y11.drew G SV from hG11)⟩ (fun hHeld => ?_)
 obtain ⟨y12, HY12⟩ : ∃ y, Hid (y = y11.drew) := ⟨_, rfl⟩
 rw [← HY12.out] at hHeld ⊢
 have hB12 : BlkV 23 y12 B K := by rw [HY12.out]; exact hB11
 have hX12 : BlkV 57 y12 (B + 1) CS := by rw [HY12.out]; exact hX11
 have hR12 : BlkV 23 y12 (B + 2) Z := by rw [HY12.out]; exact hR11
 have bb12 : Below B w y12 := by rw [HY12.out]; exact bb11.drew
 have hsy12 : B + 3 ≤ y12.heap.size := by rw [HY12.out]; show B + 3 ≤ y11.heap.size; exact hsy11
 have hG12 : BlkV 23 y12 G SV := by rw [HY12.out]; exact hG11
 refine tkP 0 rfl (by assumption) ⟨?_, ?_, ?_⟩
 rotate_left
 ·intro w hSw; (try dsimp only at hSw); go_simp; (try with_reducible rfl)
 try simp only [Act.put, sArr, sZ, sS]
 refine tkP 1 rfl (by assumption) ⟨?_, ?_, ?_⟩
 rotate_left
 ·intro w hSw; have c0 := (hSw.2.1.cell 0).trans hcv.out; (try dsimp only at hSw); go_simp; (try with_reducible rfl)
 try simp only [Act.put, sArr, sZ, sS]
 refine tkP 2 rfl (by assumption) ⟨?_, ?_, ?_⟩
 rotate_left
 ·intro w hSw; (try dsimp only at hSw); go_simp; (try with_reducible rfl)
 try simp only [Act.put, sArr, sZ, sS]
 refine tkP 3 rfl (by assumption) ⟨?_, ?_, ?_⟩
 rotate_left
 ·intro w hSw; (try dsimp only at hSw); go_simp; (try with_reducible rfl)
 try simp only [Act.put, sArr, sZ, sS]
 refine tkR 4 rfl (yieldsIf_load_mid (by rfl) 23 _ rfl G 0 rfl SV _ (fun w hS => at_range hS.2.2.at0) huS rfl hiS) (by assumption) ?_
 try simp only [Act.put, sArr, sZ, sS]
 refine tkP 6 rfl (by assumption) ⟨?_, ?_, ?_⟩
 rotate_left
 ·intro w hSw; (try dsimp only at hSw); go_simp; (try with_reducible rfl)
 try simp only [Act.put, sArr, sZ, sS]
 refine tkR 7 rfl (yieldsIf_load_mid (by rfl) 27 _ rfl (B + 1) 18 rfl XO _ (fun w hS => fO.out w hS.2.1) huO rfl hiO) (by assumption) ?_
 try simp only [Act.put, sArr, sZ, sS]
 refine wpAnyH_ready (rs := [5]) (by kernel_rfl) (by simp) (cons_l rfl (fun K' hK' => ?_) AllReadyH.nil)
 rw [if_pos (by kernel_rfl)]
 go_simp
 go_at_call 20
 refine (hns y12).out.mono ?_
 rintro e y13 ⟨rfl, hbx13⟩
 have hB13 := hB12.below hbx13 hB12.lt
 have hX13 := hX12.below hbx13 hX12.lt
 have hR13 := hR12.below hbx13 hR12.lt
 have bb13 := bb12.trans (hbx13.mono (by omega : B ≤ _))
 have hsy13 : B + 3 ≤ y13.heap.size := Nat.le_trans hsy12 hbx13.size
 have hG13 := hG12.below hbx13 hG12.lt
 refine hK'.out _ _ ⟨hB13, hX13, hG13⟩ (fun hHeld => ?_)
 clear hK' K'
 try simp only [Act.put, sArr, sZ, sS]
 refine tkR 8 rfl (yieldsIf_neM (by rfl) 27 _ _ _ rfl NS.toArray XO.toArray rfl rfl true heO.out (by kernel_rfl)) (by assumption) ?_
 try simp only [Act.put, sArr, sZ, sS]
 refine tkP 9 rfl (by assumption) ⟨?_, ?_, ?_⟩
 rotate_left
 ·intro w hSw; (try dsimp only at hSw); go_simp; (try with_reducible rfl)
 try simp only [Act.put, sArr, sZ, sS]
 refine wpAnyH_done (by kernel_rfl) ?_ _
 clear hHeld
 go_wp2_with (first | (refine wl_storeV rfl 23 _ _ rfl 23 (B + 2) rfl SV rfl 32 aggKey hSl Z hR13 hZl hS1 ?_; intro vF hRF hbF hsF; have bbF := bb13.trans (hbF.mono (by omega : B ≤ _)); clear hR13) | (refine wl_load rfl 23 _ rfl ⟨G, 0, none⟩ rfl SV (by rw [hSl]; exact aggKey) hG13.at0 ?_))
 (try simp only [Exit.inBlock, Exit.then]); refine bodyPost_ret (results_cell2 rfl _ _ _ _ rfl SV (by rw [hSl]; exact aggKey) hRF.at0) rfl ?_
 exact ⟨by rw [(hoE h1 h2 h3 h4).out]; rfl, by rw [← HB.out]; exact bbF⟩
end Go.Proofs.YtbjmadcbhkeenaaGreat.wr
namespace Go.Proofs.YtbjmadcbhkeenaaGreat.wr
open Go.RowKit st hs shr sh
theorem open_any (k : List Int) (x : Env) (c : List Int) (ao : Option Addr) (cap mc : Nat) (w : World) (hk : k.length = 32) (ok : Octs k) (hx : x.Ok) (hv : x.v = 1 ∨ x.v = 2) (he : 0 ≤ x.e ∧ x.e ≤ 4294967295) (hmc : mc = c.length) (HP : Pt.Ok w ⟨ao, cap, c⟩) (hno : ao = none → cap = 0) (hm : mc ≤ 1000000) :
  Calls Tryz.prog 21 #[.agg (k.map (Value.int .u8)).toArray, .agg x.cs.toArray, .slice ao mc cap] w fun r w' => r = .returned (openV k x c) ∧ Below w.heap.size w w' := by
 rcases hv with hv | hv
 ·exact open_v1 k x c ao cap mc w hk ok hx hv he hmc HP hno hm
 ·exact open_v2 k x c ao cap mc w hk ok hx hv he hmc HP hno hm
def unwrapE (k l c : List Int) : Int := if 4096 < c.length then 5 else if readE l ≠ 0 then readE l else openE k (readX l) c
def unwrapS (k l c : List Int) : List Int := if unwrapE k l c = 0 then secretX k (readX l) else List.replicate 32 0
def unwrapV (k l c : List Int) : Value := .tuple #[.agg ((unwrapS k l c).map (Value.int .u8)).toArray, .int .i64 (unwrapE k l c)]
theorem unwrapV_large {k l c : List Int} (h : 4096 < c.length) : unwrapV k l c = .tuple #[.agg ((List.replicate 32 (0 : Int)).map (Value.int .u8)).toArray, .int .i64 5] := by
 have hE : unwrapE k l c = 5 := by unfold unwrapE; rw [if_pos h]
 unfold unwrapV unwrapS; rw [hE, if_neg (by decide)]
theorem unwrapV_read {k l c : List Int} (h : ¬ 4096 < c.length) (h2 : readE l ≠ 0) : unwrapV k l c = .tuple #[.agg ((List.replicate 32 (0 : Int)).map (Value.int .u8)).toArray, .int .i64 (readE l)] := by
 have hE : unwrapE k l c = readE l := by unfold unwrapE; rw [if_neg h, if_pos h2]
 unfold unwrapV unwrapS; rw [hE, if_neg h2]
theorem unwrapV_open {k l c : List Int} (h : ¬ 4096 < c.length) (h2 : readE l = 0) : unwrapV k l c = openV k (readX l) c := by
 have hE : unwrapE k l c = openE k (readX l) c := by unfold unwrapE; rw [if_neg h, if_neg (fun h => h h2)]
 unfold unwrapV unwrapS openV; rw [hE]
end Go.Proofs.YtbjmadcbhkeenaaGreat.wr
namespace Go.Proofs.YtbjmadcbhkeenaaGreat.wr
open Go.RowKit st hs shr sh
theorem results_cell3 {fn : Func} {c u v : Tmp} {t : TypeId} (h : fn.results = #[.cell c t, .tmp u, .tmp v]) (tmps : Array Value) (P : Program) (w : World) (p : Addr) (hp : tmps.getD c undef = .pointer (some p)) (cs : List Value) (ha : Agg P t cs.length) (hc : At w p cs) :
  (results fn tmps).run P w = .ok (.tuple #[.agg cs.toArray, tmps.getD u undef, tmps.getD v undef]) w := by
 rw [Array.getD_eq_getD_getElem?] at hp
 simp [results, h, hp, run_load_agg w t p cs ha hc, asAddr]
end Go.Proofs.YtbjmadcbhkeenaaGreat.wr
