/-
  Contract of keyref2.Unwrapped. Conditions: a key of octets, texts of octets that lie in memory.
-/
import Derived.Test.YtbjmadcbhkeenaaGreatCWsG
import Derived.Test.YtbjmadcbhkeenaaGreatCWsB
import Derived.Test.YtbjmadcbhkeenaaGreatCHld
set_option maxRecDepth 100000
set_option linter.unusedSimpArgs false
set_option linter.unusedVariables false
namespace Go.Proofs.YtbjmadcbhkeenaaGreat.wr
open Go.RowKit st hs shr sh
theorem step_loadA {P : Program} {ops : Array Oper} {o : Oper} {a : Act} {w : World} {K : Act → World → Prop} {Q : Exit → Act → World → Prop} {E : Prop} (hw : Region.wanted o (yielded ops a.tmps) = true) (ty : TypeId) (x : Operand) (ho : o.op = .load ty x)
  (p : Addr) (hx : a.eval x = .pointer (some p)) (cs : List Value) (ha : Agg P ty cs.length) (hc : At w p cs) (h : K (a.put o.dst (.agg cs.toArray)) w) : if Region.wanted o (yielded ops a.tmps) = true then Oper.wp P o a w K Q else E := by
 rw [if_pos hw]
 unfold Oper.wp
 simp [execOp, ho, hx, Instr.loadAt, Instr.sureAddr, run_load_agg w ty p cs ha hc, Result.andThen]
 exact h
theorem run_arrayAtKey (w : World) (a : Addr) (n cap : Nat) (hn : 32 ≤ n) : (Instr.arrayAt 23 (.slice (some a) n cap)).run Tryz.prog w = .ok (.pointer (some a)) w := by
 have h1 : ¬ n < 32 := by omega
 simp [Instr.arrayAt, run_underlying Tryz.underlying23, Result.andThen, h1]
theorem at_rowI {w : World} {p off : Nat} {l : List Int} (hl : p < w.heap.size) (h : At w ⟨p, off, none⟩ (l.map (Value.int .u8))) : RowI .u8 w (some ⟨p, off, none⟩) l := Or.inr ⟨p, off, rfl, hl, fun j hj => by
 have := h j (.int .u8 (l.getD j 0)) (by rw [List.getElem?_map, List.getElem?_eq_getElem hj, getD_lt' l 0 hj]; rfl)
 rwa [addr_add] at this⟩
theorem hal22' : Tryz.prog.arrayLen 22 = 32 := by kernel_rfl
set_option maxHeartbeats 4000000 in
theorem Unwrapped_v1 (k l : List Int) (bo : Option Addr) (bc n : Nat) (x : Env) (c : List Int) (ao : Option Addr) (cap mc : Nat) (w : World) (hk : k.length = 32) (ok : Octs k) (hn : n = l.length) (HL : Pt.Ok w ⟨bo, bc, l⟩) (hrx : readV l = .tuple #[.agg x.cs.toArray, .int .i64 0]) (hx : x.Ok) (hv : x.v = 1) (hx0 : errV x = 0) (he : 0 ≤ x.e ∧ x.e ≤ 4294967295) (hmc : mc = c.length) (HP : Pt.Ok w ⟨ao, cap, c⟩) (hno : ao = none → cap = 0) (hm : mc ≤ 4096) :
  Calls Tryz.prog 13 #[.agg (k.map (Value.int .u8)).toArray, .slice bo n bc, .slice ao mc cap] w fun r w' => r = .returned (openV k x c) ∧ Below w.heap.size w w' := by
 obtain ⟨B, HB⟩ : ∃ B, Hid (B = w.heap.size) := ⟨_, rfl⟩
 have hsz : w.heap.size = B := HB.out.symm
 obtain ⟨Z, HZ⟩ : ∃ Z, Hid (Z = (List.replicate 32 (0 : Int)).map (Value.int .u8)) := ⟨_, rfl⟩
 have hzK := hid zeroKey
 have HBK : Hid (Tryz.prog.built 23 [] = some ((List.replicate 32 (0 : Int)).map (Value.int .u8)).toArray) := hid (by kernel_rfl)
 rw [← HZ.out] at hzK HBK
 have hZl : Z.length = 32 := by rw [HZ.out]; simp
 have hZ1 : ∀ u ∈ Z, u.oneCell' = true := by rw [HZ.out]; exact ints_one _ _
 obtain ⟨SV, HSV⟩ : ∃ V, Hid (V = (secretX k x).map (Value.int .u8)) := ⟨_, rfl⟩
 have hSl : SV.length = 32 := by rw [HSV.out, List.length_map, secretX_length hx]
 have hS1 : ∀ u ∈ SV, u.oneCell' = true := by rw [HSV.out]; exact ints_one _ _
 have hoV := fun (e : Int) (he0 : e ≠ 0) (h : openE k x c = e) => hid (show openV k x c = .tuple #[.agg Z.toArray, .int .i64 e] by unfold openV; rw [h, if_neg he0, HZ.out])
 have hoA := fun (h1 : (x.b == nameL k) = false) => hoV 6 (by decide) (by unfold openE; rw [if_pos (Ne.symm (beq_eq_false_iff_ne.1 h1))])
 have hoT := fun (h1 : (x.b == nameL k) = true) (h3 : (x.t == tagX k x c) = false) => hoV 13 (by decide) (by unfold openE; rw [if_neg (fun h => h (eq_of_beq h1).symm), if_neg (fun h => by have := h.1; omega), if_pos (Ne.symm (beq_eq_false_iff_ne.1 h3))])
 have hoE := fun (h1 : (x.b == nameL k) = true) (h3 : (x.t == tagX k x c) = true) => hid (show openV k x c = .tuple #[.agg SV.toArray, .int .i64 0] by
  have hE : openE k x c = 0 := by unfold openE; rw [if_neg (fun h => h (eq_of_beq h1).symm), if_neg (fun h => by have := h.1; omega), if_neg (fun h => h (eq_of_beq h3).symm), if_neg (fun h => by have := h.1; omega)]
  unfold openV; rw [hE, if_pos rfl, HSV.out])
 have hnm := fun w => hid (RefNameOf_any k hk ok w)
 have hn0 : ao = none → cap = 0 ∧ mc = 0 := fun h => ⟨hno h, by have h1 := HP.len; have h2 := hno h; have h3 : c.length ≤ cap := h1; omega⟩
 have hcx := fun (y : World) (hb : Below B w y) => hid (sumR 0 ⟨by decide, by decide⟩ ao cap mc c y hmc (HP.below (hsz ▸ hb)) hn0 (by omega))
 have htg := fun (y : World) (hb : Below B w y) => hid (RefTagged_1 k x c ao cap mc y hk ok hx hv hx0 he hmc (HP.below (hsz ▸ hb)) hno (by omega))
 have hrd := fun (y : World) (hb : Below B w y) => hid (RefRead_any bo bc n l y hn (fun _ => HL.below (hsz ▸ hb)))
 rw [hrx] at hrd
 have hde := fun w => hid (RefDerive_ok k hk ok wrapS wrapS_octs wrapS_name x.e he w)
 obtain ⟨kd, HKD⟩ : ∃ kd, Hid (kd = deriveL k wrapS x.e) := ⟨_, rfl⟩
 have hkd : kd.length = 32 := by rw [HKD.out]; exact deriveL_length _ _ _
 have okd : Octs kd := by rw [HKD.out]; exact deriveL_octs _ _ _
 rw [← HKD.out] at hde
 have hcov := fun (y : World) (g : Nat) (hP : Pt.Ok y ⟨some ⟨g, 82, none⟩, 32, x.g⟩) => hid (RefCover_any kd x.n x.g (some ⟨g, 82, none⟩) 32 32 y hkd hx.nl okd hx.no hx.gl.symm hP (by decide))
 rw [show (coverL kd x.n x.g).map (Value.int .u8) = SV by rw [HSV.out, HKD.out]; rfl] at hcov
 obtain ⟨KW, HKW⟩ : ∃ KW, Hid (KW = kd.map (Value.int .u8)) := ⟨_, rfl⟩
 have hKWl : KW.length = 32 := by rw [HKW.out, List.length_map, hkd]
 have hKW1 : ∀ u ∈ KW, u.oneCell' = true := by rw [HKW.out]; exact ints_one _ _
 rw [← HKW.out] at hde hcov
 have hgo := hx.go
 have hgl := hid hx.gl
 have hzE := hid zeroEnv
 obtain ⟨ZE, HZE⟩ : ∃ Z, Hid (Z = env0.cs) := ⟨_, rfl⟩
 rw [← HZE.out] at hzE
 have hZEl : ZE.length = 130 := by rw [HZE.out]; exact env0_ok.csl
 have hns := fun w => hid (RefNameOf_any (secretX k x) (secretX_length hx) (secretX_octs hx) w)
 rw [← HSV.out] at hns
 obtain ⟨K, HK⟩ : ∃ K, Hid (K = k.map (Value.int .u8)) := ⟨_, rfl⟩
 have hKl : K.length = 32 := by rw [HK.out, List.length_map, hk]
 obtain ⟨NV, HNV⟩ : ∃ V, Hid (V = (nameL k).map (Value.int .u8)) := ⟨_, rfl⟩
 obtain ⟨CV, HCV⟩ : ∃ V, Hid (V = (sumL 0 c).map (Value.int .u8)) := ⟨_, rfl⟩
 obtain ⟨TV, HTV⟩ : ∃ V, Hid (V = (tagX k x c).map (Value.int .u8)) := ⟨_, rfl⟩
 obtain ⟨NS, HNS⟩ : ∃ V, Hid (V = (nameL (secretX k x)).map (Value.int .u8)) := ⟨_, rfl⟩
 obtain ⟨XB, HXB⟩ : ∃ V, Hid (V = x.b.map (Value.int .u8)) := ⟨_, rfl⟩
 obtain ⟨XO, HXO⟩ : ∃ V, Hid (V = x.o.map (Value.int .u8)) := ⟨_, rfl⟩
 obtain ⟨XN, HXN⟩ : ∃ V, Hid (V = x.n.map (Value.int .u8)) := ⟨_, rfl⟩
 obtain ⟨XC, HXC⟩ : ∃ V, Hid (V = x.c.map (Value.int .u8)) := ⟨_, rfl⟩
 obtain ⟨XG, HXG⟩ : ∃ V, Hid (V = x.g.map (Value.int .u8)) := ⟨_, rfl⟩
 obtain ⟨XT, HXT⟩ : ∃ V, Hid (V = x.t.map (Value.int .u8)) := ⟨_, rfl⟩
 have hXBl : XB.length = 16 := by rw [HXB.out, List.length_map, hx.bl]
 have hXOl : XO.length = 16 := by rw [HXO.out, List.length_map, hx.ol]
 have hXNl : XN.length = 16 := by rw [HXN.out, List.length_map, hx.nl]
 have hXCl : XC.length = 32 := by rw [HXC.out, List.length_map, hx.cl]
 have hXGl : XG.length = 32 := by rw [HXG.out, List.length_map, hx.gl]
 have hXTl : XT.length = 16 := by rw [HXT.out, List.length_map, hx.tl]
 have heN := fun (t : Bool) (h : (x.b == nameL k) = t) => hid (show ∀ w, (Op.equalIn 10000 27 (.agg XB.toArray) (.agg NV.toArray)).run Tryz.prog w = .ok t w from fun w => by rw [HXB.out, HNV.out, run_eq_id w x.b (nameL k) hx.bl (nameL_length k), h])
 have heC := fun (t : Bool) (h : (x.c == sumL 0 c) = t) => hid (show ∀ w, (Op.equalIn 10000 54 (.agg XC.toArray) (.agg CV.toArray)).run Tryz.prog w = .ok t w from fun w => by rw [HXC.out, HCV.out, run_eq_sum' w x.c (sumL 0 c) hx.cl (sumL_length _ _), h])
 have heT := fun (t : Bool) (h : (x.t == tagX k x c) = t) => hid (show ∀ w, (Op.equalIn 10000 55 (.agg XT.toArray) (.agg TV.toArray)).run Tryz.prog w = .ok t w from fun w => by rw [HXT.out, HTV.out, run_eq_tag w x.t (tagX k x c) hx.tl (tagX_length _ _ _), h])
 have heO := fun (t : Bool) (h : (x.o == nameL (secretX k x)) = t) => hid (show ∀ w, (Op.equalIn 10000 27 (.agg XO.toArray) (.agg NS.toArray)).run Tryz.prog w = .ok t w from fun w => by rw [HXO.out, HNS.out, run_eq_id w x.o (nameL (secretX k x)) hx.ol (nameL_length _), h])
 have hcv : Hid (x.cs[0]? = some (.int .i64 1)) := hid (by rw [← hv]; exact x.cv)
 have hce := hid x.ce
 have fB : Hid (∀ w G, BlkV 57 w G x.cs → w.rangeAt G 2 XB) := hid (fun w G h => by rw [HXB.out]; exact at_range (env_b h))
 have fO : Hid (∀ w G, BlkV 57 w G x.cs → w.rangeAt G 18 XO) := hid (fun w G h => by rw [HXO.out]; exact at_range (env_o hx h))
 have fN : Hid (∀ w G, BlkV 57 w G x.cs → At w ⟨G, 34, none⟩ XN) := hid (fun w G h => by rw [HXN.out]; exact env_n hx h)
 have fC : Hid (∀ w G, BlkV 57 w G x.cs → w.rangeAt G 50 XC) := hid (fun w G h => by rw [HXC.out]; exact at_range (env_c hx h))
 have fG : Hid (∀ w G, BlkV 57 w G x.cs → At w ⟨G, 82, none⟩ XG) := hid (fun w G h => by rw [HXG.out]; exact env_g hx h)
 have fT : Hid (∀ w G, BlkV 57 w G x.cs → w.rangeAt G 114 XT) := hid (fun w G h => by rw [HXT.out]; exact at_range (env_t hx h))
 obtain ⟨CS, HCS⟩ : ∃ C, Hid (C = x.cs) := ⟨_, rfl⟩
 have hCl : CS.length = 130 := by rw [HCS.out]; exact hx.csl
 obtain ⟨E, HE⟩ : ∃ E, Hid (E = x.e) := ⟨_, rfl⟩
 rw [← HE.out] at hde hce
 rw [← HXN.out] at hcov
 rw [← HK.out] at hnm htg hde ⊢
 rw [← HNV.out] at hnm
 rw [← HCV.out] at hcx
 rw [← HTV.out] at htg
 rw [← HNS.out] at hns
 have hC1 : ∀ u ∈ x.cs, u.oneCell' = true := x.cs_one
 rw [← HCS.out] at htg hcv hce fB fO fN fC fG fT hrd hC1
 have hPg := fun (y : World) (g : Nat) (h : BlkV 57 y g CS) => hid ((⟨at_rowI h.lt (HXG.out ▸ fG.out y g h), by show x.g.length ≤ 32; rw [hgl.out]; decide, by show (32 : Nat) ≤ maxLen; decide, hgo, fun b e => by cases e; exact h.lt⟩ : Pt.Ok y ⟨some ⟨g, 82, none⟩, 32, x.g⟩))
 have hal := hal22'
 have hAA := fun w a n cap h => run_arrayAtKey w a n cap h
 have hu23 := Tryz.underlying23
 have hi23 : (Tryz.prog.info? 23).map (·.size) = some K.length := by rw [hKl]; exact aggKey.2
 have hiS : (Tryz.prog.info? 23).map (·.size) = some SV.length := by rw [hSl]; exact aggKey.2
 have huI := Tryz.underlying27
 have hiI : (Tryz.prog.info? 27).map (·.size) = some XB.length := by rw [hXBl]; exact aggID.2
 have hiO : (Tryz.prog.info? 27).map (·.size) = some XO.length := by rw [hXOl]; exact aggID.2
 have huC := Tryz.underlying54
 have hiC : (Tryz.prog.info? 54).map (·.size) = some XC.length := by rw [hXCl]; exact aggSumT.2
 have huT := Tryz.underlying55
 have hiT : (Tryz.prog.info? 55).map (·.size) = some XT.length := by rw [hXTl]; exact aggTag.2
 have huE := Tryz.underlying57
 have hiE : (Tryz.prog.info? 57).map (·.size) = some CS.length := by rw [hCl]; exact aggEnv.2
 have huS := hu23
 have huW := hu23
 have hiW : (Tryz.prog.info? 23).map (·.size) = some KW.length := by rw [hKWl]; exact aggKey.2
 have huN := Tryz.underlying53
 have hiN : (Tryz.prog.info? 53).map (·.size) = some XN.length := by rw [hXNl]; exact aggNo.2
 have huO := huI
 have hmI : ¬ (4096 : Int) < (mc : Int) := by omega
 clear hk hn HL hrx hx0 hx hv he hmc HP hn0 hgo hoV
 go_enter Tryz.func13, Tryz.ntmps13
 go_wp2_with (first | (refine wl_storeV rfl 57 _ _ rfl 57 M rfl CS rfl 130 aggEnv hCl ZE hG3 hZEl hC1 ?_; intro w4 hX4 hb4 hs4; have hB4 := hB3.below hb4 (by omega); have hR4 := hR3.below hb4 (by omega); have bb4 := bb3.trans (hb4.mono (by omega : B ≤ _)); have hsy4 : M + 1 ≤ w4.heap.size := hX4.lt; clear hB3 hR3 bb3 hb4 hG3) | (refine wl_allocV rfl 57 rfl ZE hzE.out w2.heap.size rfl ?_; intro w3 hG3 hb3 hs3; obtain ⟨M, HM⟩ : ∃ g, Hid (g = w2.heap.size) := ⟨_, rfl⟩; rw [← HM.out] at hG3 hb3 hs3; rw [← HM.out]; have hMB : B + 2 ≤ M := (by rw [HM.out]; exact hs2); have hB3 := hB2.below hb3 (by omega); have hR3 := hR2.below hb3 (by omega); have bb3 := bb2.trans (hb3.mono (by omega : B ≤ _)); clear hB2 hR2 bb2 hb3) | (go_at_call 27; refine (hrd w1 bb1).out.mono ?_; rintro r w2 ⟨rfl, hb2⟩; have hB2 := hB1.below hb2 hB1.lt; have hR2 := hR1.below hb2 hR1.lt; have bb2 := bb1.trans (hb2.mono (by omega : B ≤ _)); have hs2 : B + 2 ≤ w2.heap.size := (by have := hb2.size; omega); clear hB1 hR1 bb1 hb1 hb2) | (refine wl_allocV rfl 23 rfl Z hzK.out (B + 1) hs0 ?_; intro w1 hR1 hb1 hs1; have hB1 := hB0.below hb1 (by omega); have bb1 := hb0.trans (hb1.mono (by omega : B ≤ _)); clear hB0 hb0) | (refine wl_boxV rfl 23 _ rfl K rfl B hsz ?_; intro w0 hB0 hb0 hs0))
 clear hs0 hs1 hs2
 cases h1 : (x.b == nameL k)
 ·skip
  have heN := heN _ h1
  refine wp_region_held_drew (S := (fun w' => BlkV 23 w' B K ∧ BlkV 57 w' M CS ∧ True)) (by kernel_rfl) ⟨(show BlkV 23 w4.drew B K from hB4), (show BlkV 57 w4.drew M CS from hX4), trivial⟩ (fun hHeld => ?_)
  obtain ⟨y5, HY5⟩ : ∃ y, Hid (y = w4.drew) := ⟨_, rfl⟩
  rw [← HY5.out] at hHeld ⊢
  have hB5 : BlkV 23 y5 B K := by rw [HY5.out]; exact hB4
  have hX5 : BlkV 57 y5 M CS := by rw [HY5.out]; exact hX4
  have hR5 : BlkV 23 y5 (B + 1) Z := by rw [HY5.out]; exact hR4
  have bb5 : Below B w y5 := by rw [HY5.out]; exact bb4.drew
  have hsy5 : M + 1 ≤ y5.heap.size := hX5.lt
  refine tkP 0 rfl (by assumption) ⟨?_, ?_, ?_⟩
  rotate_left
  ·intro w hSw; (try dsimp only at hSw); go_simp; (try with_reducible rfl)
  try simp only [Act.put, sArr, sZ, sS]
  refine tkR 1 rfl (yieldsIf_load_mid (by rfl) 27 _ rfl M 2 rfl XB _ (fun w hS => fB.out w _ hS.2.1) huI rfl hiI) (by assumption) ?_
  try simp only [Act.put, sArr, sZ, sS]
  refine tkR 2 rfl (yieldsIf_load_mid (by rfl) 23 _ rfl B 0 rfl K _ (fun w hS => at_range hS.1.at0) hu23 rfl hi23) (by assumption) ?_
  try simp only [Act.put, sArr, sZ, sS]
  refine wpAnyH_ready (rs := [3]) (by kernel_rfl) (by simp) (cons_l rfl (fun K' hK' => ?_) AllReadyH.nil)
  rw [if_pos (by kernel_rfl)]
  go_simp
  go_at_call 12
  refine (hnm y5).out.mono ?_
  rintro e y6 ⟨rfl, hbx6⟩
  have hB6 := hB5.below hbx6 (by omega)
  have hX6 := hX5.below hbx6 (by omega)
  have hR6 := hR5.below hbx6 (by omega)
  have bb6 := bb5.trans (hbx6.mono (by omega : B ≤ _))
  have hsy6 : M + 1 ≤ y6.heap.size := hX6.lt
  refine hK'.out _ _ ⟨hB6, hX6, trivial⟩ (fun hHeld => ?_)
  clear hK' K'
  try simp only [Act.put, sArr, sZ, sS]
  refine tkR 4 rfl (yieldsIf_neM (by rfl) 27 _ _ _ rfl XB.toArray NV.toArray rfl rfl false heN.out (by kernel_rfl)) (by assumption) ?_
  try simp only [Act.put, sArr, sZ, sS]
  refine wpAnyH_done (by kernel_rfl) ?_ _
  clear hHeld
  go_wp2_with (first | (refine wl_storeV rfl 23 _ _ rfl 23 (B + 1) rfl Z rfl 32 aggKey hZl Z hR6 hZl hZ1 ?_; intro vF hRF hbF hsF; have bbF := bb6.trans (hbF.mono (by omega : B ≤ _)); clear hR6) | (refine wl_build0 rfl 23 rfl Z HBK.out ?_))
  (try simp only [Exit.inBlock, Exit.then]); refine bodyPost_ret (results_cell2 rfl _ _ _ _ rfl Z (by rw [hZl]; exact aggKey) hRF.at0) rfl ?_
  exact ⟨by rw [(hoA h1).out]; rfl, by rw [← HB.out]; exact bbF⟩
 have heN := heN _ h1
 refine wp_region_held_drew (S := (fun w' => BlkV 23 w' B K ∧ BlkV 57 w' M CS ∧ True)) (by kernel_rfl) ⟨(show BlkV 23 w4.drew B K from hB4), (show BlkV 57 w4.drew M CS from hX4), trivial⟩ (fun hHeld => ?_)
 obtain ⟨y5, HY5⟩ : ∃ y, Hid (y = w4.drew) := ⟨_, rfl⟩
 rw [← HY5.out] at hHeld ⊢
 have hB5 : BlkV 23 y5 B K := by rw [HY5.out]; exact hB4
 have hX5 : BlkV 57 y5 M CS := by rw [HY5.out]; exact hX4
 have hR5 : BlkV 23 y5 (B + 1) Z := by rw [HY5.out]; exact hR4
 have bb5 : Below B w y5 := by rw [HY5.out]; exact bb4.drew
 have hsy5 : M + 1 ≤ y5.heap.size := hX5.lt
 refine tkP 0 rfl (by assumption) ⟨?_, ?_, ?_⟩
 rotate_left
 ·intro w hSw; (try dsimp only at hSw); go_simp; (try with_reducible rfl)
 try simp only [Act.put, sArr, sZ, sS]
 refine tkR 1 rfl (yieldsIf_load_mid (by rfl) 27 _ rfl M 2 rfl XB _ (fun w hS => fB.out w _ hS.2.1) huI rfl hiI) (by assumption) ?_
 try simp only [Act.put, sArr, sZ, sS]
 refine tkR 2 rfl (yieldsIf_load_mid (by rfl) 23 _ rfl B 0 rfl K _ (fun w hS => at_range hS.1.at0) hu23 rfl hi23) (by assumption) ?_
 try simp only [Act.put, sArr, sZ, sS]
 refine wpAnyH_ready (rs := [3]) (by kernel_rfl) (by simp) (cons_l rfl (fun K' hK' => ?_) AllReadyH.nil)
 rw [if_pos (by kernel_rfl)]
 go_simp
 go_at_call 12
 refine (hnm y5).out.mono ?_
 rintro e y6 ⟨rfl, hbx6⟩
 have hB6 := hB5.below hbx6 (by omega)
 have hX6 := hX5.below hbx6 (by omega)
 have hR6 := hR5.below hbx6 (by omega)
 have bb6 := bb5.trans (hbx6.mono (by omega : B ≤ _))
 have hsy6 : M + 1 ≤ y6.heap.size := hX6.lt
 refine hK'.out _ _ ⟨hB6, hX6, trivial⟩ (fun hHeld => ?_)
 clear hK' K'
 try simp only [Act.put, sArr, sZ, sS]
 refine tkR 4 rfl (yieldsIf_neM (by rfl) 27 _ _ _ rfl XB.toArray NV.toArray rfl rfl true heN.out (by kernel_rfl)) (by assumption) ?_
 try simp only [Act.put, sArr, sZ, sS]
 refine wpAnyH_done (by kernel_rfl) ?_ _
 clear hHeld
 go_wp2_with fail
 refine wp_region_held_drew (S := (fun w' => BlkV 23 w' B K ∧ BlkV 57 w' M CS ∧ True)) (by kernel_rfl) ⟨(show BlkV 23 y6.drew B K from hB6), (show BlkV 57 y6.drew M CS from hX6), trivial⟩ (fun hHeld => ?_)
 obtain ⟨y7, HY7⟩ : ∃ y, Hid (y = y6.drew) := ⟨_, rfl⟩
 rw [← HY7.out] at hHeld ⊢
 have hB7 : BlkV 23 y7 B K := by rw [HY7.out]; exact hB6
 have hX7 : BlkV 57 y7 M CS := by rw [HY7.out]; exact hX6
 have hR7 : BlkV 23 y7 (B + 1) Z := by rw [HY7.out]; exact hR6
 have bb7 : Below B w y7 := by rw [HY7.out]; exact bb6.drew
 have hsy7 : M + 1 ≤ y7.heap.size := hX7.lt
 refine tkP 0 rfl (by assumption) ⟨?_, ?_, ?_⟩
 rotate_left
 ·intro w hSw; (try dsimp only at hSw); go_simp; (try with_reducible rfl)
 try simp only [Act.put, sArr, sZ, sS]
 refine tkP 1 rfl (by assumption) ⟨?_, ?_, ?_⟩
 rotate_left
 ·intro w hSw; have c0 := (hSw.2.1.cell 0).trans hcv.out; (try dsimp only at hSw); go_simp; (try with_reducible rfl)
 try simp only [Act.put, sArr, sZ, sS]
 refine tkP 2 rfl (by assumption) ⟨?_, ?_, ?_⟩
 rotate_left
 ·intro w hSw; (try dsimp only at hSw); go_simp; (try with_reducible rfl)
 try simp only [Act.put, sArr, sZ, sS]
 refine tkP 3 rfl (by assumption) ⟨?_, ?_, ?_⟩
 rotate_left
 ·intro w hSw; (try dsimp only at hSw); go_simp; (try with_reducible rfl)
 try simp only [Act.put, sArr, sZ, sS]
 refine tkR 4 rfl (Or.inr ⟨by kernel_rfl, rfl⟩) (by assumption) ?_
 try simp only [Act.put, sArr, sZ, sS]
 refine tkR 5 rfl (Or.inr ⟨by kernel_rfl, rfl⟩) (by assumption) ?_
 try simp only [Act.put, sArr, sZ, sS]
 refine tkR 6 rfl (Or.inr ⟨by kernel_rfl, rfl⟩) (by assumption) ?_
 try simp only [Act.put, sArr, sZ, sS]
 refine tkR 7 rfl (Or.inr ⟨by kernel_rfl, rfl⟩) (by assumption) ?_
 try simp only [Act.put, sArr, sZ, sS]
 refine tkR 8 rfl (Or.inr ⟨by kernel_rfl, rfl⟩) (by assumption) ?_
 try simp only [Act.put, sArr, sZ, sS]
 refine tkP 9 rfl (by assumption) ⟨?_, ?_, ?_⟩
 rotate_left
 ·intro w hSw; (try dsimp only at hSw); go_simp; (try with_reducible rfl)
 try simp only [Act.put, sArr, sZ, sS]
 refine wpAnyH_done (by kernel_rfl) ?_ _
 clear hHeld
 have cE := (hX7.cell 1).trans hce.out
 go_wp2_with (first | (refine wl_storeV rfl 23 _ _ rfl 23 D rfl KW rfl 32 aggKey hKWl Z hD9 hZl hKW1 ?_; intro y10 hG10 hbx10 hsx10; have hB10 := hB9.below hbx10 (by omega); have hX10 := hX9.below hbx10 (by omega); have hR10 := hR9.below hbx10 (by omega); have bb10 := bb9.trans (hbx10.mono (by omega : B ≤ _)); have hsy10 : M + 1 ≤ y10.heap.size := hX10.lt; clear hB9 hX9 hR9 bb9 hD9) | (refine wl_allocV rfl 23 rfl Z hzK.out y8.heap.size rfl ?_; intro y9 hD9 hbx9 hsx9; obtain ⟨D, HD⟩ : ∃ g, Hid (g = y8.heap.size) := ⟨_, rfl⟩; rw [← HD.out] at hD9 hbx9 hsx9; rw [← HD.out]; have hDM : M + 1 ≤ D := (by rw [HD.out]; exact hsy8); have hB9 := hB8.below hbx9 (by omega); have hX9 := hX8.below hbx9 (by omega); have hR9 := hR8.below hbx9 (by omega); have bb9 := bb8.trans (hbx9.mono (by omega : B ≤ _)); clear hB8 hX8 hR8 bb8) | (go_at_call 32; refine (hde y7).out.mono ?_; rintro e y8 ⟨rfl, hbx8⟩; have hB8 := hB7.below hbx8 (by omega); have hX8 := hX7.below hbx8 (by omega); have hR8 := hR7.below hbx8 (by omega); have bb8 := bb7.trans (hbx8.mono (by omega : B ≤ _)); have hsy8 : M + 1 ≤ y8.heap.size := hX8.lt; clear hB7 hX7 hR7 bb7) | (refine wl_load rfl 23 _ rfl ⟨B, 0, none⟩ rfl K (by rw [hKl]; exact aggKey) hB7.at0 ?_))
 refine wp_region_held_drew (S := (fun w' => BlkV 23 w' B K ∧ BlkV 57 w' M CS ∧ BlkV 23 w' D KW)) (by kernel_rfl) ⟨(show BlkV 23 y10.drew B K from hB10), (show BlkV 57 y10.drew M CS from hX10), (show BlkV 23 y10.drew D KW from hG10)⟩ (fun hHeld => ?_)
 obtain ⟨y11, HY11⟩ : ∃ y, Hid (y = y10.drew) := ⟨_, rfl⟩
 rw [← HY11.out] at hHeld ⊢
 have hB11 : BlkV 23 y11 B K := by rw [HY11.out]; exact hB10
 have hX11 : BlkV 57 y11 M CS := by rw [HY11.out]; exact hX10
 have hR11 : BlkV 23 y11 (B + 1) Z := by rw [HY11.out]; exact hR10
 have bb11 : Below B w y11 := by rw [HY11.out]; exact bb10.drew
 have hsy11 : M + 1 ≤ y11.heap.size := hX11.lt
 have hG11 : BlkV 23 y11 D KW := by rw [HY11.out]; exact hG10
 refine tkR 0 rfl (yieldsIf_load_mid (by rfl) 23 _ rfl D 0 rfl KW _ (fun w hS => at_range hS.2.2.at0) huW rfl hiW) (by assumption) ?_
 try simp only [Act.put, sArr, sZ, sS]
 refine tkP 1 rfl (by assumption) ⟨?_, ?_, ?_⟩
 rotate_left
 ·intro w hSw; (try dsimp only at hSw); go_simp; (try with_reducible rfl)
 try simp only [Act.put, sArr, sZ, sS]
 refine tkR 2 rfl (yieldsIf_load_mid (by rfl) 53 _ rfl M 34 rfl XN _ (fun w hS => at_range (fN.out w _ hS.2.1)) huN rfl hiN) (by assumption) ?_
 try simp only [Act.put, sArr, sZ, sS]
 refine tkP 3 rfl (by assumption) ⟨?_, ?_, ?_⟩
 rotate_left
 ·intro w hSw; (try dsimp only at hSw); go_simp; (try with_reducible rfl)
 try simp only [Act.put, sArr, sZ, sS]
 refine tkP 4 rfl (by assumption) ⟨?_, ?_, ?_⟩
 rotate_left
 ·intro w hSw; (try dsimp only at hSw); go_simp; (try with_reducible rfl)
 try simp only [Act.put, sArr, sZ, sS]
 refine wpAnyH_ready (rs := [5, 8]) (by kernel_rfl) (by simp) (cons_l rfl (fun K' hK' => ?_) (cons_l rfl (fun K' hK' => ?_) AllReadyH.nil))
 focus
  rw [if_pos (by kernel_rfl)]
  go_simp
  go_at_call 33
  refine (hcov y11 M (hPg y11 M hX11).out).out.mono ?_
  rintro e y12 ⟨aC, cC, rfl, hMC, hbx12⟩
  have hB12 := hB11.below hbx12 (by have := hG11.lt; omega)
  have hX12 := hX11.below hbx12 (by have := hG11.lt; omega)
  have hR12 := hR11.below hbx12 (by have := hG11.lt; omega)
  have bb12 := bb11.trans (hbx12.mono (by omega : B ≤ _))
  have hsy12 : M + 1 ≤ y12.heap.size := hX12.lt
  have hG12 := hG11.below hbx12 (by have := hG11.lt; omega)
  obtain ⟨gC, cur, rfl, hgC, hC12, _, _, _, hcur⟩ := own_blk (mine_own hMC (by decide)) (by decide)
  have hW12 : At y12 ⟨gC, 0, none⟩ SV := hC12.at 0 _ fun j u hu => by rw [Nat.zero_add]; rw [← hcur, List.getElem?_take] at hu; split at hu; exact hu; cases hu
  have hWl12 := hC12.lt
  refine hK'.out _ _ ⟨hB12, hX12, hG12⟩ (fun hHeld => ?_)
  clear hK' K'
  try simp only [Act.put, sArr, sZ, sS]
  refine tkP 6 rfl (by assumption) ⟨?_, ?_, ?_⟩
  rotate_left
  ·intro w hSw; (try dsimp only at hSw); go_simp; (try with_reducible rfl)
  try simp only [Act.put, sArr, sZ, sS]
  refine wpAnyH_ready (rs := [7, 8]) (by kernel_rfl) (by simp) (cons_l rfl (fun K' hK' => ?_) (cons_l rfl (fun K' hK' => ?_) AllReadyH.nil))
  focus
   refine step_loadA (by kernel_rfl) 23 _ rfl ⟨gC, 0, none⟩ rfl SV (by rw [hSl]; exact aggKey) hW12 ?_
   refine hK'.out _ _ ⟨hB12, hX12, hG12⟩ (fun hHeld => ?_)
   clear hK' K'
   try simp only [Act.put, sArr, sZ, sS]
   refine wpAnyH_ready (rs := [8]) (by kernel_rfl) (by simp) (cons_l rfl (fun K' hK' => ?_) AllReadyH.nil)
   obtain ⟨G, HG⟩ : ∃ g, Hid (g = y12.heap.size) := ⟨_, rfl⟩
   have hGD : D + 1 ≤ G := by rw [HG.out]; exact hG12.lt
   refine step_allocV (by rfl) 23 (by rfl) Z hzK.out G HG.out.symm ?_
   intro y13 hA13 hbx13 hsx13
   have hB13 := hB12.below hbx13 (by omega)
   have hX13 := hX12.below hbx13 (by omega)
   have hR13 := hR12.below hbx13 (by omega)
   have bb13 := bb12.trans (hbx13.mono (by omega : B ≤ _))
   have hsy13 : M + 1 ≤ y13.heap.size := hX13.lt
   have hG13 := hG12.below hbx13 (by omega)
   have hW13 := at_below hW12 hbx13 (by rw [HG.out]; exact hWl12)
   have hWl13 : gC < y13.heap.size := by have := hbx13.size; omega
   refine hK'.out _ _ ⟨hB13, hX13, hG13⟩ (fun hHeld => ?_)
   clear hK' K'
   try simp only [Act.put, sArr, sZ, sS]
   refine wpAnyH_ready (rs := [9]) (by kernel_rfl) (by simp) (cons_l rfl (fun K' hK' => ?_) AllReadyH.nil)
   refine step_storeV (by rfl) 23 _ _ (by rfl) 23 G (by rfl) SV (by rfl) 32 aggKey hSl Z hA13 hZl hS1 ?_
   intro y14 hQ14 hbx14 hsx14
   have hB14 := hB13.below hbx14 (by omega)
   have hX14 := hX13.below hbx14 (by omega)
   have hR14 := hR13.below hbx14 (by omega)
   have bb14 := bb13.trans (hbx14.mono (by omega : B ≤ _))
   have hsy14 : M + 1 ≤ y14.heap.size := hX14.lt
   have hG14 := hG13.below hbx14 (by omega)
   refine hK'.out _ _ ⟨hB14, hX14, hG14⟩ (fun hHeld => ?_)
   clear hK' K'
   try simp only [Act.put, sArr, sZ, sS]
   refine wpAnyH_done (by kernel_rfl) ?_ _
   clear hHeld
   obtain ⟨y100, hy100⟩ : ∃ z, z = y14 := ⟨_, rfl⟩
   subst hy100
   have hB100 := hB14
   have hX100 := hX14
   have hR100 := hR14
   have bb100 := bb14
   have hsy100 := hsy14
   have hG100 := hQ14
  rotate_left 1
  focus
   obtain ⟨G, HG⟩ : ∃ g, Hid (g = y12.heap.size) := ⟨_, rfl⟩
   have hGD : D + 1 ≤ G := by rw [HG.out]; exact hG12.lt
   refine step_allocV (by rfl) 23 (by rfl) Z hzK.out G HG.out.symm ?_
   intro y13 hA13 hbx13 hsx13
   have hB13 := hB12.below hbx13 (by omega)
   have hX13 := hX12.below hbx13 (by omega)
   have hR13 := hR12.below hbx13 (by omega)
   have bb13 := bb12.trans (hbx13.mono (by omega : B ≤ _))
   have hsy13 : M + 1 ≤ y13.heap.size := hX13.lt
   have hG13 := hG12.below hbx13 (by omega)
   have hW13 := at_below hW12 hbx13 (by rw [HG.out]; exact hWl12)
   have hWl13 : gC < y13.heap.size := by have := hbx13.size; omega
   refine hK'.out _ _ ⟨hB13, hX13, hG13⟩ (fun hHeld => ?_)
   clear hK' K'
   try simp only [Act.put, sArr, sZ, sS]
   refine wpAnyH_ready (rs := [7]) (by kernel_rfl) (by simp) (cons_l rfl (fun K' hK' => ?_) AllReadyH.nil)
   refine step_loadA (by kernel_rfl) 23 _ rfl ⟨gC, 0, none⟩ rfl SV (by rw [hSl]; exact aggKey) hW13 ?_
   refine hK'.out _ _ ⟨hB13, hX13, hG13⟩ (fun hHeld => ?_)
   clear hK' K'
   try simp only [Act.put, sArr, sZ, sS]
   refine wpAnyH_ready (rs := [9]) (by kernel_rfl) (by simp) (cons_l rfl (fun K' hK' => ?_) AllReadyH.nil)
   refine step_storeV (by rfl) 23 _ _ (by rfl) 23 G (by rfl) SV (by rfl) 32 aggKey hSl Z hA13 hZl hS1 ?_
   intro y14 hQ14 hbx14 hsx14
   have hB14 := hB13.below hbx14 (by omega)
   have hX14 := hX13.below hbx14 (by omega)
   have hR14 := hR13.below hbx14 (by omega)
   have bb14 := bb13.trans (hbx14.mono (by omega : B ≤ _))
   have hsy14 : M + 1 ≤ y14.heap.size := hX14.lt
   have hG14 := hG13.below hbx14 (by omega)
   refine hK'.out _ _ ⟨hB14, hX14, hG14⟩ (fun hHeld => ?_)
   clear hK' K'
   try simp only [Act.put, sArr, sZ, sS]
   refine wpAnyH_done (by kernel_rfl) ?_ _
   clear hHeld
   obtain ⟨y100, hy100⟩ : ∃ z, z = y14 := ⟨_, rfl⟩
   subst hy100
   have hB100 := hB14
   have hX100 := hX14
   have hR100 := hR14
   have bb100 := bb14
   have hsy100 := hsy14
   have hG100 := hQ14
  rotate_left 1
 rotate_left 2
 focus
  obtain ⟨G, HG⟩ : ∃ g, Hid (g = y11.heap.size) := ⟨_, rfl⟩
  have hGD : D + 1 ≤ G := by rw [HG.out]; exact hG11.lt
  refine step_allocV (by rfl) 23 (by rfl) Z hzK.out G HG.out.symm ?_
  intro y12 hA12 hbx12 hsx12
  have hB12 := hB11.below hbx12 (by omega)
  have hX12 := hX11.below hbx12 (by omega)
  have hR12 := hR11.below hbx12 (by omega)
  have bb12 := bb11.trans (hbx12.mono (by omega : B ≤ _))
  have hsy12 : M + 1 ≤ y12.heap.size := hX12.lt
  have hG12 := hG11.below hbx12 (by omega)
  refine hK'.out _ _ ⟨hB12, hX12, hG12⟩ (fun hHeld => ?_)
  clear hK' K'
  try simp only [Act.put, sArr, sZ, sS]
  refine wpAnyH_ready (rs := [5]) (by kernel_rfl) (by simp) (cons_l rfl (fun K' hK' => ?_) AllReadyH.nil)
  rw [if_pos (by kernel_rfl)]
  go_simp
  go_at_call 33
  refine (hcov y12 M (hPg y12 M hX12).out).out.mono ?_
  rintro e y13 ⟨aC, cC, rfl, hMC, hbx13⟩
  have hB13 := hB12.below hbx13 (by have := hG12.lt; omega)
  have hX13 := hX12.below hbx13 (by have := hG12.lt; omega)
  have hR13 := hR12.below hbx13 (by have := hG12.lt; omega)
  have bb13 := bb12.trans (hbx13.mono (by omega : B ≤ _))
  have hsy13 : M + 1 ≤ y13.heap.size := hX13.lt
  have hG13 := hG12.below hbx13 (by have := hG12.lt; omega)
  have hA13 := hA12.below hbx13 hA12.lt
  obtain ⟨gC, cur, rfl, hgC, hC13, _, _, _, hcur⟩ := own_blk (mine_own hMC (by decide)) (by decide)
  have hW13 : At y13 ⟨gC, 0, none⟩ SV := hC13.at 0 _ fun j u hu => by rw [Nat.zero_add]; rw [← hcur, List.getElem?_take] at hu; split at hu; exact hu; cases hu
  have hWl13 := hC13.lt
  refine hK'.out _ _ ⟨hB13, hX13, hG13⟩ (fun hHeld => ?_)
  clear hK' K'
  try simp only [Act.put, sArr, sZ, sS]
  refine tkP 6 rfl (by assumption) ⟨?_, ?_, ?_⟩
  rotate_left
  ·intro w hSw; (try dsimp only at hSw); go_simp; (try with_reducible rfl)
  try simp only [Act.put, sArr, sZ, sS]
  refine wpAnyH_ready (rs := [7]) (by kernel_rfl) (by simp) (cons_l rfl (fun K' hK' => ?_) AllReadyH.nil)
  refine step_loadA (by kernel_rfl) 23 _ rfl ⟨gC, 0, none⟩ rfl SV (by rw [hSl]; exact aggKey) hW13 ?_
  refine hK'.out _ _ ⟨hB13, hX13, hG13⟩ (fun hHeld => ?_)
  clear hK' K'
  try simp only [Act.put, sArr, sZ, sS]
  refine wpAnyH_ready (rs := [9]) (by kernel_rfl) (by simp) (cons_l rfl (fun K' hK' => ?_) AllReadyH.nil)
  refine step_storeV (by rfl) 23 _ _ (by rfl) 23 G (by rfl) SV (by rfl) 32 aggKey hSl Z hA13 hZl hS1 ?_
  intro y14 hQ14 hbx14 hsx14
  have hB14 := hB13.below hbx14 (by omega)
  have hX14 := hX13.below hbx14 (by omega)
  have hR14 := hR13.below hbx14 (by omega)
  have bb14 := bb13.trans (hbx14.mono (by omega : B ≤ _))
  have hsy14 : M + 1 ≤ y14.heap.size := hX14.lt
  have hG14 := hG13.below hbx14 (by omega)
  refine hK'.out _ _ ⟨hB14, hX14, hG14⟩ (fun hHeld => ?_)
  clear hK' K'
  try simp only [Act.put, sArr, sZ, sS]
  refine wpAnyH_done (by kernel_rfl) ?_ _
  clear hHeld
  obtain ⟨y100, hy100⟩ : ∃ z, z = y14 := ⟨_, rfl⟩
  subst hy100
  have hB100 := hB14
  have hX100 := hX14
  have hR100 := hR14
  have bb100 := bb14
  have hsy100 := hsy14
  have hG100 := hQ14
 rotate_left 1
 all_goals
  go_wp2_with fail
  cases h3 : (x.t == tagX k x c)
  ·skip
   have heT := heT _ h3
   refine wp_region_held_drew (S := (fun w' => BlkV 23 w' B K ∧ BlkV 57 w' M CS ∧ BlkV 23 w' G SV)) (by kernel_rfl) ⟨(show BlkV 23 y100.drew B K from hB100), (show BlkV 57 y100.drew M CS from hX100), (show BlkV 23 y100.drew G SV from hG100)⟩ (fun hHeld => ?_)
   obtain ⟨y101, HY101⟩ : ∃ y, Hid (y = y100.drew) := ⟨_, rfl⟩
   rw [← HY101.out] at hHeld ⊢
   have hB101 : BlkV 23 y101 B K := by rw [HY101.out]; exact hB100
   have hX101 : BlkV 57 y101 M CS := by rw [HY101.out]; exact hX100
   have hR101 : BlkV 23 y101 (B + 1) Z := by rw [HY101.out]; exact hR100
   have bb101 : Below B w y101 := by rw [HY101.out]; exact bb100.drew
   have hsy101 : M + 1 ≤ y101.heap.size := hX101.lt
   have hG101 : BlkV 23 y101 G SV := by rw [HY101.out]; exact hG100
   refine tkP 0 rfl (by assumption) ⟨?_, ?_, ?_⟩
   rotate_left
   ·intro w hSw; (try dsimp only at hSw); go_simp; (try with_reducible rfl)
   try simp only [Act.put, sArr, sZ, sS]
   refine tkR 1 rfl (yieldsIf_load_mid (by rfl) 55 _ rfl M 114 rfl XT _ (fun w hS => fT.out w _ hS.2.1) huT rfl hiT) (by assumption) ?_
   try simp only [Act.put, sArr, sZ, sS]
   refine tkR 2 rfl (yieldsIf_load_mid (by rfl) 23 _ rfl B 0 rfl K _ (fun w hS => at_range hS.1.at0) hu23 rfl hi23) (by assumption) ?_
   try simp only [Act.put, sArr, sZ, sS]
   refine tkR 3 rfl (yieldsIf_load_mid (by rfl) 57 _ rfl M 0 rfl CS _ (fun w hS => at_range hS.2.1.at0) huE rfl hiE) (by assumption) ?_
   try simp only [Act.put, sArr, sZ, sS]
   refine tkP 4 rfl (by assumption) ⟨?_, ?_, ?_⟩
   rotate_left
   ·intro w hSw; (try dsimp only at hSw); go_simp; (try with_reducible rfl)
   try simp only [Act.put, sArr, sZ, sS]
   refine wpAnyH_ready (rs := [5]) (by kernel_rfl) (by simp) (cons_l rfl (fun K' hK' => ?_) AllReadyH.nil)
   rw [if_pos (by kernel_rfl)]
   go_simp
   go_at_call 34
   refine (htg y101 bb101).out.mono ?_
   rintro e y102 ⟨rfl, hbx102⟩
   have hB102 := hB101.below hbx102 (by have := hG101.lt; omega)
   have hX102 := hX101.below hbx102 (by have := hG101.lt; omega)
   have hR102 := hR101.below hbx102 (by have := hG101.lt; omega)
   have bb102 := bb101.trans (hbx102.mono (by omega : B ≤ _))
   have hsy102 : M + 1 ≤ y102.heap.size := hX102.lt
   have hG102 := hG101.below hbx102 (by have := hG101.lt; omega)
   refine hK'.out _ _ ⟨hB102, hX102, hG102⟩ (fun hHeld => ?_)
   clear hK' K'
   try simp only [Act.put, sArr, sZ, sS]
   refine tkR 6 rfl (yieldsIf_neM (by rfl) 55 _ _ _ rfl XT.toArray TV.toArray rfl rfl false heT.out (by kernel_rfl)) (by assumption) ?_
   try simp only [Act.put, sArr, sZ, sS]
   refine tkP 7 rfl (by assumption) ⟨?_, ?_, ?_⟩
   rotate_left
   ·intro w hSw; (try dsimp only at hSw); go_simp; (try with_reducible rfl)
   try simp only [Act.put, sArr, sZ, sS]
   refine tkR 8 rfl (Or.inr ⟨by kernel_rfl, rfl⟩) (by assumption) ?_
   try simp only [Act.put, sArr, sZ, sS]
   refine tkR 9 rfl (Or.inr ⟨by kernel_rfl, rfl⟩) (by assumption) ?_
   try simp only [Act.put, sArr, sZ, sS]
   refine tkR 10 rfl (Or.inr ⟨by kernel_rfl, rfl⟩) (by assumption) ?_
   try simp only [Act.put, sArr, sZ, sS]
   refine tkR 11 rfl (Or.inr ⟨by kernel_rfl, rfl⟩) (by assumption) ?_
   try simp only [Act.put, sArr, sZ, sS]
   refine tkR 12 rfl (Or.inr ⟨by kernel_rfl, rfl⟩) (by assumption) ?_
   try simp only [Act.put, sArr, sZ, sS]
   refine tkR 13 rfl (Or.inr ⟨by kernel_rfl, rfl⟩) (by assumption) ?_
   try simp only [Act.put, sArr, sZ, sS]
   refine tkR 14 rfl (Or.inr ⟨by kernel_rfl, rfl⟩) (by assumption) ?_
   try simp only [Act.put, sArr, sZ, sS]
   refine tkR 15 rfl (Or.inr ⟨by kernel_rfl, rfl⟩) (by assumption) ?_
   try simp only [Act.put, sArr, sZ, sS]
   refine tkR 16 rfl (Or.inr ⟨by kernel_rfl, rfl⟩) (by assumption) ?_
   try simp only [Act.put, sArr, sZ, sS]
   refine tkR 17 rfl (Or.inr ⟨by kernel_rfl, rfl⟩) (by assumption) ?_
   try simp only [Act.put, sArr, sZ, sS]
   refine tkP 18 rfl (by assumption) ⟨?_, ?_, ?_⟩
   rotate_left
   ·intro w hSw; (try dsimp only at hSw); go_simp; (try with_reducible rfl)
   try simp only [Act.put, sArr, sZ, sS]
   refine wpAnyH_done (by kernel_rfl) ?_ _
   clear hHeld
   go_wp2_with (first | (refine wl_storeV rfl 23 _ _ rfl 23 (B + 1) rfl Z rfl 32 aggKey hZl Z hR102 hZl hZ1 ?_; intro vF hRF hbF hsF; have bbF := bb102.trans (hbF.mono (by omega : B ≤ _)); clear hR102) | (refine wl_build0 rfl 23 rfl Z HBK.out ?_))
   (try simp only [Exit.inBlock, Exit.then]); refine bodyPost_ret (results_cell2 rfl _ _ _ _ rfl Z (by rw [hZl]; exact aggKey) hRF.at0) rfl ?_
   exact ⟨by rw [(hoT h1 h3).out]; rfl, by rw [← HB.out]; exact bbF⟩
  have heT := heT _ h3
  refine wp_region_held_drew (S := (fun w' => BlkV 23 w' B K ∧ BlkV 57 w' M CS ∧ BlkV 23 w' G SV)) (by kernel_rfl) ⟨(show BlkV 23 y100.drew B K from hB100), (show BlkV 57 y100.drew M CS from hX100), (show BlkV 23 y100.drew G SV from hG100)⟩ (fun hHeld => ?_)
  obtain ⟨y101, HY101⟩ : ∃ y, Hid (y = y100.drew) := ⟨_, rfl⟩
  rw [← HY101.out] at hHeld ⊢
  have hB101 : BlkV 23 y101 B K := by rw [HY101.out]; exact hB100
  have hX101 : BlkV 57 y101 M CS := by rw [HY101.out]; exact hX100
  have hR101 : BlkV 23 y101 (B + 1) Z := by rw [HY101.out]; exact hR100
  have bb101 : Below B w y101 := by rw [HY101.out]; exact bb100.drew
  have hsy101 : M + 1 ≤ y101.heap.size := hX101.lt
  have hG101 : BlkV 23 y101 G SV := by rw [HY101.out]; exact hG100
  refine tkP 0 rfl (by assumption) ⟨?_, ?_, ?_⟩
  rotate_left
  ·intro w hSw; (try dsimp only at hSw); go_simp; (try with_reducible rfl)
  try simp only [Act.put, sArr, sZ, sS]
  refine tkR 1 rfl (yieldsIf_load_mid (by rfl) 55 _ rfl M 114 rfl XT _ (fun w hS => fT.out w _ hS.2.1) huT rfl hiT) (by assumption) ?_
  try simp only [Act.put, sArr, sZ, sS]
  refine tkR 2 rfl (yieldsIf_load_mid (by rfl) 23 _ rfl B 0 rfl K _ (fun w hS => at_range hS.1.at0) hu23 rfl hi23) (by assumption) ?_
  try simp only [Act.put, sArr, sZ, sS]
  refine tkR 3 rfl (yieldsIf_load_mid (by rfl) 57 _ rfl M 0 rfl CS _ (fun w hS => at_range hS.2.1.at0) huE rfl hiE) (by assumption) ?_
  try simp only [Act.put, sArr, sZ, sS]
  refine tkP 4 rfl (by assumption) ⟨?_, ?_, ?_⟩
  rotate_left
  ·intro w hSw; (try dsimp only at hSw); go_simp; (try with_reducible rfl)
  try simp only [Act.put, sArr, sZ, sS]
  refine wpAnyH_ready (rs := [5]) (by kernel_rfl) (by simp) (cons_l rfl (fun K' hK' => ?_) AllReadyH.nil)
  rw [if_pos (by kernel_rfl)]
  go_simp
  go_at_call 34
  refine (htg y101 bb101).out.mono ?_
  rintro e y102 ⟨rfl, hbx102⟩
  have hB102 := hB101.below hbx102 (by have := hG101.lt; omega)
  have hX102 := hX101.below hbx102 (by have := hG101.lt; omega)
  have hR102 := hR101.below hbx102 (by have := hG101.lt; omega)
  have bb102 := bb101.trans (hbx102.mono (by omega : B ≤ _))
  have hsy102 : M + 1 ≤ y102.heap.size := hX102.lt
  have hG102 := hG101.below hbx102 (by have := hG101.lt; omega)
  refine hK'.out _ _ ⟨hB102, hX102, hG102⟩ (fun hHeld => ?_)
  clear hK' K'
  try simp only [Act.put, sArr, sZ, sS]
  refine tkR 6 rfl (yieldsIf_neM (by rfl) 55 _ _ _ rfl XT.toArray TV.toArray rfl rfl true heT.out (by kernel_rfl)) (by assumption) ?_
  try simp only [Act.put, sArr, sZ, sS]
  refine tkP 7 rfl (by assumption) ⟨?_, ?_, ?_⟩
  rotate_left
  ·intro w hSw; (try dsimp only at hSw); go_simp; (try with_reducible rfl)
  try simp only [Act.put, sArr, sZ, sS]
  refine tkP 8 rfl (by assumption) ⟨?_, ?_, ?_⟩
  rotate_left
  ·intro w hSw; (try dsimp only at hSw); go_simp; (try with_reducible rfl)
  try simp only [Act.put, sArr, sZ, sS]
  refine tkP 9 rfl (by assumption) ⟨?_, ?_, ?_⟩
  rotate_left
  ·intro w hSw; have c0 := (hSw.2.1.cell 0).trans hcv.out; (try dsimp only at hSw); go_simp; (try with_reducible rfl)
  try simp only [Act.put, sArr, sZ, sS]
  refine tkP 10 rfl (by assumption) ⟨?_, ?_, ?_⟩
  rotate_left
  ·intro w hSw; (try dsimp only at hSw); go_simp; (try with_reducible rfl)
  try simp only [Act.put, sArr, sZ, sS]
  refine tkP 11 rfl (by assumption) ⟨?_, ?_, ?_⟩
  rotate_left
  ·intro w hSw; (try dsimp only at hSw); go_simp; (try with_reducible rfl)
  try simp only [Act.put, sArr, sZ, sS]
  refine tkR 12 rfl (Or.inr ⟨by kernel_rfl, rfl⟩) (by assumption) ?_
  try simp only [Act.put, sArr, sZ, sS]
  refine tkR 13 rfl (Or.inr ⟨by kernel_rfl, rfl⟩) (by assumption) ?_
  try simp only [Act.put, sArr, sZ, sS]
  refine tkR 14 rfl (Or.inr ⟨by kernel_rfl, rfl⟩) (by assumption) ?_
  try simp only [Act.put, sArr, sZ, sS]
  refine tkR 15 rfl (Or.inr ⟨by kernel_rfl, rfl⟩) (by assumption) ?_
  try simp only [Act.put, sArr, sZ, sS]
  refine tkR 16 rfl (Or.inr ⟨by kernel_rfl, rfl⟩) (by assumption) ?_
  try simp only [Act.put, sArr, sZ, sS]
  refine tkP 17 rfl (by assumption) ⟨?_, ?_, ?_⟩
  rotate_left
  ·intro w hSw; (try dsimp only at hSw); go_simp; (try with_reducible rfl)
  try simp only [Act.put, sArr, sZ, sS]
  refine tkP 18 rfl (by assumption) ⟨?_, ?_, ?_⟩
  rotate_left
  ·intro w hSw; (try dsimp only at hSw); go_simp; (try with_reducible rfl)
  try simp only [Act.put, sArr, sZ, sS]
  refine wpAnyH_done (by kernel_rfl) ?_ _
  clear hHeld
  go_wp2_with (first | (refine wl_storeV rfl 23 _ _ rfl 23 (B + 1) rfl SV rfl 32 aggKey hSl Z hR102 hZl hS1 ?_; intro vF hRF hbF hsF; have bbF := bb102.trans (hbF.mono (by omega : B ≤ _)); clear hR102) | (refine wl_load rfl 23 _ rfl ⟨G, 0, none⟩ rfl SV (by rw [hSl]; exact aggKey) hG102.at0 ?_))
  (try simp only [Exit.inBlock, Exit.then]); refine bodyPost_ret (results_cell2 rfl _ _ _ _ rfl SV (by rw [hSl]; exact aggKey) hRF.at0) rfl ?_
  exact ⟨by rw [(hoE h1 h3).out]; rfl, by rw [← HB.out]; exact bbF⟩
set_option maxHeartbeats 4000000 in
theorem Unwrapped_v2 (k l : List Int) (bo : Option Addr) (bc n : Nat) (x : Env) (c : List Int) (ao : Option Addr) (cap mc : Nat) (w : World) (hk : k.length = 32) (ok : Octs k) (hn : n = l.length) (HL : Pt.Ok w ⟨bo, bc, l⟩) (hrx : readV l = .tuple #[.agg x.cs.toArray, .int .i64 0]) (hx : x.Ok) (hv : x.v = 2) (hx0 : errV x = 0) (he : 0 ≤ x.e ∧ x.e ≤ 4294967295) (hmc : mc = c.length) (HP : Pt.Ok w ⟨ao, cap, c⟩) (hno : ao = none → cap = 0) (hm : mc ≤ 4096) :
  Calls Tryz.prog 13 #[.agg (k.map (Value.int .u8)).toArray, .slice bo n bc, .slice ao mc cap] w fun r w' => r = .returned (openV k x c) ∧ Below w.heap.size w w' := by
 obtain ⟨B, HB⟩ : ∃ B, Hid (B = w.heap.size) := ⟨_, rfl⟩
 have hsz : w.heap.size = B := HB.out.symm
 obtain ⟨Z, HZ⟩ : ∃ Z, Hid (Z = (List.replicate 32 (0 : Int)).map (Value.int .u8)) := ⟨_, rfl⟩
 have hzK := hid zeroKey
 have HBK : Hid (Tryz.prog.built 23 [] = some ((List.replicate 32 (0 : Int)).map (Value.int .u8)).toArray) := hid (by kernel_rfl)
 rw [← HZ.out] at hzK HBK
 have hZl : Z.length = 32 := by rw [HZ.out]; simp
 have hZ1 : ∀ u ∈ Z, u.oneCell' = true := by rw [HZ.out]; exact ints_one _ _
 obtain ⟨SV, HSV⟩ : ∃ V, Hid (V = (secretX k x).map (Value.int .u8)) := ⟨_, rfl⟩
 have hSl : SV.length = 32 := by rw [HSV.out, List.length_map, secretX_length hx]
 have hS1 : ∀ u ∈ SV, u.oneCell' = true := by rw [HSV.out]; exact ints_one _ _
 have hoV := fun (e : Int) (he0 : e ≠ 0) (h : openE k x c = e) => hid (show openV k x c = .tuple #[.agg Z.toArray, .int .i64 e] by unfold openV; rw [h, if_neg he0, HZ.out])
 have hoA := fun (h1 : (x.b == nameL k) = false) => hoV 6 (by decide) (by unfold openE; rw [if_pos (Ne.symm (beq_eq_false_iff_ne.1 h1))])
 have hoC := fun (h1 : (x.b == nameL k) = true) (h2 : (x.c == sumL 0 c) = false) => hoV 17 (by decide) (by unfold openE; rw [if_neg (fun h => h (eq_of_beq h1).symm), if_pos ⟨hv, Ne.symm (beq_eq_false_iff_ne.1 h2)⟩])
 have hoT := fun (h1 : (x.b == nameL k) = true) (h2 : (x.c == sumL 0 c) = true) (h3 : (x.t == tagX k x c) = false) => hoV 13 (by decide) (by unfold openE; rw [if_neg (fun h => h (eq_of_beq h1).symm), if_neg (fun h => h.2 (eq_of_beq h2).symm), if_pos (Ne.symm (beq_eq_false_iff_ne.1 h3))])
 have hoO := fun (h1 : (x.b == nameL k) = true) (h2 : (x.c == sumL 0 c) = true) (h3 : (x.t == tagX k x c) = true) (h4 : (x.o == nameL (secretX k x)) = false) => hoV 13 (by decide) (by unfold openE; rw [if_neg (fun h => h (eq_of_beq h1).symm), if_neg (fun h => h.2 (eq_of_beq h2).symm), if_neg (fun h => h (eq_of_beq h3).symm), if_pos ⟨hv, Ne.symm (beq_eq_false_iff_ne.1 h4)⟩])
 have hoE := fun (h1 : (x.b == nameL k) = true) (h2 : (x.c == sumL 0 c) = true) (h3 : (x.t == tagX k x c) = true) (h4 : (x.o == nameL (secretX k x)) = true) => hid (show openV k x c = .tuple #[.agg SV.toArray, .int .i64 0] by
  have hE : openE k x c = 0 := by unfold openE; rw [if_neg (fun h => h (eq_of_beq h1).symm), if_neg (fun h => h.2 (eq_of_beq h2).symm), if_neg (fun h => h (eq_of_beq h3).symm), if_neg (fun h => h.2 (eq_of_beq h4).symm)]
  unfold openV; rw [hE, if_pos rfl, HSV.out])
 have hnm := fun w => hid (RefNameOf_any k hk ok w)
 have hn0 : ao = none → cap = 0 ∧ mc = 0 := fun h => ⟨hno h, by have h1 := HP.len; have h2 := hno h; have h3 : c.length ≤ cap := h1; omega⟩
 have hcx := fun (y : World) (hb : Below B w y) => hid (sumR 0 ⟨by decide, by decide⟩ ao cap mc c y hmc (HP.below (hsz ▸ hb)) hn0 (by omega))
 have htg := fun (y : World) (hb : Below B w y) => hid (RefTagged_2 k x c ao cap mc y hk ok hx hv hx0 he hmc (HP.below (hsz ▸ hb)) hno (by omega))
 have hrd := fun (y : World) (hb : Below B w y) => hid (RefRead_any bo bc n l y hn (fun _ => HL.below (hsz ▸ hb)))
 rw [hrx] at hrd
 have hde := fun w => hid (RefDerive_ok k hk ok wrapS wrapS_octs wrapS_name x.e he w)
 obtain ⟨kd, HKD⟩ : ∃ kd, Hid (kd = deriveL k wrapS x.e) := ⟨_, rfl⟩
 have hkd : kd.length = 32 := by rw [HKD.out]; exact deriveL_length _ _ _
 have okd : Octs kd := by rw [HKD.out]; exact deriveL_octs _ _ _
 rw [← HKD.out] at hde
 have hcov := fun (y : World) (g : Nat) (hP : Pt.Ok y ⟨some ⟨g, 82, none⟩, 32, x.g⟩) => hid (RefCover_any kd x.n x.g (some ⟨g, 82, none⟩) 32 32 y hkd hx.nl okd hx.no hx.gl.symm hP (by decide))
 rw [show (coverL kd x.n x.g).map (Value.int .u8) = SV by rw [HSV.out, HKD.out]; rfl] at hcov
 obtain ⟨KW, HKW⟩ : ∃ KW, Hid (KW = kd.map (Value.int .u8)) := ⟨_, rfl⟩
 have hKWl : KW.length = 32 := by rw [HKW.out, List.length_map, hkd]
 have hKW1 : ∀ u ∈ KW, u.oneCell' = true := by rw [HKW.out]; exact ints_one _ _
 rw [← HKW.out] at hde hcov
 have hgo := hx.go
 have hgl := hid hx.gl
 have hzE := hid zeroEnv
 obtain ⟨ZE, HZE⟩ : ∃ Z, Hid (Z = env0.cs) := ⟨_, rfl⟩
 rw [← HZE.out] at hzE
 have hZEl : ZE.length = 130 := by rw [HZE.out]; exact env0_ok.csl
 have hns := fun w => hid (RefNameOf_any (secretX k x) (secretX_length hx) (secretX_octs hx) w)
 rw [← HSV.out] at hns
 obtain ⟨K, HK⟩ : ∃ K, Hid (K = k.map (Value.int .u8)) := ⟨_, rfl⟩
 have hKl : K.length = 32 := by rw [HK.out, List.length_map, hk]
 obtain ⟨NV, HNV⟩ : ∃ V, Hid (V = (nameL k).map (Value.int .u8)) := ⟨_, rfl⟩
 obtain ⟨CV, HCV⟩ : ∃ V, Hid (V = (sumL 0 c).map (Value.int .u8)) := ⟨_, rfl⟩
 obtain ⟨TV, HTV⟩ : ∃ V, Hid (V = (tagX k x c).map (Value.int .u8)) := ⟨_, rfl⟩
 obtain ⟨NS, HNS⟩ : ∃ V, Hid (V = (nameL (secretX k x)).map (Value.int .u8)) := ⟨_, rfl⟩
 obtain ⟨XB, HXB⟩ : ∃ V, Hid (V = x.b.map (Value.int .u8)) := ⟨_, rfl⟩
 obtain ⟨XO, HXO⟩ : ∃ V, Hid (V = x.o.map (Value.int .u8)) := ⟨_, rfl⟩
 obtain ⟨XN, HXN⟩ : ∃ V, Hid (V = x.n.map (Value.int .u8)) := ⟨_, rfl⟩
 obtain ⟨XC, HXC⟩ : ∃ V, Hid (V = x.c.map (Value.int .u8)) := ⟨_, rfl⟩
 obtain ⟨XG, HXG⟩ : ∃ V, Hid (V = x.g.map (Value.int .u8)) := ⟨_, rfl⟩
 obtain ⟨XT, HXT⟩ : ∃ V, Hid (V = x.t.map (Value.int .u8)) := ⟨_, rfl⟩
 have hXBl : XB.length = 16 := by rw [HXB.out, List.length_map, hx.bl]
 have hXOl : XO.length = 16 := by rw [HXO.out, List.length_map, hx.ol]
 have hXNl : XN.length = 16 := by rw [HXN.out, List.length_map, hx.nl]
 have hXCl : XC.length = 32 := by rw [HXC.out, List.length_map, hx.cl]
 have hXGl : XG.length = 32 := by rw [HXG.out, List.length_map, hx.gl]
 have hXTl : XT.length = 16 := by rw [HXT.out, List.length_map, hx.tl]
 have heN := fun (t : Bool) (h : (x.b == nameL k) = t) => hid (show ∀ w, (Op.equalIn 10000 27 (.agg XB.toArray) (.agg NV.toArray)).run Tryz.prog w = .ok t w from fun w => by rw [HXB.out, HNV.out, run_eq_id w x.b (nameL k) hx.bl (nameL_length k), h])
 have heC := fun (t : Bool) (h : (x.c == sumL 0 c) = t) => hid (show ∀ w, (Op.equalIn 10000 54 (.agg XC.toArray) (.agg CV.toArray)).run Tryz.prog w = .ok t w from fun w => by rw [HXC.out, HCV.out, run_eq_sum' w x.c (sumL 0 c) hx.cl (sumL_length _ _), h])
 have heT := fun (t : Bool) (h : (x.t == tagX k x c) = t) => hid (show ∀ w, (Op.equalIn 10000 55 (.agg XT.toArray) (.agg TV.toArray)).run Tryz.prog w = .ok t w from fun w => by rw [HXT.out, HTV.out, run_eq_tag w x.t (tagX k x c) hx.tl (tagX_length _ _ _), h])
 have heO := fun (t : Bool) (h : (x.o == nameL (secretX k x)) = t) => hid (show ∀ w, (Op.equalIn 10000 27 (.agg XO.toArray) (.agg NS.toArray)).run Tryz.prog w = .ok t w from fun w => by rw [HXO.out, HNS.out, run_eq_id w x.o (nameL (secretX k x)) hx.ol (nameL_length _), h])
 have hcv : Hid (x.cs[0]? = some (.int .i64 2)) := hid (by rw [← hv]; exact x.cv)
 have hce := hid x.ce
 have fB : Hid (∀ w G, BlkV 57 w G x.cs → w.rangeAt G 2 XB) := hid (fun w G h => by rw [HXB.out]; exact at_range (env_b h))
 have fO : Hid (∀ w G, BlkV 57 w G x.cs → w.rangeAt G 18 XO) := hid (fun w G h => by rw [HXO.out]; exact at_range (env_o hx h))
 have fN : Hid (∀ w G, BlkV 57 w G x.cs → At w ⟨G, 34, none⟩ XN) := hid (fun w G h => by rw [HXN.out]; exact env_n hx h)
 have fC : Hid (∀ w G, BlkV 57 w G x.cs → w.rangeAt G 50 XC) := hid (fun w G h => by rw [HXC.out]; exact at_range (env_c hx h))
 have fG : Hid (∀ w G, BlkV 57 w G x.cs → At w ⟨G, 82, none⟩ XG) := hid (fun w G h => by rw [HXG.out]; exact env_g hx h)
 have fT : Hid (∀ w G, BlkV 57 w G x.cs → w.rangeAt G 114 XT) := hid (fun w G h => by rw [HXT.out]; exact at_range (env_t hx h))
 obtain ⟨CS, HCS⟩ : ∃ C, Hid (C = x.cs) := ⟨_, rfl⟩
 have hCl : CS.length = 130 := by rw [HCS.out]; exact hx.csl
 obtain ⟨E, HE⟩ : ∃ E, Hid (E = x.e) := ⟨_, rfl⟩
 rw [← HE.out] at hde hce
 rw [← HXN.out] at hcov
 rw [← HK.out] at hnm htg hde ⊢
 rw [← HNV.out] at hnm
 rw [← HCV.out] at hcx
 rw [← HTV.out] at htg
 rw [← HNS.out] at hns
 have hC1 : ∀ u ∈ x.cs, u.oneCell' = true := x.cs_one
 rw [← HCS.out] at htg hcv hce fB fO fN fC fG fT hrd hC1
 have hPg := fun (y : World) (g : Nat) (h : BlkV 57 y g CS) => hid ((⟨at_rowI h.lt (HXG.out ▸ fG.out y g h), by show x.g.length ≤ 32; rw [hgl.out]; decide, by show (32 : Nat) ≤ maxLen; decide, hgo, fun b e => by cases e; exact h.lt⟩ : Pt.Ok y ⟨some ⟨g, 82, none⟩, 32, x.g⟩))
 have hal := hal22'
 have hAA := fun w a n cap h => run_arrayAtKey w a n cap h
 have hu23 := Tryz.underlying23
 have hi23 : (Tryz.prog.info? 23).map (·.size) = some K.length := by rw [hKl]; exact aggKey.2
 have hiS : (Tryz.prog.info? 23).map (·.size) = some SV.length := by rw [hSl]; exact aggKey.2
 have huI := Tryz.underlying27
 have hiI : (Tryz.prog.info? 27).map (·.size) = some XB.length := by rw [hXBl]; exact aggID.2
 have hiO : (Tryz.prog.info? 27).map (·.size) = some XO.length := by rw [hXOl]; exact aggID.2
 have huC := Tryz.underlying54
 have hiC : (Tryz.prog.info? 54).map (·.size) = some XC.length := by rw [hXCl]; exact aggSumT.2
 have huT := Tryz.underlying55
 have hiT : (Tryz.prog.info? 55).map (·.size) = some XT.length := by rw [hXTl]; exact aggTag.2
 have huE := Tryz.underlying57
 have hiE : (Tryz.prog.info? 57).map (·.size) = some CS.length := by rw [hCl]; exact aggEnv.2
 have huS := hu23
 have huW := hu23
 have hiW : (Tryz.prog.info? 23).map (·.size) = some KW.length := by rw [hKWl]; exact aggKey.2
 have huN := Tryz.underlying53
 have hiN : (Tryz.prog.info? 53).map (·.size) = some XN.length := by rw [hXNl]; exact aggNo.2
 have huO := huI
 have hmI : ¬ (4096 : Int) < (mc : Int) := by omega
 clear hk hn HL hrx hx0 hx hv he hmc HP hn0 hgo hoV
 go_enter Tryz.func13, Tryz.ntmps13
 go_wp2_with (first | (refine wl_storeV rfl 57 _ _ rfl 57 M rfl CS rfl 130 aggEnv hCl ZE hG3 hZEl hC1 ?_; intro w4 hX4 hb4 hs4; have hB4 := hB3.below hb4 (by omega); have hR4 := hR3.below hb4 (by omega); have bb4 := bb3.trans (hb4.mono (by omega : B ≤ _)); have hsy4 : M + 1 ≤ w4.heap.size := hX4.lt; clear hB3 hR3 bb3 hb4 hG3) | (refine wl_allocV rfl 57 rfl ZE hzE.out w2.heap.size rfl ?_; intro w3 hG3 hb3 hs3; obtain ⟨M, HM⟩ : ∃ g, Hid (g = w2.heap.size) := ⟨_, rfl⟩; rw [← HM.out] at hG3 hb3 hs3; rw [← HM.out]; have hMB : B + 2 ≤ M := (by rw [HM.out]; exact hs2); have hB3 := hB2.below hb3 (by omega); have hR3 := hR2.below hb3 (by omega); have bb3 := bb2.trans (hb3.mono (by omega : B ≤ _)); clear hB2 hR2 bb2 hb3) | (go_at_call 27; refine (hrd w1 bb1).out.mono ?_; rintro r w2 ⟨rfl, hb2⟩; have hB2 := hB1.below hb2 hB1.lt; have hR2 := hR1.below hb2 hR1.lt; have bb2 := bb1.trans (hb2.mono (by omega : B ≤ _)); have hs2 : B + 2 ≤ w2.heap.size := (by have := hb2.size; omega); clear hB1 hR1 bb1 hb1 hb2) | (refine wl_allocV rfl 23 rfl Z hzK.out (B + 1) hs0 ?_; intro w1 hR1 hb1 hs1; have hB1 := hB0.below hb1 (by omega); have bb1 := hb0.trans (hb1.mono (by omega : B ≤ _)); clear hB0 hb0) | (refine wl_boxV rfl 23 _ rfl K rfl B hsz ?_; intro w0 hB0 hb0 hs0))
 clear hs0 hs1 hs2
 cases h1 : (x.b == nameL k)
 ·skip
  have heN := heN _ h1
  refine wp_region_held_drew (S := (fun w' => BlkV 23 w' B K ∧ BlkV 57 w' M CS ∧ True)) (by kernel_rfl) ⟨(show BlkV 23 w4.drew B K from hB4), (show BlkV 57 w4.drew M CS from hX4), trivial⟩ (fun hHeld => ?_)
  obtain ⟨y5, HY5⟩ : ∃ y, Hid (y = w4.drew) := ⟨_, rfl⟩
  rw [← HY5.out] at hHeld ⊢
  have hB5 : BlkV 23 y5 B K := by rw [HY5.out]; exact hB4
  have hX5 : BlkV 57 y5 M CS := by rw [HY5.out]; exact hX4
  have hR5 : BlkV 23 y5 (B + 1) Z := by rw [HY5.out]; exact hR4
  have bb5 : Below B w y5 := by rw [HY5.out]; exact bb4.drew
  have hsy5 : M + 1 ≤ y5.heap.size := hX5.lt
  refine tkP 0 rfl (by assumption) ⟨?_, ?_, ?_⟩
  rotate_left
  ·intro w hSw; (try dsimp only at hSw); go_simp; (try with_reducible rfl)
  try simp only [Act.put, sArr, sZ, sS]
  refine tkR 1 rfl (yieldsIf_load_mid (by rfl) 27 _ rfl M 2 rfl XB _ (fun w hS => fB.out w _ hS.2.1) huI rfl hiI) (by assumption) ?_
  try simp only [Act.put, sArr, sZ, sS]
  refine tkR 2 rfl (yieldsIf_load_mid (by rfl) 23 _ rfl B 0 rfl K _ (fun w hS => at_range hS.1.at0) hu23 rfl hi23) (by assumption) ?_
  try simp only [Act.put, sArr, sZ, sS]
  refine wpAnyH_ready (rs := [3]) (by kernel_rfl) (by simp) (cons_l rfl (fun K' hK' => ?_) AllReadyH.nil)
  rw [if_pos (by kernel_rfl)]
  go_simp
  go_at_call 12
  refine (hnm y5).out.mono ?_
  rintro e y6 ⟨rfl, hbx6⟩
  have hB6 := hB5.below hbx6 (by omega)
  have hX6 := hX5.below hbx6 (by omega)
  have hR6 := hR5.below hbx6 (by omega)
  have bb6 := bb5.trans (hbx6.mono (by omega : B ≤ _))
  have hsy6 : M + 1 ≤ y6.heap.size := hX6.lt
  refine hK'.out _ _ ⟨hB6, hX6, trivial⟩ (fun hHeld => ?_)
  clear hK' K'
  try simp only [Act.put, sArr, sZ, sS]
  refine tkR 4 rfl (yieldsIf_neM (by rfl) 27 _ _ _ rfl XB.toArray NV.toArray rfl rfl false heN.out (by kernel_rfl)) (by assumption) ?_
  try simp only [Act.put, sArr, sZ, sS]
  refine wpAnyH_done (by kernel_rfl) ?_ _
  clear hHeld
  go_wp2_with (first | (refine wl_storeV rfl 23 _ _ rfl 23 (B + 1) rfl Z rfl 32 aggKey hZl Z hR6 hZl hZ1 ?_; intro vF hRF hbF hsF; have bbF := bb6.trans (hbF.mono (by omega : B ≤ _)); clear hR6) | (refine wl_build0 rfl 23 rfl Z HBK.out ?_))
  (try simp only [Exit.inBlock, Exit.then]); refine bodyPost_ret (results_cell2 rfl _ _ _ _ rfl Z (by rw [hZl]; exact aggKey) hRF.at0) rfl ?_
  exact ⟨by rw [(hoA h1).out]; rfl, by rw [← HB.out]; exact bbF⟩
 have heN := heN _ h1
 refine wp_region_held_drew (S := (fun w' => BlkV 23 w' B K ∧ BlkV 57 w' M CS ∧ True)) (by kernel_rfl) ⟨(show BlkV 23 w4.drew B K from hB4), (show BlkV 57 w4.drew M CS from hX4), trivial⟩ (fun hHeld => ?_)
 obtain ⟨y5, HY5⟩ : ∃ y, Hid (y = w4.drew) := ⟨_, rfl⟩
 rw [← HY5.out] at hHeld ⊢
 have hB5 : BlkV 23 y5 B K := by rw [HY5.out]; exact hB4
 have hX5 : BlkV 57 y5 M CS := by rw [HY5.out]; exact hX4
 have hR5 : BlkV 23 y5 (B + 1) Z := by rw [HY5.out]; exact hR4
 have bb5 : Below B w y5 := by rw [HY5.out]; exact bb4.drew
 have hsy5 : M + 1 ≤ y5.heap.size := hX5.lt
 refine tkP 0 rfl (by assumption) ⟨?_, ?_, ?_⟩
 rotate_left
 ·intro w hSw; (try dsimp only at hSw); go_simp; (try with_reducible rfl)
 try simp only [Act.put, sArr, sZ, sS]
 refine tkR 1 rfl (yieldsIf_load_mid (by rfl) 27 _ rfl M 2 rfl XB _ (fun w hS => fB.out w _ hS.2.1) huI rfl hiI) (by assumption) ?_
 try simp only [Act.put, sArr, sZ, sS]
 refine tkR 2 rfl (yieldsIf_load_mid (by rfl) 23 _ rfl B 0 rfl K _ (fun w hS => at_range hS.1.at0) hu23 rfl hi23) (by assumption) ?_
 try simp only [Act.put, sArr, sZ, sS]
 refine wpAnyH_ready (rs := [3]) (by kernel_rfl) (by simp) (cons_l rfl (fun K' hK' => ?_) AllReadyH.nil)
 rw [if_pos (by kernel_rfl)]
 go_simp
 go_at_call 12
 refine (hnm y5).out.mono ?_
 rintro e y6 ⟨rfl, hbx6⟩
 have hB6 := hB5.below hbx6 (by omega)
 have hX6 := hX5.below hbx6 (by omega)
 have hR6 := hR5.below hbx6 (by omega)
 have bb6 := bb5.trans (hbx6.mono (by omega : B ≤ _))
 have hsy6 : M + 1 ≤ y6.heap.size := hX6.lt
 refine hK'.out _ _ ⟨hB6, hX6, trivial⟩ (fun hHeld => ?_)
 clear hK' K'
 try simp only [Act.put, sArr, sZ, sS]
 refine tkR 4 rfl (yieldsIf_neM (by rfl) 27 _ _ _ rfl XB.toArray NV.toArray rfl rfl true heN.out (by kernel_rfl)) (by assumption) ?_
 try simp only [Act.put, sArr, sZ, sS]
 refine wpAnyH_done (by kernel_rfl) ?_ _
 clear hHeld
 go_wp2_with fail
 cases h2 : (x.c == sumL 0 c)
 ·skip
  have heC := heC _ h2
  refine wp_region_held_drew (S := (fun w' => BlkV 23 w' B K ∧ BlkV 57 w' M CS ∧ True)) (by kernel_rfl) ⟨(show BlkV 23 y6.drew B K from hB6), (show BlkV 57 y6.drew M CS from hX6), trivial⟩ (fun hHeld => ?_)
  obtain ⟨y7, HY7⟩ : ∃ y, Hid (y = y6.drew) := ⟨_, rfl⟩
  rw [← HY7.out] at hHeld ⊢
  have hB7 : BlkV 23 y7 B K := by rw [HY7.out]; exact hB6
  have hX7 : BlkV 57 y7 M CS := by rw [HY7.out]; exact hX6
  have hR7 : BlkV 23 y7 (B + 1) Z := by rw [HY7.out]; exact hR6
  have bb7 : Below B w y7 := by rw [HY7.out]; exact bb6.drew
  have hsy7 : M + 1 ≤ y7.heap.size := hX7.lt
  refine tkP 0 rfl (by assumption) ⟨?_, ?_, ?_⟩
  rotate_left
  ·intro w hSw; (try dsimp only at hSw); go_simp; (try with_reducible rfl)
  try simp only [Act.put, sArr, sZ, sS]
  refine tkP 1 rfl (by assumption) ⟨?_, ?_, ?_⟩
  rotate_left
  ·intro w hSw; have c0 := (hSw.2.1.cell 0).trans hcv.out; (try dsimp only at hSw); go_simp; (try with_reducible rfl)
  try simp only [Act.put, sArr, sZ, sS]
  refine tkP 2 rfl (by assumption) ⟨?_, ?_, ?_⟩
  rotate_left
  ·intro w hSw; (try dsimp only at hSw); go_simp; (try with_reducible rfl)
  try simp only [Act.put, sArr, sZ, sS]
  refine tkP 3 rfl (by assumption) ⟨?_, ?_, ?_⟩
  rotate_left
  ·intro w hSw; (try dsimp only at hSw); go_simp; (try with_reducible rfl)
  try simp only [Act.put, sArr, sZ, sS]
  refine tkP 4 rfl (by assumption) ⟨?_, ?_, ?_⟩
  rotate_left
  ·intro w hSw; (try dsimp only at hSw); go_simp; (try with_reducible rfl)
  try simp only [Act.put, sArr, sZ, sS]
  refine tkR 5 rfl (yieldsIf_load_mid (by rfl) 54 _ rfl M 50 rfl XC _ (fun w hS => fC.out w _ hS.2.1) huC rfl hiC) (by assumption) ?_
  try simp only [Act.put, sArr, sZ, sS]
  refine tkP 6 rfl (by assumption) ⟨?_, ?_, ?_⟩
  rotate_left
  ·intro w hSw; (try dsimp only at hSw); go_simp; (try with_reducible rfl)
  try simp only [Act.put, sArr, sZ, sS]
  refine wpAnyH_ready (rs := [7]) (by kernel_rfl) (by simp) (cons_l rfl (fun K' hK' => ?_) AllReadyH.nil)
  rw [if_pos (by kernel_rfl)]
  go_simp
  go_at_call 31
  refine (hcx y7 bb7).out.mono ?_
  rintro e y8 ⟨rfl, hbx8⟩
  have hB8 := hB7.below hbx8 (by omega)
  have hX8 := hX7.below hbx8 (by omega)
  have hR8 := hR7.below hbx8 (by omega)
  have bb8 := bb7.trans (hbx8.mono (by omega : B ≤ _))
  have hsy8 : M + 1 ≤ y8.heap.size := hX8.lt
  refine hK'.out _ _ ⟨hB8, hX8, trivial⟩ (fun hHeld => ?_)
  clear hK' K'
  try simp only [Act.put, sArr, sZ, sS]
  refine tkR 8 rfl (yieldsIf_neM (by rfl) 54 _ _ _ rfl XC.toArray CV.toArray rfl rfl false heC.out (by kernel_rfl)) (by assumption) ?_
  try simp only [Act.put, sArr, sZ, sS]
  refine tkP 9 rfl (by assumption) ⟨?_, ?_, ?_⟩
  rotate_left
  ·intro w hSw; (try dsimp only at hSw); go_simp; (try with_reducible rfl)
  try simp only [Act.put, sArr, sZ, sS]
  refine wpAnyH_done (by kernel_rfl) ?_ _
  clear hHeld
  go_wp2_with (first | (refine wl_storeV rfl 23 _ _ rfl 23 (B + 1) rfl Z rfl 32 aggKey hZl Z hR8 hZl hZ1 ?_; intro vF hRF hbF hsF; have bbF := bb8.trans (hbF.mono (by omega : B ≤ _)); clear hR8) | (refine wl_build0 rfl 23 rfl Z HBK.out ?_))
  (try simp only [Exit.inBlock, Exit.then]); refine bodyPost_ret (results_cell2 rfl _ _ _ _ rfl Z (by rw [hZl]; exact aggKey) hRF.at0) rfl ?_
  exact ⟨by rw [(hoC h1 h2).out]; rfl, by rw [← HB.out]; exact bbF⟩
 have heC := heC _ h2
 refine wp_region_held_drew (S := (fun w' => BlkV 23 w' B K ∧ BlkV 57 w' M CS ∧ True)) (by kernel_rfl) ⟨(show BlkV 23 y6.drew B K from hB6), (show BlkV 57 y6.drew M CS from hX6), trivial⟩ (fun hHeld => ?_)
 obtain ⟨y7, HY7⟩ : ∃ y, Hid (y = y6.drew) := ⟨_, rfl⟩
 rw [← HY7.out] at hHeld ⊢
 have hB7 : BlkV 23 y7 B K := by rw [HY7.out]; exact hB6
 have hX7 : BlkV 57 y7 M CS := by rw [HY7.out]; exact hX6
 have hR7 : BlkV 23 y7 (B + 1) Z := by rw [HY7.out]; exact hR6
 have bb7 : Below B w y7 := by rw [HY7.out]; exact bb6.drew
 have hsy7 : M + 1 ≤ y7.heap.size := hX7.lt
 refine tkP 0 rfl (by assumption) ⟨?_, ?_, ?_⟩
 rotate_left
 ·intro w hSw; (try dsimp only at hSw); go_simp; (try with_reducible rfl)
 try simp only [Act.put, sArr, sZ, sS]
 refine tkP 1 rfl (by assumption) ⟨?_, ?_, ?_⟩
 rotate_left
 ·intro w hSw; have c0 := (hSw.2.1.cell 0).trans hcv.out; (try dsimp only at hSw); go_simp; (try with_reducible rfl)
 try simp only [Act.put, sArr, sZ, sS]
 refine tkP 2 rfl (by assumption) ⟨?_, ?_, ?_⟩
 rotate_left
 ·intro w hSw; (try dsimp only at hSw); go_simp; (try with_reducible rfl)
 try simp only [Act.put, sArr, sZ, sS]
 refine tkP 3 rfl (by assumption) ⟨?_, ?_, ?_⟩
 rotate_left
 ·intro w hSw; (try dsimp only at hSw); go_simp; (try with_reducible rfl)
 try simp only [Act.put, sArr, sZ, sS]
 refine tkP 4 rfl (by assumption) ⟨?_, ?_, ?_⟩
 rotate_left
 ·intro w hSw; (try dsimp only at hSw); go_simp; (try with_reducible rfl)
 try simp only [Act.put, sArr, sZ, sS]
 refine tkR 5 rfl (yieldsIf_load_mid (by rfl) 54 _ rfl M 50 rfl XC _ (fun w hS => fC.out w _ hS.2.1) huC rfl hiC) (by assumption) ?_
 try simp only [Act.put, sArr, sZ, sS]
 refine tkP 6 rfl (by assumption) ⟨?_, ?_, ?_⟩
 rotate_left
 ·intro w hSw; (try dsimp only at hSw); go_simp; (try with_reducible rfl)
 try simp only [Act.put, sArr, sZ, sS]
 refine wpAnyH_ready (rs := [7]) (by kernel_rfl) (by simp) (cons_l rfl (fun K' hK' => ?_) AllReadyH.nil)
 rw [if_pos (by kernel_rfl)]
 go_simp
 go_at_call 31
 refine (hcx y7 bb7).out.mono ?_
 rintro e y8 ⟨rfl, hbx8⟩
 have hB8 := hB7.below hbx8 (by omega)
 have hX8 := hX7.below hbx8 (by omega)
 have hR8 := hR7.below hbx8 (by omega)
 have bb8 := bb7.trans (hbx8.mono (by omega : B ≤ _))
 have hsy8 : M + 1 ≤ y8.heap.size := hX8.lt
 refine hK'.out _ _ ⟨hB8, hX8, trivial⟩ (fun hHeld => ?_)
 clear hK' K'
 try simp only [Act.put, sArr, sZ, sS]
 refine tkR 8 rfl (yieldsIf_neM (by rfl) 54 _ _ _ rfl XC.toArray CV.toArray rfl rfl true heC.out (by kernel_rfl)) (by assumption) ?_
 try simp only [Act.put, sArr, sZ, sS]
 refine tkP 9 rfl (by assumption) ⟨?_, ?_, ?_⟩
 rotate_left
 ·intro w hSw; (try dsimp only at hSw); go_simp; (try with_reducible rfl)
 try simp only [Act.put, sArr, sZ, sS]
 refine wpAnyH_done (by kernel_rfl) ?_ _
 clear hHeld
 have cE := (hX8.cell 1).trans hce.out
 go_wp2_with (first | (refine wl_storeV rfl 23 _ _ rfl 23 D rfl KW rfl 32 aggKey hKWl Z hD10 hZl hKW1 ?_; intro y11 hG11 hbx11 hsx11; have hB11 := hB10.below hbx11 (by omega); have hX11 := hX10.below hbx11 (by omega); have hR11 := hR10.below hbx11 (by omega); have bb11 := bb10.trans (hbx11.mono (by omega : B ≤ _)); have hsy11 : M + 1 ≤ y11.heap.size := hX11.lt; clear hB10 hX10 hR10 bb10 hD10) | (refine wl_allocV rfl 23 rfl Z hzK.out y9.heap.size rfl ?_; intro y10 hD10 hbx10 hsx10; obtain ⟨D, HD⟩ : ∃ g, Hid (g = y9.heap.size) := ⟨_, rfl⟩; rw [← HD.out] at hD10 hbx10 hsx10; rw [← HD.out]; have hDM : M + 1 ≤ D := (by rw [HD.out]; exact hsy9); have hB10 := hB9.below hbx10 (by omega); have hX10 := hX9.below hbx10 (by omega); have hR10 := hR9.below hbx10 (by omega); have bb10 := bb9.trans (hbx10.mono (by omega : B ≤ _)); clear hB9 hX9 hR9 bb9) | (go_at_call 32; refine (hde y8).out.mono ?_; rintro e y9 ⟨rfl, hbx9⟩; have hB9 := hB8.below hbx9 (by omega); have hX9 := hX8.below hbx9 (by omega); have hR9 := hR8.below hbx9 (by omega); have bb9 := bb8.trans (hbx9.mono (by omega : B ≤ _)); have hsy9 : M + 1 ≤ y9.heap.size := hX9.lt; clear hB8 hX8 hR8 bb8) | (refine wl_load rfl 23 _ rfl ⟨B, 0, none⟩ rfl K (by rw [hKl]; exact aggKey) hB8.at0 ?_))
 refine wp_region_held_drew (S := (fun w' => BlkV 23 w' B K ∧ BlkV 57 w' M CS ∧ BlkV 23 w' D KW)) (by kernel_rfl) ⟨(show BlkV 23 y11.drew B K from hB11), (show BlkV 57 y11.drew M CS from hX11), (show BlkV 23 y11.drew D KW from hG11)⟩ (fun hHeld => ?_)
 obtain ⟨y12, HY12⟩ : ∃ y, Hid (y = y11.drew) := ⟨_, rfl⟩
 rw [← HY12.out] at hHeld ⊢
 have hB12 : BlkV 23 y12 B K := by rw [HY12.out]; exact hB11
 have hX12 : BlkV 57 y12 M CS := by rw [HY12.out]; exact hX11
 have hR12 : BlkV 23 y12 (B + 1) Z := by rw [HY12.out]; exact hR11
 have bb12 : Below B w y12 := by rw [HY12.out]; exact bb11.drew
 have hsy12 : M + 1 ≤ y12.heap.size := hX12.lt
 have hG12 : BlkV 23 y12 D KW := by rw [HY12.out]; exact hG11
 refine tkR 0 rfl (yieldsIf_load_mid (by rfl) 23 _ rfl D 0 rfl KW _ (fun w hS => at_range hS.2.2.at0) huW rfl hiW) (by assumption) ?_
 try simp only [Act.put, sArr, sZ, sS]
 refine tkP 1 rfl (by assumption) ⟨?_, ?_, ?_⟩
 rotate_left
 ·intro w hSw; (try dsimp only at hSw); go_simp; (try with_reducible rfl)
 try simp only [Act.put, sArr, sZ, sS]
 refine tkR 2 rfl (yieldsIf_load_mid (by rfl) 53 _ rfl M 34 rfl XN _ (fun w hS => at_range (fN.out w _ hS.2.1)) huN rfl hiN) (by assumption) ?_
 try simp only [Act.put, sArr, sZ, sS]
 refine tkP 3 rfl (by assumption) ⟨?_, ?_, ?_⟩
 rotate_left
 ·intro w hSw; (try dsimp only at hSw); go_simp; (try with_reducible rfl)
 try simp only [Act.put, sArr, sZ, sS]
 refine tkP 4 rfl (by assumption) ⟨?_, ?_, ?_⟩
 rotate_left
 ·intro w hSw; (try dsimp only at hSw); go_simp; (try with_reducible rfl)
 try simp only [Act.put, sArr, sZ, sS]
 refine wpAnyH_ready (rs := [5, 8]) (by kernel_rfl) (by simp) (cons_l rfl (fun K' hK' => ?_) (cons_l rfl (fun K' hK' => ?_) AllReadyH.nil))
 focus
  rw [if_pos (by kernel_rfl)]
  go_simp
  go_at_call 33
  refine (hcov y12 M (hPg y12 M hX12).out).out.mono ?_
  rintro e y13 ⟨aC, cC, rfl, hMC, hbx13⟩
  have hB13 := hB12.below hbx13 (by have := hG12.lt; omega)
  have hX13 := hX12.below hbx13 (by have := hG12.lt; omega)
  have hR13 := hR12.below hbx13 (by have := hG12.lt; omega)
  have bb13 := bb12.trans (hbx13.mono (by omega : B ≤ _))
  have hsy13 : M + 1 ≤ y13.heap.size := hX13.lt
  have hG13 := hG12.below hbx13 (by have := hG12.lt; omega)
  obtain ⟨gC, cur, rfl, hgC, hC13, _, _, _, hcur⟩ := own_blk (mine_own hMC (by decide)) (by decide)
  have hW13 : At y13 ⟨gC, 0, none⟩ SV := hC13.at 0 _ fun j u hu => by rw [Nat.zero_add]; rw [← hcur, List.getElem?_take] at hu; split at hu; exact hu; cases hu
  have hWl13 := hC13.lt
  refine hK'.out _ _ ⟨hB13, hX13, hG13⟩ (fun hHeld => ?_)
  clear hK' K'
  try simp only [Act.put, sArr, sZ, sS]
  refine tkP 6 rfl (by assumption) ⟨?_, ?_, ?_⟩
  rotate_left
  ·intro w hSw; (try dsimp only at hSw); go_simp; (try with_reducible rfl)
  try simp only [Act.put, sArr, sZ, sS]
  refine wpAnyH_ready (rs := [7, 8]) (by kernel_rfl) (by simp) (cons_l rfl (fun K' hK' => ?_) (cons_l rfl (fun K' hK' => ?_) AllReadyH.nil))
  focus
   refine step_loadA (by kernel_rfl) 23 _ rfl ⟨gC, 0, none⟩ rfl SV (by rw [hSl]; exact aggKey) hW13 ?_
   refine hK'.out _ _ ⟨hB13, hX13, hG13⟩ (fun hHeld => ?_)
   clear hK' K'
   try simp only [Act.put, sArr, sZ, sS]
   refine wpAnyH_ready (rs := [8]) (by kernel_rfl) (by simp) (cons_l rfl (fun K' hK' => ?_) AllReadyH.nil)
   obtain ⟨G, HG⟩ : ∃ g, Hid (g = y13.heap.size) := ⟨_, rfl⟩
   have hGD : D + 1 ≤ G := by rw [HG.out]; exact hG13.lt
   refine step_allocV (by rfl) 23 (by rfl) Z hzK.out G HG.out.symm ?_
   intro y14 hA14 hbx14 hsx14
   have hB14 := hB13.below hbx14 (by omega)
   have hX14 := hX13.below hbx14 (by omega)
   have hR14 := hR13.below hbx14 (by omega)
   have bb14 := bb13.trans (hbx14.mono (by omega : B ≤ _))
   have hsy14 : M + 1 ≤ y14.heap.size := hX14.lt
   have hG14 := hG13.below hbx14 (by omega)
   have hW14 := at_below hW13 hbx14 (by rw [HG.out]; exact hWl13)
   have hWl14 : gC < y14.heap.size := by have := hbx14.size; omega
   refine hK'.out _ _ ⟨hB14, hX14, hG14⟩ (fun hHeld => ?_)
   clear hK' K'
   try simp only [Act.put, sArr, sZ, sS]
   refine wpAnyH_ready (rs := [9]) (by kernel_rfl) (by simp) (cons_l rfl (fun K' hK' => ?_) AllReadyH.nil)
   refine step_storeV (by rfl) 23 _ _ (by rfl) 23 G (by rfl) SV (by rfl) 32 aggKey hSl Z hA14 hZl hS1 ?_
   intro y15 hQ15 hbx15 hsx15
   have hB15 := hB14.below hbx15 (by omega)
   have hX15 := hX14.below hbx15 (by omega)
   have hR15 := hR14.below hbx15 (by omega)
   have bb15 := bb14.trans (hbx15.mono (by omega : B ≤ _))
   have hsy15 : M + 1 ≤ y15.heap.size := hX15.lt
   have hG15 := hG14.below hbx15 (by omega)
   refine hK'.out _ _ ⟨hB15, hX15, hG15⟩ (fun hHeld => ?_)
   clear hK' K'
   try simp only [Act.put, sArr, sZ, sS]
   refine wpAnyH_done (by kernel_rfl) ?_ _
   clear hHeld
   obtain ⟨y100, hy100⟩ : ∃ z, z = y15 := ⟨_, rfl⟩
   subst hy100
   have hB100 := hB15
   have hX100 := hX15
   have hR100 := hR15
   have bb100 := bb15
   have hsy100 := hsy15
   have hG100 := hQ15
  rotate_left 1
  focus
   obtain ⟨G, HG⟩ : ∃ g, Hid (g = y13.heap.size) := ⟨_, rfl⟩
   have hGD : D + 1 ≤ G := by rw [HG.out]; exact hG13.lt
   refine step_allocV (by rfl) 23 (by rfl) Z hzK.out G HG.out.symm ?_
   intro y14 hA14 hbx14 hsx14
   have hB14 := hB13.below hbx14 (by omega)
   have hX14 := hX13.below hbx14 (by omega)
   have hR14 := hR13.below hbx14 (by omega)
   have bb14 := bb13.trans (hbx14.mono (by omega : B ≤ _))
   have hsy14 : M + 1 ≤ y14.heap.size := hX14.lt
   have hG14 := hG13.below hbx14 (by omega)
   have hW14 := at_below hW13 hbx14 (by rw [HG.out]; exact hWl13)
   have hWl14 : gC < y14.heap.size := by have := hbx14.size; omega
   refine hK'.out _ _ ⟨hB14, hX14, hG14⟩ (fun hHeld => ?_)
   clear hK' K'
   try simp only [Act.put, sArr, sZ, sS]
   refine wpAnyH_ready (rs := [7]) (by kernel_rfl) (by simp) (cons_l rfl (fun K' hK' => ?_) AllReadyH.nil)
   refine step_loadA (by kernel_rfl) 23 _ rfl ⟨gC, 0, none⟩ rfl SV (by rw [hSl]; exact aggKey) hW14 ?_
   refine hK'.out _ _ ⟨hB14, hX14, hG14⟩ (fun hHeld => ?_)
   clear hK' K'
   try simp only [Act.put, sArr, sZ, sS]
   refine wpAnyH_ready (rs := [9]) (by kernel_rfl) (by simp) (cons_l rfl (fun K' hK' => ?_) AllReadyH.nil)
   refine step_storeV (by rfl) 23 _ _ (by rfl) 23 G (by rfl) SV (by rfl) 32 aggKey hSl Z hA14 hZl hS1 ?_
   intro y15 hQ15 hbx15 hsx15
   have hB15 := hB14.below hbx15 (by omega)
   have hX15 := hX14.below hbx15 (by omega)
   have hR15 := hR14.below hbx15 (by omega)
   have bb15 := bb14.trans (hbx15.mono (by omega : B ≤ _))
   have hsy15 : M + 1 ≤ y15.heap.size := hX15.lt
   have hG15 := hG14.below hbx15 (by omega)
   refine hK'.out _ _ ⟨hB15, hX15, hG15⟩ (fun hHeld => ?_)
   clear hK' K'
   try simp only [Act.put, sArr, sZ, sS]
   refine wpAnyH_done (by kernel_rfl) ?_ _
   clear hHeld
   obtain ⟨y100, hy100⟩ : ∃ z, z = y15 := ⟨_, rfl⟩
   subst hy100
   have hB100 := hB15
   have hX100 := hX15
   have hR100 := hR15
   have bb100 := bb15
   have hsy100 := hsy15
   have hG100 := hQ15
  rotate_left 1
 rotate_left 2
 focus
  obtain ⟨G, HG⟩ : ∃ g, Hid (g = y12.heap.size) := ⟨_, rfl⟩
  have hGD : D + 1 ≤ G := by rw [HG.out]; exact hG12.lt
  refine step_allocV (by rfl) 23 (by rfl) Z hzK.out G HG.out.symm ?_
  intro y13 hA13 hbx13 hsx13
  have hB13 := hB12.below hbx13 (by omega)
  have hX13 := hX12.below hbx13 (by omega)
  have hR13 := hR12.below hbx13 (by omega)
  have bb13 := bb12.trans (hbx13.mono (by omega : B ≤ _))
  have hsy13 : M + 1 ≤ y13.heap.size := hX13.lt
  have hG13 := hG12.below hbx13 (by omega)
  refine hK'.out _ _ ⟨hB13, hX13, hG13⟩ (fun hHeld => ?_)
  clear hK' K'
  try simp only [Act.put, sArr, sZ, sS]
  refine wpAnyH_ready (rs := [5]) (by kernel_rfl) (by simp) (cons_l rfl (fun K' hK' => ?_) AllReadyH.nil)
  rw [if_pos (by kernel_rfl)]
  go_simp
  go_at_call 33
  refine (hcov y13 M (hPg y13 M hX13).out).out.mono ?_
  rintro e y14 ⟨aC, cC, rfl, hMC, hbx14⟩
  have hB14 := hB13.below hbx14 (by have := hG13.lt; omega)
  have hX14 := hX13.below hbx14 (by have := hG13.lt; omega)
  have hR14 := hR13.below hbx14 (by have := hG13.lt; omega)
  have bb14 := bb13.trans (hbx14.mono (by omega : B ≤ _))
  have hsy14 : M + 1 ≤ y14.heap.size := hX14.lt
  have hG14 := hG13.below hbx14 (by have := hG13.lt; omega)
  have hA14 := hA13.below hbx14 hA13.lt
  obtain ⟨gC, cur, rfl, hgC, hC14, _, _, _, hcur⟩ := own_blk (mine_own hMC (by decide)) (by decide)
  have hW14 : At y14 ⟨gC, 0, none⟩ SV := hC14.at 0 _ fun j u hu => by rw [Nat.zero_add]; rw [← hcur, List.getElem?_take] at hu; split at hu; exact hu; cases hu
  have hWl14 := hC14.lt
  refine hK'.out _ _ ⟨hB14, hX14, hG14⟩ (fun hHeld => ?_)
  clear hK' K'
  try simp only [Act.put, sArr, sZ, sS]
  refine tkP 6 rfl (by assumption) ⟨?_, ?_, ?_⟩
  rotate_left
  ·intro w hSw; (try dsimp only at hSw); go_simp; (try with_reducible rfl)
  try simp only [Act.put, sArr, sZ, sS]
  refine wpAnyH_ready (rs := [7]) (by kernel_rfl) (by simp) (cons_l rfl (fun K' hK' => ?_) AllReadyH.nil)
  refine step_loadA (by kernel_rfl) 23 _ rfl ⟨gC, 0, none⟩ rfl SV (by rw [hSl]; exact aggKey) hW14 ?_
  refine hK'.out _ _ ⟨hB14, hX14, hG14⟩ (fun hHeld => ?_)
  clear hK' K'
  try simp only [Act.put, sArr, sZ, sS]
  refine wpAnyH_ready (rs := [9]) (by kernel_rfl) (by simp) (cons_l rfl (fun K' hK' => ?_) AllReadyH.nil)
  refine step_storeV (by rfl) 23 _ _ (by rfl) 23 G (by rfl) SV (by rfl) 32 aggKey hSl Z hA14 hZl hS1 ?_
  intro y15 hQ15 hbx15 hsx15
  have hB15 := hB14.below hbx15 (by omega)
  have hX15 := hX14.below hbx15 (by omega)
  have hR15 := hR14.below hbx15 (by omega)
  have bb15 := bb14.trans (hbx15.mono (by omega : B ≤ _))
  have hsy15 : M + 1 ≤ y15.heap.size := hX15.lt
  have hG15 := hG14.below hbx15 (by omega)
  refine hK'.out _ _ ⟨hB15, hX15, hG15⟩ (fun hHeld => ?_)
  clear hK' K'
  try simp only [Act.put, sArr, sZ, sS]
  refine wpAnyH_done (by kernel_rfl) ?_ _
  clear hHeld
  obtain ⟨y100, hy100⟩ : ∃ z, z = y15 := ⟨_, rfl⟩
  subst hy100
  have hB100 := hB15
  have hX100 := hX15
  have hR100 := hR15
  have bb100 := bb15
  have hsy100 := hsy15
  have hG100 := hQ15
 rotate_left 1
 all_goals
  go_wp2_with fail
  cases h3 : (x.t == tagX k x c)
  ·skip
   have heT := heT _ h3
   refine wp_region_held_drew (S := (fun w' => BlkV 23 w' B K ∧ BlkV 57 w' M CS ∧ BlkV 23 w' G SV)) (by kernel_rfl) ⟨(show BlkV 23 y100.drew B K from hB100), (show BlkV 57 y100.drew M CS from hX100), (show BlkV 23 y100.drew G SV from hG100)⟩ (fun hHeld => ?_)
   obtain ⟨y101, HY101⟩ : ∃ y, Hid (y = y100.drew) := ⟨_, rfl⟩
   rw [← HY101.out] at hHeld ⊢
   have hB101 : BlkV 23 y101 B K := by rw [HY101.out]; exact hB100
   have hX101 : BlkV 57 y101 M CS := by rw [HY101.out]; exact hX100
   have hR101 : BlkV 23 y101 (B + 1) Z := by rw [HY101.out]; exact hR100
   have bb101 : Below B w y101 := by rw [HY101.out]; exact bb100.drew
   have hsy101 : M + 1 ≤ y101.heap.size := hX101.lt
   have hG101 : BlkV 23 y101 G SV := by rw [HY101.out]; exact hG100
   refine tkP 0 rfl (by assumption) ⟨?_, ?_, ?_⟩
   rotate_left
   ·intro w hSw; (try dsimp only at hSw); go_simp; (try with_reducible rfl)
   try simp only [Act.put, sArr, sZ, sS]
   refine tkR 1 rfl (yieldsIf_load_mid (by rfl) 55 _ rfl M 114 rfl XT _ (fun w hS => fT.out w _ hS.2.1) huT rfl hiT) (by assumption) ?_
   try simp only [Act.put, sArr, sZ, sS]
   refine tkR 2 rfl (yieldsIf_load_mid (by rfl) 23 _ rfl B 0 rfl K _ (fun w hS => at_range hS.1.at0) hu23 rfl hi23) (by assumption) ?_
   try simp only [Act.put, sArr, sZ, sS]
   refine tkR 3 rfl (yieldsIf_load_mid (by rfl) 57 _ rfl M 0 rfl CS _ (fun w hS => at_range hS.2.1.at0) huE rfl hiE) (by assumption) ?_
   try simp only [Act.put, sArr, sZ, sS]
   refine tkP 4 rfl (by assumption) ⟨?_, ?_, ?_⟩
   rotate_left
   ·intro w hSw; (try dsimp only at hSw); go_simp; (try with_reducible rfl)
   try simp only [Act.put, sArr, sZ, sS]
   refine wpAnyH_ready (rs := [5]) (by kernel_rfl) (by simp) (cons_l rfl (fun K' hK' => ?_) AllReadyH.nil)
   rw [if_pos (by kernel_rfl)]
   go_simp
   go_at_call 34
   refine (htg y101 bb101).out.mono ?_
   rintro e y102 ⟨rfl, hbx102⟩
   have hB102 := hB101.below hbx102 (by have := hG101.lt; omega)
   have hX102 := hX101.below hbx102 (by have := hG101.lt; omega)
   have hR102 := hR101.below hbx102 (by have := hG101.lt; omega)
   have bb102 := bb101.trans (hbx102.mono (by omega : B ≤ _))
   have hsy102 : M + 1 ≤ y102.heap.size := hX102.lt
   have hG102 := hG101.below hbx102 (by have := hG101.lt; omega)
   refine hK'.out _ _ ⟨hB102, hX102, hG102⟩ (fun hHeld => ?_)
   clear hK' K'
   try simp only [Act.put, sArr, sZ, sS]
   refine tkR 6 rfl (yieldsIf_neM (by rfl) 55 _ _ _ rfl XT.toArray TV.toArray rfl rfl false heT.out (by kernel_rfl)) (by assumption) ?_
   try simp only [Act.put, sArr, sZ, sS]
   refine tkP 7 rfl (by assumption) ⟨?_, ?_, ?_⟩
   rotate_left
   ·intro w hSw; (try dsimp only at hSw); go_simp; (try with_reducible rfl)
   try simp only [Act.put, sArr, sZ, sS]
   refine tkR 8 rfl (Or.inr ⟨by kernel_rfl, rfl⟩) (by assumption) ?_
   try simp only [Act.put, sArr, sZ, sS]
   refine tkR 9 rfl (Or.inr ⟨by kernel_rfl, rfl⟩) (by assumption) ?_
   try simp only [Act.put, sArr, sZ, sS]
   refine tkR 10 rfl (Or.inr ⟨by kernel_rfl, rfl⟩) (by assumption) ?_
   try simp only [Act.put, sArr, sZ, sS]
   refine tkR 11 rfl (Or.inr ⟨by kernel_rfl, rfl⟩) (by assumption) ?_
   try simp only [Act.put, sArr, sZ, sS]
   refine tkR 12 rfl (Or.inr ⟨by kernel_rfl, rfl⟩) (by assumption) ?_
   try simp only [Act.put, sArr, sZ, sS]
   refine tkR 13 rfl (Or.inr ⟨by kernel_rfl, rfl⟩) (by assumption) ?_
   try simp only [Act.put, sArr, sZ, sS]
   refine tkR 14 rfl (Or.inr ⟨by kernel_rfl, rfl⟩) (by assumption) ?_
   try simp only [Act.put, sArr, sZ, sS]
   refine tkR 15 rfl (Or.inr ⟨by kernel_rfl, rfl⟩) (by assumption) ?_
   try simp only [Act.put, sArr, sZ, sS]
   refine tkR 16 rfl (Or.inr ⟨by kernel_rfl, rfl⟩) (by assumption) ?_
   try simp only [Act.put, sArr, sZ, sS]
   refine tkR 17 rfl (Or.inr ⟨by kernel_rfl, rfl⟩) (by assumption) ?_
   try simp only [Act.put, sArr, sZ, sS]
   refine tkP 18 rfl (by assumption) ⟨?_, ?_, ?_⟩
   rotate_left
   ·intro w hSw; (try dsimp only at hSw); go_simp; (try with_reducible rfl)
   try simp only [Act.put, sArr, sZ, sS]
   refine wpAnyH_done (by kernel_rfl) ?_ _
   clear hHeld
   go_wp2_with (first | (refine wl_storeV rfl 23 _ _ rfl 23 (B + 1) rfl Z rfl 32 aggKey hZl Z hR102 hZl hZ1 ?_; intro vF hRF hbF hsF; have bbF := bb102.trans (hbF.mono (by omega : B ≤ _)); clear hR102) | (refine wl_build0 rfl 23 rfl Z HBK.out ?_))
   (try simp only [Exit.inBlock, Exit.then]); refine bodyPost_ret (results_cell2 rfl _ _ _ _ rfl Z (by rw [hZl]; exact aggKey) hRF.at0) rfl ?_
   exact ⟨by rw [(hoT h1 h2 h3).out]; rfl, by rw [← HB.out]; exact bbF⟩
  have heT := heT _ h3
  cases h4 : (x.o == nameL (secretX k x))
  ·skip
   have heO := heO _ h4
   refine wp_region_held_drew (S := (fun w' => BlkV 23 w' B K ∧ BlkV 57 w' M CS ∧ BlkV 23 w' G SV)) (by kernel_rfl) ⟨(show BlkV 23 y100.drew B K from hB100), (show BlkV 57 y100.drew M CS from hX100), (show BlkV 23 y100.drew G SV from hG100)⟩ (fun hHeld => ?_)
   obtain ⟨y101, HY101⟩ : ∃ y, Hid (y = y100.drew) := ⟨_, rfl⟩
   rw [← HY101.out] at hHeld ⊢
   have hB101 : BlkV 23 y101 B K := by rw [HY101.out]; exact hB100
   have hX101 : BlkV 57 y101 M CS := by rw [HY101.out]; exact hX100
   have hR101 : BlkV 23 y101 (B + 1) Z := by rw [HY101.out]; exact hR100
   have bb101 : Below B w y101 := by rw [HY101.out]; exact bb100.drew
   have hsy101 : M + 1 ≤ y101.heap.size := hX101.lt
   have hG101 : BlkV 23 y101 G SV := by rw [HY101.out]; exact hG100
   refine tkP 0 rfl (by assumption) ⟨?_, ?_, ?_⟩
   rotate_left
   ·intro w hSw; (try dsimp only at hSw); go_simp; (try with_reducible rfl)
   try simp only [Act.put, sArr, sZ, sS]
   refine tkR 1 rfl (yieldsIf_load_mid (by rfl) 55 _ rfl M 114 rfl XT _ (fun w hS => fT.out w _ hS.2.1) huT rfl hiT) (by assumption) ?_
   try simp only [Act.put, sArr, sZ, sS]
   refine tkR 2 rfl (yieldsIf_load_mid (by rfl) 23 _ rfl B 0 rfl K _ (fun w hS => at_range hS.1.at0) hu23 rfl hi23) (by assumption) ?_
   try simp only [Act.put, sArr, sZ, sS]
   refine tkR 3 rfl (yieldsIf_load_mid (by rfl) 57 _ rfl M 0 rfl CS _ (fun w hS => at_range hS.2.1.at0) huE rfl hiE) (by assumption) ?_
   try simp only [Act.put, sArr, sZ, sS]
   refine tkP 4 rfl (by assumption) ⟨?_, ?_, ?_⟩
   rotate_left
   ·intro w hSw; (try dsimp only at hSw); go_simp; (try with_reducible rfl)
   try simp only [Act.put, sArr, sZ, sS]
   refine wpAnyH_ready (rs := [5]) (by kernel_rfl) (by simp) (cons_l rfl (fun K' hK' => ?_) AllReadyH.nil)
   rw [if_pos (by kernel_rfl)]
   go_simp
   go_at_call 34
   refine (htg y101 bb101).out.mono ?_
   rintro e y102 ⟨rfl, hbx102⟩
   have hB102 := hB101.below hbx102 (by have := hG101.lt; omega)
   have hX102 := hX101.below hbx102 (by have := hG101.lt; omega)
   have hR102 := hR101.below hbx102 (by have := hG101.lt; omega)
   have bb102 := bb101.trans (hbx102.mono (by omega : B ≤ _))
   have hsy102 : M + 1 ≤ y102.heap.size := hX102.lt
   have hG102 := hG101.below hbx102 (by have := hG101.lt; omega)
   refine hK'.out _ _ ⟨hB102, hX102, hG102⟩ (fun hHeld => ?_)
   clear hK' K'
   try simp only [Act.put, sArr, sZ, sS]
   refine tkR 6 rfl (yieldsIf_neM (by rfl) 55 _ _ _ rfl XT.toArray TV.toArray rfl rfl true heT.out (by kernel_rfl)) (by assumption) ?_
   try simp only [Act.put, sArr, sZ, sS]
   refine tkP 7 rfl (by assumption) ⟨?_, ?_, ?_⟩
   rotate_left
   ·intro w hSw; (try dsimp only at hSw); go_simp; (try with_reducible rfl)
   try simp only [Act.put, sArr, sZ, sS]
   refine tkP 8 rfl (by assumption) ⟨?_, ?_, ?_⟩
   rotate_left
   ·intro w hSw; (try dsimp only at hSw); go_simp; (try with_reducible rfl)
   try simp only [Act.put, sArr, sZ, sS]
   refine tkP 9 rfl (by assumption) ⟨?_, ?_, ?_⟩
   rotate_left
   ·intro w hSw; have c0 := (hSw.2.1.cell 0).trans hcv.out; (try dsimp only at hSw); go_simp; (try with_reducible rfl)
   try simp only [Act.put, sArr, sZ, sS]
   refine tkP 10 rfl (by assumption) ⟨?_, ?_, ?_⟩
   rotate_left
   ·intro w hSw; (try dsimp only at hSw); go_simp; (try with_reducible rfl)
   try simp only [Act.put, sArr, sZ, sS]
   refine tkP 11 rfl (by assumption) ⟨?_, ?_, ?_⟩
   rotate_left
   ·intro w hSw; (try dsimp only at hSw); go_simp; (try with_reducible rfl)
   try simp only [Act.put, sArr, sZ, sS]
   refine tkP 12 rfl (by assumption) ⟨?_, ?_, ?_⟩
   rotate_left
   ·intro w hSw; (try dsimp only at hSw); go_simp; (try with_reducible rfl)
   try simp only [Act.put, sArr, sZ, sS]
   refine tkR 13 rfl (yieldsIf_load_mid (by rfl) 27 _ rfl M 18 rfl XO _ (fun w hS => fO.out w _ hS.2.1) huO rfl hiO) (by assumption) ?_
   try simp only [Act.put, sArr, sZ, sS]
   refine tkR 14 rfl (yieldsIf_load_mid (by rfl) 23 _ rfl G 0 rfl SV _ (fun w hS => at_range hS.2.2.at0) huS rfl hiS) (by assumption) ?_
   try simp only [Act.put, sArr, sZ, sS]
   refine wpAnyH_ready (rs := [15]) (by kernel_rfl) (by simp) (cons_l rfl (fun K' hK' => ?_) AllReadyH.nil)
   rw [if_pos (by kernel_rfl)]
   go_simp
   go_at_call 12
   refine (hns y102).out.mono ?_
   rintro e y103 ⟨rfl, hbx103⟩
   have hB103 := hB102.below hbx103 (by have := hG102.lt; omega)
   have hX103 := hX102.below hbx103 (by have := hG102.lt; omega)
   have hR103 := hR102.below hbx103 (by have := hG102.lt; omega)
   have bb103 := bb102.trans (hbx103.mono (by omega : B ≤ _))
   have hsy103 : M + 1 ≤ y103.heap.size := hX103.lt
   have hG103 := hG102.below hbx103 (by have := hG102.lt; omega)
   refine hK'.out _ _ ⟨hB103, hX103, hG103⟩ (fun hHeld => ?_)
   clear hK' K'
   try simp only [Act.put, sArr, sZ, sS]
   refine tkR 16 rfl (yieldsIf_neM (by rfl) 27 _ _ _ rfl XO.toArray NS.toArray rfl rfl false heO.out (by kernel_rfl)) (by assumption) ?_
   try simp only [Act.put, sArr, sZ, sS]
   refine tkP 17 rfl (by assumption) ⟨?_, ?_, ?_⟩
   rotate_left
   ·intro w hSw; (try dsimp only at hSw); go_simp; (try with_reducible rfl)
   try simp only [Act.put, sArr, sZ, sS]
   refine tkP 18 rfl (by assumption) ⟨?_, ?_, ?_⟩
   rotate_left
   ·intro w hSw; (try dsimp only at hSw); go_simp; (try with_reducible rfl)
   try simp only [Act.put, sArr, sZ, sS]
   refine wpAnyH_done (by kernel_rfl) ?_ _
   clear hHeld
   go_wp2_with (first | (refine wl_storeV rfl 23 _ _ rfl 23 (B + 1) rfl Z rfl 32 aggKey hZl Z hR103 hZl hZ1 ?_; intro vF hRF hbF hsF; have bbF := bb103.trans (hbF.mono (by omega : B ≤ _)); clear hR103) | (refine wl_build0 rfl 23 rfl Z HBK.out ?_))
   (try simp only [Exit.inBlock, Exit.then]); refine bodyPost_ret (results_cell2 rfl _ _ _ _ rfl Z (by rw [hZl]; exact aggKey) hRF.at0) rfl ?_
   exact ⟨by rw [(hoO h1 h2 h3 h4).out]; rfl, by rw [← HB.out]; exact bbF⟩
  have heO := heO _ h4
  refine wp_region_held_drew (S := (fun w' => BlkV 23 w' B K ∧ BlkV 57 w' M CS ∧ BlkV 23 w' G SV)) (by kernel_rfl) ⟨(show BlkV 23 y100.drew B K from hB100), (show BlkV 57 y100.drew M CS from hX100), (show BlkV 23 y100.drew G SV from hG100)⟩ (fun hHeld => ?_)
  obtain ⟨y101, HY101⟩ : ∃ y, Hid (y = y100.drew) := ⟨_, rfl⟩
  rw [← HY101.out] at hHeld ⊢
  have hB101 : BlkV 23 y101 B K := by rw [HY101.out]; exact hB100
  have hX101 : BlkV 57 y101 M CS := by rw [HY101.out]; exact hX100
  have hR101 : BlkV 23 y101 (B + 1) Z := by rw [HY101.out]; exact hR100
  have bb101 : Below B w y101 := by rw [HY101.out]; exact bb100.drew
  have hsy101 : M + 1 ≤ y101.heap.size := hX101.lt
  have hG101 : BlkV 23 y101 G SV := by rw [HY101.out]; exact hG100
  refine tkP 0 rfl (by assumption) ⟨?_, ?_, ?_⟩
  rotate_left
  ·intro w hSw; (try dsimp only at hSw); go_simp; (try with_reducible rfl)
  try simp only [Act.put, sArr, sZ, sS]
  refine tkR 1 rfl (yieldsIf_load_mid (by rfl) 55 _ rfl M 114 rfl XT _ (fun w hS => fT.out w _ hS.2.1) huT rfl hiT) (by assumption) ?_
  try simp only [Act.put, sArr, sZ, sS]
  refine tkR 2 rfl (yieldsIf_load_mid (by rfl) 23 _ rfl B 0 rfl K _ (fun w hS => at_range hS.1.at0) hu23 rfl hi23) (by assumption) ?_
  try simp only [Act.put, sArr, sZ, sS]
  refine tkR 3 rfl (yieldsIf_load_mid (by rfl) 57 _ rfl M 0 rfl CS _ (fun w hS => at_range hS.2.1.at0) huE rfl hiE) (by assumption) ?_
  try simp only [Act.put, sArr, sZ, sS]
  refine tkP 4 rfl (by assumption) ⟨?_, ?_, ?_⟩
  rotate_left
  ·intro w hSw; (try dsimp only at hSw); go_simp; (try with_reducible rfl)
  try simp only [Act.put, sArr, sZ, sS]
  refine wpAnyH_ready (rs := [5]) (by kernel_rfl) (by simp) (cons_l rfl (fun K' hK' => ?_) AllReadyH.nil)
  rw [if_pos (by kernel_rfl)]
  go_simp
  go_at_call 34
  refine (htg y101 bb101).out.mono ?_
  rintro e y102 ⟨rfl, hbx102⟩
  have hB102 := hB101.below hbx102 (by have := hG101.lt; omega)
  have hX102 := hX101.below hbx102 (by have := hG101.lt; omega)
  have hR102 := hR101.below hbx102 (by have := hG101.lt; omega)
  have bb102 := bb101.trans (hbx102.mono (by omega : B ≤ _))
  have hsy102 : M + 1 ≤ y102.heap.size := hX102.lt
  have hG102 := hG101.below hbx102 (by have := hG101.lt; omega)
  refine hK'.out _ _ ⟨hB102, hX102, hG102⟩ (fun hHeld => ?_)
  clear hK' K'
  try simp only [Act.put, sArr, sZ, sS]
  refine tkR 6 rfl (yieldsIf_neM (by rfl) 55 _ _ _ rfl XT.toArray TV.toArray rfl rfl true heT.out (by kernel_rfl)) (by assumption) ?_
  try simp only [Act.put, sArr, sZ, sS]
  refine tkP 7 rfl (by assumption) ⟨?_, ?_, ?_⟩
  rotate_left
  ·intro w hSw; (try dsimp only at hSw); go_simp; (try with_reducible rfl)
  try simp only [Act.put, sArr, sZ, sS]
  refine tkP 8 rfl (by assumption) ⟨?_, ?_, ?_⟩
  rotate_left
  ·intro w hSw; (try dsimp only at hSw); go_simp; (try with_reducible rfl)
  try simp only [Act.put, sArr, sZ, sS]
  refine tkP 9 rfl (by assumption) ⟨?_, ?_, ?_⟩
  rotate_left
  ·intro w hSw; have c0 := (hSw.2.1.cell 0).trans hcv.out; (try dsimp only at hSw); go_simp; (try with_reducible rfl)
  try simp only [Act.put, sArr, sZ, sS]
  refine tkP 10 rfl (by assumption) ⟨?_, ?_, ?_⟩
  rotate_left
  ·intro w hSw; (try dsimp only at hSw); go_simp; (try with_reducible rfl)
  try simp only [Act.put, sArr, sZ, sS]
  refine tkP 11 rfl (by assumption) ⟨?_, ?_, ?_⟩
  rotate_left
  ·intro w hSw; (try dsimp only at hSw); go_simp; (try with_reducible rfl)
  try simp only [Act.put, sArr, sZ, sS]
  refine tkP 12 rfl (by assumption) ⟨?_, ?_, ?_⟩
  rotate_left
  ·intro w hSw; (try dsimp only at hSw); go_simp; (try with_reducible rfl)
  try simp only [Act.put, sArr, sZ, sS]
  refine tkR 13 rfl (yieldsIf_load_mid (by rfl) 27 _ rfl M 18 rfl XO _ (fun w hS => fO.out w _ hS.2.1) huO rfl hiO) (by assumption) ?_
  try simp only [Act.put, sArr, sZ, sS]
  refine tkR 14 rfl (yieldsIf_load_mid (by rfl) 23 _ rfl G 0 rfl SV _ (fun w hS => at_range hS.2.2.at0) huS rfl hiS) (by assumption) ?_
  try simp only [Act.put, sArr, sZ, sS]
  refine wpAnyH_ready (rs := [15]) (by kernel_rfl) (by simp) (cons_l rfl (fun K' hK' => ?_) AllReadyH.nil)
  rw [if_pos (by kernel_rfl)]
  go_simp
  go_at_call 12
  refine (hns y102).out.mono ?_
  rintro e y103 ⟨rfl, hbx103⟩
  have hB103 := hB102.below hbx103 (by have := hG102.lt; omega)
  have hX103 := hX102.below hbx103 (by have := hG102.lt; omega)
  have hR103 := hR102.below hbx103 (by have := hG102.lt; omega)
  have bb103 := bb102.trans (hbx103.mono (by omega : B ≤ _))
  have hsy103 : M + 1 ≤ y103.heap.size := hX103.lt
  have hG103 := hG102.below hbx103 (by have := hG102.lt; omega)
  refine hK'.out _ _ ⟨hB103, hX103, hG103⟩ (fun hHeld => ?_)
  clear hK' K'
  try simp only [Act.put, sArr, sZ, sS]
  refine tkR 16 rfl (yieldsIf_neM (by rfl) 27 _ _ _ rfl XO.toArray NS.toArray rfl rfl true heO.out (by kernel_rfl)) (by assumption) ?_
  try simp only [Act.put, sArr, sZ, sS]
  refine tkP 17 rfl (by assumption) ⟨?_, ?_, ?_⟩
  rotate_left
  ·intro w hSw; (try dsimp only at hSw); go_simp; (try with_reducible rfl)
  try simp only [Act.put, sArr, sZ, sS]
  refine tkP 18 rfl (by assumption) ⟨?_, ?_, ?_⟩
  rotate_left
  ·intro w hSw; (try dsimp only at hSw); go_simp; (try with_reducible rfl)
  try simp only [Act.put, sArr, sZ, sS]
  refine wpAnyH_done (by kernel_rfl) ?_ _
  clear hHeld
  go_wp2_with (first | (refine wl_storeV rfl 23 _ _ rfl 23 (B + 1) rfl SV rfl 32 aggKey hSl Z hR103 hZl hS1 ?_; intro vF hRF hbF hsF; have bbF := bb103.trans (hbF.mono (by omega : B ≤ _)); clear hR103) | (refine wl_load rfl 23 _ rfl ⟨G, 0, none⟩ rfl SV (by rw [hSl]; exact aggKey) hG103.at0 ?_))
  (try simp only [Exit.inBlock, Exit.then]); refine bodyPost_ret (results_cell2 rfl _ _ _ _ rfl SV (by rw [hSl]; exact aggKey) hRF.at0) rfl ?_
  exact ⟨by rw [(hoE h1 h2 h3 h4).out]; rfl, by rw [← HB.out]; exact bbF⟩
end Go.Proofs.YtbjmadcbhkeenaaGreat.wr
