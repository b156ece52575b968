/-
  The law ChainsMatch, walked (at most 200 links): it returns true. Conditions: a key of octets, lists of octets that lie in memory.
-/
import Derived.Test.YtbjmadcbhkeenaaGreatCLkW
set_option maxRecDepth 100000
set_option linter.unusedSimpArgs false
set_option linter.unusedVariables false
namespace Go.Proofs.YtbjmadcbhkeenaaGreat.lk
open Go.RowKit wr shr sh st hs srt
set_option maxHeartbeats 8000000 in
theorem law_small (k : List Int) (po ao ro go : Option Addr) (cap ac rcap gcap n mc m gn : Nat) (ps : List Pt) (c : List Int) (want : Id) (roots gone : List Id) (w : World) (hk : k.length = 32) (ok : Octs k) (hn : n = ps.length) (hrow : RowV w po (ps.map Pt.v)) (hps : ∀ x ∈ ps, 4 ≤ x.l.length → x.Ok w) (hmc : mc = c.length) (HP : Pt.Ok w ⟨ao, ac, c⟩) (hno : ao = none → ac = 0) (hw : want.length = 16) (hm : m = roots.length) (hg : gn = gone.length) (hgn : gn ≤ 9223372036854775807) (hroots : RowD w ro roots) (hgone : RowD w go gone) (hro : ∀ s ∈ roots, IdOk s) (h200 : ¬ 200 < n) :
  Calls Tryz.prog 3 #[.agg (k.map (Value.int .u8)).toArray, .slice po n cap, .slice ao mc ac, idV want, .slice ro m rcap, .slice go gn gcap] w fun e w' => e = .returned (.bool true) ∧ Below w.heap.size w w' := by
 obtain ⟨B, HB⟩ : ∃ B, Hid (B = w.heap.size) := ⟨_, rfl⟩
 have hsz : w.heap.size = B := HB.out.symm
 obtain ⟨Z, HZ⟩ : ∃ Z, Hid (Z = (List.replicate 32 (0 : Int)).map (Value.int .u8)) := ⟨_, rfl⟩
 have hzK := hid wr.zeroKey
 have HBK : Hid (Tryz.prog.built 23 [] = some ((List.replicate 32 (0 : Int)).map (Value.int .u8)).toArray) := hid (by kernel_rfl)
 rw [← HZ.out] at hzK HBK
 have hZl : Z.length = 32 := by rw [HZ.out]; simp
 have hZ1 : ∀ u ∈ Z, u.oneCell' = true := by rw [HZ.out]; exact ints_one _ _
 obtain ⟨ZI, HZI⟩ : ∃ Z, Hid (Z = (List.replicate 16 (0 : Int)).map (Value.int .u8)) := ⟨_, rfl⟩
 have hzI := hid lk.zeroID
 have HII := hid infoId
 have HI2 := hid infoId2
 rw [← HZI.out] at hzI HII HI2
 have hZIl : ZI.length = 16 := by rw [HZI.out]; simp
 have HZC : Hid ((Value.agg ZI.toArray).cells.size = 16) := hid (by show ZI.toArray.size = 16; simpa using hZIl)
 obtain ⟨K, HK⟩ : ∃ K, Hid (K = k.map (Value.int .u8)) := ⟨_, rfl⟩
 have hKl : K.length = 32 := by rw [HK.out, List.length_map, hk]
 have hK1 : ∀ u ∈ K, u.oneCell' = true := by rw [HK.out]; exact ints_one _ _
 obtain ⟨W, HW⟩ : ∃ W, Hid (W = want.map (Value.int .u8)) := ⟨_, rfl⟩
 have hWl : W.length = 16 := by rw [HW.out, List.length_map, hw]
 have HIDW : Hid (Value.agg W.toArray = idV want) := hid (by rw [HW.out]; rfl)
 have hlkO : Hid (∀ l ∈ ps.map Pt.l, readE l = 0 → (readX l).Ok) := hid (fun l hl h => by
  obtain ⟨x, hx, rfl⟩ := List.mem_map.1 hl
  exact readX_ok (hps x hx (readE_zero h).1).oct h)
 have hrowB := fun (y : World) (hb : Below B w y) => hrow.below (hsz ▸ hb)
 have hpsB := fun (y : World) (hb : Below B w y) (x : Pt) (hx : x ∈ ps) (h4 : 4 ≤ x.l.length) => (hps x hx h4).below (hsz ▸ hb)
 have hchA := fun (y : World) (hb : Below B w y) => hid (Chain_any k po ao cap ac n mc ps c want y hk ok hn (hrowB y hb) (hpsB y hb) hmc (HP.below (hsz ▸ hb)) hno hw)
 have hreA := fun (y : World) (hb : Below B w y) => hid (Reach_any po ro cap rcap n m ps roots y hn hm (hrowB y hb) (hpsB y hb) (hroots.below (hsz ▸ hb)) hro hlkO)
 have hloA := fun (y : World) (hb : Below B w y) => hid (Lost_any po ro go cap rcap gcap n m gn ps roots gone y hn hm hg hgn (hrowB y hb) (hpsB y hb) (hroots.below (hsz ▸ hb)) (hgone.below (hsz ▸ hb)) hro hlkO)
 have hceA := fun (y : World) (hb : Below B w y) => hid (ChainErr_any po cap n ps y hn (hrowB y hb) (hpsB y hb))
 obtain ⟨KF, EF, LF, HR⟩ : ∃ (KF : List Int) (EF : Int) (LF : List Nat), Hid (chainR k n (ps.map Pt.l) c want = (KF, EF, LF)) := ⟨_, _, _, rfl⟩
 rw [HR.out] at hchA
 unfold ChainPost at hchA
 dsimp only at hchA
 obtain ⟨E1, HE1⟩ : ∃ E, Hid (E = wrongE n (ps.map Pt.l)) := ⟨_, rfl⟩
 obtain ⟨E2, HE2⟩ : ∃ E, Hid (E = linkE n m (ps.map Pt.l)) := ⟨_, rfl⟩
 obtain ⟨E3, HE3⟩ : ∃ E, Hid (E = lostE n m gn (ps.map Pt.l)) := ⟨_, rfl⟩
 rw [← HE1.out] at hceA
 rw [← HE2.out] at hreA
 rw [← HE3.out] at hloA
 obtain ⟨KV, HKV⟩ : ∃ V, Hid (V = KF.map (Value.int .u8)) := ⟨_, rfl⟩
 have HKFL : Hid (KF.length = 32 ∧ Octs KF) := hid (chainR_ok HR.out hk ok (fun l hl h => hlkO.out l hl h))
 have hKVl : KV.length = 32 := by rw [HKV.out, List.length_map, HKFL.out.1]
 have hKV1 : ∀ u ∈ KV, u.oneCell' = true := by rw [HKV.out]; exact ints_one _ _
 rw [← HKV.out, ← HIDW.out, ← HK.out] at hchA
 obtain ⟨WH, HWH⟩ : ∃ E, Hid (whenE (decide ((4096 : Int) < (mc : Int))) 5 = E) := ⟨_, rfl⟩
 obtain ⟨F0, HF0⟩ : ∃ E, Hid (firstE2 WH E1 = E) := ⟨_, rfl⟩
 have HE0 := hid (e0_first (ls := ps.map Pt.l) (n := n) hmc HWH.out HE1.out HF0.out)
 obtain ⟨LG, HLG⟩ : ∃ E, Hid (whenE (decide (200 < n) || decide (200 < m)) 5 = E) := ⟨_, rfl⟩
 have HF2 := hid (e2_first HLG.out HE1.out HE2.out)
 have HLGS : Hid (whenE (decide ((200 : Int) < (n : Int)) || decide ((200 : Int) < (m : Int))) 5 = LG) := hid (by rw [← HLG.out]; exact congrArg (fun b => whenE b 5) (by rw [show decide ((200 : Int) < (n : Int)) = decide (200 < n) from decide_eq_decide.2 (by omega), show decide ((200 : Int) < (m : Int)) = decide (200 < m) from decide_eq_decide.2 (by omega)]))
 obtain ⟨WG, HWG⟩ : ∃ E, Hid (whenE (decide (200 < gn)) 5 = E) := ⟨_, rfl⟩
 have HF3 := hid (e3_first HLG.out HE1.out HWG.out HE3.out)
 have HWGS : Hid (whenE (decide ((200 : Int) < (gn : Int))) 5 = WG) := hid (by rw [← HWG.out]; exact congrArg (fun b => whenE b 5) (decide_eq_decide.2 (by omega)))
 have HNPL : Hid (n = (ps.map Pt.l).length) := hid (by rw [List.length_map]; exact hn)
 have HEN : Hid (n = ((ps.map Pt.l).map readX).length) := hid (by rw [List.length_map, List.length_map]; exact hn)
 have hEok : Hid (chE (ps.map Pt.l) = 0 → ∀ x ∈ (ps.map Pt.l).map readX, x.Ok) := hid (fun h x hx => by
  obtain ⟨l, hl, rfl⟩ := List.mem_map.1 hx
  exact hlkO.out l hl (chE_zero h l hl).1)
 have hroF : Hid (∀ (y : World) (eo : Option Addr) (ec : Nat), E2 = 0 → Below B w y → RowE y eo ((ps.map Pt.l).map readX) → Calls Tryz.prog 16 #[.slice ro m rcap, .slice eo n ec, .slice none 0 0] y (IdsPost (Reached roots [] (((ps.map Pt.l).map readX).map lnk)) y)) := hid (fun y eo ec h0 hb hr => by
  obtain ⟨q1, q2, q3⟩ := link_zero (HE2.out.symm.trans h0)
  exact ReachOf_any ro eo none rcap ec 0 m n 0 roots [] _ y hm HEN.out rfl (by omega) (by omega) (by decide) (hroots.below (hsz ▸ hb)) (nilD y) hr (hEok.out q3) hro)
 have hroG : Hid (∀ (y : World) (eo : Option Addr) (ec : Nat), E2 = 0 → Below B w y → RowE y eo ((ps.map Pt.l).map readX) → Calls Tryz.prog 16 #[.slice ro m rcap, .slice eo n ec, .slice go gn gcap] y (IdsPost (Reached roots gone (((ps.map Pt.l).map readX).map lnk)) y)) := hid (fun y eo ec h0 hb hr => by
  obtain ⟨q1, q2, q3⟩ := link_zero (HE2.out.symm.trans h0)
  exact ReachOf_any ro eo go rcap ec gcap m n gn roots gone _ y hm HEN.out hg (by omega) (by omega) hgn (hroots.below (hsz ▸ hb)) (hgone.below (hsz ▸ hb)) hr (hEok.out q3) hro)
 have hwofF : Hid (∀ (y : World) (eo : Option Addr) (ec : Nat), chainE0 c n (ps.map Pt.l) = 0 → RowE y eo ((ps.map Pt.l).map readX) → Calls Tryz.prog 11 #[.slice eo n ec, idV (nameL k), idV want] y (WayPost (wayR (((ps.map Pt.l).map readX).map lnk) (nameL k) want) y)) := hid (fun y eo ec h0 hr => by
  obtain ⟨q1, q2, q3⟩ := e0_zero h0
  have h := WayOf_any eo ec n _ (nameL k) want y HEN.out (by omega) hr (hEok.out q3) (nameL_length k) hw
  have e : wofN (((ps.map Pt.l).map readX).map lnk) (nameL k) n want = wayR (((ps.map Pt.l).map readX).map lnk) (nameL k) want := by
   rw [← wayR_eq, List.length_map, ← HEN.out]
  rw [e] at h
  exact h)
 have hnm := fun (y : World) => hid (RefNameOf_any k hk ok y)
 have HNMV : Hid (Value.agg ((nameL k).map (Value.int .u8)).toArray = idV (nameL k)) := rfl
 obtain ⟨NV, HNV⟩ : ∃ V, Hid (V = (nameL k).map (Value.int .u8)) := ⟨_, rfl⟩
 rw [← HNV.out] at hnm HNMV
 rw [← HNMV.out, ← HIDW.out] at hwofF
 rw [← HK.out] at hnm
 have huK := Tryz.underlying23
 have hiK : (Tryz.prog.info? 23).map (·.size) = some K.length := by rw [hKl]; exact aggKey.2
 have huW := Tryz.underlying27
 have hiW : (Tryz.prog.info? 27).map (·.size) = some W.length := by rw [hWl]; exact aggID.2
 have huwA : Hid (∀ (kc : List Int) (x : Pt) (y : World), kc.length = 32 → Octs kc → x ∈ ps → readE x.l = 0 → ¬ 4096 < c.length → Below B w y → Calls Tryz.prog 13 #[.agg (kc.map (Value.int .u8)).toArray, .slice x.a x.l.length x.c, .slice ao mc ac] y fun r w' => r = .returned (openV kc (readX x.l) c) ∧ Below y.heap.size y w') := hid (fun kc x y h5 h6 h7 h8 h9 hb => by
  have h := Unwrapped_any kc x.l c x.a x.c x.l.length ao ac mc y h5 h6 rfl ((hps x h7 (readE_zero h8).1).below (hsz ▸ hb)) hmc (HP.below (hsz ▸ hb)) hno
  rw [unwrapV_open h9 h8] at h
  exact h)
 have HPE : Hid (∀ i, i < n → chE (ps.map Pt.l) = 0 → ∃ x ∈ ps, ps[i]? = some x ∧ readE x.l = 0 ∧ ((ps.map Pt.l).map readX).getD i env0 = readX x.l) := hid (fun i hi h => by
  have hip : i < ps.length := by omega
  refine ⟨ps[i], List.getElem_mem hip, List.getElem?_eq_getElem hip, (chE_zero h _ (List.mem_map.2 ⟨_, List.getElem_mem hip, rfl⟩)).1, ?_⟩
  rw [getD_lt' _ _ (by rw [List.length_map, List.length_map]; exact hip), List.getElem_map, List.getElem_map])
 have HRL : Hid (E2 = 0 → roots.length + n ≤ 400) := hid (fun h0 => by
  obtain ⟨q1, q2, q3⟩ := link_zero (HE2.out.symm.trans h0)
  omega)
 have HOKI : Hid (∀ A : List Id, E2 = 0 → Reached roots [] (((ps.map Pt.l).map readX).map lnk) A → ∀ s ∈ A, IdOk s) := hid (fun A h0 h1 => by
  obtain ⟨q1, q2, q3⟩ := link_zero (HE2.out.symm.trans h0)
  refine h1.1.of IdOk hro fun x hx => ?_
  obtain ⟨y, hy, rfl⟩ := List.mem_map.1 hx
  exact ⟨(hEok.out q3 y hy).ol, (hEok.out q3 y hy).oo⟩)
 have HROW := hid hrow
 have HROWB := hid hrowB
 have HKOK : Hid (k.length = 32 ∧ Octs k) := hid ⟨hk, ok⟩
 have HGB : Hid (∀ y, Below B w y → RowD y go gone) := hid (fun y hb => hgone.below (hsz ▸ hb))
 have HGL := hid hg
 have heqA := hid (fun (ao bo : Option Addr) (c1 c2 : Nat) (xs : List Id) (y : World) (h1 : RowD y ao xs) (h2 : RowD y bo xs) (hl : xs.length ≤ 1000) => Equal_ids ao bo c1 c2 xs.length xs.length xs xs y rfl rfl h1 h2 (by omega) true (hid (by simp)))
 have heZ : Hid (∀ w, (Op.equalIn 10000 23 (.agg Z.toArray) (.agg Z.toArray)).run Tryz.prog w = .ok true w) := hid (fun w => by rw [HZ.out, run_eq_key w _ _ (by simp) (by simp)]; simp)
 have heKV : Hid (∀ w, (Op.equalIn 10000 23 (.agg KV.toArray) (.agg KV.toArray)).run Tryz.prog w = .ok true w) := hid (fun w => by rw [HKV.out, run_eq_key w _ _ HKFL.out.1 HKFL.out.1]; simp)
 have hI200 : ¬ (200 : Int) < (n : Int) := by omega
 rw [← HK.out, ← HIDW.out]
 clear hk ok hn hrow hps hmc HP hno hw hm hg hroots hgone hro hrowB hpsB h200
 go_enter Tryz.func3, Tryz.ntmps3
 go_upto_if 73 with (first | (go_at_call 9; refine (First_e WH E1 F0 w8 _ rfl HF0.out).mono ?_; rintro e wx ⟨rfl, rfl⟩; have bal : Below w8.heap.size w8 (w8.alloc (.cells #[.int .i64 WH, .int .i64 E1] 30)) := (Below.refl _ _).alloc (Nat.le_refl _) _; obtain ⟨z, HZW⟩ : ∃ y, Hid (y = w8.alloc (.cells #[.int .i64 WH, .int .i64 E1] 30)) := ⟨_, rfl⟩; rw [← HZW.out] at bal ⊢; clear HZW; have hAz := hA8.below bal hA8.lt; have hDz := hD8.below bal hD8.lt; have hHz := hH8.below bal hH8.lt; have HWRz := hid (HWR8.out.below bal); have HQ1z := hid (list_below HQ1.out bal); have HQ2z := hid (list_below HQ2.out bal); have HQ3z := hid (link_below HQ3.out bal); have bbz : Below B w z := bb8.trans (bal.mono (by omega)); have hzs : B + 2 ≤ z.heap.size := Nat.le_trans hs8b bal.size; clear hA8 hD8 hH8 HWR8 HQ1 HQ2 HQ3 bb8 bal) | (go_at_call 10; refine (When_e (decide ((4096 : Int) < (mc : Int))) 5 WH _ HWH.out).mono ?_; rintro e wn ⟨rfl, rfl⟩) | (go_at_call 8; refine (wraps_any w7).mono ?_; rintro e w8 ⟨rfl, hb8⟩; have HQ1 := hid (list_below HR1''.out hb8); have HQ2 := hid (list_below HR2'.out hb8); have HQ3 := hid (link_below HR3.out hb8); have hA8 := hA7.below hb8 hA7.lt; have hD8 := hD7.below hb8 hD7.lt; have hH8 := hH7.below hb8 hH7.lt; have HWR8 := hid (HWR7.out.below hb8); have bb8 : Below B w w8 := bb7.trans (hb8.mono (by omega)); have hs8b : B + 2 ≤ w8.heap.size := Nat.le_trans hs7b hb8.size; clear hA7 hD7 hH7 HWR7 bb7 HR1'' HR2' HR3 hb8) | (go_at_call 7; refine (hceA w6 bb6).out.mono ?_; rintro e w7 ⟨hb7, r3, m3, c3, rfl, hr3⟩; have HR3 := hid hr3; have HR1'' := hid (list_below HR1'.out hb7); have HR2' := hid (list_below HR2.out hb7); have hA7 := hA6.below hb7 hA6.lt; have hD7 := hD6.below hb7 hD6.lt; have hH7 := hH6.below hb7 hH6.lt; have HWR7 := hid (HWR6.out.below hb7); have bb7 : Below B w w7 := bb6.trans (hb7.mono (by omega)); have hs7b : B + 2 ≤ w7.heap.size := Nat.le_trans hs6b hb7.size; clear hA6 hD6 hH6 HWR6 bb6 hr3 HR1' HR2 hb7) | (go_at_call 6; refine (hloA w5 bb5).out.mono ?_; rintro e w6 ⟨hb6, r2, m2, c2, rfl, hr2⟩; have HR2 := hid hr2; have HR1' := hid (list_below HR1.out hb6); have hA6 := hA5.below hb6 hA5.lt; have hD6 := hD5.below hb6 hD5.lt; have hH6 := hH5.below hb6 hH5.lt; have HWR6 := hid (HWR5.out.below hb6); have bb6 : Below B w w6 := bb5.trans (hb6.mono (by omega)); have hs6b : B + 2 ≤ w6.heap.size := Nat.le_trans hs5b hb6.size; clear hA5 hD5 hH5 HWR5 bb5 hr2 HR1 hb6) | (go_at_call 5; refine (hreA w4 bb4).out.mono ?_; rintro e w5 ⟨hb5, r1, m1, c1, rfl, hr1⟩; have HR1 := hid hr1; have hA5 := hA4.below hb5 hA4.lt; have hD5 := hD4.below hb5 hD4.lt; have hH5 := hH4.below hb5 hH4.lt; have HWR5 := hid (HWR4.out.below hb5); have bb5 : Below B w w5 := bb4.trans (hb5.mono (by omega)); have hs5b : B + 2 ≤ w5.heap.size := Nat.le_trans hs4b hb5.size; clear hA4 hD4 hH4 HWR4 bb4 hr1 hb5) | (refine wl_storeV rfl 23 _ _ rfl 23 H rfl KV rfl 32 aggKey hKVl Z hH3 hZl hKV1 ?_; intro w4 hH4 hb4 hs4; have b24 : Below w2.heap.size w2 w4 := hb3.trans (hb4.mono (by rw [HH.out]; exact Nat.le_refl _)); have hA4 := hA2.below b24 hA2.lt; have hD4 := hD2.below b24 hD2.lt; have HWR4 := hid (HWR.out.below b24); have bb4 : Below B w w4 := bb2.trans (b24.mono (by omega)); have hs4b : B + 2 ≤ w4.heap.size := Nat.le_trans hs2 b24.size; clear hH3 hb3 hb4 hs4 hA2 hD2 bb2 HWR b24) | (refine wl_allocV rfl 23 rfl Z hzK.out w2.heap.size rfl ?_; intro w3 hH3 hb3 hs3; obtain ⟨H, HH⟩ : ∃ g, Hid (g = w2.heap.size) := ⟨_, rfl⟩; rw [← HH.out] at hH3; rw [← HH.out]; have hHB : B + 2 ≤ H := (by rw [HH.out]; exact hs2); clear hs3) | (go_at_call 4; refine (hchA w1 bb1).out.mono ?_; rintro e w2 ⟨hb2, wo, wm, wc, rfl, hwm, hwr⟩; have HWM := hid hwm; have HWR := hid hwr; have hA2 := hA1.below hb2 hA1.lt; have hD2 := hD1.below hb2 hD1.lt; have bb2 := bb1.trans (hb2.mono (by omega : B ≤ _)); have hs2 : B + 2 ≤ w2.heap.size := (by have := hb2.size; omega); clear hA1 hD1 bb1 hb2 hwm hwr) | (refine wl_load rfl 23 _ rfl ⟨B, 0, none⟩ rfl K (by rw [hKl]; exact aggKey) hA1.at0 ?_) | (refine wl_load rfl 27 _ rfl ⟨B + 1, 0, none⟩ rfl W (by rw [hWl]; exact aggID) hD1.at0 ?_) | (refine wl_boxV rfl 27 _ rfl W rfl (B + 1) hs0 ?_; intro w1 hD1 hb1 hs1; have hA1 := hA0.below hb1 (by omega); have bb1 := hb0.trans (hb1.mono (by omega : B ≤ _)); clear hA0 hb0 hb1) | (refine wl_boxV rfl 23 _ rfl K rfl B hsz ?_; intro w0 hA0 hb0 hs0))
 go_cut [22, 23, 24] from 74 to 84 (fun a b d wx => ∃ (F1 : Int) (lo : Option Addr) (ln lc : Nat) (is : Bool) (L : List Nat), a = .int .i64 F1 ∧ b = .slice lo ln lc ∧ d = .bool is ∧ Hid (ln = L.length) ∧ Hid (RowI .i64 wx lo (intsN L)) ∧ Below z.heap.size z wx ∧ Hid (WayIn k n (ps.map Pt.l) c KF EF LF F1 L))
 case first =>
  by_cases hF : F0 = 0
  ·have h0 := HE0.out
   rw [hF] at h0
   have HC0 := hid h0
   have hE10 : E1 = 0 := by rw [HE1.out]; unfold wrongE; rw [if_neg (e0_zero h0).2.1]; exact (e0_zero h0).2.2
   have hq3 : m3 = n ∧ RowE z r3 ((ps.map Pt.l).map readX) := by
    rcases HQ3z.out with h | h
    ·exact absurd hE10 h.1
    ·exact ⟨h.2.1.trans HNPL.out.symm, h.2.2⟩
   obtain ⟨hmn, hrw⟩ := hq3
   subst hmn
   have HRW := hid hrw
   clear hrw h0 hE10
   have hwy : Hid (∀ (y : World) (eo : Option Addr) (ec : Nat), RowE y eo ((ps.map Pt.l).map readX) → Calls Tryz.prog 11 #[.slice eo m3 ec, .agg NV.toArray, .agg W.toArray] y (WayPost (wayR (((ps.map Pt.l).map readX).map lnk) (nameL k) want) y)) := hid (fun y eo ec hr => hwofF.out y eo ec HC0.out hr)
   cases hW : wayR (((ps.map Pt.l).map readX).map lnk) (nameL k) want with
   | none =>
    rw [hW] at hwy
    have HWN := hid hW
    have hwy : Hid (∀ (y : World) (eo : Option Addr) (ec : Nat), RowE y eo ((ps.map Pt.l).map readX) → Calls Tryz.prog 11 #[.slice eo m3 ec, .agg NV.toArray, .agg W.toArray] y fun e w' => Below y.heap.size y w' ∧ ∃ (ao : Option Addr) (m c : Nat), e = .returned (.tuple #[.slice ao m c, .bool false]) ∧ m = 0 ∧ RowI .i64 w' ao (intsN [])) := hid (fun y eo ec hr => (hwy.out y eo ec hr).mono (fun e w' ⟨a1, a2, a3, a4, a5, a6, a7⟩ => ⟨a1, a2, a3, a4, a5, a6, a7⟩))
    clear hW
    subst hF
    go_wp2_with fail
    refine wp_region_held_drew (S := (fun w' => BlkV 23 w' B K ∧ BlkV 27 w' (B + 1) W)) (by kernel_rfl) ⟨(show BlkV 23 z.drew B K from hAz), (show BlkV 27 z.drew (B + 1) W from hDz)⟩ (fun hHeld => ?_)
    obtain ⟨z0, HZ0⟩ : ∃ y, Hid (y = z.drew) := ⟨_, rfl⟩
    rw [← HZ0.out] at hHeld ⊢
    have hA0 : BlkV 23 z0 B K := by rw [HZ0.out]; exact hAz
    have hD0 : BlkV 27 z0 (B + 1) W := by rw [HZ0.out]; exact hDz
    have HRW0 : Hid (RowE z0 r3 ((ps.map Pt.l).map readX)) := hid (by rw [HZ0.out]; exact HRW.out)
    have bz0 : Below z.heap.size z z0 := by rw [HZ0.out]; exact (Below.refl _ z).drew
    refine tkP 0 rfl (by assumption) ⟨?_, ?_, ?_⟩
    rotate_left
    ·intro w hSw; (try dsimp only at hSw); go_simp; (try with_reducible rfl)
    try simp only [Act.put, sArr, sZ, sS]
    refine tkR 1 rfl (yieldsIf_load_mid (by rfl) 23 _ rfl B 0 rfl K _ (fun w hS => at_range hS.1.at0) huK rfl hiK) (by assumption) ?_
    try simp only [Act.put, sArr, sZ, sS]
    refine tkR 3 rfl (yieldsIf_load_mid (by rfl) 27 _ rfl (B + 1) 0 rfl W _ (fun w hS => at_range hS.2.at0) huW rfl hiW) (by assumption) ?_
    try simp only [Act.put, sArr, sZ, sS]
    refine wpAnyH_ready (rs := [2]) (by kernel_rfl) (by simp) (cons_l rfl (fun K' hK' => ?_) AllReadyH.nil)
    rw [if_pos (by kernel_rfl)]
    go_simp
    go_at_call 12
    refine (hnm z0).out.mono ?_
    rintro e z1 ⟨rfl, hz1⟩
    have hA1 := hA0.below hz1 hA0.lt
    have hD1 := hD0.below hz1 hD0.lt
    have HRW1 : Hid (RowE z1 r3 ((ps.map Pt.l).map readX)) := hid (HRW0.out.below hz1)
    have bz1 := bz0.trans (hz1.mono bz0.size)
    refine hK'.out _ _ ⟨hA1, hD1⟩ (fun hHeld => ?_)
    clear hK' K'
    try simp only [Act.put, sArr, sZ, sS]
    refine wpAnyH_ready (rs := [4]) (by kernel_rfl) (by simp) (cons_l rfl (fun K' hK' => ?_) AllReadyH.nil)
    rw [if_pos (by kernel_rfl)]
    go_simp
    go_at_call 11
    refine (hwy.out z1 r3 c3 HRW1.out).mono ?_
    rintro e z2 ⟨hz2, lo, ln, lc, rfl, hln, hlr⟩
    have HLR := hid hlr
    have HLN := hid hln
    clear hlr hln
    have hA2 := hA1.below hz2 hA1.lt
    have hD2 := hD1.below hz2 hD1.lt
    have bz2 := bz1.trans (hz2.mono bz1.size)
    refine hK'.out _ _ ⟨hA2, hD2⟩ (fun hHeld => ?_)
    clear hK' K'
    try simp only [Act.put, sArr, sZ, sS]
    refine tkP 5 rfl (by assumption) ⟨?_, ?_, ?_⟩
    rotate_left
    ·intro w hSw; (try dsimp only at hSw); go_simp; (try with_reducible rfl)
    try simp only [Act.put, sArr, sZ, sS]
    refine tkP 6 rfl (by assumption) ⟨?_, ?_, ?_⟩
    rotate_left
    ·intro w hSw; (try dsimp only at hSw); go_simp; (try with_reducible rfl)
    try simp only [Act.put, sArr, sZ, sS]
    refine tkP 7 rfl (by assumption) ⟨?_, ?_, ?_⟩
    rotate_left
    ·intro w hSw; (try dsimp only at hSw); go_simp; (try with_reducible rfl)
    try simp only [Act.put, sArr, sZ, sS]
    refine tkP 8 rfl (by assumption) ⟨?_, ?_, ?_⟩
    rotate_left
    ·intro w hSw; (try dsimp only at hSw); go_simp; (try with_reducible rfl)
    try simp only [Act.put, sArr, sZ, sS]
    refine tkP 9 rfl (by assumption) ⟨?_, ?_, ?_⟩
    rotate_left
    ·intro w hSw; (try dsimp only at hSw); go_simp; (try with_reducible rfl)
    try simp only [Act.put, sArr, sZ, sS]
    refine wpAnyH_done (by kernel_rfl) ?_ _
    clear hHeld
    go_wp2_with (first | (go_at_call 10; refine (When_e true 7 7 _ rfl).mono ?_; rintro e wn ⟨rfl, rfl⟩))
    go_meet
    case rel => exact ⟨7, lo, ln, lc, false, [], rfl, rfl, rfl, HLN, HLR, bz2, hid (wayIn_none HR.out HC0.out HWN.out)⟩
   | some L =>
    rw [hW] at hwy
    have HWN := hid hW
    have hwy : Hid (∀ (y : World) (eo : Option Addr) (ec : Nat), RowE y eo ((ps.map Pt.l).map readX) → Calls Tryz.prog 11 #[.slice eo m3 ec, .agg NV.toArray, .agg W.toArray] y fun e w' => Below y.heap.size y w' ∧ ∃ (ao : Option Addr) (m c : Nat), e = .returned (.tuple #[.slice ao m c, .bool true]) ∧ m = L.length ∧ RowI .i64 w' ao (intsN L)) := hid (fun y eo ec hr => (hwy.out y eo ec hr).mono (fun e w' ⟨a1, a2, a3, a4, a5, a6, a7⟩ => ⟨a1, a2, a3, a4, a5, a6, a7⟩))
    clear hW
    subst hF
    go_wp2_with fail
    refine wp_region_held_drew (S := (fun w' => BlkV 23 w' B K ∧ BlkV 27 w' (B + 1) W)) (by kernel_rfl) ⟨(show BlkV 23 z.drew B K from hAz), (show BlkV 27 z.drew (B + 1) W from hDz)⟩ (fun hHeld => ?_)
    obtain ⟨z0, HZ0⟩ : ∃ y, Hid (y = z.drew) := ⟨_, rfl⟩
    rw [← HZ0.out] at hHeld ⊢
    have hA0 : BlkV 23 z0 B K := by rw [HZ0.out]; exact hAz
    have hD0 : BlkV 27 z0 (B + 1) W := by rw [HZ0.out]; exact hDz
    have HRW0 : Hid (RowE z0 r3 ((ps.map Pt.l).map readX)) := hid (by rw [HZ0.out]; exact HRW.out)
    have bz0 : Below z.heap.size z z0 := by rw [HZ0.out]; exact (Below.refl _ z).drew
    refine tkP 0 rfl (by assumption) ⟨?_, ?_, ?_⟩
    rotate_left
    ·intro w hSw; (try dsimp only at hSw); go_simp; (try with_reducible rfl)
    try simp only [Act.put, sArr, sZ, sS]
    refine tkR 1 rfl (yieldsIf_load_mid (by rfl) 23 _ rfl B 0 rfl K _ (fun w hS => at_range hS.1.at0) huK rfl hiK) (by assumption) ?_
    try simp only [Act.put, sArr, sZ, sS]
    refine tkR 3 rfl (yieldsIf_load_mid (by rfl) 27 _ rfl (B + 1) 0 rfl W _ (fun w hS => at_range hS.2.at0) huW rfl hiW) (by assumption) ?_
    try simp only [Act.put, sArr, sZ, sS]
    refine wpAnyH_ready (rs := [2]) (by kernel_rfl) (by simp) (cons_l rfl (fun K' hK' => ?_) AllReadyH.nil)
    rw [if_pos (by kernel_rfl)]
    go_simp
    go_at_call 12
    refine (hnm z0).out.mono ?_
    rintro e z1 ⟨rfl, hz1⟩
    have hA1 := hA0.below hz1 hA0.lt
    have hD1 := hD0.below hz1 hD0.lt
    have HRW1 : Hid (RowE z1 r3 ((ps.map Pt.l).map readX)) := hid (HRW0.out.below hz1)
    have bz1 := bz0.trans (hz1.mono bz0.size)
    refine hK'.out _ _ ⟨hA1, hD1⟩ (fun hHeld => ?_)
    clear hK' K'
    try simp only [Act.put, sArr, sZ, sS]
    refine wpAnyH_ready (rs := [4]) (by kernel_rfl) (by simp) (cons_l rfl (fun K' hK' => ?_) AllReadyH.nil)
    rw [if_pos (by kernel_rfl)]
    go_simp
    go_at_call 11
    refine (hwy.out z1 r3 c3 HRW1.out).mono ?_
    rintro e z2 ⟨hz2, lo, ln, lc, rfl, hln, hlr⟩
    have HLR := hid hlr
    have HLN := hid hln
    clear hlr hln
    have hA2 := hA1.below hz2 hA1.lt
    have hD2 := hD1.below hz2 hD1.lt
    have bz2 := bz1.trans (hz2.mono bz1.size)
    refine hK'.out _ _ ⟨hA2, hD2⟩ (fun hHeld => ?_)
    clear hK' K'
    try simp only [Act.put, sArr, sZ, sS]
    refine tkP 5 rfl (by assumption) ⟨?_, ?_, ?_⟩
    rotate_left
    ·intro w hSw; (try dsimp only at hSw); go_simp; (try with_reducible rfl)
    try simp only [Act.put, sArr, sZ, sS]
    refine tkP 6 rfl (by assumption) ⟨?_, ?_, ?_⟩
    rotate_left
    ·intro w hSw; (try dsimp only at hSw); go_simp; (try with_reducible rfl)
    try simp only [Act.put, sArr, sZ, sS]
    refine tkP 7 rfl (by assumption) ⟨?_, ?_, ?_⟩
    rotate_left
    ·intro w hSw; (try dsimp only at hSw); go_simp; (try with_reducible rfl)
    try simp only [Act.put, sArr, sZ, sS]
    refine tkP 8 rfl (by assumption) ⟨?_, ?_, ?_⟩
    rotate_left
    ·intro w hSw; (try dsimp only at hSw); go_simp; (try with_reducible rfl)
    try simp only [Act.put, sArr, sZ, sS]
    refine tkP 9 rfl (by assumption) ⟨?_, ?_, ?_⟩
    rotate_left
    ·intro w hSw; (try dsimp only at hSw); go_simp; (try with_reducible rfl)
    try simp only [Act.put, sArr, sZ, sS]
    refine wpAnyH_done (by kernel_rfl) ?_ _
    clear hHeld
    go_wp2_with (first | (go_at_call 10; refine (When_e false 7 0 _ rfl).mono ?_; rintro e wn ⟨rfl, rfl⟩))
    go_meet
    case rel => exact ⟨0, lo, ln, lc, true, L, rfl, rfl, rfl, HLN, HLR, bz2, hid (wayIn_some HR.out HC0.out HWN.out)⟩
  ·have hF1 : (F0 == 0) = false := by simpa using hF
   have HF5 := hid hF
   go_wp2
   go_meet
   case rel => exact ⟨F0, none, 0, 0, false, [], rfl, rfl, rfl, rfl, hid (Or.inl rfl), Below.refl _ _, hid (wayIn_err HR.out HE0.out HF5.out)⟩
 case rest =>
  obtain ⟨F1, lo, ln, lc, is, L, rfl, rfl, rfl, HLN, HLR, bzc, HWI⟩ := hcut
  rename World => y0
  have hAy := hAz.below bzc hAz.lt
  have HWI2 := hid (KeyIn.start HWI.out)
  have hy0s : B + 2 ≤ y0.heap.size := Nat.le_trans hzs bzc.size
  have hln : ln ≤ 4611686018427387904 := by
   rw [HLN.out]; have h1 := HWI.out.len; have h2 := HNPL.out; omega
  go_wp2_with (first | (refine wl_storeV rfl 23 _ _ rfl 23 G rfl K rfl 32 aggKey hKl Z hG1 hZl hK1 ?_; intro y2 hG2 hb2 hs2; have bg2 : Below G y0 y2 := (hb1.mono (by rw [HGG.out]; exact Nat.le_refl _)).trans hb2; clear hb2 hs2 hG1 hb1) | (refine wl_allocV rfl 23 rfl Z hzK.out y0.heap.size rfl ?_; intro y1 hG1 hb1 hs1; obtain ⟨G, HGG⟩ : ∃ g, Hid (g = y0.heap.size) := ⟨_, rfl⟩; rw [← HGG.out] at hG1; rw [← HGG.out]; clear hs1) | (refine wl_load rfl 23 _ rfl ⟨B, 0, none⟩ rfl K (by rw [hKl]; exact aggKey) hAy.at0 ?_))
  go_loopw [22, 88] (fun t i wr => ∃ (p : Nat) (kc : List Int) (KC : List Value) (f : Int), p ≤ ln ∧ t = .int .i64 f ∧ i = .int .i64 p ∧ BlkV 23 wr G KC ∧ KC.length = 32 ∧ Hid (KC = kc.map (Value.int .u8)) ∧ Hid (kc.length = 32 ∧ Octs kc) ∧ Below G y0 wr ∧ Hid (KeyIn ((ps.map Pt.l).map readX) c KF EF f kc (L.drop p))) (fun _ i _ => ln - (intOf i).toNat)
  case atStart => exact ⟨0, k, K, F1, by omega, rfl, rfl, hG2, hKl, HK, HKOK, bg2, hid (by rw [List.drop_zero]; exact HWI2.out)⟩
  case round =>
   clear hG2 bg2
   obtain ⟨p, kc, KC, f, hp, rfl, rfl, hG, hKCl, HKC, HKO, hbr, HKI⟩ := hrel
   by_cases hpl : p < ln
   ·have hpI : (p : Int) < (ln : Int) := by omega
    have hpL : p < L.length := by rw [← HLN.out]; exact hpl
    obtain ⟨hce, hil⟩ := HWI.out.in hpL
    obtain ⟨wb, woff, wx, rfl, hwb, Hwx, hcw0⟩ := HLR.out.elem (i := p) (by rw [intsN_length]; exact hpL)
    obtain ⟨i, HI⟩ : ∃ i, Hid (i = L.getD p 0) := ⟨_, rfl⟩
    rw [Hwx.out, intsN_getD _ _ hpL, ← HI.out] at hcw0
    rw [← HI.out, ← HNPL.out] at hil
    have hcw := (hbr.cell (p := ⟨wb, woff + p, none⟩) (by rw [HGG.out]; exact hwb)).trans hcw0
    have hiI : (i : Int) < (n : Int) := by omega
    have HDR : Hid (L.drop p = i :: L.drop (p + 1)) := hid (by rw [List.drop_eq_getElem_cons hpL, ← getD_lt' L 0 hpL, ← HI.out])
    have HKI2 := HKI.out
    rw [HDR.out] at HKI2
    clear hpL hwb hcw0 HKI
    by_cases hf : f = 0
    ·obtain ⟨x, hxm, hxi, hxr, hxe⟩ := HPE.out i hil (e0_zero hce).2.2
     have h4 := (e0_zero hce).1
     rw [hf] at HKI2
     have hvm : (ps.map Pt.v)[i]? = some x.v := by rw [List.getElem?_map, hxi]; rfl
     have hne : ps.map Pt.v ≠ [] := by intro e; rw [e] at hvm; cases hvm
     obtain ⟨b, off, hpo, hbw1, hcl1⟩ := HROW.out.resolve_left hne
     have hctw := hcl1 i _ hvm
     obtain ⟨xa, HXA⟩ : ∃ xa, Hid (xa = x.a) := ⟨_, rfl⟩
     obtain ⟨xc, HXC⟩ : ∃ xc, Hid (xc = x.c) := ⟨_, rfl⟩
     obtain ⟨mx, HMX⟩ : ∃ m, Hid (m = x.l.length) := ⟨_, rfl⟩
     have hv : Pt.v x = .slice xa mx xc := by rw [HMX.out, HXA.out, HXC.out]; rfl
     rw [hv] at hctw
     have hBw : Below B w wr := (bbz.trans (bzc.mono (by omega))).trans (hbr.mono (by rw [HGG.out]; omega))
     have hct : wr.cell? ⟨b, off + i, none⟩ = some (.slice xa mx xc) := (hBw.cell (p := ⟨b, off + i, none⟩) (by rw [HB.out]; exact hbw1)).trans hctw
     have hbG : b < G := by rw [HGG.out]; have := HB.out; omega
     have hbw0 : b < wr.heap.size := Nat.lt_trans hbG hG.lt
     have huw := fun (y : World) (hb : Below B w y) => hid (huwA.out kc x y HKO.out.1 HKO.out.2 hxm hxr h4 hb)
     rw [← HKC.out, ← HXA.out, ← HXC.out, ← HMX.out] at huw
     have hxo : (readX x.l).Ok := hlkO.out _ (List.mem_map.2 ⟨x, hxm, rfl⟩) hxr
     have HXE := hid hxe
     subst hpo
     subst hf
     clear hcl1 hvm hne hctw hxm hxi hxr hxe h4 hv hce hil hbw1
     unfold openV at huw
     by_cases hoe : openE kc (readX x.l) c = 0
     ·rw [if_pos hoe, hoe] at huw
      obtain ⟨SV, HSV⟩ : ∃ V, Hid (V = (secretX kc (readX x.l)).map (Value.int .u8)) := ⟨_, rfl⟩
      have hSX : Hid ((secretX kc (readX x.l)).length = 32 ∧ Octs (secretX kc (readX x.l))) := hid ⟨secretX_length hxo, secretX_octs hxo⟩
      have hSl : SV.length = 32 := by rw [HSV.out, List.length_map, hSX.out.1]
      have hS1 : ∀ u ∈ SV, u.oneCell' = true := by rw [HSV.out]; exact ints_one _ _
      rw [← HSV.out] at huw
      have HKN : Hid (KeyIn ((ps.map Pt.l).map readX) c KF EF 0 (secretX kc (readX x.l)) (L.drop (p + 1))) := hid (by have := HKI2.ok (by rw [HXE.out]; exact hoe); rw [HXE.out] at this; exact this)
      clear HKI2 hoe hxo
      go_wp2_with fail
      refine wp_region_held_drew (S := (fun w' => w'.cell? ⟨b, off + i, none⟩ = some (.slice xa mx xc))) (by kernel_rfl) (show wr.drew.cell? ⟨b, off + i, none⟩ = some (.slice xa mx xc) from hct) (fun hHeld => ?_)
      obtain ⟨q0, HQ0⟩ : ∃ y, Hid (y = wr.drew) := ⟨_, rfl⟩
      rw [← HQ0.out] at hHeld ⊢
      have hG0 : BlkV 23 q0 G KC := by rw [HQ0.out]; exact hG
      have br0 : Below G y0 q0 := by rw [HQ0.out]; exact hbr.drew
      have bq0 : Below B w q0 := by rw [HQ0.out]; exact hBw.drew
      have ct0 : q0.cell? ⟨b, off + i, none⟩ = some (.slice xa mx xc) := by rw [HQ0.out]; exact hct
      have hbw : b < q0.heap.size := by rw [HQ0.out]; exact hbw0
      clear hG hbr hBw hct hbw0
      refine tkP 1 rfl (by assumption) ⟨?_, ?_, ?_⟩
      rotate_left
      ·intro w hSw; (try dsimp only at hSw); go_simp; (try with_reducible rfl)
      try simp only [Act.put, sArr, sZ, sS]
      refine tkP 2 rfl (by assumption) ⟨?_, ?_, ?_⟩
      rotate_left
      ·intro w hSw; (try dsimp only at hSw); go_simp; (try with_reducible rfl)
      try simp only [Act.put, sArr, sZ, sS]
      refine tkP 3 rfl (by assumption) ⟨?_, ?_, ?_⟩
      rotate_left
      ·intro w hSw; (try dsimp only at hSw); go_simp; (try with_reducible rfl)
      try simp only [Act.put, sArr, sZ, sS]
      refine tkP 4 rfl (by assumption) ⟨.slice xa mx xc, ?_, ?_⟩
      ·intro w hSw; have cc : w.cell? ⟨b, off + i, none⟩ = some (.slice xa mx xc) := hSw; (try dsimp only at hSw); go_simp; (try with_reducible rfl)
      try simp only [Act.put, sArr, sZ, sS]
      refine tkP 5 rfl (by assumption) ⟨?_, ?_, ?_⟩
      rotate_left
      ·intro w hSw; (try dsimp only at hSw); go_simp; (try with_reducible rfl)
      try simp only [Act.put, sArr, sZ, sS]
      refine wpAnyH_ready (rs := [0]) (by kernel_rfl) (by simp) (cons_l rfl (fun K' hK' => ?_) AllReadyH.nil)
      refine step_load rfl 23 _ rfl ⟨G, 0, none⟩ rfl KC (by rw [hKCl]; exact aggKey) hG0.at0 ?_
      refine hK'.out _ _ ct0 (fun hHeld => ?_)
      clear hK' K'
      try simp only [Act.put, sArr, sZ, sS]
      refine wpAnyH_ready (rs := [6]) (by kernel_rfl) (by simp) (cons_l rfl (fun K' hK' => ?_) AllReadyH.nil)
      rw [if_pos (by kernel_rfl)]
      go_simp
      go_at_call 13
      refine (huw q0 bq0).out.mono ?_
      rintro e q1 ⟨rfl, hq1⟩
      have hG1 := hG0.below hq1 hG0.lt
      have br1 : Below G y0 q1 := br0.trans (hq1.mono (Nat.le_of_lt hG0.lt))
      have ct1 : q1.cell? ⟨b, off + i, none⟩ = some (.slice xa mx xc) := (hq1.cell (p := ⟨b, off + i, none⟩) hbw).trans ct0
      refine hK'.out _ _ ct1 (fun hHeld => ?_)
      clear hK' K'
      try simp only [Act.put, sArr, sZ, sS]
      refine tkP 7 rfl (by assumption) ⟨?_, ?_, ?_⟩
      rotate_left
      ·intro w hSw; (try dsimp only at hSw); go_simp; (try with_reducible rfl)
      try simp only [Act.put, sArr, sZ, sS]
      refine tkP 8 rfl (by assumption) ⟨?_, ?_, ?_⟩
      rotate_left
      ·intro w hSw; (try dsimp only at hSw); go_simp; (try with_reducible rfl)
      try simp only [Act.put, sArr, sZ, sS]
      refine tkP 9 rfl (by assumption) ⟨?_, ?_, ?_⟩
      rotate_left
      ·intro w hSw; (try dsimp only at hSw); go_simp; (try with_reducible rfl)
      try simp only [Act.put, sArr, sZ, sS]
      refine wpAnyH_ready (rs := [10]) (by kernel_rfl) (by simp) (cons_l rfl (fun K' hK' => ?_) AllReadyH.nil)
      refine step_storeV rfl 23 _ _ rfl 23 G rfl SV rfl 32 aggKey hSl KC hG1 hKCl hS1 ?_
      intro q2 hG2 hq2 hsz2
      have br2 : Below G y0 q2 := br1.trans hq2
      have ct2 : q2.cell? ⟨b, off + i, none⟩ = some (.slice xa mx xc) := (hq2.cell (p := ⟨b, off + i, none⟩) hbG).trans ct1
      refine hK'.out _ _ ct2 (fun hHeld => ?_)
      clear hK' K'
      try simp only [Act.put, sArr, sZ, sS]
      refine tkP 11 rfl (by assumption) ⟨?_, ?_, ?_⟩
      rotate_left
      ·intro w hSw; (try dsimp only at hSw); go_simp; (try with_reducible rfl)
      try simp only [Act.put, sArr, sZ, sS]
      refine wpAnyH_done (by kernel_rfl) ?_ _
      clear hHeld
      go_wp2
      go_roundw
      case rel => exact ⟨p + 1, _, SV, 0, by omega, rfl, by go_num, hG2, hSl, HSV, hSX, br2, HKN⟩
      case measure => simp [intOf] <;> omega
     ·rw [if_neg hoe] at huw
      obtain ⟨E, HE⟩ : ∃ E, Hid (E = openE kc (readX x.l) c) := ⟨_, rfl⟩
      rw [← HE.out, ← HZ.out] at huw
      obtain ⟨SV, HSV⟩ : ∃ V, Hid (V = Z) := ⟨_, rfl⟩
      have hSl : SV.length = 32 := by rw [HSV.out]; exact hZl
      have hS1 : ∀ u ∈ SV, u.oneCell' = true := by rw [HSV.out]; exact hZ1
      rw [← HSV.out] at huw
      have HKN : Hid (KeyIn ((ps.map Pt.l).map readX) c KF EF E (List.replicate 32 0) (L.drop (p + 1))) := hid (by have := HKI2.bad (by rw [HXE.out]; exact hoe) (List.replicate 32 0); rw [HXE.out, ← HE.out] at this; exact this)
      have hSX : Hid ((List.replicate 32 (0 : Int)).length = 32 ∧ Octs (List.replicate 32 (0 : Int))) := hid ⟨by simp, fun x hx => by rw [List.eq_of_mem_replicate hx]; exact ⟨by decide, by decide⟩⟩
      have HSV2 : Hid (SV = (List.replicate 32 (0 : Int)).map (Value.int .u8)) := hid (by rw [HSV.out, HZ.out])
      clear HKI2 hoe hxo
      go_wp2_with fail
      refine wp_region_held_drew (S := (fun w' => w'.cell? ⟨b, off + i, none⟩ = some (.slice xa mx xc))) (by kernel_rfl) (show wr.drew.cell? ⟨b, off + i, none⟩ = some (.slice xa mx xc) from hct) (fun hHeld => ?_)
      obtain ⟨q0, HQ0⟩ : ∃ y, Hid (y = wr.drew) := ⟨_, rfl⟩
      rw [← HQ0.out] at hHeld ⊢
      have hG0 : BlkV 23 q0 G KC := by rw [HQ0.out]; exact hG
      have br0 : Below G y0 q0 := by rw [HQ0.out]; exact hbr.drew
      have bq0 : Below B w q0 := by rw [HQ0.out]; exact hBw.drew
      have ct0 : q0.cell? ⟨b, off + i, none⟩ = some (.slice xa mx xc) := by rw [HQ0.out]; exact hct
      have hbw : b < q0.heap.size := by rw [HQ0.out]; exact hbw0
      clear hG hbr hBw hct hbw0
      refine tkP 1 rfl (by assumption) ⟨?_, ?_, ?_⟩
      rotate_left
      ·intro w hSw; (try dsimp only at hSw); go_simp; (try with_reducible rfl)
      try simp only [Act.put, sArr, sZ, sS]
      refine tkP 2 rfl (by assumption) ⟨?_, ?_, ?_⟩
      rotate_left
      ·intro w hSw; (try dsimp only at hSw); go_simp; (try with_reducible rfl)
      try simp only [Act.put, sArr, sZ, sS]
      refine tkP 3 rfl (by assumption) ⟨?_, ?_, ?_⟩
      rotate_left
      ·intro w hSw; (try dsimp only at hSw); go_simp; (try with_reducible rfl)
      try simp only [Act.put, sArr, sZ, sS]
      refine tkP 4 rfl (by assumption) ⟨.slice xa mx xc, ?_, ?_⟩
      ·intro w hSw; have cc : w.cell? ⟨b, off + i, none⟩ = some (.slice xa mx xc) := hSw; (try dsimp only at hSw); go_simp; (try with_reducible rfl)
      try simp only [Act.put, sArr, sZ, sS]
      refine tkP 5 rfl (by assumption) ⟨?_, ?_, ?_⟩
      rotate_left
      ·intro w hSw; (try dsimp only at hSw); go_simp; (try with_reducible rfl)
      try simp only [Act.put, sArr, sZ, sS]
      refine wpAnyH_ready (rs := [0]) (by kernel_rfl) (by simp) (cons_l rfl (fun K' hK' => ?_) AllReadyH.nil)
      refine step_load rfl 23 _ rfl ⟨G, 0, none⟩ rfl KC (by rw [hKCl]; exact aggKey) hG0.at0 ?_
      refine hK'.out _ _ ct0 (fun hHeld => ?_)
      clear hK' K'
      try simp only [Act.put, sArr, sZ, sS]
      refine wpAnyH_ready (rs := [6]) (by kernel_rfl) (by simp) (cons_l rfl (fun K' hK' => ?_) AllReadyH.nil)
      rw [if_pos (by kernel_rfl)]
      go_simp
      go_at_call 13
      refine (huw q0 bq0).out.mono ?_
      rintro e q1 ⟨rfl, hq1⟩
      have hG1 := hG0.below hq1 hG0.lt
      have br1 : Below G y0 q1 := br0.trans (hq1.mono (Nat.le_of_lt hG0.lt))
      have ct1 : q1.cell? ⟨b, off + i, none⟩ = some (.slice xa mx xc) := (hq1.cell (p := ⟨b, off + i, none⟩) hbw).trans ct0
      refine hK'.out _ _ ct1 (fun hHeld => ?_)
      clear hK' K'
      try simp only [Act.put, sArr, sZ, sS]
      refine tkP 7 rfl (by assumption) ⟨?_, ?_, ?_⟩
      rotate_left
      ·intro w hSw; (try dsimp only at hSw); go_simp; (try with_reducible rfl)
      try simp only [Act.put, sArr, sZ, sS]
      refine tkP 8 rfl (by assumption) ⟨?_, ?_, ?_⟩
      rotate_left
      ·intro w hSw; (try dsimp only at hSw); go_simp; (try with_reducible rfl)
      try simp only [Act.put, sArr, sZ, sS]
      refine tkP 9 rfl (by assumption) ⟨?_, ?_, ?_⟩
      rotate_left
      ·intro w hSw; (try dsimp only at hSw); go_simp; (try with_reducible rfl)
      try simp only [Act.put, sArr, sZ, sS]
      refine wpAnyH_ready (rs := [10]) (by kernel_rfl) (by simp) (cons_l rfl (fun K' hK' => ?_) AllReadyH.nil)
      refine step_storeV rfl 23 _ _ rfl 23 G rfl SV rfl 32 aggKey hSl KC hG1 hKCl hS1 ?_
      intro q2 hG2 hq2 hsz2
      have br2 : Below G y0 q2 := br1.trans hq2
      have ct2 : q2.cell? ⟨b, off + i, none⟩ = some (.slice xa mx xc) := (hq2.cell (p := ⟨b, off + i, none⟩) hbG).trans ct1
      refine hK'.out _ _ ct2 (fun hHeld => ?_)
      clear hK' K'
      try simp only [Act.put, sArr, sZ, sS]
      refine tkP 11 rfl (by assumption) ⟨?_, ?_, ?_⟩
      rotate_left
      ·intro w hSw; (try dsimp only at hSw); go_simp; (try with_reducible rfl)
      try simp only [Act.put, sArr, sZ, sS]
      refine wpAnyH_done (by kernel_rfl) ?_ _
      clear hHeld
      go_wp2
      go_roundw
      case rel => exact ⟨p + 1, _, SV, E, by omega, rfl, by go_num, hG2, hSl, HSV2, hSX, br2, HKN⟩
      case measure => simp [intOf] <;> omega
    ·have hf1 : (f == 0) = false := by simpa using hf
     have HKN := hid (HKI2.stay hf)
     clear HKI2 hce hil
     go_wp2
     go_roundw
     case rel => exact ⟨p + 1, kc, KC, f, by omega, rfl, by go_num, hG, hKCl, HKC, HKO, hbr, HKN⟩
     case measure => simp [intOf] <;> omega
   ·obtain rfl : p = ln := by omega
    have hend := HKI.out
    rw [List.drop_eq_nil_of_le (by rw [← HLN.out]; exact Nat.le_refl _)] at hend
    obtain ⟨hfe, hke⟩ := hend.end
    subst hfe
    have HKE := hid hke
    have bzr : Below z.heap.size z wr := bzc.trans (hbr.mono (by rw [HGG.out]; exact bzc.size))
    clear hend hke HKI hpl
    go_upto_if 106 with fail
    go_cut [] from 106 to 132 (fun wx => Below z.heap.size z wx)
    case first =>
     have hHr := hHz.below bzr hHz.lt
     by_cases hE : f = 0
     ·subst hE
      have hLF := HWI.out.good
      subst hLF
      have hKK : KC = KV := by rw [HKC.out, HKV.out, HKE.out rfl]
      subst hKK
      have heq := hid (Equal_ints wo lo wc lc wm p LF LF wr HWM.out HLN.out (HWRz.out.below bzr) (HLR.out.below (by rw [← HGG.out]; exact hbr)) (by rw [HWM.out, ← HLN.out]; omega) true (hid (by simp)))
      go_wp2_with (first | (go_at_call 14; refine heq.out.mono ?_; rintro e y3 ⟨rfl, hy3⟩) | (refine wl_neqD 125 rfl (by kernel_rfl) 23 _ _ _ rfl KC.toArray KC.toArray rfl rfl true (heKV.out _) (by kernel_rfl) false rfl ?_) | (refine wl_loadD 124 rfl (by kernel_rfl) 23 _ rfl ⟨G, 0, none⟩ rfl 32 KC hKVl aggKey hG.at0 ?_) | (refine wl_loadD 123 rfl (by kernel_rfl) 23 _ rfl ⟨H, 0, none⟩ rfl 32 KC hKVl aggKey hHr.at0 ?_))
      go_meet
      case rel => exact bzr.trans (hy3.mono bzr.size)
     ·have hE1 : (f == 0) = false := by simpa using hE
      obtain ⟨hKZ, hLF⟩ := HWI.out.bad hE
      have hKVZ : KV = Z := by rw [HKV.out, hKZ, HZ.out]
      subst hLF
      have hwm0 : wm = 0 := HWM.out
      subst hwm0
      subst hKVZ
      clear hKZ
      go_wp2_with (first | (refine wl_neqD 109 rfl (by kernel_rfl) 23 _ _ _ rfl KV.toArray KV.toArray rfl rfl true (heKV.out _) (by kernel_rfl) false rfl ?_) | (refine wl_build0 rfl 23 rfl KV HBK.out ?_) | (refine wl_load rfl 23 _ rfl ⟨H, 0, none⟩ rfl KV (by rw [hKVl]; exact aggKey) hHr.at0 ?_))
      go_meet
      case rel => exact bzr
    case rest =>
     have bz3 := hcut
     rename World => y3
     clear hG hKCl HKC HKO hbr HKE bzr hcut
     go_upto_if 147 with (first | (go_at_call 9; refine (First_e LG E1 E2 y3 _ rfl HF2.out).mono ?_; rintro e wx ⟨rfl, rfl⟩; have bal : Below y3.heap.size y3 (y3.alloc (.cells #[.int .i64 LG, .int .i64 E1] 30)) := (Below.refl _ _).alloc (Nat.le_refl _) _; obtain ⟨y4, HZW⟩ : ∃ y, Hid (y = y3.alloc (.cells #[.int .i64 LG, .int .i64 E1] 30)) := ⟨_, rfl⟩; rw [← HZW.out] at bal ⊢; clear HZW; have b4 : Below z.heap.size z y4 := bz3.trans (bal.mono bz3.size); clear bal) | (go_at_call 10; refine (When_e (decide ((200 : Int) < (n : Int)) || decide ((200 : Int) < (m : Int))) 5 LG _ HLGS.out).mono ?_; rintro e wn ⟨rfl, rfl⟩))
     go_cut [] from 147 to 165 (fun wx => Below z.heap.size z wx)
     case first =>
      by_cases hE2 : E2 = 0
      ·obtain ⟨ks, hm1, hrd, hnd, hord, hrea⟩ := list_some HQ1z.out hE2
       have hqe := link_zero (HE2.out.symm.trans hE2)
       have hE10 : E1 = 0 := by rw [HE1.out]; unfold wrongE; rw [if_neg hqe.1]; exact hqe.2.2
       have hq3 : m3 = n ∧ RowE z r3 ((ps.map Pt.l).map readX) := by
        rcases HQ3z.out with h | h
        ·exact absurd hE10 h.1
        ·exact ⟨h.2.1.trans HNPL.out.symm, h.2.2⟩
       obtain ⟨hmn, hrw⟩ := hq3
       have hrc := hid (hroF.out y4 r3 c3 hE2 (bbz.trans (b4.mono (by omega))) (hrw.below b4))
       have HKS := hid (And.intro hrd (And.intro hnd (And.intro hord hrea)))
       have HM1 := hid hm1
       have hkl : ks.length ≤ 1000 := by
        have h5 := hrea.1.few (l := ks) hnd (fun k hk => hk)
        rw [List.length_map, ← HEN.out] at h5
        have := HRL.out
        omega
       subst hmn
       subst hE2
       clear hrw hm1 hrd hnd hord hrea hqe hE10
       go_wp2_with (first | (go_at_call 15; refine heq.out.mono ?_; rintro e y6 ⟨rfl, hy6⟩) | (go_at_call 16; refine hrc.out.mono ?_; rintro e y5 ⟨hb5, ao5, m5, c5, ks5, rfl, hm5, hrd5, hnd5, hord5, hrea5⟩; have hks : ks5 = ks := reached_eq hrea5 HKS.out.2.2.2 hnd5 hord5 HKS.out.2.1 HKS.out.2.2.1; subst hks; have heq : Hid (Calls Tryz.prog 15 #[.slice r1 m1 c1, .slice ao5 m5 c5] y5 fun e w' => e = .returned (.bool true) ∧ Below y5.heap.size y5 w') := hid (by rw [HM1.out, hm5]; exact heqA r1 ao5 c1 c5 ks5 y5 (HKS.out.1.below (b4.trans (hb5.mono b4.size))) hrd5 hkl); clear hm5 hrd5 hnd5 hord5 hrea5))
       go_meet
       case rel => exact (b4.trans (hb5.mono b4.size)).trans (hy6.mono (Nat.le_trans b4.size hb5.size))
      ·obtain ⟨e1, e2, e3⟩ := list_nil HQ1z.out hE2
       have hE21 : (E2 == 0) = false := by simpa using hE2
       subst e1
       subst e2
       subst e3
       go_wp2
       go_meet
       case rel => exact b4
     case rest =>
      have bz6 := hcut
      rename World => y6
      clear hcut b4
      by_cases hE3 : E3 = 0
      ·obtain ⟨ks, hm2, hrd, hnd, hord, hls⟩ := list_some HQ2z.out hE3
       have hE2 := (lost_zero (HE3.out.symm.trans hE3)).1
       have hE20 : E2 = 0 := by rw [HE2.out]; exact hE2
       have hqe := link_zero hE2
       have hE10 : E1 = 0 := by rw [HE1.out]; unfold wrongE; rw [if_neg hqe.1]; exact hqe.2.2
       have hq3 : m3 = n ∧ RowE z r3 ((ps.map Pt.l).map readX) := by
        rcases HQ3z.out with h | h
        ·exact absurd hE10 h.1
        ·exact ⟨h.2.1.trans HNPL.out.symm, h.2.2⟩
       obtain ⟨hmn, hrw⟩ := hq3
       have HRWz := hid hrw
       have HKS := hid (And.intro hrd (And.intro hnd (And.intro hord hls)))
       have HM2 := hid hm2
       have hrg := hid (fun (y : World) (h : Below z.heap.size z y) => hroG.out y r3 c3 hE20 (bbz.trans (h.mono (by omega))) (HRWz.out.below h))
       have hrn := hid (fun (y : World) (h : Below z.heap.size z y) => hroF.out y r3 c3 hE20 (bbz.trans (h.mono (by omega))) (HRWz.out.below h))
       have HRS : Hid (roots.length + ((ps.map Pt.l).map readX).length ≤ 1000) := hid (by have := HRL.out; have := HEN.out; omega)
       subst hmn
       subst hE3
       clear hrw hm2 hrd hnd hord hls hqe hE10 hE2
       go_wp2_with (first | (go_at_call 16; refine (hrn.out y8 b8).mono ?_; rintro e y9 ⟨hb9, ao9, m9, c9, A1, rfl, hm9, hrd9, hnd9, hord9, hrea9⟩; have HM9 := hid hm9; have b9 : Below z.heap.size z y9 := b8.trans (hb9.mono b8.size); have HRD9 := hid hrd9; have HRE9 := hid hrea9; have HND9 := hid hnd9; have HORD9 := hid hord9; have HRD7 := hid (HRD70.out.below hb9); have HL9 : Hid (A1.length ≤ 1000) := hid (by have h5 := hrea9.1.few (l := A1) hnd9 (fun k hk => hk); rw [List.length_map] at h5; have := HRS.out; omega); have bb9 : Hid (Below B w y9) := hid (bbz.trans (b9.mono (by omega))); have HB9 : Hid (B ≤ y9.heap.size) := hid (Nat.le_trans (by omega) b9.size); have bz9 := hid b9; have HZ9 := hid b9.size; clear hm9 hrd9 hnd9 hord9 hrea9 hb9 b9) | (go_at_call 16; refine (hrg.out y7 b7).mono ?_; rintro e y8 ⟨hb8, ao7, m7, c7, A2, rfl, hm7, hrd7, hnd7, hord7, hrea7⟩; have HM7 := hid hm7; have b8 : Below z.heap.size z y8 := b7.trans (hb8.mono b7.size); have HRD70 := hid hrd7; have HRE7 := hid hrea7; have HL7 : Hid (m7 ≤ 1000) := hid (by rw [hm7]; have h5 := hrea7.1.few (l := A2) hnd7 (fun k hk => hk); rw [List.length_map] at h5; have := HRS.out; omega); clear hm7 hrd7 hnd7 hord7 hrea7) | (go_at_call 9; refine (First_three LG E1 WG 0 y6 _ rfl HF3.out).mono ?_; rintro e wx ⟨rfl, rfl⟩; have bal : Below y6.heap.size y6 (y6.alloc (.cells #[.int .i64 LG, .int .i64 E1, .int .i64 WG] 30)) := (Below.refl _ _).alloc (Nat.le_refl _) _; obtain ⟨y7, HZW⟩ : ∃ y, Hid (y = y6.alloc (.cells #[.int .i64 LG, .int .i64 E1, .int .i64 WG] 30)) := ⟨_, rfl⟩; rw [← HZW.out] at bal ⊢; clear HZW; have b7 : Below z.heap.size z y7 := bz6.trans (bal.mono bz6.size); clear bal) | (go_at_call 10; refine (When_e (decide ((200 : Int) < (gn : Int))) 5 WG _ HWGS.out).mono ?_; rintro e wn ⟨rfl, rfl⟩))
       have hm9 : m9 ≤ 1000 := by rw [HM9.out]; exact HL9.out
       go_loopw [30, 192] (fun o i wr => ∃ (j : Nat) (oa : Option Addr) (oc : Nat) (out : List Id), j ≤ m9 ∧ i = .int .i64 j ∧ o = .slice oa out.length oc ∧ wr.ownsRow y9.heap.size 27 16 (.slice oa out.length oc) out.length (flatL out) ∧ Below y9.heap.size y9 wr ∧ Hid (out = (A1.take j).filter fun x => !decide (x ∈ A2) && !decide (x ∈ gone))) (fun _ i _ => m9 - (intOf i).toNat)
       case atStart => exact ⟨0, none, 0, [], by omega, rfl, rfl, World.ownsRow_nil _ _ _ _, Below.refl _ _, rfl⟩
       case round =>
        obtain ⟨j, oa, oc, out, hj, rfl, rfl, hown, hbr, HOUT⟩ := hrel
        by_cases hjm : j < m9
        ·have hjI : (j : Int) < (m9 : Int) := by omega
         have hjA : j < A1.length := by rw [← HM9.out]; exact hjm
         obtain ⟨b, off, rfl, hbw, hat, hs16⟩ := (HRD9.out.below hbr).at (k := j) hjA
         have HST := hid (filter_step A1 (fun x => !decide (x ∈ A2) && !decide (x ∈ gone)) j hjA)
         obtain ⟨s, Hs⟩ : ∃ s, Hid (s = A1.getD j []) := ⟨_, rfl⟩
         rw [← Hs.out] at hat hs16
         have HST := HST.out
         rw [← Hs.out, ← HOUT.out] at HST
         obtain ⟨RS, HRSV⟩ : ∃ T, Hid (T = s.map (Value.int .u8)) := ⟨_, rfl⟩
         have hRl : RS.length = 16 := by rw [HRSV.out, List.length_map, hs16]
         have hR1 : ∀ u ∈ RS, u.oneCell' = true := by rw [HRSV.out]; exact ints_one _ _
         have HIDS : Hid (Value.agg RS.toArray = idV s) := hid (by rw [HRSV.out]; rfl)
         rw [← HRSV.out] at hat
         obtain ⟨g1, HG1⟩ : ∃ r, Hid (r = decide (s ∈ A2)) := ⟨_, rfl⟩
         obtain ⟨g2, HG2⟩ : ∃ r, Hid (r = decide (s ∈ gone)) := ⟨_, rfl⟩
         have hbw9 := fun (y : World) (h : Below wr.heap.size wr y) => bb9.out.trans (((hbr.trans (h.mono hbr.size))).mono HB9.out)
         have hc1 := fun (y : World) (h : Below wr.heap.size wr y) => hid (Contains_id ao7 c7 m7 A2 s y HM7.out (HRD7.out.below (hbr.trans (h.mono hbr.size))) hs16 (by have := HL7.out; omega) g1 HG1)
         have hc2 := fun (y : World) (h : Below wr.heap.size wr y) => hid (Contains_id go gcap gn gone s y HGL.out (HGB.out y (hbw9 y h)) hs16 hgn g2 HG2)
         rw [← HIDS.out] at hc1 hc2
         rw [← HG1.out, ← HG2.out] at HST
         have HST := hid HST
         have hol : out.length ≤ 1000 := by rw [HOUT.out]; exact Nat.le_trans (List.length_filter_le _ _) (Nat.le_trans (List.length_take_le' _ _) HL9.out)
         have HFS : Hid (flatL out ++ RS = flatL (out ++ [s])) := hid (by rw [flatL_snoc, HRSV.out])
         clear hjA hs16
         cases g1 with
         | true =>
          have HN : Hid (out = (A1.take (j + 1)).filter fun x => !decide (x ∈ A2) && !decide (x ∈ gone)) := hid (by rw [HST.out]; rfl)
          go_wp2_with (first | (go_at_call 17; refine (hc1 y11 b13).out.mono ?_; rintro e y14 ⟨rfl, hb14⟩; have b14 : Below wr.heap.size wr y14 := b13.trans (hb14.mono b13.size); have hX4 := hX1.below hb14 hX1.lt; clear hb14) | (refine wl_load rfl 27 _ rfl ⟨X, 0, none⟩ rfl RS (by rw [hRl]; exact aggID) hX1.at0 ?_) | (refine wl_storeV rfl 27 _ _ rfl 27 X rfl RS rfl 16 aggID hRl ZI hX0 hZIl hR1 ?_; intro y11 hX1 b11 hs11; have b13 : Below wr.heap.size wr y11 := b10.trans (b11.mono (by rw [HXX.out]; exact Nat.le_refl _)); clear hX0 b10 b11 hs11) | (refine wl_allocV rfl 27 rfl ZI hzI.out wr.heap.size rfl ?_; intro y10 hX0 b10 hs10; obtain ⟨X, HXX⟩ : ∃ g, Hid (g = wr.heap.size) := ⟨_, rfl⟩; rw [← HXX.out] at hX0; rw [← HXX.out]; clear hs10) | (refine wl_load rfl 27 _ rfl ⟨b, off + j * 16, none⟩ rfl RS (by rw [hRl]; exact aggID) hat ?_))
          go_roundw
          case rel => exact ⟨j + 1, oa, oc, out, by omega, by go_num, rfl, owns_up hown b14, hbr.trans (b14.mono hbr.size), HN⟩
          case measure => simp [intOf] <;> omega
         | false =>
          cases g2 with
          | true =>
           have HN : Hid (out = (A1.take (j + 1)).filter fun x => !decide (x ∈ A2) && !decide (x ∈ gone)) := hid (by rw [HST.out]; rfl)
           go_wp2_with (first | (go_at_call 17; refine (hc2 y14 b14).out.mono ?_; rintro e y15 ⟨rfl, hb15⟩; have b15 : Below wr.heap.size wr y15 := b14.trans (hb15.mono b14.size); have hX5 := hX4.below hb15 hX4.lt; clear hb15) | (refine wl_loadD 202 rfl (by kernel_rfl) 27 _ rfl ⟨X, 0, none⟩ rfl 16 RS hRl aggID hX4.at0 ?_) | (go_at_call 17; refine (hc1 y11 b13).out.mono ?_; rintro e y14 ⟨rfl, hb14⟩; have b14 : Below wr.heap.size wr y14 := b13.trans (hb14.mono b13.size); have hX4 := hX1.below hb14 hX1.lt; clear hb14) | (refine wl_load rfl 27 _ rfl ⟨X, 0, none⟩ rfl RS (by rw [hRl]; exact aggID) hX1.at0 ?_) | (refine wl_storeV rfl 27 _ _ rfl 27 X rfl RS rfl 16 aggID hRl ZI hX0 hZIl hR1 ?_; intro y11 hX1 b11 hs11; have b13 : Below wr.heap.size wr y11 := b10.trans (b11.mono (by rw [HXX.out]; exact Nat.le_refl _)); clear hX0 b10 b11 hs11) | (refine wl_allocV rfl 27 rfl ZI hzI.out wr.heap.size rfl ?_; intro y10 hX0 b10 hs10; obtain ⟨X, HXX⟩ : ∃ g, Hid (g = wr.heap.size) := ⟨_, rfl⟩; rw [← HXX.out] at hX0; rw [← HXX.out]; clear hs10) | (refine wl_load rfl 27 _ rfl ⟨b, off + j * 16, none⟩ rfl RS (by rw [hRl]; exact aggID) hat ?_))
           go_roundw
           case rel => exact ⟨j + 1, oa, oc, out, by omega, by go_num, rfl, owns_up hown b15, hbr.trans (b15.mono hbr.size), HN⟩
           case measure => simp [intOf] <;> omega
          | false =>
           have HN : Hid (out ++ [s] = (A1.take (j + 1)).filter fun x => !decide (x ∈ A2) && !decide (x ∈ gone)) := hid (by rw [HST.out]; rfl)
           have hrs := hbr.size
           go_wp2_with (first | (at_builtin; refine wl_push rfl _ _ 28 rfl 27 (.agg ZI.toArray) 16 16 Tryz.underlying28 HII.out HZC.out (by decide) y9.heap.size (.slice oa out.length oc) out.length (flatL out) rfl hO16 ⟨y15.heap.size, 0, none⟩ 1 1 rfl RS (by rw [hRl]) hS6.at0 hR1 (by unfold maxLen; omega) (by omega) (Nat.le_trans hrs b16.size) (out.length + 1) rfl ?_; intro ao17 cap17 y17 hcap17 hO17 hg17 hl17; rw [HFS.out] at hO17; have bb17 : Below y9.heap.size y9 y17 := (hbr.trans (b16.mono hbr.size)).grown hg17 (Nat.le_trans hrs b16.size) (fun k hk => (hO16.lt k hk).1); clear hg17 hl17 hO16) | (refine wl_slice1 rfl 28 27 _ rfl Tryz.underlying28 16 ZI HI2.out hZIl (by decide) (by decide) RS rfl hRl y15.heap.size rfl ?_; intro y16 hS6 hb16 hs16'; have b16 : Below wr.heap.size wr y16 := b15.trans (hb16.mono b15.size); have hO16 := owns_up hown b16; clear hb16 hs16') | (refine wl_load rfl 27 _ rfl ⟨X, 0, none⟩ rfl RS (by rw [hRl]; exact aggID) hX5.at0 ?_) | (go_at_call 17; refine (hc2 y14 b14).out.mono ?_; rintro e y15 ⟨rfl, hb15⟩; have b15 : Below wr.heap.size wr y15 := b14.trans (hb15.mono b14.size); have hX5 := hX4.below hb15 hX4.lt; clear hb15) | (refine wl_loadD 202 rfl (by kernel_rfl) 27 _ rfl ⟨X, 0, none⟩ rfl 16 RS hRl aggID hX4.at0 ?_) | (go_at_call 17; refine (hc1 y11 b13).out.mono ?_; rintro e y14 ⟨rfl, hb14⟩; have b14 : Below wr.heap.size wr y14 := b13.trans (hb14.mono b13.size); have hX4 := hX1.below hb14 hX1.lt; clear hb14) | (refine wl_load rfl 27 _ rfl ⟨X, 0, none⟩ rfl RS (by rw [hRl]; exact aggID) hX1.at0 ?_) | (refine wl_storeV rfl 27 _ _ rfl 27 X rfl RS rfl 16 aggID hRl ZI hX0 hZIl hR1 ?_; intro y11 hX1 b11 hs11; have b13 : Below wr.heap.size wr y11 := b10.trans (b11.mono (by rw [HXX.out]; exact Nat.le_refl _)); clear hX0 b10 b11 hs11) | (refine wl_allocV rfl 27 rfl ZI hzI.out wr.heap.size rfl ?_; intro y10 hX0 b10 hs10; obtain ⟨X, HXX⟩ : ∃ g, Hid (g = wr.heap.size) := ⟨_, rfl⟩; rw [← HXX.out] at hX0; rw [← HXX.out]; clear hs10) | (refine wl_load rfl 27 _ rfl ⟨b, off + j * 16, none⟩ rfl RS (by rw [hRl]; exact aggID) hat ?_))
           go_roundw
           case rel => exact ⟨j + 1, ao17, cap17, out ++ [s], by omega, by go_num, by rw [List.length_append]; rfl, by rw [List.length_append]; exact hO17, bb17, HN⟩
           case measure => simp [intOf] <;> omega
        ·obtain rfl : j = m9 := by omega
         have HOF : Hid (ks = out) := hid (lost_eq HKS.out.2.2.2 HRE9.out HRE7.out HKS.out.2.1 HKS.out.2.2.1 HND9.out HORD9.out (by rw [HOUT.out, List.take_of_length_le (by rw [← HM9.out]; exact Nat.le_refl _)]))
         have hol : out.length ≤ 1000 := by rw [HOUT.out]; exact Nat.le_trans (List.length_filter_le _ _) (Nat.le_trans (List.length_take_le' _ _) HL9.out)
         have hOok : ∀ s ∈ out, IdOk s := fun s hs => by
          have h1 := HOF.out ▸ hs
          rw [HOUT.out] at hs
          have h2 := (List.mem_filter.1 hs).1
          exact HOKI.out A1 hE20 HRE9.out s (List.mem_of_mem_take h2)
         have HM2' : Hid (m2 = out.length) := hid (by rw [HM2.out, HOF.out])
         have heq : Hid (Calls Tryz.prog 15 #[.slice r2 m2 c2, .slice oa out.length oc] wr fun e w' => e = .returned (.bool true) ∧ Below wr.heap.size wr w') := hid (by
          rw [HM2'.out]
          have h1 := HKS.out.1
          rw [HOF.out] at h1
          exact heqA r2 oa c2 oc out wr (h1.below (bz9.out.trans (hbr.mono HZ9.out))) ⟨rowH_flat hOok (rowV_of_owns' hown), fun s hs => (hOok s hs).1⟩ hol)
         clear hjm hown hOok
         go_wp2_with (go_at_call 15; refine heq.out.mono ?_; rintro e yF ⟨rfl, hyF⟩)
         go_ret
         exact ⟨rfl, by rw [hsz]; exact (bb9.out.trans (hbr.mono HB9.out)).trans (hyF.mono (Nat.le_trans HB9.out hbr.size))⟩
      ·obtain ⟨e1, e2, e3⟩ := list_nil HQ2z.out hE3
       have hE31 : (E3 == 0) = false := by simpa using hE3
       subst e1
       subst e2
       subst e3
       go_wp2_with (first | (go_at_call 9; refine (First_three LG E1 WG E3 y6 _ rfl HF3.out).mono ?_; rintro e wx ⟨rfl, rfl⟩; have bal : Below y6.heap.size y6 (y6.alloc (.cells #[.int .i64 LG, .int .i64 E1, .int .i64 WG] 30)) := (Below.refl _ _).alloc (Nat.le_refl _) _; obtain ⟨y7, HZW⟩ : ∃ y, Hid (y = y6.alloc (.cells #[.int .i64 LG, .int .i64 E1, .int .i64 WG] 30)) := ⟨_, rfl⟩; rw [← HZW.out] at bal ⊢; clear HZW; have b7 : Below z.heap.size z y7 := bz6.trans (bal.mono bz6.size); clear bal) | (go_at_call 10; refine (When_e (decide ((200 : Int) < (gn : Int))) 5 WG _ HWGS.out).mono ?_; rintro e wn ⟨rfl, rfl⟩))
       go_ret
       exact ⟨rfl, by rw [hsz]; exact bbz.trans (b7.mono (by omega))⟩
end Go.Proofs.YtbjmadcbhkeenaaGreat.lk
