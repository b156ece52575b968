/-
  The law ChainsMatch, walked (more links): it returns true. Conditions: a key of octets, lists of octets that lie in memory.
-/
import Derived.Test.YtbjmadcbhkeenaaGreatCLkW
set_option maxRecDepth 100000
set_option linter.unusedSimpArgs false
set_option linter.unusedVariables false
namespace Go.Proofs.YtbjmadcbhkeenaaGreat.lk
open Go.RowKit wr shr sh st hs srt
set_option maxHeartbeats 8000000 in
theorem law_big (k : List Int) (po ao ro go : Option Addr) (cap ac rcap gcap n mc m gn : Nat) (ps : List Pt) (c : List Int) (want : Id) (roots gone : List Id) (w : World) (hk : k.length = 32) (ok : Octs k) (hn : n = ps.length) (hrow : RowV w po (ps.map Pt.v)) (hps : ∀ x ∈ ps, 4 ≤ x.l.length → x.Ok w) (hmc : mc = c.length) (HP : Pt.Ok w ⟨ao, ac, c⟩) (hno : ao = none → ac = 0) (hw : want.length = 16) (hm : m = roots.length) (hg : gn = gone.length) (hgn : gn ≤ 9223372036854775807) (hroots : RowD w ro roots) (hgone : RowD w go gone) (hro : ∀ s ∈ roots, IdOk s) (h200 : 200 < n) :
  Calls Tryz.prog 3 #[.agg (k.map (Value.int .u8)).toArray, .slice po n cap, .slice ao mc ac, idV want, .slice ro m rcap, .slice go gn gcap] w fun e w' => e = .returned (.bool true) ∧ Below w.heap.size w w' := by
 obtain ⟨B, HB⟩ : ∃ B, Hid (B = w.heap.size) := ⟨_, rfl⟩
 have hsz : w.heap.size = B := HB.out.symm
 obtain ⟨Z, HZ⟩ : ∃ Z, Hid (Z = (List.replicate 32 (0 : Int)).map (Value.int .u8)) := ⟨_, rfl⟩
 have hzK := hid wr.zeroKey
 have HBK : Hid (Tryz.prog.built 23 [] = some ((List.replicate 32 (0 : Int)).map (Value.int .u8)).toArray) := hid (by kernel_rfl)
 rw [← HZ.out] at hzK HBK
 have hZl : Z.length = 32 := by rw [HZ.out]; simp
 have hZ1 : ∀ u ∈ Z, u.oneCell' = true := by rw [HZ.out]; exact ints_one _ _
 obtain ⟨ZI, HZI⟩ : ∃ Z, Hid (Z = (List.replicate 16 (0 : Int)).map (Value.int .u8)) := ⟨_, rfl⟩
 have hzI := hid lk.zeroID
 have HII := hid infoId
 have HI2 := hid infoId2
 rw [← HZI.out] at hzI HII HI2
 have hZIl : ZI.length = 16 := by rw [HZI.out]; simp
 have HZC : Hid ((Value.agg ZI.toArray).cells.size = 16) := hid (by show ZI.toArray.size = 16; simpa using hZIl)
 obtain ⟨K, HK⟩ : ∃ K, Hid (K = k.map (Value.int .u8)) := ⟨_, rfl⟩
 have hKl : K.length = 32 := by rw [HK.out, List.length_map, hk]
 have hK1 : ∀ u ∈ K, u.oneCell' = true := by rw [HK.out]; exact ints_one _ _
 obtain ⟨W, HW⟩ : ∃ W, Hid (W = want.map (Value.int .u8)) := ⟨_, rfl⟩
 have hWl : W.length = 16 := by rw [HW.out, List.length_map, hw]
 have HIDW : Hid (Value.agg W.toArray = idV want) := hid (by rw [HW.out]; rfl)
 have hlkO : Hid (∀ l ∈ ps.map Pt.l, readE l = 0 → (readX l).Ok) := hid (fun l hl h => by
  obtain ⟨x, hx, rfl⟩ := List.mem_map.1 hl
  exact readX_ok (hps x hx (readE_zero h).1).oct h)
 have hrowB := fun (y : World) (hb : Below B w y) => hrow.below (hsz ▸ hb)
 have hpsB := fun (y : World) (hb : Below B w y) (x : Pt) (hx : x ∈ ps) (h4 : 4 ≤ x.l.length) => (hps x hx h4).below (hsz ▸ hb)
 have hchA := fun (y : World) (hb : Below B w y) => hid (Chain_any k po ao cap ac n mc ps c want y hk ok hn (hrowB y hb) (hpsB y hb) hmc (HP.below (hsz ▸ hb)) hno hw)
 have hreA := fun (y : World) (hb : Below B w y) => hid (Reach_any po ro cap rcap n m ps roots y hn hm (hrowB y hb) (hpsB y hb) (hroots.below (hsz ▸ hb)) hro hlkO)
 have hloA := fun (y : World) (hb : Below B w y) => hid (Lost_any po ro go cap rcap gcap n m gn ps roots gone y hn hm hg hgn (hrowB y hb) (hpsB y hb) (hroots.below (hsz ▸ hb)) (hgone.below (hsz ▸ hb)) hro hlkO)
 have hceA := fun (y : World) (hb : Below B w y) => hid (ChainErr_any po cap n ps y hn (hrowB y hb) (hpsB y hb))
 obtain ⟨KF, EF, LF, HR⟩ : ∃ (KF : List Int) (EF : Int) (LF : List Nat), Hid (chainR k n (ps.map Pt.l) c want = (KF, EF, LF)) := ⟨_, _, _, rfl⟩
 rw [HR.out] at hchA
 unfold ChainPost at hchA
 dsimp only at hchA
 obtain ⟨E1, HE1⟩ : ∃ E, Hid (E = wrongE n (ps.map Pt.l)) := ⟨_, rfl⟩
 obtain ⟨E2, HE2⟩ : ∃ E, Hid (E = linkE n m (ps.map Pt.l)) := ⟨_, rfl⟩
 obtain ⟨E3, HE3⟩ : ∃ E, Hid (E = lostE n m gn (ps.map Pt.l)) := ⟨_, rfl⟩
 rw [← HE1.out] at hceA
 rw [← HE2.out] at hreA
 rw [← HE3.out] at hloA
 obtain ⟨KV, HKV⟩ : ∃ V, Hid (V = KF.map (Value.int .u8)) := ⟨_, rfl⟩
 have HKFL : Hid (KF.length = 32 ∧ Octs KF) := hid (chainR_ok HR.out hk ok (fun l hl h => hlkO.out l hl h))
 have hKVl : KV.length = 32 := by rw [HKV.out, List.length_map, HKFL.out.1]
 have hKV1 : ∀ u ∈ KV, u.oneCell' = true := by rw [HKV.out]; exact ints_one _ _
 rw [← HKV.out, ← HIDW.out, ← HK.out] at hchA
 obtain ⟨WH, HWH⟩ : ∃ E, Hid (whenE (decide ((4096 : Int) < (mc : Int))) 5 = E) := ⟨_, rfl⟩
 obtain ⟨F0, HF0⟩ : ∃ E, Hid (firstE2 WH E1 = E) := ⟨_, rfl⟩
 have HE0 := hid (e0_first (ls := ps.map Pt.l) (n := n) hmc HWH.out HE1.out HF0.out)
 obtain ⟨LG, HLG⟩ : ∃ E, Hid (whenE (decide (200 < n) || decide (200 < m)) 5 = E) := ⟨_, rfl⟩
 have HF2 := hid (e2_first HLG.out HE1.out HE2.out)
 have HLGS : Hid (whenE true 5 = LG) := hid (by rw [← HLG.out]; exact congrArg (fun b => whenE b 5) (by rw [decide_eq_true h200]; rfl))
 obtain ⟨WG, HWG⟩ : ∃ E, Hid (whenE (decide (200 < gn)) 5 = E) := ⟨_, rfl⟩
 have HF3 := hid (e3_first HLG.out HE1.out HWG.out HE3.out)
 have HWGS : Hid (whenE (decide ((200 : Int) < (gn : Int))) 5 = WG) := hid (by rw [← HWG.out]; exact congrArg (fun b => whenE b 5) (decide_eq_decide.2 (by omega)))
 have HNPL : Hid (n = (ps.map Pt.l).length) := hid (by rw [List.length_map]; exact hn)
 have HEN : Hid (n = ((ps.map Pt.l).map readX).length) := hid (by rw [List.length_map, List.length_map]; exact hn)
 have hEok : Hid (chE (ps.map Pt.l) = 0 → ∀ x ∈ (ps.map Pt.l).map readX, x.Ok) := hid (fun h x hx => by
  obtain ⟨l, hl, rfl⟩ := List.mem_map.1 hx
  exact hlkO.out l hl (chE_zero h l hl).1)
 have hroF : Hid (∀ (y : World) (eo : Option Addr) (ec : Nat), E2 = 0 → Below B w y → RowE y eo ((ps.map Pt.l).map readX) → Calls Tryz.prog 16 #[.slice ro m rcap, .slice eo n ec, .slice none 0 0] y (IdsPost (Reached roots [] (((ps.map Pt.l).map readX).map lnk)) y)) := hid (fun y eo ec h0 hb hr => by
  obtain ⟨q1, q2, q3⟩ := link_zero (HE2.out.symm.trans h0)
  exact ReachOf_any ro eo none rcap ec 0 m n 0 roots [] _ y hm HEN.out rfl (by omega) (by omega) (by decide) (hroots.below (hsz ▸ hb)) (nilD y) hr (hEok.out q3) hro)
 have hroG : Hid (∀ (y : World) (eo : Option Addr) (ec : Nat), E2 = 0 → Below B w y → RowE y eo ((ps.map Pt.l).map readX) → Calls Tryz.prog 16 #[.slice ro m rcap, .slice eo n ec, .slice go gn gcap] y (IdsPost (Reached roots gone (((ps.map Pt.l).map readX).map lnk)) y)) := hid (fun y eo ec h0 hb hr => by
  obtain ⟨q1, q2, q3⟩ := link_zero (HE2.out.symm.trans h0)
  exact ReachOf_any ro eo go rcap ec gcap m n gn roots gone _ y hm HEN.out hg (by omega) (by omega) hgn (hroots.below (hsz ▸ hb)) (hgone.below (hsz ▸ hb)) hr (hEok.out q3) hro)
 have hwofF : Hid (∀ (y : World) (eo : Option Addr) (ec : Nat), chainE0 c n (ps.map Pt.l) = 0 → RowE y eo ((ps.map Pt.l).map readX) → Calls Tryz.prog 11 #[.slice eo n ec, idV (nameL k), idV want] y (WayPost (wayR (((ps.map Pt.l).map readX).map lnk) (nameL k) want) y)) := hid (fun y eo ec h0 hr => by
  obtain ⟨q1, q2, q3⟩ := e0_zero h0
  have h := WayOf_any eo ec n _ (nameL k) want y HEN.out (by omega) hr (hEok.out q3) (nameL_length k) hw
  have e : wofN (((ps.map Pt.l).map readX).map lnk) (nameL k) n want = wayR (((ps.map Pt.l).map readX).map lnk) (nameL k) want := by
   rw [← wayR_eq, List.length_map, ← HEN.out]
  rw [e] at h
  exact h)
 have hnm := fun (y : World) => hid (RefNameOf_any k hk ok y)
 have HNMV : Hid (Value.agg ((nameL k).map (Value.int .u8)).toArray = idV (nameL k)) := rfl
 obtain ⟨NV, HNV⟩ : ∃ V, Hid (V = (nameL k).map (Value.int .u8)) := ⟨_, rfl⟩
 rw [← HNV.out] at hnm HNMV
 rw [← HNMV.out, ← HIDW.out] at hwofF
 rw [← HK.out] at hnm
 have huK := Tryz.underlying23
 have hiK : (Tryz.prog.info? 23).map (·.size) = some K.length := by rw [hKl]; exact aggKey.2
 have huW := Tryz.underlying27
 have hiW : (Tryz.prog.info? 27).map (·.size) = some W.length := by rw [hWl]; exact aggID.2
 have huwA : Hid (∀ (kc : List Int) (x : Pt) (y : World), kc.length = 32 → Octs kc → x ∈ ps → readE x.l = 0 → ¬ 4096 < c.length → Below B w y → Calls Tryz.prog 13 #[.agg (kc.map (Value.int .u8)).toArray, .slice x.a x.l.length x.c, .slice ao mc ac] y fun r w' => r = .returned (openV kc (readX x.l) c) ∧ Below y.heap.size y w') := hid (fun kc x y h5 h6 h7 h8 h9 hb => by
  have h := Unwrapped_any kc x.l c x.a x.c x.l.length ao ac mc y h5 h6 rfl ((hps x h7 (readE_zero h8).1).below (hsz ▸ hb)) hmc (HP.below (hsz ▸ hb)) hno
  rw [unwrapV_open h9 h8] at h
  exact h)
 have HPE : Hid (∀ i, i < n → chE (ps.map Pt.l) = 0 → ∃ x ∈ ps, ps[i]? = some x ∧ readE x.l = 0 ∧ ((ps.map Pt.l).map readX).getD i env0 = readX x.l) := hid (fun i hi h => by
  have hip : i < ps.length := by omega
  refine ⟨ps[i], List.getElem_mem hip, List.getElem?_eq_getElem hip, (chE_zero h _ (List.mem_map.2 ⟨_, List.getElem_mem hip, rfl⟩)).1, ?_⟩
  rw [getD_lt' _ _ (by rw [List.length_map, List.length_map]; exact hip), List.getElem_map, List.getElem_map])
 have HRL : Hid (E2 = 0 → roots.length + n ≤ 400) := hid (fun h0 => by
  obtain ⟨q1, q2, q3⟩ := link_zero (HE2.out.symm.trans h0)
  omega)
 have HOKI : Hid (∀ A : List Id, E2 = 0 → Reached roots [] (((ps.map Pt.l).map readX).map lnk) A → ∀ s ∈ A, IdOk s) := hid (fun A h0 h1 => by
  obtain ⟨q1, q2, q3⟩ := link_zero (HE2.out.symm.trans h0)
  refine h1.1.of IdOk hro fun x hx => ?_
  obtain ⟨y, hy, rfl⟩ := List.mem_map.1 hx
  exact ⟨(hEok.out q3 y hy).ol, (hEok.out q3 y hy).oo⟩)
 have HROW := hid hrow
 have HROWB := hid hrowB
 have HKOK : Hid (k.length = 32 ∧ Octs k) := hid ⟨hk, ok⟩
 have HGB : Hid (∀ y, Below B w y → RowD y go gone) := hid (fun y hb => hgone.below (hsz ▸ hb))
 have HGL := hid hg
 have heqA := hid (fun (ao bo : Option Addr) (c1 c2 : Nat) (xs : List Id) (y : World) (h1 : RowD y ao xs) (h2 : RowD y bo xs) (hl : xs.length ≤ 1000) => Equal_ids ao bo c1 c2 xs.length xs.length xs xs y rfl rfl h1 h2 (by omega) true (hid (by simp)))
 have heZ : Hid (∀ w, (Op.equalIn 10000 23 (.agg Z.toArray) (.agg Z.toArray)).run Tryz.prog w = .ok true w) := hid (fun w => by rw [HZ.out, run_eq_key w _ _ (by simp) (by simp)]; simp)
 have heKV : Hid (∀ w, (Op.equalIn 10000 23 (.agg KV.toArray) (.agg KV.toArray)).run Tryz.prog w = .ok true w) := hid (fun w => by rw [HKV.out, run_eq_key w _ _ HKFL.out.1 HKFL.out.1]; simp)
 have hI200 : (200 : Int) < (n : Int) := by omega
 have HB5 : Hid (E1 = 5) := hid (by rw [HE1.out]; unfold wrongE; rw [if_pos h200])
 have HF5 : Hid (F0 ≠ 0) := hid (by intro h; have := HE0.out; rw [h] at this; exact (e0_zero this).2.1 h200)
 have HB52 : Hid (E2 ≠ 0) := hid (by intro h; exact (link_zero (HE2.out.symm.trans h)).1 h200)
 rw [← HK.out, ← HIDW.out]
 clear hk ok hn hrow hps hmc HP hno hw hm hg hroots hgone hro hrowB hpsB h200
 go_enter Tryz.func3, Tryz.ntmps3
 have hE15 := HB5.out
 subst hE15
 clear HB5
 go_upto_if 73 with (first | (go_at_call 9; refine (First_e WH 5 F0 w8 _ rfl HF0.out).mono ?_; rintro e wx ⟨rfl, rfl⟩; have bal : Below w8.heap.size w8 (w8.alloc (.cells #[.int .i64 WH, .int .i64 5] 30)) := (Below.refl _ _).alloc (Nat.le_refl _) _; obtain ⟨z, HZW⟩ : ∃ y, Hid (y = w8.alloc (.cells #[.int .i64 WH, .int .i64 5] 30)) := ⟨_, rfl⟩; rw [← HZW.out] at bal ⊢; clear HZW; have hAz := hA8.below bal hA8.lt; have hDz := hD8.below bal hD8.lt; have hHz := hH8.below bal hH8.lt; have HWRz := hid (HWR8.out.below bal); have HQ1z := hid (list_below HQ1.out bal); have HQ2z := hid (list_below HQ2.out bal); have HQ3z := hid (link_below HQ3.out bal); have bbz : Below B w z := bb8.trans (bal.mono (by omega)); have hzs : B + 2 ≤ z.heap.size := Nat.le_trans hs8b bal.size; clear hA8 hD8 hH8 HWR8 HQ1 HQ2 HQ3 bb8 bal) | (go_at_call 10; refine (When_e (decide ((4096 : Int) < (mc : Int))) 5 WH _ HWH.out).mono ?_; rintro e wn ⟨rfl, rfl⟩) | (go_at_call 8; refine (wraps_any w7).mono ?_; rintro e w8 ⟨rfl, hb8⟩; have HQ1 := hid (list_below HR1''.out hb8); have HQ2 := hid (list_below HR2'.out hb8); have HQ3 := hid (link_below HR3.out hb8); have hA8 := hA7.below hb8 hA7.lt; have hD8 := hD7.below hb8 hD7.lt; have hH8 := hH7.below hb8 hH7.lt; have HWR8 := hid (HWR7.out.below hb8); have bb8 : Below B w w8 := bb7.trans (hb8.mono (by omega)); have hs8b : B + 2 ≤ w8.heap.size := Nat.le_trans hs7b hb8.size; clear hA7 hD7 hH7 HWR7 bb7 HR1'' HR2' HR3 hb8) | (go_at_call 7; refine (hceA w6 bb6).out.mono ?_; rintro e w7 ⟨hb7, r3, m3, c3, rfl, hr3⟩; have HR3 := hid hr3; have HR1'' := hid (list_below HR1'.out hb7); have HR2' := hid (list_below HR2.out hb7); have hA7 := hA6.below hb7 hA6.lt; have hD7 := hD6.below hb7 hD6.lt; have hH7 := hH6.below hb7 hH6.lt; have HWR7 := hid (HWR6.out.below hb7); have bb7 : Below B w w7 := bb6.trans (hb7.mono (by omega)); have hs7b : B + 2 ≤ w7.heap.size := Nat.le_trans hs6b hb7.size; clear hA6 hD6 hH6 HWR6 bb6 hr3 HR1' HR2 hb7) | (go_at_call 6; refine (hloA w5 bb5).out.mono ?_; rintro e w6 ⟨hb6, r2, m2, c2, rfl, hr2⟩; have HR2 := hid hr2; have HR1' := hid (list_below HR1.out hb6); have hA6 := hA5.below hb6 hA5.lt; have hD6 := hD5.below hb6 hD5.lt; have hH6 := hH5.below hb6 hH5.lt; have HWR6 := hid (HWR5.out.below hb6); have bb6 : Below B w w6 := bb5.trans (hb6.mono (by omega)); have hs6b : B + 2 ≤ w6.heap.size := Nat.le_trans hs5b hb6.size; clear hA5 hD5 hH5 HWR5 bb5 hr2 HR1 hb6) | (go_at_call 5; refine (hreA w4 bb4).out.mono ?_; rintro e w5 ⟨hb5, r1, m1, c1, rfl, hr1⟩; have HR1 := hid hr1; have hA5 := hA4.below hb5 hA4.lt; have hD5 := hD4.below hb5 hD4.lt; have hH5 := hH4.below hb5 hH4.lt; have HWR5 := hid (HWR4.out.below hb5); have bb5 : Below B w w5 := bb4.trans (hb5.mono (by omega)); have hs5b : B + 2 ≤ w5.heap.size := Nat.le_trans hs4b hb5.size; clear hA4 hD4 hH4 HWR4 bb4 hr1 hb5) | (refine wl_storeV rfl 23 _ _ rfl 23 H rfl KV rfl 32 aggKey hKVl Z hH3 hZl hKV1 ?_; intro w4 hH4 hb4 hs4; have b24 : Below w2.heap.size w2 w4 := hb3.trans (hb4.mono (by rw [HH.out]; exact Nat.le_refl _)); have hA4 := hA2.below b24 hA2.lt; have hD4 := hD2.below b24 hD2.lt; have HWR4 := hid (HWR.out.below b24); have bb4 : Below B w w4 := bb2.trans (b24.mono (by omega)); have hs4b : B + 2 ≤ w4.heap.size := Nat.le_trans hs2 b24.size; clear hH3 hb3 hb4 hs4 hA2 hD2 bb2 HWR b24) | (refine wl_allocV rfl 23 rfl Z hzK.out w2.heap.size rfl ?_; intro w3 hH3 hb3 hs3; obtain ⟨H, HH⟩ : ∃ g, Hid (g = w2.heap.size) := ⟨_, rfl⟩; rw [← HH.out] at hH3; rw [← HH.out]; have hHB : B + 2 ≤ H := (by rw [HH.out]; exact hs2); clear hs3) | (go_at_call 4; refine (hchA w1 bb1).out.mono ?_; rintro e w2 ⟨hb2, wo, wm, wc, rfl, hwm, hwr⟩; have HWM := hid hwm; have HWR := hid hwr; have hA2 := hA1.below hb2 hA1.lt; have hD2 := hD1.below hb2 hD1.lt; have bb2 := bb1.trans (hb2.mono (by omega : B ≤ _)); have hs2 : B + 2 ≤ w2.heap.size := (by have := hb2.size; omega); clear hA1 hD1 bb1 hb2 hwm hwr) | (refine wl_load rfl 23 _ rfl ⟨B, 0, none⟩ rfl K (by rw [hKl]; exact aggKey) hA1.at0 ?_) | (refine wl_load rfl 27 _ rfl ⟨B + 1, 0, none⟩ rfl W (by rw [hWl]; exact aggID) hD1.at0 ?_) | (refine wl_boxV rfl 27 _ rfl W rfl (B + 1) hs0 ?_; intro w1 hD1 hb1 hs1; have hA1 := hA0.below hb1 (by omega); have bb1 := hb0.trans (hb1.mono (by omega : B ≤ _)); clear hA0 hb0 hb1) | (refine wl_boxV rfl 23 _ rfl K rfl B hsz ?_; intro w0 hA0 hb0 hs0))
 go_cut [22, 23, 24] from 74 to 84 (fun a b d wx => ∃ (F1 : Int) (lo : Option Addr) (ln lc : Nat) (is : Bool) (L : List Nat), a = .int .i64 F1 ∧ b = .slice lo ln lc ∧ d = .bool is ∧ Hid (ln = L.length) ∧ Hid (RowI .i64 wx lo (intsN L)) ∧ Below z.heap.size z wx ∧ Hid (WayIn k n (ps.map Pt.l) c KF EF LF F1 L))
 case first =>
  have hF1 : (F0 == 0) = false := by have := HF5.out; simpa using this
  have hF2 := HF5.out
  go_wp2
  go_meet
  case rel => exact ⟨F0, none, 0, 0, false, [], rfl, rfl, rfl, rfl, hid (Or.inl rfl), Below.refl _ _, hid (wayIn_err HR.out HE0.out HF5.out)⟩
 case rest =>
  obtain ⟨F1, lo, ln, lc, is, L, rfl, rfl, rfl, HLN, HLR, bzc, HWI⟩ := hcut
  rename World => y0
  have hAy := hAz.below bzc hAz.lt
  have HWI2 := hid (KeyIn.start HWI.out)
  have hy0s : B + 2 ≤ y0.heap.size := Nat.le_trans hzs bzc.size
  have hln : ln ≤ 4611686018427387904 := by
   rcases HWI.out with ⟨_, h, _⟩ | ⟨_, h0, _⟩ <;> first | (rw [HLN.out, h]; decide) | exact absurd (by omega) (e0_zero h0).2.1
  go_wp2_with (first | (refine wl_storeV rfl 23 _ _ rfl 23 G rfl K rfl 32 aggKey hKl Z hG1 hZl hK1 ?_; intro y2 hG2 hb2 hs2; have bg2 : Below G y0 y2 := (hb1.mono (by rw [HGG.out]; exact Nat.le_refl _)).trans hb2; clear hb2 hs2 hG1 hb1) | (refine wl_allocV rfl 23 rfl Z hzK.out y0.heap.size rfl ?_; intro y1 hG1 hb1 hs1; obtain ⟨G, HGG⟩ : ∃ g, Hid (g = y0.heap.size) := ⟨_, rfl⟩; rw [← HGG.out] at hG1; rw [← HGG.out]; clear hs1) | (refine wl_load rfl 23 _ rfl ⟨B, 0, none⟩ rfl K (by rw [hKl]; exact aggKey) hAy.at0 ?_))
  go_loopw [22, 88] (fun t i wr => ∃ (p : Nat) (kc : List Int) (KC : List Value) (f : Int), p ≤ ln ∧ t = .int .i64 f ∧ i = .int .i64 p ∧ BlkV 23 wr G KC ∧ KC.length = 32 ∧ Hid (KC = kc.map (Value.int .u8)) ∧ Hid (kc.length = 32 ∧ Octs kc) ∧ Below G y0 wr ∧ Hid (KeyIn ((ps.map Pt.l).map readX) c KF EF f kc (L.drop p))) (fun _ i _ => ln - (intOf i).toNat)
  case atStart => exact ⟨0, k, K, F1, by omega, rfl, rfl, hG2, hKl, HK, HKOK, bg2, hid (by rw [List.drop_zero]; exact HWI2.out)⟩
  case round =>
   clear hG2 bg2
   obtain ⟨p, kc, KC, f, hp, rfl, rfl, hG, hKCl, HKC, HKO, hbr, HKI⟩ := hrel
   by_cases hpl : p < ln
   ·have hpI : (p : Int) < (ln : Int) := by omega
    have hpL : p < L.length := by rw [← HLN.out]; exact hpl
    obtain ⟨hce, hil⟩ := HWI.out.in hpL
    exact absurd (by omega) (e0_zero hce).2.1
   ·obtain rfl : p = ln := by omega
    have hend := HKI.out
    rw [List.drop_eq_nil_of_le (by rw [← HLN.out]; exact Nat.le_refl _)] at hend
    obtain ⟨hfe, hke⟩ := hend.end
    subst hfe
    have HKE := hid hke
    have bzr : Below z.heap.size z wr := bzc.trans (hbr.mono (by rw [HGG.out]; exact bzc.size))
    clear hend hke HKI hpl
    go_upto_if 106 with fail
    go_cut [] from 106 to 132 (fun wx => Below z.heap.size z wx)
    case first =>
     have hHr := hHz.below bzr hHz.lt
     by_cases hE : f = 0
     ·subst hE
      have hLF := HWI.out.good
      subst hLF
      have hKK : KC = KV := by rw [HKC.out, HKV.out, HKE.out rfl]
      subst hKK
      have heq := hid (Equal_ints wo lo wc lc wm p LF LF wr HWM.out HLN.out (HWRz.out.below bzr) (HLR.out.below (by rw [← HGG.out]; exact hbr)) (by rw [HWM.out, ← HLN.out]; omega) true (hid (by simp)))
      go_wp2_with (first | (go_at_call 14; refine heq.out.mono ?_; rintro e y3 ⟨rfl, hy3⟩) | (refine wl_neqD 125 rfl (by kernel_rfl) 23 _ _ _ rfl KC.toArray KC.toArray rfl rfl true (heKV.out _) (by kernel_rfl) false rfl ?_) | (refine wl_loadD 124 rfl (by kernel_rfl) 23 _ rfl ⟨G, 0, none⟩ rfl 32 KC hKVl aggKey hG.at0 ?_) | (refine wl_loadD 123 rfl (by kernel_rfl) 23 _ rfl ⟨H, 0, none⟩ rfl 32 KC hKVl aggKey hHr.at0 ?_))
      go_meet
      case rel => exact bzr.trans (hy3.mono bzr.size)
     ·have hE1 : (f == 0) = false := by simpa using hE
      obtain ⟨hKZ, hLF⟩ := HWI.out.bad hE
      have hKVZ : KV = Z := by rw [HKV.out, hKZ, HZ.out]
      subst hLF
      have hwm0 : wm = 0 := HWM.out
      subst hwm0
      subst hKVZ
      clear hKZ
      go_wp2_with (first | (refine wl_neqD 109 rfl (by kernel_rfl) 23 _ _ _ rfl KV.toArray KV.toArray rfl rfl true (heKV.out _) (by kernel_rfl) false rfl ?_) | (refine wl_build0 rfl 23 rfl KV HBK.out ?_) | (refine wl_load rfl 23 _ rfl ⟨H, 0, none⟩ rfl KV (by rw [hKVl]; exact aggKey) hHr.at0 ?_))
      go_meet
      case rel => exact bzr
    case rest =>
     have bz3 := hcut
     rename World => y3
     clear hG hKCl HKC HKO hbr HKE bzr hcut
     go_upto_if 147 with (first | (go_at_call 9; refine (First_e LG 5 E2 y3 _ rfl HF2.out).mono ?_; rintro e wx ⟨rfl, rfl⟩; have bal : Below y3.heap.size y3 (y3.alloc (.cells #[.int .i64 LG, .int .i64 5] 30)) := (Below.refl _ _).alloc (Nat.le_refl _) _; obtain ⟨y4, HZW⟩ : ∃ y, Hid (y = y3.alloc (.cells #[.int .i64 LG, .int .i64 5] 30)) := ⟨_, rfl⟩; rw [← HZW.out] at bal ⊢; clear HZW; have b4 : Below z.heap.size z y4 := bz3.trans (bal.mono bz3.size); clear bal) | (go_at_call 10; refine (When_e true 5 LG _ HLGS.out).mono ?_; rintro e wn ⟨rfl, rfl⟩))
     go_cut [] from 147 to 165 (fun wx => Below z.heap.size z wx)
     case first =>
      by_cases hE2 : E2 = 0
      ·exact absurd hE2 HB52.out
      ·obtain ⟨e1, e2, e3⟩ := list_nil HQ1z.out hE2
       have hE21 : (E2 == 0) = false := by simpa using hE2
       subst e1
       subst e2
       subst e3
       go_wp2
       go_meet
       case rel => exact b4
     case rest =>
      have bz6 := hcut
      rename World => y6
      clear hcut b4
      by_cases hE3 : E3 = 0
      ·exact absurd ((HE2.out).trans (lost_zero (HE3.out.symm.trans hE3)).1) HB52.out
      ·obtain ⟨e1, e2, e3⟩ := list_nil HQ2z.out hE3
       have hE31 : (E3 == 0) = false := by simpa using hE3
       subst e1
       subst e2
       subst e3
       go_wp2_with (first | (go_at_call 9; refine (First_three LG 5 WG E3 y6 _ rfl HF3.out).mono ?_; rintro e wx ⟨rfl, rfl⟩; have bal : Below y6.heap.size y6 (y6.alloc (.cells #[.int .i64 LG, .int .i64 5, .int .i64 WG] 30)) := (Below.refl _ _).alloc (Nat.le_refl _) _; obtain ⟨y7, HZW⟩ : ∃ y, Hid (y = y6.alloc (.cells #[.int .i64 LG, .int .i64 5, .int .i64 WG] 30)) := ⟨_, rfl⟩; rw [← HZW.out] at bal ⊢; clear HZW; have b7 : Below z.heap.size z y7 := bz6.trans (bal.mono bz6.size); clear bal) | (go_at_call 10; refine (When_e (decide ((200 : Int) < (gn : Int))) 5 WG _ HWGS.out).mono ?_; rintro e wn ⟨rfl, rfl⟩))
       go_ret
       exact ⟨rfl, by rw [hsz]; exact bbz.trans (b7.mono (by omega))⟩
end Go.Proofs.YtbjmadcbhkeenaaGreat.lk
