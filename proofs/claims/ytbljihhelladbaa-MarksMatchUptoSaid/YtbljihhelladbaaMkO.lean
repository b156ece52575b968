/-
  The law MarksMatch: shares as octets, and their marks. Conditions: a share of the type's form, slices that lie in memory, fewer than 2^40 shares.
-/
import Derived.Test.YtbljihhelladbaaMkZ
namespace Go.Proofs.Ytbljihhelladbaa.shr
open Go.RowKit Go.Proofs.Ytbljihhelladbaa.sh Go.Proofs.Ytbljihhelladbaa.st Go.Proofs.Ytbljihhelladbaa.hs
set_option linter.unusedSimpArgs false
set_option linter.unusedVariables false
set_option pp.maxSteps 6000

set_option maxRecDepth 100000 in
set_option maxHeartbeats 4000000 in
theorem marks_pos (s : Sh) (hs : s.Ok) (ab : Option Addr) (cb : Nat) (bl : List Int) (al : Option Addr) (cl : Nat) (l : List Sh) (am : Option Addr) (cm : Nat) (ml : List (List Int)) (w : World)
    (hP : 86 ≤ bl.length → Pt.Ok w ⟨ab, cb, bl⟩) (hbo : Octs bl) (hr : RowS w al l) (hok : ∀ s ∈ l, s.Ok) (hn : l.length ≤ 1099511627776) (hm : RowM w am ml) (hmo : ∀ s ∈ ml, SumLOk s) (hmn : ml.length ≤ 4611686018427387904) (hg : goodS s = true) (hneg0 : ¬ posL ml (markL s) < 0) :
    Calls Try.prog 7 #[.agg s.cs.toArray, .slice ab bl.length cb, .slice al l.length cl, .slice am ml.length cm] w fun e w' => e = .returned (.bool true) ∧ Below w.heap.size w w' := by
  obtain ⟨Y, HY⟩ : ∃ Z, Hid (Z = zSum) := ⟨_, rfl⟩
  have hz32 := hid zeroSumZ
  have hbt := hid built0
  rw [← HY.out] at hz32 hbt
  have hYl : Y.length = 32 := by rw [HY.out]; simp [zSum]
  have hY1 : ∀ u ∈ Y, u.oneCell' = true := by rw [HY.out]; exact ints_one _ _
  have hz61 := hid sh0_zero
  obtain ⟨Z, HZ⟩ : ∃ Z, Hid (Z = sh0.cs) := ⟨_, rfl⟩
  have hZl : Z.length = 49 := by rw [HZ.out]; exact sh0_len
  rw [← HZ.out] at hz61
  obtain ⟨B, HB⟩ : ∃ B, Hid (B = w.heap.size) := ⟨_, rfl⟩
  have hsz : w.heap.size = B := HB.out.symm
  have hPr := fun w' (hb : Below B w w') => hid (Parse_any' ab cb bl.length bl w' rfl (fun h => (hP h).below (hsz ▸ hb)))
  have hRd := fun w' (hb : Below B w w') => hid (Read_any' ab cb bl.length bl w' rfl (fun h => (hP h).below (hsz ▸ hb)))
  have hMk := fun w' (hb : Below B w w') => hid (Marks_any al cl l w' (hr.below (hsz ▸ hb)) hok)
  have HROW := fun w' (hb : Below B w w') => hid (hr.below (hsz ▸ hb))
  have hCk := fun w' (hb : Below B w w') hg => hid (Check_ok s hs am cm ml w' (hm.below (hsz ▸ hb)) hmo hmn hg)
  have hIx := fun w' (hb : Below B w w') => hid (Index_sum am cm ml (markL s) w' (hm.below (hsz ▸ hb)) hmo (markL_length s) hmn)
  have hpr := fun w => hid (Print_any s hs w)
  have hso := fun w => hid (ShareOctets_any s hs w)
  have hmk := fun w => hid (Mark_any s hs w)
  have hmf := fun w => hid (MarkOf_any s hs w)
  have HOK := hid hok
  obtain ⟨bn, HBN⟩ : ∃ n, Hid (n = bl.length) := ⟨_, rfl⟩
  obtain ⟨n, HN⟩ : ∃ n, Hid (n = l.length) := ⟨_, rfl⟩
  obtain ⟨mn, HMN⟩ : ∃ n, Hid (n = ml.length) := ⟨_, rfl⟩
  rw [← HBN.out] at hPr hRd
  rw [← HN.out] at hMk hn
  rw [← HMN.out] at hCk hIx
  rw [← HBN.out, ← HN.out, ← HMN.out]
  obtain ⟨PS, HPS⟩ : ∃ V, Hid (V = (parseS bl).cs) := ⟨_, rfl⟩
  obtain ⟨PE, HPE⟩ : ∃ V, Hid (V = parseE bl) := ⟨_, rfl⟩
  have HPV : Hid (parseV bl = .tuple #[.agg PS.toArray, .int .i64 PE]) := by show _ = _; unfold parseV; rw [HPS.out, HPE.out]
  have hPSo := parseS_ok hbo
  have hPSl : PS.length = 49 := by rw [HPS.out]; exact hPSo.csl
  have hPS1 : ∀ u ∈ PS, u.oneCell' = true := by rw [HPS.out]; exact cs_one _
  have hPSe := fun w => hid (run_eq_share w _ _ hPSo hPSo)
  rw [eqS_refl, ← HPS.out] at hPSe
  obtain ⟨MA, HMA⟩ : ∃ V, Hid (V = marksA l) := ⟨_, rfl⟩
  obtain ⟨W, HW⟩ : ∃ V, Hid (V = wantM l) := ⟨_, rfl⟩
  have HMV : Hid (marksV l = .tuple #[.agg MA.toArray, .int .i64 W]) := by show _ = _; rw [marksV_eq, HMA.out, HW.out]
  have hMAl : MA.length = 32 := by rw [HMA.out]; exact marksA_length l
  have hMA1 : ∀ u ∈ MA, u.oneCell' = true := by rw [HMA.out]; exact marksA_one l
  rw [HPV.out] at hPr hRd
  rw [HMV.out] at hMk
  obtain ⟨CS, HCS⟩ : ∃ C, Hid (C = s.cs) := ⟨_, rfl⟩
  have hCSl : CS.length = 49 := by rw [HCS.out]; exact hs.csl
  have hCS1 : ∀ u ∈ CS, u.oneCell' = true := by rw [HCS.out]; exact cs_one s
  have hCSe := fun w => hid (run_eq_share w s s hs hs)
  rw [eqS_refl, ← HCS.out] at hCSe
  rw [← HCS.out] at hpr hso hmk hmf hCk ⊢
  have hpl := hid (pO_length hs)
  have hpo := hid (pO_octs hs)
  have HPP := hid (parse_print s hs)
  obtain ⟨b1, HB1⟩ : ∃ b, Hid (b = decide ((32 : Int) < (n : Int))) := ⟨_, rfl⟩
  have hd1 := HB1.out.symm
  have hWh : ∀ w, Hid (Calls Try.prog 21 #[.bool b1, .int .i64 5] w fun e w' => e = .returned (.int .i64 (wantK l 0)) ∧ w = w') := fun w => by
    rw [wantK_zero, ← HN.out, ← HB1.out]; exact hid (When_any b1 5 w)
  clear hok hr hm hmo hP hPSo
  have hpr' := fun (w : World) => hid ((hpr w).out.mono fun e w' (h : PrintPost s w e w') => (⟨h.1, by have := h.2; rw [hg] at this; exact this⟩ : Below w.heap.size w w' ∧ ∃ ao c, e = .returned (.tuple #[.slice ao 86 c, .int .i64 0]) ∧ Mine w' w.heap.size 5 1 (.slice ao 86 c) 86 ((pO s).map (Value.int .u8))))
  have hso' := fun (w : World) => hid ((hso w).out.mono fun e w' (h : PrintPost s w e w') => (⟨h.1, by have := h.2; rw [hg] at this; exact this⟩ : Below w.heap.size w w' ∧ ∃ ao c, e = .returned (.tuple #[.slice ao 86 c, .int .i64 0]) ∧ Mine w' w.heap.size 5 1 (.slice ao 86 c) 86 ((pO s).map (Value.int .u8))))
  obtain ⟨M, HM⟩ : ∃ M, Hid (M = (markL s).map (Value.int .u8)) := ⟨_, rfl⟩
  have hMl : M.length = 32 := by rw [HM.out, List.length_map, markL_length]
  have hM1' : ∀ u ∈ M, u.oneCell' = true := by rw [HM.out]; exact ints_one _ _
  have hMe := fun w => hid (run_eq_sum w (markL s) (markL s) (markL_length s) (markL_length s))
  rw [beq_self_eq_true, ← HM.out] at hMe
  have hmv : Hid (markV s = .tuple #[.agg M.toArray, .int .i64 0]) := by show _ = _; unfold markV; rw [hg, HM.out]; rfl
  rw [hmv.out] at hmk hmf
  have hpo1 := fun ao c w' (h : Pt.Ok w' ⟨ao, c, pO s⟩) => hid (Parse_any ao c 86 (pO s) w' hpl.out.symm h)
  rw [HPP.out hg, ← HCS.out] at hpo1
  obtain ⟨F, HF⟩ : ∃ F : Int, Hid (F = posL ml (markL s)) := ⟨_, rfl⟩
  change ∀ w', Below B w w' → Hid (Calls _ _ _ _ fun e w'' => e = .returned (.int .i64 (posL ml (markL s))) ∧ _) at hIx
  rw [← HF.out, ← HM.out] at hIx
  have hix := hIx
  have hck0 := fun w' hb => hCk w' hb hg
  clear hpr hso hg hCk hIx
  have hneg : ¬ F < 0 := by rw [HF.out]; exact hneg0
  clear hneg0
  have hck := hck0
  rw [checkV_pos HF.out hneg] at hck
  have hpos : 0 ≤ F := by omega
  clear hck0
  go_enter Try.func7, Try.ntmps7
  go_wp2_with (first | (go_at_call 45; refine ((hPr w9 bb9).out).mono ?_; rintro e wf ⟨rfl, hbf⟩; have hsf := hbf.size; have bbf := bb9.trans (hbf.mono (by omega : B ≤ _)); clear bb9 hbf) | (refine wl_allocV rfl 61 rfl Z hz61.out wf.heap.size rfl ?_; intro wg hUg hbg hsg; have bbg := bbf.trans (hbg.mono (by omega : B ≤ _)); clear bbf hbg) | (refine wl_storeV rfl 61 _ _ rfl 61 wf.heap.size rfl PS rfl 49 aggS hPSl Z hUg hZl hPS1 ?_; intro wh hUnh hbh hsh; have bbh := bbg.trans (hbh.mono (by omega : B ≤ _)); clear bbg hbh hUg; have hUh := hUnh; clear hUnh) | (go_at_call 49; refine ((hRd wh bbh).out).mono ?_; rintro e wi ⟨rfl, hbi⟩; have hsi := hbi.size; have hUi := hUh.below hbi (by have := hUh.lt; omega); have bbi := bbh.trans (hbi.mono (by omega : B ≤ _)); clear hUh bbh hbi) | (refine wl_allocV rfl 61 rfl Z hz61.out wi.heap.size rfl ?_; intro wj hXj hbj hsj; have hUj := hUi.below hbj (by have := hUi.lt; omega); have bbj := bbi.trans (hbj.mono (by omega : B ≤ _)); clear hUi bbi hbj) | (refine wl_storeV rfl 61 _ _ rfl 61 wi.heap.size rfl PS rfl 49 aggS hPSl Z hXj hZl hPS1 ?_; intro wk hXnk hbk hsk; have hUk := hUj.below hbk (by have := hUj.lt; omega); have bbk := bbj.trans (hbk.mono (by omega : B ≤ _)); clear hUj bbj hbk hXj; have hXk := hXnk; clear hXnk) | (refine wl_loadG (by rfl) 61 _ rfl ⟨wf.heap.size, 0, none⟩ rfl 49 PS hPSl aggS hUk.at0 ?_) | (refine wl_loadG (by rfl) 61 _ rfl ⟨wi.heap.size, 0, none⟩ rfl 49 PS hPSl aggS hXk.at0 ?_) | (refine wl_neqD 135 rfl (by kernel_rfl) 61 _ _ _ rfl PS.toArray PS.toArray rfl rfl true (hPSe _).out (by kernel_rfl) false rfl ?_) | (go_at_call 50; refine ((hMk wk bbk).out).mono ?_; rintro e wl ⟨rfl, hbl⟩; have hsl := hbl.size; have bbl := bbk.trans (hbl.mono (by omega : B ≤ _)); clear bbk hbl) | (refine wl_allocV rfl 73 rfl Y hz32.out wl.heap.size rfl ?_; intro wm hSm hbm hsm; have bbm := bbl.trans (hbm.mono (by omega : B ≤ _)); clear bbl hbm) | (refine wl_storeV rfl 73 _ _ rfl 73 wl.heap.size rfl MA rfl 32 aggSumT hMAl Y hSm hYl hMA1 ?_; intro wn hSnn hbn hsn; have bbn := bbm.trans (hbn.mono (by omega : B ≤ _)); clear bbm hbn hSm; have hSn := hSnn; clear hSnn) | (go_at_call 21; refine (hWh wn).out.mono ?_; rintro e w' ⟨rfl, rfl⟩) | (refine wl_boxV rfl 61 _ rfl CS rfl B hsz ?_; intro w0 hB0 bb0 hs0) | (refine wl_load rfl 61 _ rfl ⟨B, 0, none⟩ rfl CS (by rw [hCSl]; exact aggS) hB0.at0 ?_) | (go_at_call 41; refine ((hpr' w0).out).mono ?_; rintro e w1 ⟨hb1, ao1, c1, rfl, hM1⟩; have hs1 := hb1.size; have hB1 := hB0.below hb1 (by have := hB0.lt; omega); have bb1 := bb0.trans (hb1.mono (by omega : B ≤ _)); obtain ⟨hQ1, _⟩ := mine_pt hM1 hpl.out.symm (by decide) hpo.out; clear hM1 hB0 bb0 hb1) | (refine wl_load rfl 61 _ rfl ⟨B, 0, none⟩ rfl CS (by rw [hCSl]; exact aggS) hB1.at0 ?_) | (go_at_call 42; refine ((hso' w1).out).mono ?_; rintro e w2 ⟨hb2, ao2, c2, rfl, hM2⟩; have hs2 := hb2.size; have hB2 := hB1.below hb2 (by have := hB1.lt; omega); have bb2 := bb1.trans (hb2.mono (by omega : B ≤ _)); have hQ2 := hQ1.below hb2; obtain ⟨hV2, _⟩ := mine_pt hM2 hpl.out.symm (by decide) hpo.out; clear hM2 hQ1 hB1 bb1 hb2) | (have bt2 : Below w2.heap.size w2 w2 := Below.refl _ _; refine wl_load rfl 61 _ rfl ⟨B, 0, none⟩ rfl CS (by rw [hCSl]; exact aggS) hB2.at0 ?_) | (go_at_call 43; refine ((hmk w2).out).mono ?_; rintro e w3 ⟨rfl, hb3⟩; have hs3 := hb3.size; have hB3 := hB2.below hb3 (by have := hB2.lt; omega); have bb3 := bb2.trans (hb3.mono (by omega : B ≤ _)); have bt3 := bt2.trans (hb3.mono (by omega : w2.heap.size ≤ _)); clear hB2 bb2 bt2 hb3) | (refine wl_allocV rfl 73 rfl Y hz32.out w3.heap.size rfl ?_; intro w4 hM4 hb4 hs4; have hB4 := hB3.below hb4 (by have := hB3.lt; omega); have bb4 := bb3.trans (hb4.mono (by omega : B ≤ _)); have bt4 := bt3.trans (hb4.mono (by omega : w2.heap.size ≤ _)); clear hB3 bb3 bt3 hb4) | (refine wl_storeV rfl 73 _ _ rfl 73 w3.heap.size rfl M rfl 32 aggSumT hMl Y hM4 hYl hM1' ?_; intro w5 hMn5 hb5 hs5; have hB5 := hB4.below hb5 (by have := hB4.lt; omega); have bb5 := bb4.trans (hb5.mono (by omega : B ≤ _)); have bt5 := bt4.trans (hb5.mono (by omega : w2.heap.size ≤ _)); clear hB4 bb4 bt4 hb5 hM4; have hM5 := hMn5; clear hMn5) | (go_at_call 17; refine (sh.shares_any w5).mono ?_; rintro e w6 ⟨rfl, hb6⟩; have hs6 := hb6.size; have hB6 := hB5.below hb6 (by have := hB5.lt; omega); have hM6 := hM5.below hb6 (by have := hM5.lt; omega); have bb6 := bb5.trans (hb6.mono (by omega : B ≤ _)); have bt6 := bt5.trans (hb6.mono (by omega : w2.heap.size ≤ _)); clear hB5 hM5 bb5 bt5 hb6) | (go_at_call 44; refine (Equal_any ao1 ao2 c1 c2 86 86 (pO s) (pO s) w6 hpl.out.symm hpl.out.symm (hQ2.below bt6).row (hV2.below bt6).row hpo.out hpo.out).mono ?_; rw [decide_eq_true (rfl : pO s = pO s)]; rintro e w' ⟨rfl, rfl⟩) | (go_at_call 45; refine ((hpo1 ao1 c1 w6 (hQ2.below bt6)).out).mono ?_; rintro e w7 ⟨rfl, hb7⟩; have hs7 := hb7.size; have hB7 := hB6.below hb7 (by have := hB6.lt; omega); have hM7 := hM6.below hb7 (by have := hM6.lt; omega); have bb7 := bb6.trans (hb7.mono (by omega : B ≤ _)); have bt7 := bt6.trans (hb7.mono (by omega : w2.heap.size ≤ _)); clear hB6 hM6 bb6 bt6 hb7) | (refine wl_allocV rfl 61 rfl Z hz61.out w7.heap.size rfl ?_; intro w8 hT8 hb8 hs8; have hB8 := hB7.below hb8 (by have := hB7.lt; omega); have hM8 := hM7.below hb8 (by have := hM7.lt; omega); have bb8 := bb7.trans (hb8.mono (by omega : B ≤ _)); clear hB7 hM7 bb7 hb8) | (refine wl_storeV rfl 61 _ _ rfl 61 w7.heap.size rfl CS rfl 49 aggS hCSl Z hT8 hZl hCS1 ?_; intro wa hTna hba hsa; have hBa := hB8.below hba (by have := hB8.lt; omega); have hMa := hM8.below hba (by have := hM8.lt; omega); have bba := bb8.trans (hba.mono (by omega : B ≤ _)); clear hB8 hM8 bb8 hba hT8; have hTa := hTna; clear hTna) | (refine wl_load rfl 61 _ rfl ⟨B, 0, none⟩ rfl CS (by rw [hCSl]; exact aggS) hBa.at0 ?_) | (go_at_call 46; refine ((hmf wa).out).mono ?_; rintro e wb ⟨rfl, hbb⟩; have hsb := hbb.size; have hBb := hBa.below hbb (by have := hBa.lt; omega); have hMb := hMa.below hbb (by have := hMa.lt; omega); have hTb := hTa.below hbb (by have := hTa.lt; omega); have bbb := bba.trans (hbb.mono (by omega : B ≤ _)); clear hBa hMa hTa bba hbb) | (refine wl_allocV rfl 73 rfl Y hz32.out wb.heap.size rfl ?_; intro wc hNc hbc hsc; have hBc := hBb.below hbc (by have := hBb.lt; omega); have hMc := hMb.below hbc (by have := hMb.lt; omega); have hTc := hTb.below hbc (by have := hTb.lt; omega); have bbc := bbb.trans (hbc.mono (by omega : B ≤ _)); clear hBb hMb hTb bbb hbc) | (refine wl_storeV rfl 73 _ _ rfl 73 wb.heap.size rfl M rfl 32 aggSumT hMl Y hNc hYl hM1' ?_; intro wd hNnd hbd hsd; have hBd := hBc.below hbd (by have := hBc.lt; omega); have hMd := hMc.below hbd (by have := hMc.lt; omega); have hTd := hTc.below hbd (by have := hTc.lt; omega); have bbd := bbc.trans (hbd.mono (by omega : B ≤ _)); clear hBc hMc hTc bbc hbd hNc; have hNd := hNnd; clear hNnd) | (refine wl_loadG (by rfl) 61 _ rfl ⟨w7.heap.size, 0, none⟩ rfl 49 CS hCSl aggS hTd.at0 ?_) | (refine wl_loadG (by rfl) 61 _ rfl ⟨B, 0, none⟩ rfl 49 CS hCSl aggS hBd.at0 ?_) | (refine wl_neqD 80 rfl (by kernel_rfl) 61 _ _ _ rfl CS.toArray CS.toArray rfl rfl true (hCSe _).out (by kernel_rfl) false rfl ?_) | (refine wl_loadG (by rfl) 73 _ rfl ⟨w3.heap.size, 0, none⟩ rfl 32 M hMl aggSumT hMd.at0 ?_) | (refine wl_loadG (by rfl) 73 _ rfl ⟨wb.heap.size, 0, none⟩ rfl 32 M hMl aggSumT hNd.at0 ?_) | (refine wl_neqD 85 rfl (by kernel_rfl) 73 _ _ _ rfl M.toArray M.toArray rfl rfl true (hMe _).out (by kernel_rfl) false rfl ?_) | (refine wl_load rfl 61 _ rfl ⟨B, 0, none⟩ rfl CS (by rw [hCSl]; exact aggS) hBd.at0 ?_) | (go_at_call 47; refine ((hck wd bbd).out).mono ?_; rintro e we ⟨rfl, hbe⟩; have hse := hbe.size; have hBe := hBd.below hbe (by have := hBd.lt; omega); have hMe := hMd.below hbe (by have := hMd.lt; omega); have hTe := hTd.below hbe (by have := hTd.lt; omega); have hNe := hNd.below hbe (by have := hNd.lt; omega); have bbe := bbd.trans (hbe.mono (by omega : B ≤ _)); clear hBd hMd hTd hNd bbd hbe) | (refine wl_load rfl 73 _ rfl ⟨wb.heap.size, 0, none⟩ rfl M (by rw [hMl]; exact aggSumT) hNe.at0 ?_) | (go_at_call 48; refine ((hix we bbe).out).mono ?_; rintro e w9 ⟨rfl, hb9⟩; have hs9 := hb9.size; have bb9 := bbe.trans (hb9.mono (by omega : B ≤ _)); clear bbe hb9; have hsB9 : B + 1 ≤ w9.heap.size := (by omega)))
  all_goals
    obtain ⟨N, HNN⟩ : ∃ N, Hid (N = wn.heap.size) := ⟨_, rfl⟩
    have hNs : N ≤ wn.heap.size := by rw [HNN.out]; exact Nat.le_refl _
    have hBN : B ≤ N := by rw [HNN.out]; omega
    have hSlt : wl.heap.size < N := by rw [HNN.out]; exact hSn.lt
    obtain ⟨gS, HGS⟩ : ∃ g, Hid (g = wl.heap.size) := ⟨_, rfl⟩
    rw [← HGS.out] at hSn hSlt ⊢
    clear hpl hpo HPP hPr hRd hMk hd1 hWh
    go_loopw [24, 25, 148] (fun v p i wr => ∃ (k : Nat) (ps : List Pt) (ao' : Option Addr) (c' : Nat), k ≤ n ∧ i = .int .i64 k ∧ v = .int .i64 (wantK l k) ∧ p = .slice ao' k c' ∧ ps.length = k ∧ PartsAt wr N p ps ∧ ps.map Pt.l = (l.take k).map mk0 ∧ Below N wn wr ∧ N ≤ wr.heap.size) (fun _ _ i _ => n - (intOf i).toNat)
    case atStart => exact ⟨0, [], none, 0, by omega, rfl, rfl, rfl, rfl, PartsAt.nil _ _, rfl, Below.refl _ _, hNs⟩
    case round =>
      obtain ⟨k, ps, ao', c', hk, rfl, rfl, rfl, hpk, hPt, hpm, hbl, hNr⟩ := hrel
      by_cases h0 : k < n
      · have hkI : (k : Int) < (n : Int) := by omega
        have hkI0 : (0 : Int) ≤ (k : Int) := by omega
        have hkl : k < l.length := by rw [← HN.out]; exact h0
        obtain ⟨b, off, t, rfl, hbs, HTs, hat⟩ := ((HROW _ (bbn.trans (hbl.mono hBN))).out).elem (i := k) hkl
        have ht : t.Ok := by rw [HTs.out]; exact HOK.out _ (getD_mem l k hkl)
        have hmt := fun w => hid (MarkOf_any t ht w)
        obtain ⟨TS, HTS⟩ : ∃ C, Hid (C = t.cs) := ⟨_, rfl⟩
        have hTSl : TS.length = 49 := by rw [HTS.out]; exact ht.csl
        have hTS1 : ∀ u ∈ TS, u.oneCell' = true := by rw [HTS.out]; exact cs_one t
        obtain ⟨T, HT⟩ : ∃ M, Hid (M = (mk0 t).map (Value.int .u8)) := ⟨_, rfl⟩
        have hTl : T.length = 32 := by rw [HT.out, List.length_map, mk0_length]
        have hT1 : ∀ u ∈ T, u.oneCell' = true := by rw [HT.out]; exact ints_one _ _
        rw [markV_eq] at hmt
        rw [← HTS.out] at hmt hat
        rw [← HT.out] at hmt
        obtain ⟨ET, HET⟩ : ∃ e : Int, Hid (e = errS t) := ⟨_, rfl⟩
        obtain ⟨V, HV⟩ : ∃ e : Int, Hid (e = wantK l k) := ⟨_, rfl⟩
        obtain ⟨V2, HV2⟩ : ∃ e : Int, Hid (e = wantK l (k + 1)) := ⟨_, rfl⟩
        have HVS : Hid (firstE2 V ET = V2) := by show _ = _; rw [HV.out, HET.out, HTs.out, HV2.out, wantK_succ l k hkl]
        rw [← HET.out] at hmt
        rw [← HV.out]
        have hO0 := hPt.own
        rw [hpk] at hO0
        have HPK := hid hpk
        have HSN := hid (mk0_snoc l k hkl)
        rw [← hpm, ← HTs.out] at HSN
        have halS : Try.prog.arrayLen 73 = 32 := by kernel_rfl
        clear hpk hpm
        go_wp2_with (first | (refine wl_load rfl 61 _ rfl ⟨b, off + k * 49, none⟩ rfl TS (by rw [hTSl]; exact aggS) hat ?_; clear hat) | (refine wl_allocV rfl 61 rfl Z hz61.out wr.heap.size rfl ?_; intro v1 hA hbA hsA) | (refine wl_storeV rfl 61 _ _ rfl 61 wr.heap.size rfl TS rfl 49 aggS hTSl Z hA hZl hTS1 ?_; intro v2 hC hbC hsC; have bwC : Below wr.heap.size wr v2 := hbA.trans hbC; clear hbA hbC hA) | (refine wl_load rfl 61 _ rfl ⟨wr.heap.size, 0, none⟩ rfl TS (by rw [hTSl]; exact aggS) hC.at0 ?_) | (go_at_call 46; refine (hmt v2).out.mono ?_; rintro e v3 ⟨rfl, hbD⟩; have bwD := bwC.trans (hbD.mono (by omega : wr.heap.size ≤ _)); have hsD := hbD.size; clear bwC hbD hC) | (refine wl_allocV rfl 73 rfl Y hz32.out v3.heap.size rfl ?_; intro v4 hE hbE hsE; have bwE := bwD.trans (hbE.mono (by omega : wr.heap.size ≤ _)); clear bwD hbE) | (refine wl_storeV rfl 73 _ _ rfl 73 v3.heap.size rfl T rfl 32 aggSumT hTl Y hE hYl hT1 ?_; intro v5 hF hbF hsF; have bwF := bwE.trans (hbF.mono (by omega : wr.heap.size ≤ _)); clear bwE hbF hE; have hFst := first_two' V ET v5 (v3.heap.size + 1) (by omega)) | (go_at_call 23; refine (hFst _ rfl).mono ?_; rw [HVS.out]; rintro e v' ⟨rfl, rfl⟩) | (at_builtin; refine wl_push rfl _ _ 82 rfl 69 (.slice none 0 0) 1 24 Try.underlying82 infoB rfl (by decide) N _ k _ rfl (owns_up hO0 ((bwF.alloc bwF.size _).alloc (by have := bwF.size; simp; omega) _)) ⟨v3.heap.size + 1 + 1, 0, none⟩ 1 1 rfl [.slice (some ⟨v3.heap.size, 0, none⟩) 32 32] rfl (BlkV.at0 (BlkV.new _ _ _ (by simp; omega))) (by intro u hu; simp at hu; subst hu; rfl) (by unfold maxLen; omega) (by omega) (by simp; omega) (k + 1) rfl ?_; intro ao9 cap9 z9 hc9 hO9 hg9 hv9))
        have bw6 := bwF.alloc bwF.size (.cells #[.int .i64 V, .int .i64 ET] 27)
        have bw7 := bw6.alloc bw6.size (.cells #[.slice (some ⟨v3.heap.size, 0, none⟩) 32 32] 69)
        have hrowlt : ∀ j, (Value.slice ao' k c').ownBlock = some j → N ≤ j := fun j e => (hO0.lt j e).1
        have hMI : BlkI .u8 73 (v5.alloc (.cells #[.int .i64 V, .int .i64 ET] 27)) v3.heap.size (mk0 t) := by rw [HT.out] at hF; exact BlkI.alloc hF _
        have hP9 := hPt.push bw6 hMI (by omega) (mk0_length t) (mk0_octs t) rfl hg9 hv9 (by rw [HPK.out]; exact hO9)
        have hb9 : Below N wn z9 := (hbl.trans (bw7.mono (by omega))).grown hg9 (by simp; omega) (fun j e => hrowlt j e)
        have hs9' : N ≤ z9.heap.size := by have := hg9.size; simp at this; omega
        go_roundw
        case rel =>
          refine ⟨k + 1, _, ao9, cap9, by omega, by go_num, by rw [HV2.out], rfl, by rw [List.length_append, HPK.out]; rfl, hP9, ?_, hb9, hs9'⟩
          rw [HSN.out, List.map_append]; rfl
        case measure => simp [intOf] <;> omega
      · obtain rfl : k = n := by omega
        have e : l.take k = l := List.take_of_length_le (by rw [← HN.out]; exact Nat.le_refl _)
        rw [e] at hpm
        have hWK : wantK l k = W := by rw [HN.out, wantK_all, HW.out]
        rw [hWK]
        have hSr := hSn.below hbl hSlt
        have bbr := bbn.trans (hbl.mono hBN)
        by_cases hW0 : W = 0
        · have hw0 : wantM l = 0 := by rw [← HW.out]; exact hW0
          obtain ⟨hl32, hmm⟩ := want_zero hw0
          rw [hmm] at hpm
          have hfr := framed_marks ps l hpm
          have hfl : (framed ps).length ≤ 2097152 := by rw [hfr, frL_length]; omega
          have hMA0 : (sumL 7 (framed ps)).map (Value.int .u8) = MA := by rw [HMA.out, hfr]; unfold marksA; rw [if_pos hw0]
          have HMA0 := hid hMA0
          have hMAe : ∀ w, (Op.equalIn 10000 73 (.agg MA.toArray) (.agg MA.toArray)).run Try.prog w = .ok true w := fun w => by
            rw [← HMA0.out, run_eq_sum w _ _ (sumL_length _ _) (sumL_length _ _), beq_self_eq_true]
          obtain ⟨m, Hm⟩ : ∃ m, Hid (m = (framed ps).length) := ⟨_, rfl⟩
          have hPd : PartsAt wr.drew N (.slice ao' k c') ps := hPt.up ((Below.refl _ _).drew)
          have hfrm := hid (framed_ready wr.drew N k c' ao' ps m hpk hPd Hm.out (by rw [Hm.out]; exact hfl))
          have hu73 := Try.underlying73
          have hi73 : (Try.prog.info? 73).map (·.size) = some MA.length := by rw [hMAl]; exact aggSumT.2
          have aS0 : wr.drew.rangeAt gS 0 MA := fun j v hv => by rw [Nat.zero_add]; exact (hSr.cell j).trans hv
          have hgSr : gS < wr.heap.size := hSr.lt
          have HFL := hid hfl
          clear hpm hmm hfr hfl hMA0 hw0 hWK e hpk
          subst hW0
          go_wp2_with fail
          refine wp_region_held_drew (S := (fun w' => w'.rangeAt gS 0 MA)) (by kernel_rfl) aS0 (fun hHeld => ?_)
          refine take_l (i := 0) (v := ?v0) rfl (by kernel_rfl) (by kernel_rfl) (by kernel_rfl) (fun _ _ _ h => h) (Or.inl ⟨by rfl, ?hy0⟩) (by assumption) ?rest0
          case hy0 => (intro w hSw; (try dsimp only at hSw); go_simp; (try with_reducible rfl))
          try simp only [Act.put, List.setIfInBounds_toArray, List.set_cons_zero, List.set_cons_succ]
          refine take_l (i := 1) (v := ?v1) rfl (by kernel_rfl) (by kernel_rfl) (by kernel_rfl) (fun _ _ _ h => h) (Or.inl ⟨by rfl, ?hy1⟩) (by assumption) ?rest1
          case hy1 => (intro w hSw; (try dsimp only at hSw); go_simp; (try with_reducible rfl))
          try simp only [Act.put, List.setIfInBounds_toArray, List.set_cons_zero, List.set_cons_succ]
          refine take_l (i := 2) (v := ?v2) rfl (by kernel_rfl) (by kernel_rfl) (by kernel_rfl) (fun _ _ _ h => h) (Or.inl ⟨by rfl, ?hy2⟩) (by assumption) ?rest2
          case hy2 => (intro w hSw; (try dsimp only at hSw); go_simp; (try with_reducible rfl))
          try simp only [Act.put, List.setIfInBounds_toArray, List.set_cons_zero, List.set_cons_succ]
          refine take_l (i := 3) (v := _) rfl (by kernel_rfl) (by kernel_rfl) (by kernel_rfl) (fun _ _ _ h => h) (yieldsIf_load_mid (by rfl) 73 _ rfl gS 0 rfl MA _ (fun w hS => hS) hu73 rfl hi73) (by assumption) ?_
          try simp only [Act.put, List.setIfInBounds_toArray, List.set_cons_zero, List.set_cons_succ]
          refine take_l (i := 4) (v := ?v4) rfl (by kernel_rfl) (by kernel_rfl) (by kernel_rfl) (fun _ _ _ h => h) (Or.inl ⟨by rfl, ?hy4⟩) (by assumption) ?rest4
          case hy4 => (intro w hSw; (try dsimp only at hSw); go_simp; (try with_reducible rfl))
          try simp only [Act.put, List.setIfInBounds_toArray, List.set_cons_zero, List.set_cons_succ]
          refine wpAnyH_ready (rs := [5]) (by kernel_rfl) (by simp) (cons_l rfl (fun K hK => ?_) AllReadyH.nil)
          rw [if_pos (by rfl)]
          go_simp; go_at_call 52
          refine hfrm.out.mono ?_
          rintro e z1 ⟨⟨a1, c1, rfl, hp1, hno1⟩, hbz1⟩
          have aS1 : z1.rangeAt gS 0 MA := fun j v hv => (hbz1.cell (p := ⟨gS, 0 + j, none⟩) hgSr).trans (aS0 j v hv)
          refine hK.out _ _ aS1 (fun hHeld => ?_)
          clear hK K
          try simp only [Act.put, List.setIfInBounds_toArray, List.set_cons_zero, List.set_cons_succ]
          refine wpAnyH_ready (rs := [6]) (by kernel_rfl) (by simp) (cons_l rfl (fun K hK => ?_) AllReadyH.nil)
          rw [if_pos (by rfl)]
          go_simp; go_at_call 51
          refine (sumR 7 oct7 a1 c1 m (framed ps) z1 Hm.out hp1 hno1 (by rw [Hm.out]; exact HFL.out)).mono ?_
          rw [HMA0.out]
          rintro e z2 ⟨rfl, hbz2⟩
          have hz1s : wr.heap.size ≤ z1.heap.size := hbz1.size
          have aS2 : z2.rangeAt gS 0 MA := fun j v hv => (hbz2.cell (p := ⟨gS, 0 + j, none⟩) (Nat.lt_of_lt_of_le hgSr hz1s)).trans (aS1 j v hv)
          refine hK.out _ _ aS2 (fun hHeld => ?_)
          clear hK K
          try simp only [Act.put, List.setIfInBounds_toArray, List.set_cons_zero, List.set_cons_succ]
          refine take_l (i := 7) (v := _) rfl (by kernel_rfl) (by kernel_rfl) (by kernel_rfl) (fun _ _ _ h => h) (yieldsIf_eqM (by rfl) 73 _ _ _ rfl MA.toArray MA.toArray rfl rfl true hMAe (by kernel_rfl)) (by assumption) ?_
          try simp only [Act.put, List.setIfInBounds_toArray, List.set_cons_zero, List.set_cons_succ]
          refine take_l (i := 8) (v := ?v8) rfl (by kernel_rfl) (by kernel_rfl) (by kernel_rfl) (fun _ _ _ h => h) (Or.inl ⟨by rfl, ?hy8⟩) (by assumption) ?rest8
          case hy8 => (intro w hSw; (try dsimp only at hSw); go_simp; (try with_reducible rfl))
          try simp only [Act.put, List.setIfInBounds_toArray, List.set_cons_zero, List.set_cons_succ]
          refine take_l (i := 9) (v := ?v9) rfl (by kernel_rfl) (by kernel_rfl) (by kernel_rfl) (fun _ _ _ h => h) (Or.inl ⟨by rfl, ?hy9⟩) (by assumption) ?rest9
          case hy9 => (intro w hSw; (try dsimp only at hSw); go_simp; (try with_reducible rfl))
          try simp only [Act.put, List.setIfInBounds_toArray, List.set_cons_zero, List.set_cons_succ]
          refine wpAnyH_done (by kernel_rfl) ?_ _
          have bbz : Below B w z2 := ((bbr.drew).trans (hbz1.mono (by show B ≤ wr.heap.size; omega))).trans (hbz2.mono (by omega))
          go_wp2
          go_ret
          exact ⟨rfl, by first | exact bbz | (rw [hsz]; exact bbz)⟩
        · have hMY : MA = Y := by rw [HMA.out, HY.out]; unfold marksA; rw [if_neg (by rw [← HW.out]; exact hW0)]
          have hYe : ∀ w, (Op.equalIn 10000 73 (.agg Y.toArray) (.agg Y.toArray)).run Try.prog w = .ok true w := fun w => by
            rw [HY.out]; have h1 := run_eq_sum w (List.replicate 32 0) (List.replicate 32 0) (by simp) (by simp); rw [beq_self_eq_true] at h1; exact h1
          rw [hMY] at hSr
          clear hpm hWK e hpk hMY
          go_wp2_with (first | (refine wl_load rfl 73 _ rfl ⟨gS, 0, none⟩ rfl Y (by rw [hYl]; exact aggSumT) hSr.at0 ?_) | (refine wl_build0 rfl 73 rfl Y hbt.out ?_) | (refine wl_eqM 170 rfl (by kernel_rfl) 73 _ _ _ rfl Y.toArray Y.toArray rfl rfl true (hYe _) (by kernel_rfl) ?_))
          go_ret
          exact ⟨rfl, by first | exact bbr | (rw [hsz]; exact bbr)⟩
end Go.Proofs.Ytbljihhelladbaa.shr
