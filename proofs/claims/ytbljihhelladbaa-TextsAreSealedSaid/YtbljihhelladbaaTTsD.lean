/-
  Contracts of wrap.SealText. Conditions: keys and nonces of octets; texts that lie in memory.
-/
import Derived.Test.YtbljihhelladbaaTTsC
namespace Go.Proofs.Ytbljihhelladbaa.wr
open Go.RowKit Go.Proofs.Ytbljihhelladbaa.st Go.Proofs.Ytbljihhelladbaa.hs Go.Proofs.Ytbljihhelladbaa.shr Go.Proofs.Ytbljihhelladbaa.sh
set_option linter.unusedSimpArgs false
set_option linter.unusedVariables false
set_option pp.maxSteps 6000
set_option maxRecDepth 100000 in
set_option maxHeartbeats 8000000 in
theorem SealText_ok (k n h t : List Int) (bs : Nat) (ha ta : Option Addr) (hp tp hn tn : Nat) (w : World) (hk : k.length = 32) (ok : Octs k) (hnn : n.length = 16) (on : Octs n) (hhn : hn = h.length) (htn : tn = t.length) (HH : Pt.Ok w ⟨ha, hp, h⟩) (HT : Pt.Ok w ⟨ta, tp, t⟩) (h0 : ha = none → hp = 0) (h1 : 16 ≤ bs) (h2 : bs ≤ 65536) (h3 : hn ≤ 4096) (h4 : tn ≤ 262144) :
    Calls Try.prog 75 #[.agg (k.map (Value.int .u8)).toArray, .agg (n.map (Value.int .u8)).toArray, .slice ha hn hp, .slice ta tn tp, .int .i64 bs] w fun e w' => ∃ g c m, e = .returned (.tuple #[.slice (some ⟨g, 0, none⟩) m c, .int .i64 0]) ∧ Hid (m = (sealT k n h t bs).length) ∧ Pt.Ok w' ⟨some ⟨g, 0, none⟩, c, sealT k n h t bs⟩ ∧ w.heap.size ≤ g ∧ m ≤ 1100000000 ∧ 32 ≤ m ∧ Below w.heap.size w w' := by
  obtain ⟨B, HB⟩ : ∃ B, Hid (B = w.heap.size) := ⟨_, rfl⟩
  have hsz : w.heap.size = B := HB.out.symm
  have hBs : B ≤ w.heap.size := by omega
  obtain ⟨K, HK⟩ : ∃ K, Hid (K = k.map (Value.int .u8)) := ⟨_, rfl⟩
  have hKl : K.length = 32 := by rw [HK.out, List.length_map, hk]
  obtain ⟨NV, HNV⟩ : ∃ K, Hid (K = n.map (Value.int .u8)) := ⟨_, rfl⟩
  have hNl : NV.length = 16 * 1 := by rw [HNV.out, List.length_map, hnn]
  obtain ⟨Y, HY⟩ : ∃ Z, Hid (Z = (List.replicate 16 (0 : Int)).map (Value.int .u8)) := ⟨_, rfl⟩
  have hz16 := hid zeroTag
  rw [← HY.out] at hz16
  have hYl : Y.length = 16 := by rw [HY.out]; simp
  obtain ⟨F, HF⟩ : ∃ F, Hid (F = headT n bs t.length) := ⟨_, rfl⟩
  have hFl : Hid (F.length = 32) := hid (by rw [HF.out]; exact headT_length hnn _ _)
  have oF : Octs F := by rw [HF.out]; exact headT_octs on _ _
  have halN : Try.prog.arrayLen 25 = 16 := by kernel_rfl
  have halT : Try.prog.arrayLen 105 = 16 := by kernel_rfl
  have huK := Try.underlying23
  have hiK : (Try.prog.info? 23).map (·.size) = some K.length := by rw [hKl]; exact aggKey.2
  have huN := Try.underlying25
  have hiN : (Try.prog.info? 25).map (·.size) = some NV.length := by rw [hNl]; exact aggNo.2
  have HTT := fun y (hb : Below B w y) => hid (HT.below (hsz ▸ hb))
  have HHH := fun y (hb : Below B w y) => hid (HH.below (hsz ▸ hb))
  have oT := HT.oct
  have oH := HH.oct
  have HTN := hid htn
  have HHN := hid hhn
  have HKK := hid hk
  have HNN := hid hnn
  have hnc := fun (j : Nat) (hj : j ≤ 30000) y => hid (Nonce_any n hnn on (j : Int) ⟨by omega, by omega⟩ y)
  have hcv := fun (j : Nat) (y : World) (ao : Option Addr) (c m : Nat) (hm : m = (partT t bs j).length) (HP : Pt.Ok y ⟨ao, c, partT t bs j⟩) (hm2 : m ≤ 65536) => hid (Cover_any k (nonB n (j : Int)) (partT t bs j) ao c m y hk (nonB_length _ _) ok (nonB_octs _ _) hm HP (by omega))
  have hbt := fun (j : Nat) (hj : j ≤ 30000) (y : World) (hb : Below B w y) (gf cf gc cc cn : Nat) (hcn : cn = (covB k n t bs j).length) (hcm : cn ≤ 65536) (HFy : Pt.Ok y ⟨some ⟨gf, 0, none⟩, cf, F⟩) (HC : Pt.Ok y ⟨some ⟨gc, 0, none⟩, cc, covB k n t bs j⟩) => hid (BTag_any k h F (covB k n t bs j) (j : Int) ha (some ⟨gf, 0, none⟩) (some ⟨gc, 0, none⟩) hp cf cc hn 32 cn y hk ok ⟨by omega, by omega⟩ hhn hFl.out.symm hcn (HHH y hb).out HFy HC h0 (fun e => by cases e) (fun e => by cases e) (by rw [hFl.out]; omega))
  have hpn := fun (y : World) (g c : Nat) (hO : Own8 (B + 2) y g c 20 (kwt ++ n)) => hid (PutNumber_any (some ⟨g, 0, none⟩) 20 c (kwt ++ n) (bs : Int) y (by simp [kwt, hnn]) hO.row (fun b e => by cases e; exact hO.lt.2) (fun e => by cases e) (by decide))
  have hpl := fun (y : World) (a : Option Addr) (c : Nat) (l : List Int) (hl : 24 = l.length) (hr : RowI .u8 y a l) (hlt : ∀ b, a = some b → b.block < y.heap.size) (hno : a = none → c = 0) => hid (PutLong_any a 24 c l (tn : Int) y hl hr hlt hno (by decide) ⟨by omega, by omega⟩)
  have HKN : Hid ((kwt ++ n).map (Value.int .u8) = [.int .u8 75, .int .u8 87, .int .u8 84, .int .u8 49] ++ NV) := hid (by rw [List.map_append, HNV.out]; rfl)
  have HFE : Hid ((kwt ++ n ++ o4 (bs : Int)) ++ o8 (tn : Int) = F) := hid (by rw [HF.out, htn]; rfl)
  have hKN24 : Hid (24 = (kwt ++ n ++ o4 (bs : Int)).length) := hid (by simp [kwt, hnn, o4_length])
  have hi3 : ¬ (4096 : Int) < (hn : Int) := by omega
  have hi4 : ¬ (262144 : Int) < (tn : Int) := by omega
  obtain ⟨bI, HbI⟩ : ∃ b, Hid (b = (bs : Int)) := ⟨_, rfl⟩
  have hbI : bI ≤ (bs : Int) ∧ (bs : Int) ≤ bI := by rw [HbI.out]; exact ⟨Int.le_refl _, Int.le_refl _⟩
  rw [← HK.out, ← HNV.out, ← HbI.out]
  simp only [← HbI.out] at hpn HFE hKN24 hpl
  have hwb : IntKind.u32.wrap bI = bI := IntWalk.u32_in _ (by omega)
  have hi1 : ¬ bI < 16 := by omega
  have hi2 : ¬ (65536 : Int) < bI := by omega
  simp only [← HK.out] at hcv hbt
  simp only [← HNV.out] at hnc
  clear hk hnn hhn htn HH HT
  go_enter Try.func75, Try.ntmps75
  go_wp2_with (first | (go_at_call 131; refine (hpl we aoe ce _ hKN24.out hPe.row hPe.lt (fun e => (hne e).1)).out.mono ?_; rintro e w1 ⟨aof, cf, rfl, hMf, hbf⟩; have hA1 := hAe.below hbf hAe.lt; have hN1 := hNe.below hbf hNe.lt; have bb1 := bbe.trans (hbf.mono (by omega : B ≤ _)); have hs1 := Nat.le_trans hse hbf.size; rw [HFE.out] at hMf; obtain ⟨gf, rfl, hgf1, hgf2, hOf⟩ := Own8.of (hMf.mono hse) (by decide); have hFF1 := Own8.pt hOf hFl.out.symm oF (by decide); have hcf : 32 ≤ cf := (by have := hFF1.len; have := hFl.out; dsimp only at *; omega); clear hbe hbf hMf hPe hne hMe hAe hNe bbe hse hgd hAd hNd bbd hsd hOd) | (go_at_call 133; refine (hpn wd gd cd hOd).out.mono ?_; rintro e we ⟨aoe, ce, rfl, hMe, hbe⟩; have hAe := hAd.below hbe hAd.lt; have hNe := hNd.below hbe hNd.lt; have bbe := bbd.trans (hbe.mono (by omega : B ≤ _)); have hse := Nat.le_trans hsd hbe.size; obtain ⟨hPe, hne⟩ := mine_pt hMe hKN24.out (by decide) (octs_app (octs_app kwt_octs on) (o4_octs _))) | (at_builtin; refine wl_appendArg rfl _ _ rfl ⟨B + 2, 0, none⟩ 4 4 rfl [.int .u8 75, .int .u8 87, .int .u8 84, .int .u8 49] rfl hCc ⟨B + 1, 0, none⟩ 16 16 rfl NV hNl (hNc.at0) (by decide) (by decide) (B + 2) (by omega) 20 rfl ?_; intro aod cd wd hcd hMd hgd; have hAd := hAc.grown hgd (by intro e; cases e); have hNd := hNc.grown hgd (by intro e; cases e); have bbd : Below B w wd := bbc.grown hgd (by omega) (fun k hk => by cases hk); have hsd : B + 2 ≤ wd.heap.size := (by have := hgd.size; omega); rw [← HKN.out] at hMd; obtain ⟨gd, rfl, _, _, hOd⟩ := Own8.of hMd (by decide); clear hCc hAc hNc bbc hMd) | (refine wl_convC rfl _ rfl [.int .u8 75, .int .u8 87, .int .u8 84, .int .u8 49] 4 4 rfl (B + 2) HSB.out ?_; intro wc hCc hbc hsc; have hAc := hAb.below hbc (by omega); have hNc := hNb.below hbc (by omega); have bbc := bbb.trans (hbc.mono (by omega : B ≤ _)); clear hAb hNb bbb hbc) | (refine wl_boxV rfl 25 _ rfl NV rfl (B + 1) hsa ?_; intro wb hNb hbb hsb; have hAb := hAa.below hbb (by omega); have bbb := hba.trans (hbb.mono (by omega : B ≤ _)); clear hAa hba hbb; have HSB := hid hsb; clear hsb) | (refine wl_boxV rfl 23 _ rfl K rfl B hsz ?_; intro wa hAa hba hsa))
  obtain ⟨C, HC⟩ : ∃ C, Hid (C = w1.heap.size) := ⟨_, rfl⟩
  have hgfC : gf < C := by rw [HC.out]; exact hgf2
  have hCs : C ≤ w1.heap.size := by rw [HC.out]; exact Nat.le_refl _
  have hBC : B + 2 ≤ C := by rw [HC.out]; exact hs1
  have hO1 : OutR w1 C gf (some ⟨gf, 0, none⟩) 32 32 (F.map (Value.int .u8)) := Or.inr ⟨rfl, rfl, by rw [List.length_map, hFl.out], owns_at hOf⟩
  have hAC : B < C := by omega
  have hNC : B + 1 < C := by omega
  go_loopw [13, 14] (fun v i wr => ∃ (j m vc : Nat) (iI : Int) (vo : Option Addr) (L : List Int), i = .int .i64 iI ∧ Hid (iI = (j : Int)) ∧ v = .slice vo m vc ∧ Hid (L = F ++ bodyB k n h F t bs j) ∧ Hid (L.length = m) ∧ OutR wr C gf vo m vc (L.map (Value.int .u8)) ∧ Octs L ∧ m ≤ 32 + 65552 * j ∧ 32 ≤ m ∧ j ≤ 16385 ∧ Hid (j = 0 ∨ j * bs < tn + bs) ∧ Below C w1 wr) (fun _ i _ => 300000 - (intOf i).toNat)
  case atStart => exact ⟨0, 32, _, 0, _, F, rfl, rfl, rfl, by show F = F ++ bodyB k n h F t bs 0; simp [bodyB], hFl.out, hO1, oF, by omega, by omega, by omega, Or.inl rfl, Below.refl _ _⟩
  case round =>
    clear hO1
    obtain ⟨j, m, vc, iI, vo, L, rfl, HiI, rfl, HL, HLm, hO, oL, hmj, hm32, hj, hJ, hbr⟩ := hrel
    have hij : iI ≤ (j : Int) ∧ (j : Int) ≤ iI := by rw [HiI.out]; exact ⟨Int.le_refl _, Int.le_refl _⟩
    have bbr : Below B w wr := bb1.trans (hbr.mono (by omega))
    have hCr : C ≤ wr.heap.size := Nat.le_trans hCs hbr.size
    have hAr := hA1.below hbr hAC
    have hNr := hN1.below hbr hNC
    have hFr : Pt.Ok wr ⟨some ⟨gf, 0, none⟩, cf, F⟩ := ptBelowC hFF1 hbr (fun b e => by cases e; exact hgfC)
    obtain ⟨q, Hq⟩ : ∃ q, Hid (q = j * bs) := ⟨_, rfl⟩
    obtain ⟨r, Hr⟩ : ∃ r, Hid (r = (j + 1) * bs) := ⟨_, rfl⟩
    have hrq : r ≤ q + bs ∧ q + bs ≤ r := by rw [Hr.out, Hq.out, Nat.succ_mul]; exact ⟨Nat.le_refl _, Nat.le_refl _⟩
    have hJq : j = 0 ∨ q < tn + bs := by rw [Hq.out]; exact hJ.out
    have hq0 : j = 0 → q = 0 := fun e => by rw [Hq.out, e, Nat.zero_mul]
    have hqb : q ≤ 400000 := by rcases hJq with h | h; · have := hq0 h; omega
                                · omega
    by_cases hlt : q < tn
    · have hltI : (q : Int) < (tn : Int) := by omega
      have hj16 : 16 * j ≤ q := by
        have : j * 16 ≤ j * bs := Nat.mul_le_mul_left j h1
        have := Hq.out; omega
      have hj2 : j ≤ 16383 := by omega
      obtain ⟨z, Hz⟩ : ∃ z, Hid (z = min tn r) := ⟨_, rfl⟩
      have hzb : q < z ∧ z ≤ tn ∧ z ≤ r := by rw [Hz.out]; omega
      obtain ⟨pl, Hpl⟩ : ∃ p, Hid (p = z - q) := ⟨_, rfl⟩
      have hpl0 : 0 < pl := by rw [Hpl.out]; omega
      have hpl1 : pl ≤ 65536 := by rw [Hpl.out]; omega
      have HPT : Hid (partT t bs j = (t.drop q).take pl) := hid (by unfold partT; rw [← Hq.out, ← Hr.out, ← HTN.out, ← Hz.out, ← Hpl.out])
      have HPL : Hid (pl = (partT t bs j).length) := hid (by rw [partT_length, Hpl.out, Hz.out, Hq.out, Hr.out, HTN.out])
      have HCL : Hid (pl = (covB k n t bs j).length) := hid (by rw [covB_length]; exact HPL.out)
      have oC := covB_octs k n oT bs j
      have HTr := (HTT wr bbr).out
      obtain ⟨cv, HCV⟩ : ∃ c, Hid (c = covB k n t bs j) := ⟨_, rfl⟩
      obtain ⟨T, HTG⟩ : ∃ T, Hid (T = (tagB k h F (j : Int) cv).map (Value.int .u8)) := ⟨_, rfl⟩
      have hTl : T.length = 16 := by rw [HTG.out, List.length_map, tagB_length]
      have hTone : ∀ u ∈ T, u.oneCell' = true := by rw [HTG.out]; exact ints_one _ _
      obtain ⟨NB, HNB⟩ : ∃ T, Hid (T = (nonB n (j : Int)).map (Value.int .u8)) := ⟨_, rfl⟩
      have hnc' := hnc j (by omega)
      have hcv' := hcv j
      have hbt' := hbt j (by omega)
      rw [← HCV.out] at oC
      have hcve : coverL k (nonB n (j : Int)) (partT t bs j) = cv := HCV.out.symm
      simp only [hcve, ← HNB.out] at hcv' hnc'
      simp only [← HCV.out, ← HTG.out] at hbt'
      simp only [← HiI.out] at hnc' hbt'
      rw [← HCV.out] at HCL
      have HLE : Hid ((L ++ cv) ++ tagB k h F (j : Int) cv = F ++ bodyB k n h F t bs (j + 1)) := hid (by rw [bodyB_succ, HL.out, List.append_assoc, List.append_assoc, HCV.out]; rfl)
      have HLM : Hid (((L ++ cv) ++ tagB k h F (j : Int) cv).map (Value.int .u8) = (L.map (Value.int .u8) ++ cv.map (Value.int .u8)) ++ T) := hid (by rw [List.map_append, List.map_append, HTG.out])
      have hqz : q ≤ z := by omega
      have hzt : z ≤ tn := by omega
      have htp : tn ≤ tp := by have h8 := HTr.len; have h9 := HTN.out; dsimp only at h8; omega
      have hztp : z ≤ tp := by omega
      have hr1 : r ≤ 1000000 := by omega
      have hq1 : q ≤ 1000000 := by omega
      have hj30 : j ≤ 1000000 := by omega
      have hqI : (0 : Int) ≤ (q : Int) := by omega
      clear hnc hcv hbt hcve
      have hwq := wrap_mul HiI.out HbI.out Hq.out hq1
      have hwr := wrap_mul1 HiI.out HbI.out Hr.out hr1
      have hmn := min_cast Hz.out
      go_wp2_with fail
      obtain ⟨ax, HAX⟩ : ∃ ax, Hid (ax = Option.map (fun x => x.add q) ta) := ⟨_, rfl⟩
      have hzq : z - q = pl := Hpl.out.symm
      rw [hzq, ← HAX.out]
      clear hzq
      clear hwq hwr hmn
      refine wp_region_held_drew (S := (fun w' => BlkV 23 w' B K ∧ BlkV 25 w' (B + 1) NV)) (by kernel_rfl) ⟨hAr, hNr⟩ (fun hHeld => ?_)
      obtain ⟨x0, HX⟩ : ∃ x, Hid (x = wr.drew) := ⟨_, rfl⟩
      rw [← HX.out] at hHeld ⊢
      have hA0 : BlkV 23 x0 B K := by rw [HX.out]; exact hAr
      have hN0 : BlkV 25 x0 (B + 1) NV := by rw [HX.out]; exact hNr
      have hF0 : Pt.Ok x0 ⟨some ⟨gf, 0, none⟩, cf, F⟩ := by rw [HX.out]; exact ptDrew hFr
      have hO0 : OutR x0 C gf vo m vc (L.map (Value.int .u8)) := by rw [HX.out]; exact hO
      have bc0 : Below C w1 x0 := by rw [HX.out]; exact hbr.drew
      have bb0 : Below B w x0 := by rw [HX.out]; exact bbr.drew
      have hs0 : C ≤ x0.heap.size := by rw [HX.out]; exact hCr
      have hT0 : Pt.Ok x0 ⟨ta, tp, t⟩ := by rw [HX.out]; exact ptDrew HTr
      have hX0 : Pt.Ok x0 ⟨ax, tp - q, partT t bs j⟩ := by
        have h := ptCut hT0 q z tp hqz (by show z ≤ t.length; rw [← HTN.out]; exact hzt) hztp (Nat.le_refl _)
        rw [if_neg (by omega), Nat.mul_one] at h
        rw [HAX.out, HPT.out, Hpl.out]
        exact h
      clear hT0
      refine tkR 0 rfl (yieldsIf_load_mid (by rfl) 23 _ rfl B 0 rfl K _ (fun w hS => at_range hS.1.at0) huK rfl hiK) (by assumption) ?_
      try simp only [Act.put, sArr, sZ, sS]
      refine tkR 1 rfl (yieldsIf_load_mid (by rfl) 25 _ rfl (B + 1) 0 rfl NV _ (fun w hS => at_range hS.2.at0) huN rfl hiN) (by assumption) ?_
      try simp only [Act.put, sArr, sZ, sS]
      refine tkP 2 rfl (by assumption) ⟨?_, ?_, ?_⟩
      rotate_left
      · intro w hSw; (try dsimp only at hSw); go_simp; (try with_reducible rfl)
      try simp only [Act.put, sArr, sZ, sS]
      refine tkP 4 rfl (by assumption) ⟨?_, ?_, ?_⟩
      rotate_left
      · intro w hSw; (try dsimp only at hSw); go_simp; (try with_reducible rfl)
      try simp only [Act.put, sArr, sZ, sS]
      refine wpAnyH_ready (rs := [3]) (by kernel_rfl) (by simp) (cons_l rfl (fun K' hK' => ?_) AllReadyH.nil)
      rw [if_pos (by rfl)]
      go_simp
      go_at_call 135
      refine ((hnc' x0).out).mono ?_
      rintro e x1 ⟨rfl, hbf1⟩
      have hA1 := hA0.below hbf1 hA0.lt
      have hN1 := hN0.below hbf1 hN0.lt
      have hF1 := hF0.below hbf1
      have hX1 := hX0.below hbf1
      have bb1 := bb0.trans (hbf1.mono (Nat.le_trans (by omega : B ≤ C) hs0))
      have hs1 := Nat.le_trans hs0 hbf1.size
      have hO1 := hO0.below hbf1 (Nat.lt_of_lt_of_le hgfC hs0)
      have bc1 := bc0.trans (hbf1.mono hs0)
      refine hK'.out _ _ ⟨hA1, hN1⟩ (fun hHeld => ?_)
      clear hK' K'
      try simp only [Act.put, sArr, sZ, sS]
      refine wpAnyH_ready (rs := [5]) (by kernel_rfl) (by simp) (cons_l rfl (fun K' hK' => ?_) AllReadyH.nil)
      rw [if_pos (by rfl)]
      go_simp
      go_at_call 134
      refine ((hcv' x1 ax (tp - q) pl HPL.out hX1 hpl1).out).mono ?_
      rintro e x2 ⟨aoc, cc, rfl, hM2, hbf2⟩
      have hA2 := hA1.below hbf2 hA1.lt
      have hN2 := hN1.below hbf2 hN1.lt
      have hF2 := hF1.below hbf2
      have bb2 := bb1.trans (hbf2.mono (Nat.le_trans (by omega : B ≤ C) hs1))
      have hs2 := Nat.le_trans hs1 hbf2.size
      have hO2 := hO1.below hbf2 (Nat.lt_of_lt_of_le hgfC hs1)
      have bc2 := bc1.trans (hbf2.mono hs1)
      obtain ⟨gc, rfl, hgc1, hgc2, hOc2⟩ := Own8.of (hM2.mono hs1) hpl0
      have hV2 := Own8.pt hOc2 HCL.out oC hpl0
      refine hK'.out _ _ ⟨hA2, hN2⟩ (fun hHeld => ?_)
      clear hK' K'
      try simp only [Act.put, sArr, sZ, sS]
      refine tkP 6 rfl (by assumption) ⟨?_, ?_, ?_⟩
      rotate_left
      · intro w hSw; (try dsimp only at hSw); go_simp; (try with_reducible rfl)
      try simp only [Act.put, sArr, sZ, sS]
      refine tkP 7 rfl (by assumption) ⟨?_, ?_, ?_⟩
      rotate_left
      · intro w hSw; (try dsimp only at hSw); go_simp; (try with_reducible rfl)
      try simp only [Act.put, sArr, sZ, sS]
      refine tkP 8 rfl (by assumption) ⟨?_, ?_, ?_⟩
      rotate_left
      · intro w hSw; (try dsimp only at hSw); go_simp; (try with_reducible rfl)
      try simp only [Act.put, sArr, sZ, sS]
      refine tkP 9 rfl (by assumption) ⟨?_, ?_, ?_⟩
      rotate_left
      · intro w hSw; (try dsimp only at hSw); go_simp; (try with_reducible rfl)
      try simp only [Act.put, sArr, sZ, sS]
      refine tkP 10 rfl (by assumption) ⟨?_, ?_, ?_⟩
      rotate_left
      · intro w hSw; (try dsimp only at hSw); go_simp; (try with_reducible rfl)
      try simp only [Act.put, sArr, sZ, sS]
      refine wpAnyH_done (by kernel_rfl) ?_ _
      clear hHeld
      go_wp2_with (first | (refine wl_storeV rfl 105 _ _ rfl 105 g4 rfl T rfl 16 aggTag hTl Y hT4 hYl hTone ?_; intro x5 hT5 hbx5 hsx5; have hV5 := ptBelowC hV4 hbx5 (fun b e => by cases e; show gc < _; have := Hg4.out; have := hV3.lt _ rfl; dsimp only at *; omega); have hO5 := OutR.belowC hO3 (by first | exact hbf4.trans (hbx5.mono (by rw [Hg4.out]; exact Nat.le_refl _)) | exact hbf4) (Nat.lt_of_lt_of_le hgfC hs3); have bc5 := bc4.trans (hbx5.mono hg4); have bb5 := bb4.trans (hbx5.mono (by omega : B ≤ _)); have hs5 : C ≤ x5.heap.size := (by rw [hsx5]; exact hs4); clear hsx5) | (obtain ⟨g4, Hg4, hg4⟩ : ∃ g, Hid (x3.heap.size = g) ∧ C ≤ g := ⟨_, rfl, hs3⟩; refine wl_allocV rfl 105 rfl Y hz16.out g4 Hg4.out ?_; intro x4 hT4 hbx4 hsx4; have hbf4 : Below x3.heap.size x3 x4 := (by rw [Hg4.out]; exact hbx4); have hA4 := hA3.below hbf4 hA3.lt; have hN4 := hN3.below hbf4 hN3.lt; have hF4 := hF3.below hbf4; have hV4 := hV3.below hbf4; have bb4 := bb3.trans (hbf4.mono (Nat.le_trans (by omega : B ≤ C) hs3)); have hs4 := Nat.le_trans hs3 hbf4.size; clear hsx4 hbx4; have hO4 := hO3.below hbf4 (Nat.lt_of_lt_of_le hgfC hs3); have bc4 := bc3.trans (hbf4.mono hs3)) | (go_at_call 136; refine ((hbt' x2 bb2 gf cf gc cc pl HCL.out hpl1 hF2 hV2).out).mono ?_; rintro e x3 ⟨rfl, hbf3⟩; have hA3 := hA2.below hbf3 hA2.lt; have hN3 := hN2.below hbf3 hN2.lt; have hF3 := hF2.below hbf3; have hV3 := hV2.below hbf3; have bb3 := bb2.trans (hbf3.mono (Nat.le_trans (by omega : B ≤ C) hs2)); have hs3 := Nat.le_trans hs2 hbf3.size; have hO3 := hO2.below hbf3 (Nat.lt_of_lt_of_le hgfC hs2); have bc3 := bc2.trans (hbf3.mono hs2)) | (refine wl_load rfl 23 _ rfl ⟨B, 0, none⟩ rfl K (by rw [hKl]; exact aggKey) hA2.at0 ?_))
      refine wp_region_held_drew (S := (fun _ => True)) (by kernel_rfl) trivial (fun hHeld => ?_)
      obtain ⟨x6, HX2⟩ : ∃ x, Hid (x = x5.drew) := ⟨_, rfl⟩
      rw [← HX2.out]
      have hT6 : BlkV 105 x6 g4 T := by rw [HX2.out]; exact hT5
      have hV6 : Pt.Ok x6 ⟨some ⟨gc, 0, none⟩, cc, cv⟩ := by rw [HX2.out]; exact ptDrew hV5
      have hO6 : OutR x6 C gf vo m vc (L.map (Value.int .u8)) := by rw [HX2.out]; exact hO5
      have bc6 : Below C w1 x6 := by rw [HX2.out]; exact bc5.drew
      have hs6 : C ≤ x6.heap.size := by rw [HX2.out]; exact hs5
      refine tkP 0 rfl (by assumption) ⟨?_, ?_, ?_⟩
      rotate_left
      · intro w hSw; (try dsimp only at hSw); go_simp; (try with_reducible rfl)
      try simp only [Act.put, sArr, sZ, sS]
      refine tkP 1 rfl (by assumption) ⟨?_, ?_, ?_⟩
      rotate_left
      · intro w hSw; (try dsimp only at hSw); go_simp; (try with_reducible rfl)
      try simp only [Act.put, sArr, sZ, sS]
      refine tkP 3 rfl (by assumption) ⟨?_, ?_, ?_⟩
      rotate_left
      · intro w hSw; (try dsimp only at hSw); go_simp; (try with_reducible rfl)
      try simp only [Act.put, sArr, sZ, sS]
      refine wpAnyH_ready (rs := [2]) (by kernel_rfl) (by simp) (cons_l rfl (fun K' hK' => ?_) AllReadyH.nil)
      refine step_appendO rfl _ _ rfl C gf vo m vc _ rfl hO6 ⟨gc, 0, none⟩ pl cc rfl (cv.map (Value.int .u8)) (by rw [List.length_map, ← HCL.out, Nat.mul_one]) hV6.row.v (ptAt hV6) (ints_one _ _) hpl0 (by omega) hs6 (m + pl) rfl ?_
      intro ao8 c8 x7 row8 hc8 hM7 hgx7 hr8
      have hT7 := hT6.grown hgx7 (by intro e; have h8 := OutR.lt hO3 (by omega) (Nat.lt_of_lt_of_le hgfC hs3) _ (hr8 _ e).2; have h9 := Hg4.out; omega)
      have bc7 := bc6.grown hgx7 hs6 (fun k hk => (hr8 k hk).1)
      have hs7 : C ≤ x7.heap.size := Nat.le_trans hs6 hgx7.size
      refine hK'.out _ _ trivial (fun hHeld => ?_)
      clear hK' K'
      try simp only [Act.put, sArr, sZ, sS]
      refine wpAnyH_ready (rs := [4]) (by kernel_rfl) (by simp) (cons_l rfl (fun K' hK' => ?_) AllReadyH.nil)
      refine step_appendS rfl _ _ 69 rfl 5 (.int .u8 0) 1 1 Try.underlying69 info8 rfl (by decide) C _ (m + pl) _ rfl hM7 (some ⟨g4, 0, none⟩) 16 16 rfl (fun h => by cases h) T (by rw [hTl]) (at_row hT7.lt hT7.at0) hTone (by unfold maxLen; omega) (by omega) hs7 (m + pl + 16) rfl ?_
      intro ao9 c9 x8 row9 hc9 hM9 hv9 hgx8 hr9
      have bb9 := bc7.grown hgx8 hs7 (fun k hk => (hr9 k hk).1)
      refine hK'.out _ _ trivial (fun hHeld => ?_)
      clear hK' K'
      try simp only [Act.put, sArr, sZ, sS]
      refine tkP 5 rfl (by assumption) ⟨?_, ?_, ?_⟩
      rotate_left
      · intro w hSw; (try dsimp only at hSw); go_simp; (try with_reducible rfl)
      try simp only [Act.put, sArr, sZ, sS]
      refine wpAnyH_done (by kernel_rfl) ?_ _
      clear hHeld
      go_wp2_with fail
      
      go_roundw
      case rel => exact ⟨j + 1, m + pl + 16, c9, iI + 1, ao9, (L ++ cv) ++ tagB k h F (j : Int) cv, by first | rfl | go_num, by show iI + 1 = ((j + 1 : Nat) : Int); rw [HiI.out]; simp, rfl, HLE.out, by show _ = _; rw [List.length_append, List.length_append, tagB_length, ← HCL.out, HLm.out], Or.inl (by rw [HLM.out]; exact hM9), octs_app (octs_app oL oC) (tagB_octs _ _ _ _ _), by omega, by omega, by omega, Or.inr (by rw [← Hr.out]; omega), bb9⟩
      case measure => simp [intOf] <;> omega
    · have hltI : ¬ (q : Int) < (tn : Int) := by omega
      have hq1 : q ≤ 1000000 := by omega
      have hmany : manyT t.length bs = j := many_of (Nat.lt_of_lt_of_le (by decide) h1) (by rw [← HTN.out, ← Hq.out]; omega) (by rw [← HTN.out]; exact hJ.out)
      have hE : Hid (L = sealT k n h t bs) := hid (by unfold sealT; rw [HL.out, hmany, ← HF.out])
      clear hmany
      have hwq := wrap_mul HiI.out HbI.out Hq.out hq1
      go_wp2_with fail
      clear hwq
      go_ret2
      rw [hE.out] at hO HLm oL
      have hB2 : B ≤ C := by omega
      rcases hO with hO | ⟨rfl, rfl, e3, e4⟩
      · obtain ⟨g, rfl, hg1, hg2, hO8⟩ := Own8.of hO (by omega)
        exact ⟨g, vc, m, rfl, HLm.out.symm, Own8.pt hO8 HLm.out.symm oL (by omega), by omega, by omega, hm32, by first | exact bbr | (rw [hsz]; exact bbr)⟩
      · exact ⟨gf, _, _, rfl, HLm.out.symm, ⟨at_rowI (by omega) e4, by show _ ≤ _; rw [HLm.out]; exact Nat.le_refl _, by show vc ≤ maxLen; unfold maxLen; omega, oL, fun b e => by cases e; show gf < _; omega⟩, by omega, by omega, hm32, by first | exact bbr | (rw [hsz]; exact bbr)⟩
end Go.Proofs.Ytbljihhelladbaa.wr
