/-
  Contract of share.Mend: the walk. Conditions: a list of shares of the type's form that lies in memory. What keyref2.MendOf's choice needs: slices.Clone at shares, a slice literal of one share in a drawn region; the choice itself, plain. Conditions: shares of the type's form. Contract of the choice in keyref2.MendOf, where enough shares are chosen. Conditions: shares of the type's form, at most 7. Contract of wrap.Read. Conditions: a slice of octets that lies in memory. FaultsAreFound, plain: what Mend answers is what the choice answers. Conditions: good shares. Octets in order: bytes.Compare and slices.Compare answer by the first octet that differs. Conditions: slices of octets. Slices of holders: what lies there, the argument opened; contract of keyref2.HoldersError. Conditions: holders of 16 octets.
-/
import Derived.Test.YtbjmadcbhkeenaaSGsI
import Derived.Test.YtbjmadcbhkeenaaSNmX
import Derived.Test.YtbjmadcbhkeenaaSShQ
import Derived.Test.YtbjmadcbhkeenaaSShM
import Derived.Test.YtbjmadcbhkeenaaSHld
import Derived.Test.YtbjmadcbhkeenaaSMkX
import Derived.Test.YtbjmadcbhkeenaaSGsB
import Derived.Test.YtbjmadcbhkeenaaSEqA
import Derived.WideMake
import Derived.Lib.BytesEntry
import Derived.Laws.Externs
import Derived.StillTailTactics
namespace Go.Proofs.Ytbjmadcbhkeenaa.gs
open Go.RowKit Go.Proofs.Ytbjmadcbhkeenaa.Fld Go.Proofs.Ytbjmadcbhkeenaa.sh Go.Proofs.Ytbjmadcbhkeenaa.shr Go.Proofs.Ytbjmadcbhkeenaa.slInt
set_option linter.unusedSimpArgs false
set_option linter.unusedVariables false
set_option pp.maxSteps 6000
set_option maxRecDepth 100000 in
set_option maxHeartbeats 1000000 in
theorem Mend_any (need : Int) (ao : Option Addr) (cap n : Nat) (l : List Sh) (w : World) (hnl : n = l.length) (hr : RowS w ao l) (hok : ∀ s ∈ l, s.Ok) (hn : n ≤ 9223372036854775807) :
    Calls Try.prog 12 #[.int .i64 need, .slice ao n cap] w (MendPost need l w) := by
  obtain ⟨B, HB⟩ : ∃ B, Hid (B = w.heap.size) := ⟨_, rfl⟩
  have hsz : w.heap.size = B := HB.out.symm
  have HOK := hid hok
  have HNL := hid hnl
  clear hok
  obtain ⟨Z, HZ⟩ : ∃ Z, Hid (Z = zero32) := ⟨_, rfl⟩
  have HZ0 := hid zeroKey
  rw [← HZ.out] at HZ0
  have hZl : Z.length = 32 := by rw [HZ.out]; rfl
  have hZ1 : ∀ u ∈ Z, u.oneCell' = true := by rw [HZ.out]; exact ints_one _ _
  have HBU : Hid ((Try.prog.built 23 []) = some Z.toArray) := hid (by rw [HZ.out]; kernel_rfl)
  obtain ⟨E, HE⟩ : ∃ E, Hid (E = sharesE false need l) := ⟨_, rfl⟩
  have HC := fun (z : World) (hz : Below B w z) => hid (CheckShares_any need ao cap l z (hr.below (hsz ▸ hz)) HOK.out (by omega))
  rw [← HNL.out, ← HE.out] at HC
  clear hnl
  by_cases hE : E = 0
  · obtain ⟨m, rfl, hm1, hml, hl32, hea⟩ := sharesE_ok (by rw [← HE.out]; exact hE)
    rw [← HNL.out] at hml hl32
    have hg := good_of l HOK.out hea
    have hE' : (E != 0) = false := by simp [hE]
    obtain ⟨wg, HWG⟩ : ∃ wg, Hid (wg = (n - m) / 2) := ⟨_, rfl⟩
    have hdv : ((n : Int) - (m : Int)).tdiv 2 = (wg : Int) := by
      rw [Int.tdiv_eq_ediv_of_nonneg (by omega), HWG.out]; omega
    have hwg : m + 2 * wg ≤ n := by rw [HWG.out]; omega
    obtain ⟨NS, HNS⟩ : ∃ V, Hid (V = noSlices) := ⟨_, rfl⟩
    have HNS0 := hid zeroP
    rw [← HNS.out] at HNS0
    have hNSl : NS.length = 32 := by rw [HNS.out]; rfl
    have hNS1 : ∀ u ∈ NS, u.oneCell' = true := by rw [HNS.out]; intro u hu; rw [List.eq_of_mem_replicate hu]; rfl
    obtain ⟨F, HF⟩ : ∃ F, Hid (F = mendF m l) := ⟨_, rfl⟩
    have hpt := fun (z : World) (hz : Below B w z) (o : Nat) (ho : o < 32) => hid (points_any ao cap n l o z HNL.out (hr.below (hsz ▸ hz)) HOK.out (by rw [← HNL.out]; omega) ho)
    have hmd := fun (z : World) (o : Nat) (ax ay : Option Addr) (cx cy : Nat) (hX : RowI .i64 z ax (xsOf l)) (hY : RowI .i64 z ay (ysOf l o)) => hid (mended_any m wg n cx cy (xsOf l) (ysOf l o) ax ay z (by rw [xsOf_length]; exact HNL.out) (by rw [ysOf_length]; exact HNL.out) hm1 hwg (by omega) hg.rx (hg.ry o) hX hY)
    have HPM : Hid (∀ o, mendL m wg (xsOf l) (ysOf l o) = polyM m l o) := hid (fun o => by unfold polyM; rw [← HNL.out, ← HWG.out])
    have HME : Hid (mendE (m : Int) l = if allM m l 32 = false then 20 else if wg < (liarsF F l).length then 20 else keyE F) := hid (by unfold mendE; rw [← HE.out, if_neg (fun h => h hE), Int.toNat_natCast, ← HNL.out, ← HWG.out, HF.out])
    clear hE hea
    go_enter Try.func12, Try.ntmps12
    go_wp2_with (first | (refine wl_allocV rfl 60 rfl NS HNS0.out w1.heap.size rfl ?_; intro w2 hP2 hb2 hs2) | (go_at_call 27; refine (HC w0 hb0).out.mono ?_; rintro e w1 ⟨rfl, hb1⟩; have hR1 := hR0.below hb1 hR0.lt; have hbw1 := hb0.trans (hb1.mono (by omega)); clear hR0) | (refine wl_allocV rfl 23 rfl Z HZ0.out B hsz ?_; intro w0 hR0 hb0 hs0))
    obtain ⟨G, HG⟩ : ∃ G, Hid (G = w1.heap.size) := ⟨_, rfl⟩
    rw [← HG.out] at hP2 hb2 hs2 ⊢
    have hBG : B + 1 ≤ G := by rw [HG.out]; exact hR1.lt
    have hR2 := hR1.below hb2 (by omega)
    have hbw2 : Below B w w2 := hbw1.trans (hb2.mono (by omega))
    clear hb1 hb2 hR1 hb0 hbw1
    go_loopw [32] (fun i wk => ∃ (k : Nat) (ps : List Value), k ≤ 32 ∧ i = .int .i64 k ∧ Hid (allM m l k = true) ∧ BlkV 23 wk B Z ∧ BlkV 60 wk G ps ∧ PolysTo G wk m F ps k ∧ Below B w wk) (fun i _ => 32 - (intOf i).toNat)
    case atStart => exact ⟨0, NS, by omega, rfl, rfl, hR2, hP2, ⟨hNSl, hNS1, fun o ho => absurd ho (Nat.not_lt_zero o)⟩, hbw2⟩
    case round =>
      clear hR2 hP2 hbw2
      obtain ⟨k, ps, hk, rfl, HA, hR, hPb, hPT, hb⟩ := hrel
      rename World => wk
      by_cases hk32 : k < 32
      · have hkI : (k : Int) < 32 := by omega
        have hk0 : (0 : Int) ≤ (k : Int) := by omega
        have HPL := hid hPT.len
        have hGk : G < wk.heap.size := hPb.lt
        go_wp2_with (first | (go_at_call 30; refine (hpt wk hb k hk32).out.mono ?_; rintro e w3 ⟨ax, cx, ay, cy, rfl, hcx, hcy, hX, hY, hAp, hb3⟩))
        have hX' := row_of_owns hX
        have hY' := row_of_owns hY
        have hs3 := hb3.size
        have hR3 := hR.below hb3 hR.lt
        have hPb3 := hPb.below hb3 hPb.lt
        have hPT3 := hPT.keep (fun g _ h2 => hb3.block g h2)
        have hbw3 : Below B w w3 := hb.trans (hb3.mono (by omega))
        clear hR hPb hPT hb hX hY hAp
        refine (hmd w3 k ax ay cx cy hX' hY').out.mono ?_
        rintro e w4 ⟨hb4, ⟨HN, v, rfl⟩ | ⟨p, g, c, n', HS, rfl, hn', hc', hg', hR'⟩⟩
        · have hR4 := hR3.below hb4 hR3.lt
          have hbw4 : Below B w w4 := hbw3.trans (hb4.mono (by omega))
          have HER : Hid (mendE (m : Int) l = 20) := hid (by rw [HME.out, if_pos (allM_none hk32 (by rw [← HPM.out]; exact HN))])
          clear HN hR3 hPb3 hPT3 hbw3
          go_wp2_with (first | (refine wl_storeV rfl 23 _ _ rfl 23 B rfl Z rfl 32 aggKey hZl Z hR4 hZl hZ1 ?_; intro wS hS hbS hsS) | (refine wl_build0 rfl 23 rfl Z HBU.out ?_))
          (try simp only [Exit.inBlock, Exit.then]); refine bodyPost_ret (results_c3 rfl _ _ _ _ rfl Z (by rw [hZl]; exact aggKey) hS.at0) rfl ?_
          exact MendPost.err HER.out (by decide) HZ.out (by rw [hsz]; exact hbw4.trans (hbS.mono (Nat.le_refl _))) rfl
        · have HPK : Hid (polyM m l k = some p) := hid (by rw [← HPM.out]; exact HS)
          obtain ⟨e1, e2, e3⟩ := mendF_len hm1 HPK.out
          obtain rfl : n' = m := by rw [hn', e2]
          have hR4 := hR3.below hb4 hR3.lt
          have hPb4 := hPb3.below hb4 hPb3.lt
          have hPT4 := hPT3.keep (fun g _ h2 => hb4.block g h2)
          have hbw4 : Below B w w4 := hbw3.trans (hb4.mono (by omega))
          have HFk : Hid (F k = p) := hid (by rw [HF.out]; exact e1)
          have hgG : G < g := by omega
          clear hR3 hPb3 hPT3 hbw3 hn' HS
          go_wp2_with (refine wl_setV rfl 24 _ _ rfl 60 G k rfl (.slice (some ⟨g, 0, none⟩) n' c) rfl rfl rfl sizeSl ps hPb4 (by rw [HPL.out]; exact hk32) ?_; intro w5 hPb5 hg5 hs5)
          go_roundw
          case rel =>
            have hPT5 : PolysTo G w5 n' F (ps.set k (.slice (some ⟨g, 0, none⟩) n' c)) (k + 1) := (hPT4.put hk32 hgG (by rw [HFk.out]; exact hR')).keep (fun a ha hl => hg5.block a hl (fun e => by cases e; omega))
            exact ⟨k + 1, _, by omega, by go_num, by show _ = _; rw [allM_succ, HA.out, HPK.out]; rfl, hR4.grown hg5 (fun e => by cases e; omega), hPb5, hPT5, hbw4.trans (below_of_grown hg5 (by have := hbw4.size; omega) (by omega))⟩
          case measure => simp [intOf] <;> omega
      · obtain rfl : k = 32 := by omega
        rw [show ((32 : Nat) : Int) = (32 : Int) from rfl]
        have HPF : PolysF wk m F ps := hPT.all (fun o ho => by obtain ⟨p, hp⟩ := allM_mono HA.out ho; rw [HF.out, (mendF_len hm1 hp).1]; exact (mendF_len hm1 hp).2.1.symm) (fun o ho => by obtain ⟨p, hp⟩ := allM_mono HA.out ho; rw [HF.out, (mendF_len hm1 hp).1]; exact (mendF_len hm1 hp).2.2)
        have HPL := hid hPT.len
        have hps1 := hPT.one
        have hr2 := hr.below (hsz ▸ hb)
        obtain ⟨Gz, HGz⟩ : ∃ Gz, Hid (Gz = wk.heap.size) := ⟨_, rfl⟩
        have hGz : G < Gz := by rw [HGz.out]; exact hPb.lt
        have HM2 : Hid (mendE (m : Int) l = if wg < (liarsF F l).length then 20 else keyE F) := hid (by rw [HME.out, HA.out, if_neg (by decide)])
        have hli := fun (z : World) (hz : Below Gz wk z) (s : Sh) (hs : s.Ok) (hx : 0 ≤ s.x ∧ s.x ≤ 256) => hid (lies_F ps m F s z (HPF.below (HGz.out ▸ hz)) (by omega) hs hx)
        have hsd := fun (z : World) (hz : Below Gz wk z) => hid (said_F ps m F z (HPF.below (HGz.out ▸ hz)) (by omega))
        clear hPT HPF
        go_wp2_with fail
        go_loopw [15, 58] (fun v i wr => ∃ (k j : Nat) (pa : Option Addr) (pc : Nat) (bs : List Sh), k ≤ n ∧ i = .int .i64 k ∧ v = .slice pa j pc ∧ j ≤ k ∧ Hid (bs.length = j) ∧ Hid (bs = liarsF F (l.take k)) ∧ Mine wr Gz 28 16 (.slice pa j pc) j (flatID bs) ∧ Below Gz wk wr) (fun _ i _ => n - (intOf i).toNat)
        case atStart => exact ⟨0, 0, none, 0, [], by omega, rfl, rfl, by omega, rfl, rfl, Mine.nil _ _ _ _, Below.refl _ _⟩
        case round =>
          obtain ⟨k, j, pa, pc, bs, hk', rfl, rfl, hjk, HBL, HBS, hM, hbz⟩ := hrel
          by_cases h0 : k < n
          · have hkI : (k : Int) < (n : Int) := by omega
            have hk0 : (0 : Int) ≤ (k : Int) := by omega
            have hrr := hr2.below (HGz.out ▸ hbz)
            obtain ⟨b, off, s, rfl, hbb, HSs, hat⟩ := hrr.elem (i := k) (by rw [← HNL.out]; exact h0)
            have hs : s.Ok := by rw [HSs.out]; exact HOK.out _ (getD_mem l k (by rw [← HNL.out]; exact h0))
            have HCL := hid hs.csl
            have c1 := cs_one s
            have hsx : 0 ≤ s.x ∧ s.x ≤ 256 := by
              have := hg.rx.getD k
              rw [xsOf_getD l k (by rw [← HNL.out]; exact h0), ← HSs.out] at this
              exact this
            obtain ⟨M, HMm⟩ : ∃ M, Hid (wr.heap.size = M) := ⟨_, rfl⟩
            have hGM : Gz ≤ M := by rw [← HMm.out, HGz.out]; exact hbz.size
            have hPr := hPb.below hbz hGz
            have hPa := hPr.at0
            obtain ⟨SH, HSH⟩ : ∃ V, Hid (V = s.h.map (Value.int .u8)) := ⟨_, rfl⟩
            have hSHl : SH.length = 16 := by rw [HSH.out, List.length_map]; exact hs.hl
            have hSH1 : ∀ u ∈ SH, u.oneCell' = true := by rw [HSH.out]; exact ints_one _ _
            have HSa : Hid (∀ w (hC : BlkV 41 w M s.cs), At w ⟨M, 0, none⟩ SH) := hid (fun w hC => by rw [HSH.out]; exact at_h hs hC)
            have HSU := hid (liarsF_succ F l k (by rw [← HNL.out]; exact h0))
            rw [← HBS.out, ← HSs.out] at HSU
            obtain ⟨q, HQ⟩ : ∃ q, Hid (q = liesF F s) := ⟨_, rfl⟩
            rw [← HQ.out] at HSU
            have hlq := fun (z : World) (hz : Below Gz wk z) => hid ((hli z hz s hs hsx).out)
            rw [← HQ.out] at hlq
            cases q with
            | true =>
              rw [if_pos rfl, List.append_nil] at HSU
              go_wp2_with (first | (go_at_call 25; refine (hlq wC hbzC).out.mono ?_; rintro e wD ⟨rfl, hbD⟩; have hMD := hMC.belowAll hbD; have hCD := hC.below hbD hC.lt; have hbzD : Below Gz wk wD := hbzC.trans (hbD.mono (by have := hC.lt; omega)); clear hMC hC hbzC) | (refine wl_load rfl 41 _ rfl ⟨M, 0, none⟩ rfl s.cs (by rw [HCL.out]; exact aggS) hCa ?_; clear hCa) | (refine wl_load rfl 60 _ rfl ⟨G, 0, none⟩ rfl ps (by rw [HPL.out]; exact aggP) hPCa ?_; clear hPCa) | (refine wl_storeV rfl 41 _ _ rfl 41 M rfl s.cs rfl 49 aggS HCL.out sh0.cs hA sh0_len c1 ?_; intro wC hC hbC hsC; have hbC' := hbA.trans hbC; have hPC := hPr.below hbC' (by omega); have hPCa := hPC.at0; have hbzC : Below Gz wk wC := hbz.trans (hbC'.mono hGM); have hMC := hM.belowAll (HMm.out ▸ hbC'); have hCa := hC.at0; clear hA hbA hbC hsA hbz hM hPr hPa) | (refine wl_allocV rfl 41 rfl sh0.cs sh0_zero M HMm.out ?_; intro wA hA hbA hsA) | (refine wl_load rfl 41 _ rfl ⟨b, off + k * 49, none⟩ rfl s.cs (by rw [HCL.out]; exact aggS) hat ?_; clear hat))
              go_roundw
              case rel =>
                exact ⟨k + 1, j, pa, pc, bs, by omega, by go_num, rfl, by omega, HBL, hid HSU.out.symm, hMD, hbzD⟩
              case measure => simp [intOf] <;> omega
            | false =>
              rw [if_neg (by decide)] at HSU
              go_wp2_with (first | (at_builtin; refine wl_appendS rfl _ _ 26 rfl 28 (.agg idZ.toArray) 16 16 Try.underlying26 infoI (by simp [idZ, Value.cells]) (by decide) Gz (.slice pa j pc) j (flatID bs) rfl hME (some ⟨wD.heap.size, 0, none⟩) 1 1 rfl (fun h => by cases h) SH hSHl (RowB.row (t := 28) ⟨SH, hE2, by rw [List.take_length]⟩) hSH1 (by unfold maxLen; omega) (by omega) hsE' (j + 1) rfl ?_; intro pb pd w8 row8 hc8 hM8 hr8 hg8 hw8) | (refine wl_slice1 rfl 26 28 _ rfl Try.underlying26 16 idZ (by kernel_rfl) (by simp [idZ]) (by decide) (by decide) SH rfl hSHl wD.heap.size rfl ?_; intro wE hE2 hbE hsE; have hME := hMD.belowAll hbE; have hbzE : Below Gz wk wE := hbzD.trans (hbE.mono (by have := hbzD.size; have := HGz.out; omega)); have hsE' : Gz ≤ wE.heap.size := (by have := hbzE.size; have := HGz.out; omega); clear hMD hbzD) | (refine wl_load rfl 28 _ rfl ⟨M, 0, none⟩ rfl SH (by rw [hSHl]; exact aggI) (HSa.out _ hCD) ?_) | (go_at_call 25; refine (hlq wC hbzC).out.mono ?_; rintro e wD ⟨rfl, hbD⟩; have hMD := hMC.belowAll hbD; have hCD := hC.below hbD hC.lt; have hbzD : Below Gz wk wD := hbzC.trans (hbD.mono (by have := hC.lt; omega)); clear hMC hC hbzC) | (refine wl_load rfl 41 _ rfl ⟨M, 0, none⟩ rfl s.cs (by rw [HCL.out]; exact aggS) hCa ?_; clear hCa) | (refine wl_load rfl 60 _ rfl ⟨G, 0, none⟩ rfl ps (by rw [HPL.out]; exact aggP) hPCa ?_; clear hPCa) | (refine wl_storeV rfl 41 _ _ rfl 41 M rfl s.cs rfl 49 aggS HCL.out sh0.cs hA sh0_len c1 ?_; intro wC hC hbC hsC; have hbC' := hbA.trans hbC; have hPC := hPr.below hbC' (by omega); have hPCa := hPC.at0; have hbzC : Below Gz wk wC := hbz.trans (hbC'.mono hGM); have hMC := hM.belowAll (HMm.out ▸ hbC'); have hCa := hC.at0; clear hA hbA hbC hsA hbz hM hPr hPa) | (refine wl_allocV rfl 41 rfl sh0.cs sh0_zero M HMm.out ?_; intro wA hA hbA hsA) | (refine wl_load rfl 41 _ rfl ⟨b, off + k * 49, none⟩ rfl s.cs (by rw [HCL.out]; exact aggS) hat ?_; clear hat))
              have hb8 : Below Gz wk w8 := hbzE.grown hg8 hsE' (fun k hk => (hw8 k hk).1)
              go_roundw
              case rel => exact ⟨k + 1, j + 1, pb, pd, bs ++ [s], by omega, by go_num, rfl, by omega, hid (by rw [List.length_append, HBL.out]; rfl), hid HSU.out.symm, by rw [flatID_snoc, ← HSH.out]; exact hM8, hb8⟩
              case measure => simp [intOf] <;> omega
          · obtain rfl : n = k := by omega
            rw [List.take_of_length_le (by rw [← HNL.out]; omega)] at HBS
            have hRr := hR.below hbz (by omega)
            have hbwr : Below B w wr := hb.trans (hbz.mono (by omega))
            rw [← HBS.out, HBL.out] at HM2
            have hjw0 : (0 : Int) ≤ (j : Int) := by omega
            by_cases hjw : wg < j
            · have hjI : (wg : Int) < (j : Int) := by omega
              have HER : Hid (mendE (m : Int) l = 20) := hid (by rw [HM2.out, if_pos hjw])
              clear hM
              go_wp2_with (first | (refine wl_storeV rfl 23 _ _ rfl 23 B rfl Z rfl 32 aggKey hZl Z hRr hZl hZ1 ?_; intro wS hS hbS hsS) | (refine wl_build0 rfl 23 rfl Z HBU.out ?_))
              (try simp only [Exit.inBlock, Exit.then]); refine bodyPost_ret (results_c3 rfl _ _ _ _ rfl Z (by rw [hZl]; exact aggKey) hS.at0) rfl ?_
              exact MendPost.err HER.out (by decide) HZ.out (by rw [hsz]; exact hbwr.trans (hbS.mono (Nat.le_refl _))) rfl
            · have hjI : ¬ (wg : Int) < (j : Int) := by omega
              rw [if_neg hjw] at HM2
              obtain ⟨KE, HKE⟩ : ∃ e, Hid (e = keyE F) := ⟨_, rfl⟩
              obtain ⟨KV, HKV⟩ : ∃ V, Hid (V = (keyF F).map (Value.int .u8)) := ⟨_, rfl⟩
              have hKVl : KV.length = 32 := by rw [HKV.out, List.length_map, keyF_length]
              have hKV1 : ∀ u ∈ KV, u.oneCell' = true := by rw [HKV.out]; exact ints_one _ _
              have hsd' := hid ((hsd wr hbz).out)
              rw [← HKE.out, ← HKV.out] at hsd'
              rw [← HKE.out] at HM2
              have hPa := (hPb.below hbz hGz).at0
              by_cases hk0 : KE = 0
              · have hkb : (KE != 0) = false := by simp [hk0]
                have HK0 := hid hk0
                clear hk0
                go_wp2_with (first | (refine wl_storeW rfl 23 _ _ rfl 23 B rfl KV rfl 32 aggKey hKVl Z hR4 hZl hKV1 ?_; intro wS hS hbS hgS hsS) | (refine wl_load rfl 23 _ rfl ⟨w3.heap.size, 0, none⟩ rfl KV (by rw [hKVl]; exact aggKey) hCa ?_; clear hCa) | (refine wl_storeV rfl 23 _ _ rfl 23 w3.heap.size rfl KV rfl 32 aggKey hKVl Z hA hZl hKV1 ?_; intro w4 hC4 hb4 hs4; have hbC4 := hbA.trans hb4; have hR4 := hR3.below hbC4 hB3; have hM4 := hM3.belowAll hbC4; have hbw4 : Below B w w4 := hbw3.trans (hbC4.mono (by omega)); have hG4 : Gz ≤ w4.heap.size := (by have := hbC4.size; omega); have hCa := hC4.at0; clear hR3 hM3 hbw3 hA hbA) | (refine wl_allocV rfl 23 rfl Z HZ0.out w3.heap.size rfl ?_; intro wA hA hbA hsA) | (go_at_call 28; refine hsd'.out.mono ?_; rintro e w3 ⟨rfl, hb3⟩; have hR3 := hRr.below hb3 hRr.lt; have hM3 := hM.belowAll hb3; have hbw3 : Below B w w3 := hbwr.trans (hb3.mono (by have := hbwr.size; omega)); have hB3 : B < w3.heap.size := hR3.lt; have hG3 : Gz ≤ w3.heap.size := (by have := hb3.size; have := hbz.size; have := HGz.out; omega); clear hRr hM hbwr) | (refine wl_load rfl 60 _ rfl ⟨G, 0, none⟩ rfl ps (by rw [HPL.out]; exact aggP) hPa ?_; clear hPa))
                (try simp only [Exit.inBlock, Exit.then]); refine bodyPost_ret (results_c3 rfl _ _ _ _ rfl KV (by rw [hKVl]; exact aggKey) hS.at0) rfl ?_
                have hE0 : mendE (m : Int) l = 0 := by rw [HM2.out, HK0.out]
                refine ⟨by rw [hsz]; exact hbw4.trans (hbS.mono (Nat.le_refl _)), .slice pa j pc, ?_, ?_⟩
                · unfold mendK
                  rw [hE0, if_pos rfl, Int.toNat_natCast, ← HF.out, ← HKV.out]; rfl
                · unfold mendB
                  rw [if_pos hE0, Int.toNat_natCast, ← HF.out, ← HBS.out, HBL.out]
                  exact (mine_keep hM4 (fun g h1 h2 => hgS.block g h2 (fun e => by cases e; omega))).mono (by rw [hsz]; omega)
              · have hkb : (KE != 0) = true := by simp [hk0]
                have HK0 := hid hk0
                clear hk0
                go_wp2_with (first | (refine wl_storeV rfl 23 _ _ rfl 23 B rfl Z rfl 32 aggKey hZl Z hR4 hZl hZ1 ?_; intro wS hS hbS hsS) | (refine wl_build0 rfl 23 rfl Z HBU.out ?_) | (refine wl_storeV rfl 23 _ _ rfl 23 w3.heap.size rfl KV rfl 32 aggKey hKVl Z hA hZl hKV1 ?_; intro w4 hC4 hb4 hs4; have hbC4 := hbA.trans hb4; have hR4 := hR3.below hbC4 hB3; have hM4 := hM3.belowAll hbC4; have hbw4 : Below B w w4 := hbw3.trans (hbC4.mono (by omega)); have hG4 : Gz ≤ w4.heap.size := (by have := hbC4.size; omega); have hCa := hC4.at0; clear hR3 hM3 hbw3 hA hbA) | (refine wl_allocV rfl 23 rfl Z HZ0.out w3.heap.size rfl ?_; intro wA hA hbA hsA) | (go_at_call 28; refine hsd'.out.mono ?_; rintro e w3 ⟨rfl, hb3⟩; have hR3 := hRr.below hb3 hRr.lt; have hM3 := hM.belowAll hb3; have hbw3 : Below B w w3 := hbwr.trans (hb3.mono (by have := hbwr.size; omega)); have hB3 : B < w3.heap.size := hR3.lt; have hG3 : Gz ≤ w3.heap.size := (by have := hb3.size; have := hbz.size; have := HGz.out; omega); clear hRr hM hbwr) | (refine wl_load rfl 60 _ rfl ⟨G, 0, none⟩ rfl ps (by rw [HPL.out]; exact aggP) hPa ?_; clear hPa))
                (try simp only [Exit.inBlock, Exit.then]); refine bodyPost_ret (results_c3 rfl _ _ _ _ rfl Z (by rw [hZl]; exact aggKey) hS.at0) rfl ?_
                exact MendPost.err HM2.out HK0.out HZ.out (by rw [hsz]; exact hbw4.trans (hbS.mono (Nat.le_refl _))) rfl
  · have hE' : (E != 0) = true := by simp [hE]
    have HER : Hid (mendE need l = E) := hid (by unfold mendE; rw [← HE.out, if_pos hE])
    have HNE := hid hE
    clear hE
    go_enter Try.func12, Try.ntmps12
    go_wp2_with (first | (refine wl_storeV rfl 23 _ _ rfl 23 B rfl Z rfl 32 aggKey hZl Z hR1 hZl hZ1 ?_; intro wS hS hbS hsS) | (refine wl_build0 rfl 23 rfl Z HBU.out ?_) | (go_at_call 27; refine (HC w0 hb0).out.mono ?_; rintro e w1 ⟨rfl, hb1⟩; have hR1 := hR0.below hb1 hR0.lt; have hbw1 := hb0.trans (hb1.mono (by omega)); clear hR0) | (refine wl_allocV rfl 23 rfl Z HZ0.out B hsz ?_; intro w0 hR0 hb0 hs0))
    (try simp only [Exit.inBlock, Exit.then]); refine bodyPost_ret (results_c3 rfl _ _ _ _ rfl Z (by rw [hZl]; exact aggKey) hS.at0) rfl ?_
    exact MendPost.err HER.out HNE.out HZ.out (by rw [hsz]; exact hbw1.trans (hbS.mono (Nat.le_refl _))) rfl
end Go.Proofs.Ytbjmadcbhkeenaa.gs
namespace Go.Proofs.Ytbjmadcbhkeenaa.gs
open Go.RowKit Go.Proofs.Ytbjmadcbhkeenaa.Fld Go.Proofs.Ytbjmadcbhkeenaa.sh Go.Proofs.Ytbjmadcbhkeenaa.shr Go.Proofs.Ytbjmadcbhkeenaa.slInt
set_option linter.unusedSimpArgs false
set_option linter.unusedVariables false
set_option pp.maxSteps 6000
theorem CloneS_any (ao : Option Addr) (n cap : Nat) (l : List Sh) (w : World) (hn : n = l.length) (hr : RowS w ao l) (hok : ∀ s ∈ l, s.Ok) (hno : ao = none → cap = 0 ∧ n = 0) (hb : n ≤ 1099511627776) :
    Calls Try.prog 10 #[.slice ao n cap] w fun e w' => ∃ v, e = .returned v ∧ Mine w' w.heap.size 41 49 v n (flatS l) ∧ Below w.heap.size w w' := by
  have hq := fun w => Lib.run_eql_slice_nil (P := Try.prog) w 29 41 ao n cap 0 0 Try.underlying29
  have hL := hid hn; clear hn
  have HOK := hid hok; clear hok
  cases ao with
  | none =>
    obtain ⟨rfl, rfl⟩ := hno rfl
    obtain rfl : l = [] := List.eq_nil_of_length_eq_zero (by have := hL.out; omega)
    go_enter Try.func10, Try.ntmps10
    go_wp2
    go_ret
    exact ⟨_, rfl, Mine.nil _ _ _ _, Below.refl _ _⟩
  | some a =>
    go_enter Try.func10, Try.ntmps10
    go_wp2_with (at_builtin; refine wl_appendSh rfl _ _ rfl w.heap.size _ 0 [] rfl (Or.inr ⟨rfl, rfl, _, rfl⟩) (some a) n cap rfl (fun h => by cases h) l hL.out (hr.below ((Below.refl _ _).alloc (Nat.le_refl _) _)) HOK.out (fun s h => by cases h) (by omega) (by simp) n (by omega) ?_; intro ao' cap' w' row hc hM hRR hg hrow)
    go_ret
    exact ⟨_, rfl, hM, bel2 ((Below.refl _ _).alloc (Nat.le_refl _) _) hg fun k hk => (hrow k hk).1⟩
theorem step_slice1 {P : Program} {w : World} {ops : Array Oper} {o : Oper} {a : Act} {K : Act → World → Prop} {Q : Exit → Act → World → Prop} {E : Prop} (hgd : o.guard = none) (t e : TypeId) (x : Operand) (ho : o.op = .buildSlice t 1 #[(0, x)])
    (ht : P.underlying t = some (.slice e)) (size : Nat) (z : List Value) (hi : (P.info? e).map (fun i => (i.zero, i.size)) = some (some (.agg z.toArray), size)) (hz : z.length = size) (h0 : 0 < size) (h24 : size ≤ 2 ^ 24)
    (cs : List Value) (hx : a.eval x = .agg cs.toArray) (hcs : cs.length = size) (N : Nat) (hN : w.heap.size = N)
    (h : ∀ w', BlkV e w' N cs → Below N w w' → w'.heap.size = N + 1 → K (a.put o.dst (.slice (some ⟨N, 0, none⟩) 1 1)) w') : if Region.wanted o (yielded ops a.tmps) = true then Oper.wp P o a w K Q else E := by
  have hw : Region.wanted o (yielded ops a.tmps) = true := by simp [Region.wanted, hgd]
  rw [if_pos hw]
  subst hN
  obtain ⟨i, hi0, hh⟩ := Option.map_eq_some_iff.1 hi
  simp only [Prod.mk.injEq] at hh
  obtain ⟨hzi, hsi⟩ := hh
  subst hsi
  have hf : Instr.fill (fun j => some (j * i.size, i.size)) ((Array.range (1 * i.size)).map (fun j => (Value.agg z.toArray).cells[j % (Value.agg z.toArray).cells.size]!)) #[(0, Value.agg cs.toArray)].toList = some cs.toArray := fill_one i.size cs _ hcs (by simp)
  have hrun := run_buildSlice (P := P) w t e 1 #[(0, Value.agg cs.toArray)] cs.toArray i (.agg z.toArray) ht hi0 hzi (by omega) (by omega) hf
  unfold Oper.wp
  simp [execOp, ho, hx, hrun, Result.andThen]
  exact h _ (BlkV.new e w cs rfl) ((Below.refl _ _).alloc (Nat.le_refl _) _) (by simp)
/-! ### the choice -/
end Go.Proofs.Ytbjmadcbhkeenaa.gs
namespace Go.Proofs.Ytbjmadcbhkeenaa.gs
open Go.RowKit Go.Proofs.Ytbjmadcbhkeenaa.Fld Go.Proofs.Ytbjmadcbhkeenaa.sh Go.Proofs.Ytbjmadcbhkeenaa.shr Go.Proofs.Ytbjmadcbhkeenaa.slInt
set_option linter.unusedSimpArgs false
set_option linter.unusedVariables false
set_option pp.maxSteps 6000
def ptr (g : Nat) : Value := .pointer (some ⟨g, 0, none⟩)
def caps (B : Nat) : Array Value := #[ptr B, ptr (B + 1), ptr (B + 3), ptr (B + 4), ptr (B + 5)]
section
variable {w0 w w' : World} {B m n cap wg : Nat} {ao : Option Addr}
end
end Go.Proofs.Ytbjmadcbhkeenaa.gs
namespace Go.Proofs.Ytbjmadcbhkeenaa.wr
open Go.RowKit Go.Proofs.Ytbjmadcbhkeenaa.st Go.Proofs.Ytbjmadcbhkeenaa.hs Go.Proofs.Ytbjmadcbhkeenaa.shr Go.Proofs.Ytbjmadcbhkeenaa.sh
set_option linter.unusedSimpArgs false
set_option linter.unusedVariables false
set_option pp.maxSteps 6000
structure Env.Len (x : Env) : Prop where
  bl : x.b.length = 16
  ol : x.o.length = 16
  nl : x.n.length = 16
  cl : x.c.length = 32
  gl : x.g.length = 32
  tl : x.t.length = 16
theorem Env.cs_split (x : Env) : x.cs = [.int .i64 x.v, .int .i64 x.e] ++ x.b.map (Value.int .u8) ++ x.o.map (Value.int .u8) ++ x.n.map (Value.int .u8) ++ x.c.map (Value.int .u8) ++ x.g.map (Value.int .u8) ++ x.t.map (Value.int .u8) := by
  rw [Env.cs_eq]; unfold Env.octs; simp
theorem Env.Len.csl {x : Env} (h : x.Len) : x.cs.length = 130 := by rw [Env.cs_split]; simp [h.bl, h.ol, h.nl, h.cl, h.gl, h.tl]
end Go.Proofs.Ytbjmadcbhkeenaa.wr
namespace Go.Proofs.Ytbjmadcbhkeenaa.gs
open Go.RowKit Go.Proofs.Ytbjmadcbhkeenaa.Fld Go.Proofs.Ytbjmadcbhkeenaa.sh Go.Proofs.Ytbjmadcbhkeenaa.shr
set_option linter.unusedSimpArgs false
set_option linter.unusedVariables false
theorem range_map_getD (l : List Sh) : (List.range l.length).map (fun i => l.getD i nil) = l := by
  apply List.ext_getElem
  · simp
  · intro i h1 h2
    rw [List.getElem_map, List.getElem_range, getD_lt' l nil h2]
end Go.Proofs.Ytbjmadcbhkeenaa.gs
namespace Go.Proofs.Ytbjmadcbhkeenaa.cm
open Go.RowKit Go.Proofs.Ytbjmadcbhkeenaa.sh
set_option linter.unusedSimpArgs false
set_option linter.unusedVariables false
set_option pp.maxSteps 6000
def cmpL : List Int → List Int → Int
  | [], [] => 0
  | [], _ :: _ => -1
  | _ :: _, [] => 1
  | x :: xs, y :: ys => if x < y then -1 else if y < x then 1 else cmpL xs ys
theorem cmpL_refl : ∀ a, cmpL a a = 0
  | [] => rfl
  | x :: a => by unfold cmpL; rw [if_neg (by omega), if_neg (by omega)]; exact cmpL_refl a
theorem cmpL_anti : ∀ a b, cmpL b a = - cmpL a b
  | [], [] => rfl
  | [], _ :: _ => rfl
  | _ :: _, [] => rfl
  | x :: a, y :: b => by
    unfold cmpL
    by_cases h : x < y
    · rw [if_neg (by omega), if_pos h, if_pos h]; rfl
    · by_cases h2 : y < x
      · rw [if_pos h2, if_neg h, if_pos h2]
      · rw [if_neg h2, if_neg h, if_neg h, if_neg h2]; exact cmpL_anti a b
theorem cmpL_nc (z : Int) (c : List Int) : cmpL [] (z :: c) = -1 := rfl
theorem cmpL_cn (z : Int) (c : List Int) : cmpL (z :: c) [] = 1 := rfl
theorem cmpL_trans : ∀ a b c, cmpL a b < 0 → cmpL b c < 0 → cmpL a c < 0
  | [], b, [], h1, h2 => by
    cases b with
    | nil => exact absurd h1 (by decide)
    | cons y b => rw [cmpL_cn] at h2; omega
  | [], b, z :: c, h1, h2 => by rw [cmpL_nc]; decide
  | x :: a, [], c, h1, h2 => by rw [cmpL_cn] at h1; omega
  | x :: a, y :: b, [], h1, h2 => by rw [cmpL_cn] at h2; omega
  | x :: a, y :: b, z :: c, h1, h2 => by
    unfold cmpL at h1 h2 ⊢
    by_cases hxy : x < y
    · by_cases hyz : y < z
      · rw [if_pos (by omega)]; decide
      · rw [if_neg hyz] at h2
        by_cases hzy : z < y
        · rw [if_pos hzy] at h2; exact absurd h2 (by decide)
        · rw [if_pos (by omega)]; decide
    · rw [if_neg hxy] at h1
      by_cases hyx : y < x
      · rw [if_pos hyx] at h1; exact absurd h1 (by decide)
      · rw [if_neg hyx] at h1
        obtain rfl : x = y := by omega
        by_cases hyz : x < z
        · rw [if_pos hyz]; decide
        · rw [if_neg hyz] at h2 ⊢
          by_cases hzy : z < x
          · rw [if_pos hzy] at h2; exact absurd h2 (by decide)
          · rw [if_neg hzy] at h2 ⊢
            exact cmpL_trans a b c h1 h2
theorem u8_lt {x y : Int} (hx : 0 ≤ x ∧ x ≤ 255) (hy : 0 ≤ y ∧ y ≤ 255) : (x.toNat.toUInt8 < y.toNat.toUInt8) ↔ x < y := by
  rw [UInt8.lt_iff_toNat_lt]
  simp only [Nat.toUInt8, UInt8.toNat_ofNat']
  omega
theorem cmpL_bytes : ∀ a b : List Int, (∀ c ∈ a, 0 ≤ c ∧ c ≤ 255) → (∀ c ∈ b, 0 ≤ c ∧ c ≤ 255) → Lib.compareBytes (Lib.bytesOf a) (Lib.bytesOf b) = cmpL a b
  | [], [], _, _ => rfl
  | [], _ :: _, _, _ => rfl
  | _ :: _, [], _, _ => rfl
  | x :: a, y :: b, ha, hb => by
    have hx := ha x (List.mem_cons_self ..)
    have hy := hb y (List.mem_cons_self ..)
    have ih := cmpL_bytes a b (fun c hc => ha c (List.mem_cons_of_mem _ hc)) (fun c hc => hb c (List.mem_cons_of_mem _ hc))
    unfold Lib.bytesOf at ih ⊢
    rw [List.map_cons, List.map_cons]
    unfold Lib.compareBytes cmpL
    rw [ih]
    simp only [u8_lt hx hy, u8_lt hy hx]
theorem run_compareSlice {P : Program} (w : World) (a b : Addr) (n c m d : Nat) (xs ys : List Int) (hn : xs.length = n) (hm : ys.length = m) (hx : ∀ j x, xs[j]? = some x → w.cell? (a.add j) = some (.int .u8 x)) (hy : ∀ j x, ys[j]? = some x → w.cell? (b.add j) = some (.int .u8 x)) :
    (Extern.BytealgCompare.compare #[.slice (some a) n c, .slice (some b) m d]).run P w = .ok (.int .i64 (Lib.compareBytes (Lib.bytesOf xs) (Lib.bytesOf ys))) w := by
  subst hn hm
  have h1 := Lib.run_loadBytesX (P := P) w xs a .empty hx
  have h2 := Lib.run_loadBytesX (P := P) w ys b .empty hy
  change Sem.run P (do pure (goInt (Extern.BytealgCompare.cmp (← Extern.Bytes.bytesOf (.slice (some a) xs.length c)) (← Extern.Bytes.bytesOf (.slice (some b) ys.length d))))) w = _
  simp only [Extern.Bytes.bytesOf, Sem.run_bind, Sem.run_pure, h1, h2, Result.andThen]
  rw [Lib.cmp_eq]
  simp
  rfl
set_option maxRecDepth 100000 in
theorem bytesCompare (a b : Addr) (n c m d : Nat) (xs ys : List Int) (w : World) (hn : xs.length = n) (hm : ys.length = m) (hx : At w a (xs.map (Value.int .u8))) (hy : At w b (ys.map (Value.int .u8))) (ox : ∀ c ∈ xs, 0 ≤ c ∧ c ≤ 255) (oy : ∀ c ∈ ys, 0 ≤ c ∧ c ≤ 255) (V : Int) (hV : cmpL xs ys = V) :
    Calls Try.prog 15 #[.slice (some a) n c, .slice (some b) m d] w fun e w' => e = .returned (.int .i64 V) ∧ w' = w := by
  have hc := run_compareSlice (P := Try.prog) w a b n c m d xs ys hn hm (fun j x hj => hx j _ (by simp [hj])) (fun j x hj => hy j _ (by simp [hj]))
  rw [cmpL_bytes xs ys ox oy, hV] at hc
  go_enter Try.func15, Try.ntmps15
  go_wp2
  rw [run_callFunc_extern Try.func34 (by kernel_rfl) (by kernel_rfl) (by kernel_rfl) (e := Extern.BytealgCompare.compare) (by kernel_rfl), hc]
  simp only [Result.andThen]
  rw [Oper.upon_value]
  go_wp2
  go_ret
  exact ⟨rfl, rfl⟩
end Go.Proofs.Ytbjmadcbhkeenaa.cm
namespace Go.Proofs.Ytbjmadcbhkeenaa.shr
open Go.RowKit Go.Proofs.Ytbjmadcbhkeenaa.sh Go.Proofs.Ytbjmadcbhkeenaa.cm Go.ChangeShapes Go.WideShapes Go.ChangeAt
set_option linter.unusedSimpArgs false
set_option linter.unusedVariables false
set_option pp.maxSteps 6000
/-- a holder: 16 octets -/
def IdOk (h : List Int) : Prop := h.length = 16 ∧ ∀ c ∈ h, 0 ≤ c ∧ c ≤ 255
/-- behind the address lie these holders -/
def RowH (w : World) (ao : Option Addr) (l : List (List Int)) : Prop :=
  l = [] ∨ ∃ b off, ao = some ⟨b, off, none⟩ ∧ b < w.heap.size ∧ ∀ i, i < l.length → At w ⟨b, off + i * 16, none⟩ ((l.getD i []).map (Value.int .u8))
theorem RowH.at {w : World} {ao : Option Addr} {l : List (List Int)} (h : RowH w ao l) (hl : l ≠ []) : ∃ b off, ao = some ⟨b, off, none⟩ ∧ b < w.heap.size ∧ ∀ i, i < l.length → At w ⟨b, off + i * 16, none⟩ ((l.getD i []).map (Value.int .u8)) := by
  rcases h with h | h
  · exact absurd h hl
  · exact h
theorem RowH.below {w w' : World} {ao : Option Addr} {l : List (List Int)} (h : RowH w ao l) (hb : Below w.heap.size w w') : RowH w' ao l := by
  rcases h with h | ⟨b, off, h1, h2, h3⟩
  · exact Or.inl h
  · exact Or.inr ⟨b, off, h1, Nat.lt_of_lt_of_le h2 hb.size, fun i hi => At.below (h3 i hi) hb h2⟩
structure HoldersAt {H : Type} (W : World) (v : Value) (d : DataW H) (l : List (List Int)) (ao : Option Addr) (cap : Nat) : Prop where
  val : v = .slice ao l.length cap
  le : l.length ≤ cap
  row : RowH W ao l
  none : ao = none → cap = 0 ∧ l.length = 0
  ok : ∀ s ∈ l, IdOk s
  len : cap ≤ maxLen
/-- the first k holders are in order, each once -/
def ordAt (l : List (List Int)) (i : Nat) : Bool := decide (i = 0) || decide (cmpL (l.getD (i - 1) []) (l.getD i []) < 0)
def ordTo (l : List (List Int)) (k : Nat) : Bool := (List.range k).all (ordAt l)
theorem ordTo_succ (l : List (List Int)) (k : Nat) : ordTo l (k + 1) = (ordTo l k && ordAt l k) := by unfold ordTo; rw [List.range_succ, List.all_append]; simp
end Go.Proofs.Ytbjmadcbhkeenaa.shr
