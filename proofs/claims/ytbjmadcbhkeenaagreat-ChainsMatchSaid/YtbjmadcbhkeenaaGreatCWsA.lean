/-
  Contracts of keyref1.Stream from its beginning, and of keyref1.Cover. Conditions: keys and nonces of octets, at most 2^20 octets.
-/
import Derived.Test.YtbjmadcbhkeenaaGreatCWrN
set_option maxRecDepth 100000
set_option linter.unusedSimpArgs false
set_option linter.unusedVariables false
namespace Go.Proofs.YtbjmadcbhkeenaaGreat.wr
open Go.RowKit st hs shr sh
theorem slice64 (w : World) (g D : Nat) (hD : D ≤ 64) : (Instr.sliceAt 99 (.pointer (some ⟨g, 0, none⟩)) (some (.int .i64 0)) (some (.int .i64 (D : Int))) none).run Tryz.prog w = .ok (.slice (some ⟨g, 0, none⟩) D 64) w := by
 have hal : Tryz.prog.arrayLen 99 = 64 := by kernel_rfl
 have h := run_sliceAt_array_lh (P := Tryz.prog) w 99 ⟨g, 0, none⟩ (by kernel_rfl) .i64 .i64 0 (D : Int) (by omega) (by omega) (by rw [hal]; omega)
 rw [h, hal]
 have hs : (sizeOf (Tryz.prog.elem 99)).run Tryz.prog w = .ok 1 w := by kernel_rfl
 rw [hs]
 show Result.ok (slicedAt ⟨g, 0, none⟩ (Int.toNat 0) ((D : Int).toNat) 64 1) w = _
 unfold slicedAt
 rw [if_neg (by decide)]
 simp [Addr.add]
set_option maxHeartbeats 4000000 in
theorem RefStream_any (k n : List Int) (m : Nat) (w : World) (hk : k.length = 32) (hn : n.length = 16) (ok : Octs k) (on : Octs n) (hm : m ≤ 1048576) :
  Calls Tryz.prog 58 #[.agg (k.map (Value.int .u8)).toArray, .agg (n.map (Value.int .u8)).toArray, .int .i64 0, .int .i64 m] w fun e w' => ∃ ao cap, e = .returned (.slice ao m cap) ∧ Mine w' w.heap.size 5 1 (.slice ao m cap) m ((strmL k n m).map (Value.int .u8)) ∧ Below w.heap.size w w' := by
 obtain ⟨B, HB⟩ : ∃ B, Hid (B = w.heap.size) := ⟨_, rfl⟩
 have hsz : w.heap.size = B := HB.out.symm
 have HST := hid (fun (D : List Int) (w : World) (h1 : D.length = 64) (h2 : Octs D) => stirR D w h1 h2)
 have HSL := hid (fun q => seed_length hk hn q)
 have HSO := hid (fun (q : Nat) => seed_octs ok on q)
 have HLG := hid (fun (q : Nat) (w : World) (h : q ≤ 20000) => longR q w)
 have HY := hid zero64
 obtain ⟨Z, HZ'⟩ : ∃ Z, Hid (Z = (List.replicate 64 (0 : Int)).map (Value.int .u8)) := ⟨_, rfl⟩
 rw [← HZ'.out] at HY
 obtain ⟨K, HK⟩ : ∃ K, Hid (K = k.map (Value.int .u8)) := ⟨_, rfl⟩
 obtain ⟨N, HN⟩ : ∃ N, Hid (N = n.map (Value.int .u8)) := ⟨_, rfl⟩
 rw [← HK.out, ← HN.out]
 have HKL : Hid (K.length = 32) := hid (by rw [HK.out, List.length_map, hk])
 have HNL : Hid (N.length = 16) := hid (by rw [HN.out, List.length_map, hn])
 have HZL : Hid (Z.length = 64) := hid (by rw [HZ'.out, List.length_map, List.length_replicate])
 have hK1 : ∀ u ∈ K, u.oneCell' = true := by rw [HK.out]; exact ints_one _ _
 have hN1 : ∀ u ∈ N, u.oneCell' = true := by rw [HN.out]; exact ints_one _ _
 have hkH := hid hk
 have hnH := hid hn
 have hal : Tryz.prog.arrayLen 99 = 64 := by kernel_rfl
 have halK : Tryz.prog.arrayLen 23 = 32 := by kernel_rfl
 have halN : Tryz.prog.arrayLen 53 = 16 := by kernel_rfl
 clear hk hn
 rw [← HB.out]
 go_enter Tryz.func58, Tryz.ntmps58
 go_wp2_with (first | (refine wl_boxV rfl 53 _ rfl N rfl (B + 1) hs0 ?_; intro w1 hN1' hb1 hs1; have hB1 := hB0.below hb1 (by omega); have bb1 := hb0.trans (hb1.mono (by omega : B ≤ _)); clear hB0 hb0 hb1) | (refine wl_boxV rfl 23 _ rfl K rfl B hsz ?_; intro w0 hB0 hb0 hs0))
 have hsw1 : B + 2 ≤ w1.heap.size := by omega
 clear hs0 hs1
 go_loopw [9, 10] (fun o i wr => ∃ (q len : Nat) (F : Int) (ao : Option Addr) (c : Nat) (xs : List Int), o = .slice ao len c ∧ i = .int .i64 F ∧ F = (len : Int) ∧ Mine wr (B + 2) 5 1 (.slice ao len c) len (xs.map (Value.int .u8)) ∧ BlkV 23 wr B K ∧ BlkV 53 wr (B + 1) N ∧ Below B w wr ∧ B + 2 ≤ wr.heap.size ∧ ((64 * q = len ∧ len ≤ m ∧ xs = blks k n q) ∨ (len = m ∧ xs = strmL k n m))) (fun o _ _ => m - slLen o)
 case atStart => exact ⟨0, 0, 0, none, 0, [], rfl, rfl, rfl, Mine.nil _ _ _ _, hB1, hN1', bb1, hsw1, Or.inl ⟨rfl, Nat.zero_le _, rfl⟩⟩
 case round =>
  clear hB1 hN1' bb1 hsw1
  obtain ⟨q, len, F, ao, c, xs, rfl, rfl, hFl, hM, hK, hN, hb, hsz', hcase⟩ := hrel
  by_cases h0 : len < m
  ·obtain ⟨hq, hlm, rfl⟩ := hcase.resolve_right (by intro h; omega)
   have hqb : q ≤ 20000 := by omega
   have hFm : F < (m : Int) := by omega
   have hd : F.tdiv 64 = q := by rw [hFl, Int.tdiv_eq_ediv_of_nonneg (by omega)]; omega
   have hmm : F.tmod 64 = 0 := by rw [hFl, Int.tmod_eq_emod_of_nonneg (by omega)]; omega
   have hF0 : 0 ≤ F := by omega
   have hF1 : F ≤ 1048576 := by omega
   obtain ⟨D, HD0⟩ : ∃ D : Nat, Hid (D = m - len) := ⟨_, rfl⟩
   have hDI : (m : Int) - F = (D : Int) := by rw [HD0.out]; omega
   have hDw : IntKind.i64.wrap (D : Int) = (D : Int) := IntWalk.i64_in _ (by have := HD0.out; omega)
   have HQ := hid hq
   have HFL := hid hFl
   obtain ⟨B', HB'⟩ : ∃ B, Hid (B = blk k n q) := ⟨_, rfl⟩
   have HBL : Hid (B'.length = 64) := hid (by rw [HB'.out, blk_length])
   obtain ⟨BB, HBB⟩ : ∃ BB, Hid (BB = B'.map (Value.int .u8)) := ⟨_, rfl⟩
   have HBBL : Hid (BB.length = 64) := hid (by rw [HBB.out, List.length_map, HBL.out])
   have hBB1 : ∀ u ∈ BB, u.oneCell' = true := by rw [HBB.out]; exact ints_one _ _
   obtain ⟨O, HO⟩ : ∃ O, Hid (O = (o8 q).map (Value.int .u8)) := ⟨_, rfl⟩
   have HOL : Hid (O.length = 8) := hid (by rw [HO.out]; rfl)
   have hO1 : ∀ u ∈ O, u.oneCell' = true := by rw [HO.out]; exact ints_one _ _
   clear hq hFl hcase
   go_wp2_with (first | (refine wl_allocV rfl 99 rfl Z HY.out wr.heap.size rfl ?_; intro w0 hS0' hb0' hs0'))
   obtain ⟨gS, HgS⟩ : ∃ gS, Hid (gS = wr.heap.size) := ⟨_, rfl⟩
   rw [← HgS.out] at hS0' ⊢
   have hS0 := hS0'
   have hgS : B + 2 ≤ gS := by rw [HgS.out]; exact hsz'
   have bS0 : Below gS wr w0 := by rw [HgS.out]; exact hb0'
   have hKB := hid (fun (w' : World) (h : Below gS wr w') => hK.below h (by omega))
   have hNB := hid (fun (w' : World) (h : Below gS wr w') => hN.below h (by omega))
   have hMB : Hid (∀ w' : World, Below gS wr w' → Mine w' (B + 2) 5 1 (.slice ao len c) len ((blks k n q).map (Value.int .u8))) := hid (fun w' h => hM.belowAll (by rw [HgS.out] at h; exact h))
   have hbB := hid (fun (w' : World) (h : Below gS wr w') => hb.trans (h.mono (by omega : B ≤ gS)))
   have hK0 := hKB.out _ bS0
   clear hK hN hM hb hsz' hb0' hs0' hS0' HgS
   have hfit : 0 + K.length ≤ Z.length := by rw [HKL.out, HZL.out]; omega
   have hmin : K.length = Nat.min 32 64 := by rw [HKL.out]; rfl
   go_region_law (refine step_copy_splice rfl (.tmp 21) (.tmp 22) 25 25 rfl 5 Tryz.underlying25 size5 (some ⟨gS, 0, none⟩) (some ⟨B, 0, none⟩) 64 64 32 32 rfl rfl gS 0 Z 99 hS0 K hmin (fun _ => ⟨rfl, _, rfl, hK0.at0⟩) hfit hK1 gS w0 ((Below.refl _ _).drew) (Nat.le_refl _) ?_; intro w4 hg4 hb4)
   obtain ⟨L1, HL1⟩ : ∃ L1, Hid (L1 = splice (List.replicate 64 (0 : Int)) 0 k) := ⟨_, rfl⟩
   obtain ⟨M1, HM1⟩ : ∃ M1, Hid (M1 = L1.map (Value.int .u8)) := ⟨_, rfl⟩
   have hS1 : BlkV 99 w4 gS M1 := by
    have := hg4.out
    rw [HZ'.out, HK.out, splice_map, ← HL1.out, ← HM1.out] at this
    exact this
   have hM1l : M1.length = 64 := by rw [HM1.out, List.length_map, HL1.out, length_splice, List.length_replicate]; rw [List.length_replicate, hkH.out]; omega
   have bS4 := bS0.trans hb4
   have hN4 := hNB.out _ bS4
   have HM1L := hid hM1l
   clear hfit hmin hK0 bS0 hb4 hg4 hM1l hS0
   go_wp2_with fail
   have hfit : 32 + N.length ≤ M1.length := by rw [HNL.out, HM1L.out]; omega
   have hmin : N.length = Nat.min 16 32 := by rw [HNL.out]; rfl
   go_region_law (refine step_copy_splice rfl (.tmp 24) (.tmp 25) 25 25 rfl 5 Tryz.underlying25 size5 (some ⟨gS, 32, none⟩) (some ⟨B + 1, 0, none⟩) 32 32 16 16 rfl rfl gS 32 M1 99 hS1 N hmin (fun _ => ⟨rfl, _, rfl, hN4.at0⟩) hfit hN1 gS w4 ((Below.refl _ _).drew) (Nat.le_refl _) ?_; intro w5 hg5 hb5)
   obtain ⟨L2, HL2⟩ : ∃ L2, Hid (L2 = splice L1 32 n) := ⟨_, rfl⟩
   obtain ⟨M2, HM2⟩ : ∃ M2, Hid (M2 = L2.map (Value.int .u8)) := ⟨_, rfl⟩
   have hS2 : BlkV 99 w5 gS M2 := by
    have := hg5.out
    rw [HM1.out, HN.out, splice_map, ← HL2.out, ← HM2.out] at this
    exact this
   have hM2l : M2.length = 64 := by
    rw [HM2.out, List.length_map, HL2.out, length_splice]
    ·have := HM1L.out; rw [HM1.out, List.length_map] at this; exact this
    ·have := HM1L.out; rw [HM1.out, List.length_map] at this; rw [this, hnH.out]; omega
   have bS5 := bS4.trans hb5
   have HM2L := hid hM2l
   clear hfit hmin hS1 hN4 bS4 hb5 hg5 hM2l
   go_wp2_with fail
   have hfit : 56 + O.length ≤ M2.length := by rw [HOL.out, HM2L.out]; omega
   have hmin : O.length = Nat.min 8 8 := by rw [HOL.out]; rfl
   have hgl := hS2.lt
   have hwq : IntKind.i64.wrap (q : Int) = (q : Int) := IntWalk.i64_in _ (by omega)
   go_region_law (first | (go_simp; go_at_call 57; refine (HLG.out q w5.drew hqb).mono ?_; rintro e wl ⟨rfl, hLB, hbL⟩; have hLo : At wl ⟨w5.heap.size, 0, none⟩ O := by (rw [HO.out]; exact (BlkI.v hLB).at0)) | (refine step_copy_splice rfl (.tmp 27) (.tmp 30) 25 25 rfl 5 Tryz.underlying25 size5 (some ⟨gS, 56, none⟩) (some ⟨w5.heap.size, 0, none⟩) 8 8 8 8 rfl rfl gS 56 M2 99 (hS2.drew.below hbL hgl) O hmin (fun _ => ⟨rfl, _, rfl, hLo⟩) hfit hO1 gS wl (Below.refl _ _) (Nat.le_refl _) ?_; intro w8 hg8 hb8))
   have hseed : splice L2 56 (o8 q) = seed k n q := by rw [HL2.out, HL1.out]; rfl
   obtain ⟨D0, HD⟩ : ∃ D, Hid (D = seed k n q) := ⟨_, rfl⟩
   have hS8 : BlkV 99 w8 gS (D0.map (Value.int .u8)) := by
    have := hg8.out
    rw [HM2.out, HO.out, splice_map, hseed, ← HD.out] at this
    exact this
   have hbL' : Below w5.heap.size w5 wl := ((Below.refl _ w5).drew).trans hbL
   have bS8 : Below gS wr w8 := (bS5.trans (hbL'.mono (by omega : gS ≤ _))).trans hb8
   have hDl : D0.length = 64 := by rw [HD.out]; exact HSL.out q
   have hDo : Octs D0 := by rw [HD.out]; exact HSO.out q
   have HDL := hid hDl
   clear hfit hmin hS2 bS5 hb8 hg8 hLB hbL hLo hseed hgl hwq hDl hbL'
   go_wp2_with (first | (refine wl_load rfl 99 _ rfl ⟨gS, 0, none⟩ rfl (D0.map (Value.int .u8)) (by rw [List.length_map, HDL.out]; exact agg64') hS8.at0 ?_))
   refine (HST.out D0 _ HDL.out hDo).mono ?_
   rintro e w9 ⟨rfl, b89⟩
   have hBBe : (stirL D0).map (Value.int .u8) = BB := by rw [HBB.out, HB'.out, HD.out]; rfl
   rw [hBBe]
   have hS9 := hS8.below b89 hS8.lt
   have bS9 := bS8.trans (b89.mono (by have := hS8.lt; omega : gS ≤ _))
   have HDML : Hid ((D0.map (Value.int .u8)).length = 64) := hid (by rw [List.length_map, HDL.out])
   have hDb : D ≤ 1048576 := by have := HD0.out; omega
   clear hBBe hS8 b89 bS8
   by_cases hD : (D : Int) < 64
   ·skip
    have hsl2 := fun w => slice64 w gS D (by omega)
    go_wp2_with (first | (at_builtin; refine wl_appendS rfl _ _ 25 rfl 5 (.int .u8 0) 1 1 Tryz.underlying25 info8 rfl (by decide) (B + 2) (.slice ao len c) len _ rfl hMa (some ⟨gS, 0, none⟩) D 64 rfl (fun h => by cases h) (BB.take D) (by rw [List.length_take, HBBL.out]; have := HD0.out; omega) (rowTake hSa _) (fun u hu => hBB1 u (List.mem_of_mem_take hu)) (by unfold maxLen; have := HD0.out; omega) (by have := HD0.out; omega) hwa m (by have := HD0.out; omega) ?_; intro aob cb wb rowb hcb hMb hvb hgb hrowb; have hKb := (hKB.out _ bSa).grown hgb (by intro h; have := (hrowb _ h).1; omega); have hNb := (hNB.out _ bSa).grown hgb (by intro h; have := (hrowb _ h).1; omega); have hbb : Below B w wb := (hbB.out _ bSa).grown hgb (by omega) (fun k hk => by have := (hrowb k hk).1; omega); have hszb : B + 2 ≤ wb.heap.size := Nat.le_trans hwa hgb.size; clear hMa hSa hvb hgb hrowb) | (refine wl_storeV rfl 99 _ _ rfl 99 gS rfl BB rfl 64 agg64' HBBL.out (D0.map (Value.int .u8)) hS9 HDML.out hBB1 ?_; intro wa hSa hba hsa; have bSa := bS9.trans hba; have hMa := hMB.out _ bSa; have hwa : B + 2 ≤ wa.heap.size := (by have := hSa.lt; omega); clear hS9 bS9 hba))
    go_roundw
    case measure => simp only [slLen]; have := HD0.out; omega
    have hxs : (blks k n q).map (Value.int .u8) ++ BB.take D = (strmL k n m).map (Value.int .u8) := by rw [HBB.out, HB'.out, strmL_part k n m q D (by have := HD0.out; have := HQ.out; omega) (by omega), List.map_append, List.map_take]
    rw [hxs] at hMb
    exact ⟨q, m, _, aob, cb, strmL k n m, rfl, rfl, by have := HD0.out; have := HFL.out; omega, hMb, hKb, hNb, hbb, hszb, Or.inr ⟨rfl, rfl⟩⟩
   ·skip
    go_wp2_with (first | (at_builtin; refine wl_appendS rfl _ _ 25 rfl 5 (.int .u8 0) 1 1 Tryz.underlying25 info8 rfl (by decide) (B + 2) (.slice ao len c) len _ rfl hMa (some ⟨gS, 0, none⟩) 64 64 rfl (fun h => by cases h) (BB.take 64) (by rw [List.length_take, HBBL.out]; have := HD0.out; omega) (rowTake hSa _) (fun u hu => hBB1 u (List.mem_of_mem_take hu)) (by unfold maxLen; have := HD0.out; omega) (by have := HD0.out; omega) hwa (len + 64) (by have := HD0.out; omega) ?_; intro aob cb wb rowb hcb hMb hvb hgb hrowb; have hKb := (hKB.out _ bSa).grown hgb (by intro h; have := (hrowb _ h).1; omega); have hNb := (hNB.out _ bSa).grown hgb (by intro h; have := (hrowb _ h).1; omega); have hbb : Below B w wb := (hbB.out _ bSa).grown hgb (by omega) (fun k hk => by have := (hrowb k hk).1; omega); have hszb : B + 2 ≤ wb.heap.size := Nat.le_trans hwa hgb.size; clear hMa hSa hvb hgb hrowb) | (refine wl_storeV rfl 99 _ _ rfl 99 gS rfl BB rfl 64 agg64' HBBL.out (D0.map (Value.int .u8)) hS9 HDML.out hBB1 ?_; intro wa hSa hba hsa; have bSa := bS9.trans hba; have hMa := hMB.out _ bSa; have hwa : B + 2 ≤ wa.heap.size := (by have := hSa.lt; omega); clear hS9 bS9 hba))
    go_roundw
    case measure => simp only [slLen]; have := HD0.out; omega
    have hxs : (blks k n q).map (Value.int .u8) ++ BB.take 64 = (blks k n (q + 1)).map (Value.int .u8) := by rw [List.take_of_length_le (by rw [HBBL.out]; omega), HBB.out, HB'.out, ← List.map_append]; rfl
    rw [hxs] at hMb
    exact ⟨q + 1, len + 64, _, aob, cb, blks k n (q + 1), rfl, rfl, by have := HD0.out; have := HFL.out; omega, hMb, hKb, hNb, hbb, hszb, Or.inl ⟨by have := HQ.out; omega, by have := HD0.out; omega, rfl⟩⟩
  ·have hlm : len = m := by rcases hcase with ⟨_, h, _⟩ | ⟨h, _⟩ <;> omega
   have hxs : xs = strmL k n m := by
    rcases hcase with ⟨h, _, h2⟩ | ⟨_, h2⟩
    ·rw [h2, strmL_whole k n m q (by omega)]
    ·exact h2
   subst hlm
   have hl3 : ¬ F < (len : Int) := by omega
   rw [hxs] at hM
   clear hcase hxs
   go_wp2
   go_ret
   exact ⟨_, _, rfl, hM.mono (by omega), hb⟩
end Go.Proofs.YtbjmadcbhkeenaaGreat.wr
