/-
  Contract of share.eachFault. Conditions: shares of the type's form, 32 at most.
-/
import Derived.Test.YtbljihhelladbaaShG
import Derived.Deep.RegionHeld3
import Derived.Deep.MidRow
namespace Go.Proofs.Ytbljihhelladbaa.shr
set_option linter.unusedVariables false
open Go.RowKit Go.Maps Go.WideMaps Go.Proofs.Ytbljihhelladbaa.sh Go.Proofs.Ytbljihhelladbaa.mp
set_option linter.unusedSimpArgs false
set_option pp.maxSteps 6000

theorem bel_all {N B : Nat} {w wr wA wS : World} (hN : wr.heap.size = N) (h : Below B w wr) (hA : Below N wr wA) (hS : Below N wA wS) (hB : B ≤ N := by omega) : Below B w wS := h.trans ((hA.trans hS).mono hB)

set_option maxRecDepth 100000 in
theorem eachFault_any (ao : Option Addr) (cap : Nat) (l : List Sh) (w : World) (hr : RowS w ao l) (hok : ∀ s ∈ l, s.Ok) (hn : l.length ≤ 32) :
    Calls Try.prog 103 #[.slice ao l.length cap] w fun e w' => e = .returned (.int .i64 (eachE l)) ∧ Below w.heap.size w w' := by
  have hmm := @run_makeMap Try.prog
  have HOK := hid hok
  clear hok
  go_enter Try.func103, Try.ntmps103
  go_wp2
  go_loopw [11] (fun i wr => ∃ k : Nat, k ≤ l.length ∧ i = .int .i64 k ∧ Hid (eachTo l k = 0) ∧ SetAt Try.prog 3 4 wr w.heap.size k (keysX (l.take k)) ∧ SetAt Try.prog 57 4 wr (w.heap.size + 1) k (keysH (l.take k)) ∧ Below w.heap.size w wr) (fun i _ => l.length - (intOf i).toNat)
  case atStart => exact ⟨0, Nat.zero_le _, rfl, rfl, (SetAt.made _ _ _ w).alloc _, by have h := SetAt.made Try.prog 57 4 (w.alloc (.map #[] 0)); rw [show (w.alloc (.map #[] 0)).heap.size = w.heap.size + 1 by simp] at h; exact h, ((Below.refl _ _).alloc (Nat.le_refl _) _).alloc (by simp) _⟩
  case round =>
    obtain ⟨k, hk, rfl, HE, hX, hH, hbl⟩ := hrel
    by_cases h0 : k < l.length
    · obtain ⟨b, off, s, rfl, hb, HS, hat0⟩ := hr.elem (i := k) h0
      have hs : s.Ok := by rw [HS.out, getD_lt' l nil h0]; exact HOK.out _ (List.getElem_mem h0)
      have hat := At.belowB hat0 hbl hb
      have hcl := hs.csl
      have HCL := hid hcl
      have c1 := cs_one s
      clear hcl hat0
      obtain ⟨N, HN⟩ : ∃ N, Hid (wr.heap.size = N) := ⟨_, rfl⟩
      have hlt := hX.lt
      have hlt2 := hH.lt
      rw [HN.out] at hlt hlt2
      have hb1 := memX (l.take k) s
      have hb2 := memH (l.take k) s (fun t ht => HOK.out t (List.mem_of_mem_take ht)) hs
      have hbad : faultIn (l.take k) s ≠ 0 → eachE l = faultIn (l.take k) s := fun h => by have := eachE_bad l k h0 HE.out (by rw [← HS.out]; exact h); rw [← HS.out] at this; exact this
      have hstep : faultIn (l.take k) s = 0 → eachTo l (k + 1) = 0 := fun h => eachTo_step l k HE.out (by rw [← HS.out]; exact h)
      have hfi : faultIn (l.take k) s = if inB s.x 1 256 = false then 4 else if ((l.take k).any (fun t => t.x == s.x) || (l.take k).any (fun t => t.h == s.h)) = true then 8 else if badY s = true then 4 else 0 := by unfold faultIn; rw [any_same]
      have HBAD := hid hbad
      have HSTEP := hid hstep
      have HFI := hid hfi
      have HKX := hid (keysX_succ l k h0)
      have HKH := hid (keysH_succ l k h0)
      rw [← HS.out] at HKX HKH
      clear hbad hstep hfi
      generalize hg1 : (l.take k).any (fun t => t.x == s.x) = b1 at hb1 HFI
      generalize hg2 : (l.take k).any (fun t => t.h == s.h) = b2 at hb2 HFI
      clear hg1 hg2
      have HB1 := hid hb1
      have HB2 := hid hb2
      clear hb1 hb2
      cases hin : inB s.x 1 256
      · go_wp2_with (first | (refine wl_loadG (by rfl) 61 _ rfl ⟨b, off + k * 49, none⟩ rfl 49 s.cs HCL.out aggS hat ?_) | (refine wl_allocV rfl 61 rfl sh0.cs sh0_zero N HN.out ?_; intro wA hA hbA hsA) | (refine wl_storeV rfl 61 _ _ rfl 61 N rfl s.cs rfl 49 aggS HCL.out sh0.cs hA sh0_len c1 ?_; intro wS hS hbS hsS; have cx := (hS.cell 16).trans (cs_x s hs); have hXS := hX.below (by rw [HN.out]; exact hbA.trans hbS); have hHS := hH.below (by rw [HN.out]; exact hbA.trans hbS); have hath := at_h hs hS; have hat0 := hS.at0) | (go_at_call 86; refine (outside_any _ _ _ _).mono ?_; rintro e w1 ⟨rfl, rfl⟩) | (at_lookup; refine wl_lookG _ (by rfl) _ _ 193 rfl 3 4 lawI Try.underlying193 Try.underlying4 (zeroB _) w.heap.size k _ rfl hXS _ _ rfl (keyX s hs) _ HB1.out ?_) | (at_lookup; refine wl_lookG _ (by rfl) _ _ 183 rfl 57 4 lawH Try.underlying183 Try.underlying4 (zeroB _) (w.heap.size + 1) k _ rfl hHS _ _ rfl (keyH s hs) _ HB2.out ?_) | (refine wl_loadG (by rfl) 57 _ rfl ⟨N, 0, none⟩ rfl 16 (s.h.map (Value.int .u8)) (by rw [List.length_map]; exact hs.hl) aggID hath ?_) | (refine wl_loadG (by rfl) 61 _ rfl ⟨N, 0, none⟩ rfl 49 s.cs HCL.out aggS hat0 ?_) | (go_at_call 111; refine (badValues_any s hs _).mono ?_; rw [hbY]; rintro e wB ⟨rfl, hb2⟩))
        go_ret
        exact ⟨rv (ri (by rw [HBAD.out (by rw [HFI.out, if_pos hin]; decide), HFI.out, if_pos hin])), bel_all HN.out hbl hbA hbS⟩
      · have HIN := hid hin
        cases b1
        · cases b2
          · cases hbY : badY s
            · have HBY := hid hbY
              go_wp2_with (first | (refine wl_loadG (by rfl) 61 _ rfl ⟨b, off + k * 49, none⟩ rfl 49 s.cs HCL.out aggS hat ?_) | (refine wl_allocV rfl 61 rfl sh0.cs sh0_zero N HN.out ?_; intro wA hA hbA hsA) | (refine wl_storeV rfl 61 _ _ rfl 61 N rfl s.cs rfl 49 aggS HCL.out sh0.cs hA sh0_len c1 ?_; intro wS hS hbS hsS; have cx := (hS.cell 16).trans (cs_x s hs); have hXS := hX.below (by rw [HN.out]; exact hbA.trans hbS); have hHS := hH.below (by rw [HN.out]; exact hbA.trans hbS); have hath := at_h hs hS; have hat0 := hS.at0) | (go_at_call 86; refine (outside_any _ _ _ _).mono ?_; rintro e w1 ⟨rfl, rfl⟩) | (at_lookup; refine wl_lookG _ (by rfl) _ _ 193 rfl 3 4 lawI Try.underlying193 Try.underlying4 (zeroB _) w.heap.size k _ rfl hXS _ _ rfl (keyX s hs) _ HB1.out ?_) | (at_lookup; refine wl_lookG _ (by rfl) _ _ 183 rfl 57 4 lawH Try.underlying183 Try.underlying4 (zeroB _) (w.heap.size + 1) k _ rfl hHS _ _ rfl (keyH s hs) _ HB2.out ?_) | (refine wl_loadG (by rfl) 57 _ rfl ⟨N, 0, none⟩ rfl 16 (s.h.map (Value.int .u8)) (by rw [List.length_map]; exact hs.hl) aggID hath ?_) | (refine wl_loadG (by rfl) 61 _ rfl ⟨N, 0, none⟩ rfl 49 s.cs HCL.out aggS hat0 ?_) | (go_at_call 111; refine (badValues_any s hs _).mono ?_; rw [hbY]; rintro e wB ⟨rfl, hb2⟩))
              have hNS : N < wS.heap.size := hS.lt
              have hSB := hS.below hb2 hNS
              have cxB := (hSB.cell 16).trans (cs_x s hs)
              have hathB := at_h hs hSB
              have hXB := hXS.below hb2
              have hHB := hHS.below hb2
              have hbB := (bel_all HN.out hbl hbA hbS).trans (hb2.mono (bel_all HN.out hbl hbA hbS).size)
              obtain ⟨W1, hrun1, hX1, hg1⟩ := hXB.drew.put lawI Try.underlying193 Try.underlying4 (by unfold maxLen; omega) (keyX s hs)
              have hH1 := hHB.drew.kept hg1 (by simp)
              obtain ⟨W2, hrun2, hH2, hg2⟩ := hH1.put lawH Try.underlying183 Try.underlying4 (by unfold maxLen; omega) (keyH s hs)
              have hX2 := hX1.kept hg2 (by simp)
              have hS1 := hSB.drew.grown hg1 (by simp; omega)
              have cx1 := (hS1.cell 16).trans (cs_x s hs)
              have hath1 := at_h hs hS1
              have ra0 : wB.drew.rangeAt N 0 (s.h.map (Value.int .u8)) := fun j v hv => by have := hathB j v hv; rwa [Addr.add_mid] at this
              have ra1 : W1.rangeAt N 0 (s.h.map (Value.int .u8)) := fun j v hv => by have := hath1 j v hv; rwa [Addr.add_mid] at this
              have hS2 := hS1.grown hg2 (by simp; omega)
              have cx2 := (hS2.cell 16).trans (cs_x s hs)
              have hath2 := at_h hs hS2
              have ra2 : W2.rangeAt N 0 (s.h.map (Value.int .u8)) := fun j v hv => by have := hath2 j v hv; rwa [Addr.add_mid] at this
              have cx0 : wB.drew.cell? ⟨N, 16, none⟩ = some (.int .i64 s.x) := cxB
              have hu := Try.underlying57
              have hi : (Try.prog.info? 57).map (·.size) = some (s.h.map (Value.int .u8)).length := by rw [List.length_map, hs.hl]; exact aggID.2
              have hHL : (s.h.map (Value.int .u8)).length = 16 := by rw [List.length_map]; exact hs.hl
              have hH1' : ∀ v ∈ s.h.map (Value.int .u8), v.oneCell' = true := ints_one _ _
              have hb2' := (hbB.drew.grown hg1 (by simpa using hbB.size) (fun k hk => by cases hk; exact Nat.le_refl _)).grown hg2 (Nat.le_trans hbB.size (by simpa using hg1.size)) (fun k hk => by cases hk; omega)
              generalize s.h.map (Value.int .u8) = HV at *
              clear hath hath1 hath2 hathB hat hat0
              go_region_held3 (fun w' => w'.cell? ⟨N, 16, none⟩ = some (.int .i64 s.x) ∧ w'.rangeAt N 0 HV) (first | exact ⟨cx0, ra0⟩ | exact ⟨cx1, ra1⟩ | exact ⟨cx2, ra2⟩) (fail)
              go_wp2
              go_roundw
              case rel => exact ⟨k + 1, by omega, by go_num, hid (HSTEP.out (by rw [HFI.out, if_neg (by rw [HIN.out]; decide), if_neg (by decide), if_neg (by rw [HBY.out]; decide)])), by rw [HKX.out]; exact hX2, by rw [HKH.out]; exact hH2, hb2'⟩
              case measure => simp [intOf] <;> omega
            · have HBY := hid hbY
              go_wp2_with (first | (refine wl_loadG (by rfl) 61 _ rfl ⟨b, off + k * 49, none⟩ rfl 49 s.cs HCL.out aggS hat ?_) | (refine wl_allocV rfl 61 rfl sh0.cs sh0_zero N HN.out ?_; intro wA hA hbA hsA) | (refine wl_storeV rfl 61 _ _ rfl 61 N rfl s.cs rfl 49 aggS HCL.out sh0.cs hA sh0_len c1 ?_; intro wS hS hbS hsS; have cx := (hS.cell 16).trans (cs_x s hs); have hXS := hX.below (by rw [HN.out]; exact hbA.trans hbS); have hHS := hH.below (by rw [HN.out]; exact hbA.trans hbS); have hath := at_h hs hS; have hat0 := hS.at0) | (go_at_call 86; refine (outside_any _ _ _ _).mono ?_; rintro e w1 ⟨rfl, rfl⟩) | (at_lookup; refine wl_lookG _ (by rfl) _ _ 193 rfl 3 4 lawI Try.underlying193 Try.underlying4 (zeroB _) w.heap.size k _ rfl hXS _ _ rfl (keyX s hs) _ HB1.out ?_) | (at_lookup; refine wl_lookG _ (by rfl) _ _ 183 rfl 57 4 lawH Try.underlying183 Try.underlying4 (zeroB _) (w.heap.size + 1) k _ rfl hHS _ _ rfl (keyH s hs) _ HB2.out ?_) | (refine wl_loadG (by rfl) 57 _ rfl ⟨N, 0, none⟩ rfl 16 (s.h.map (Value.int .u8)) (by rw [List.length_map]; exact hs.hl) aggID hath ?_) | (refine wl_loadG (by rfl) 61 _ rfl ⟨N, 0, none⟩ rfl 49 s.cs HCL.out aggS hat0 ?_) | (go_at_call 111; refine (badValues_any s hs _).mono ?_; rw [hbY]; rintro e wB ⟨rfl, hb2⟩))
              go_ret
              exact ⟨rv (ri (by rw [HBAD.out (by rw [HFI.out, if_neg (by rw [HIN.out]; decide), if_neg (by decide), if_pos HBY.out]; decide), HFI.out, if_neg (by rw [HIN.out]; decide), if_neg (by decide), if_pos HBY.out])), (bel_all HN.out hbl hbA hbS).trans (hb2.mono (bel_all HN.out hbl hbA hbS).size)⟩
          · go_wp2_with (first | (refine wl_loadG (by rfl) 61 _ rfl ⟨b, off + k * 49, none⟩ rfl 49 s.cs HCL.out aggS hat ?_) | (refine wl_allocV rfl 61 rfl sh0.cs sh0_zero N HN.out ?_; intro wA hA hbA hsA) | (refine wl_storeV rfl 61 _ _ rfl 61 N rfl s.cs rfl 49 aggS HCL.out sh0.cs hA sh0_len c1 ?_; intro wS hS hbS hsS; have cx := (hS.cell 16).trans (cs_x s hs); have hXS := hX.below (by rw [HN.out]; exact hbA.trans hbS); have hHS := hH.below (by rw [HN.out]; exact hbA.trans hbS); have hath := at_h hs hS; have hat0 := hS.at0) | (go_at_call 86; refine (outside_any _ _ _ _).mono ?_; rintro e w1 ⟨rfl, rfl⟩) | (at_lookup; refine wl_lookG _ (by rfl) _ _ 193 rfl 3 4 lawI Try.underlying193 Try.underlying4 (zeroB _) w.heap.size k _ rfl hXS _ _ rfl (keyX s hs) _ HB1.out ?_) | (at_lookup; refine wl_lookG _ (by rfl) _ _ 183 rfl 57 4 lawH Try.underlying183 Try.underlying4 (zeroB _) (w.heap.size + 1) k _ rfl hHS _ _ rfl (keyH s hs) true (by first | exact HB2.out | exact ⟨fun _ => HB2.out.1 trivial, fun _ => rfl⟩) ?_) | (refine wl_loadG (by rfl) 57 _ rfl ⟨N, 0, none⟩ rfl 16 (s.h.map (Value.int .u8)) (by rw [List.length_map]; exact hs.hl) aggID hath ?_) | (refine wl_loadG (by rfl) 61 _ rfl ⟨N, 0, none⟩ rfl 49 s.cs HCL.out aggS hat0 ?_) | (go_at_call 111; refine (badValues_any s hs _).mono ?_; rw [hbY]; rintro e wB ⟨rfl, hb2⟩))
            go_ret
            exact ⟨rv (ri (by rw [HBAD.out (by rw [HFI.out, if_neg (by rw [HIN.out]; decide), if_pos (by decide)]; decide), HFI.out, if_neg (by rw [HIN.out]; decide), if_pos (by decide)])), bel_all HN.out hbl hbA hbS⟩
        · go_wp2_with (first | (refine wl_loadG (by rfl) 61 _ rfl ⟨b, off + k * 49, none⟩ rfl 49 s.cs HCL.out aggS hat ?_) | (refine wl_allocV rfl 61 rfl sh0.cs sh0_zero N HN.out ?_; intro wA hA hbA hsA) | (refine wl_storeV rfl 61 _ _ rfl 61 N rfl s.cs rfl 49 aggS HCL.out sh0.cs hA sh0_len c1 ?_; intro wS hS hbS hsS; have cx := (hS.cell 16).trans (cs_x s hs); have hXS := hX.below (by rw [HN.out]; exact hbA.trans hbS); have hHS := hH.below (by rw [HN.out]; exact hbA.trans hbS); have hath := at_h hs hS; have hat0 := hS.at0) | (go_at_call 86; refine (outside_any _ _ _ _).mono ?_; rintro e w1 ⟨rfl, rfl⟩) | (at_lookup; refine wl_lookG _ (by rfl) _ _ 193 rfl 3 4 lawI Try.underlying193 Try.underlying4 (zeroB _) w.heap.size k _ rfl hXS _ _ rfl (keyX s hs) true (by first | exact HB1.out | exact ⟨fun _ => HB1.out.1 trivial, fun _ => rfl⟩) ?_) | (at_lookup; refine wl_lookG _ (by rfl) _ _ 183 rfl 57 4 lawH Try.underlying183 Try.underlying4 (zeroB _) (w.heap.size + 1) k _ rfl hHS _ _ rfl (keyH s hs) _ HB2.out ?_) | (refine wl_loadG (by rfl) 57 _ rfl ⟨N, 0, none⟩ rfl 16 (s.h.map (Value.int .u8)) (by rw [List.length_map]; exact hs.hl) aggID hath ?_) | (refine wl_loadG (by rfl) 61 _ rfl ⟨N, 0, none⟩ rfl 49 s.cs HCL.out aggS hat0 ?_) | (go_at_call 111; refine (badValues_any s hs _).mono ?_; rw [hbY]; rintro e wB ⟨rfl, hb2⟩))
          go_ret
          exact ⟨rv (ri (by rw [HBAD.out (by rw [HFI.out, if_neg (by rw [HIN.out]; decide), if_pos (by rfl)]; decide), HFI.out, if_neg (by rw [HIN.out]; decide), if_pos (by rfl)])), bel_all HN.out hbl hbA hbS⟩
    · go_wp2
      go_ret
      exact ⟨rv (ri (by have := HE.out; unfold eachE; rw [show l.length = k by omega, this])), hbl⟩
end Go.Proofs.Ytbljihhelladbaa.shr
