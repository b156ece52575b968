/-
  Contract of share.eachFault. Conditions: shares of the type's form, 32 at most. Arrays of integers held against each other. No condition beyond their lengths. Contracts of share.CheckShares; of keyref2.SharesError's closure; of package slices with that closure. Conditions: shares of the type's form.
-/
import Derived.Test.YtbljihhelladbaaFSlInt
import Derived.Test.YtbljihhelladbaaFMem
import Derived.Deep.RegionHeld3
import Derived.Deep.MidRow
import Derived.Stop.BytesEq
namespace Go.Proofs.Ytbljihhelladbaa.shr
set_option linter.unusedVariables false
open Go.RowKit Go.Maps Go.WideMaps Go.Proofs.Ytbljihhelladbaa.sh Go.Proofs.Ytbljihhelladbaa.mp
set_option linter.unusedSimpArgs false
set_option pp.maxSteps 6000
theorem bel_all {N B : Nat} {w wr wA wS : World} (hN : wr.heap.size = N) (h : Below B w wr) (hA : Below N wr wA) (hS : Below N wA wS) (hB : B ≤ N := by omega) : Below B w wS := h.trans ((hA.trans hS).mono hB)
set_option maxRecDepth 100000 in
theorem eachFault_any (ao : Option Addr) (cap : Nat) (l : List Sh) (w : World) (hr : RowS w ao l) (hok : ∀ s ∈ l, s.Ok) (hn : l.length ≤ 32) :
    Calls Try.prog 103 #[.slice ao l.length cap] w fun e w' => e = .returned (.int .i64 (eachE l)) ∧ Below w.heap.size w w' := by
  have hmm := @run_makeMap Try.prog
  have HOK := hid hok
  clear hok
  go_enter Try.func103, Try.ntmps103
  go_wp2
  go_loopw [11] (fun i wr => ∃ k : Nat, k ≤ l.length ∧ i = .int .i64 k ∧ Hid (eachTo l k = 0) ∧ SetAt Try.prog 3 4 wr w.heap.size k (keysX (l.take k)) ∧ SetAt Try.prog 57 4 wr (w.heap.size + 1) k (keysH (l.take k)) ∧ Below w.heap.size w wr) (fun i _ => l.length - (intOf i).toNat)
  case atStart => exact ⟨0, Nat.zero_le _, rfl, rfl, (SetAt.made _ _ _ w).alloc _, by have h := SetAt.made Try.prog 57 4 (w.alloc (.map #[] 0)); rw [show (w.alloc (.map #[] 0)).heap.size = w.heap.size + 1 by simp] at h; exact h, ((Below.refl _ _).alloc (Nat.le_refl _) _).alloc (by simp) _⟩
  case round =>
    obtain ⟨k, hk, rfl, HE, hX, hH, hbl⟩ := hrel
    by_cases h0 : k < l.length
    · obtain ⟨b, off, s, rfl, hb, HS, hat0⟩ := hr.elem (i := k) h0
      have hs : s.Ok := by rw [HS.out, getD_lt' l nil h0]; exact HOK.out _ (List.getElem_mem h0)
      have hat := At.belowB hat0 hbl hb
      have hcl := hs.csl
      have HCL := hid hcl
      have c1 := cs_one s
      clear hcl hat0
      obtain ⟨N, HN⟩ : ∃ N, Hid (wr.heap.size = N) := ⟨_, rfl⟩
      have hlt := hX.lt
      have hlt2 := hH.lt
      rw [HN.out] at hlt hlt2
      have hb1 := memX (l.take k) s
      have hb2 := memH (l.take k) s (fun t ht => HOK.out t (List.mem_of_mem_take ht)) hs
      have hbad : faultIn (l.take k) s ≠ 0 → eachE l = faultIn (l.take k) s := fun h => by have := eachE_bad l k h0 HE.out (by rw [← HS.out]; exact h); rw [← HS.out] at this; exact this
      have hstep : faultIn (l.take k) s = 0 → eachTo l (k + 1) = 0 := fun h => eachTo_step l k HE.out (by rw [← HS.out]; exact h)
      have hfi : faultIn (l.take k) s = if inB s.x 1 256 = false then 4 else if ((l.take k).any (fun t => t.x == s.x) || (l.take k).any (fun t => t.h == s.h)) = true then 8 else if badY s = true then 4 else 0 := by unfold faultIn; rw [any_same]
      have HBAD := hid hbad
      have HSTEP := hid hstep
      have HFI := hid hfi
      have HKX := hid (keysX_succ l k h0)
      have HKH := hid (keysH_succ l k h0)
      rw [← HS.out] at HKX HKH
      clear hbad hstep hfi
      generalize hg1 : (l.take k).any (fun t => t.x == s.x) = b1 at hb1 HFI
      generalize hg2 : (l.take k).any (fun t => t.h == s.h) = b2 at hb2 HFI
      clear hg1 hg2
      have HB1 := hid hb1
      have HB2 := hid hb2
      clear hb1 hb2
      cases hin : inB s.x 1 256
      · go_wp2_with (first | (refine wl_loadG (by rfl) 61 _ rfl ⟨b, off + k * 49, none⟩ rfl 49 s.cs HCL.out aggS hat ?_) | (refine wl_allocV rfl 61 rfl sh0.cs sh0_zero N HN.out ?_; intro wA hA hbA hsA) | (refine wl_storeV rfl 61 _ _ rfl 61 N rfl s.cs rfl 49 aggS HCL.out sh0.cs hA sh0_len c1 ?_; intro wS hS hbS hsS; have cx := (hS.cell 16).trans (cs_x s hs); have hXS := hX.below (by rw [HN.out]; exact hbA.trans hbS); have hHS := hH.below (by rw [HN.out]; exact hbA.trans hbS); have hath := at_h hs hS; have hat0 := hS.at0) | (go_at_call 86; refine (outside_any _ _ _ _).mono ?_; rintro e w1 ⟨rfl, rfl⟩) | (at_lookup; refine wl_lookG _ (by rfl) _ _ 193 rfl 3 4 lawI Try.underlying193 Try.underlying4 (zeroB _) w.heap.size k _ rfl hXS _ _ rfl (keyX s hs) _ HB1.out ?_) | (at_lookup; refine wl_lookG _ (by rfl) _ _ 183 rfl 57 4 lawH Try.underlying183 Try.underlying4 (zeroB _) (w.heap.size + 1) k _ rfl hHS _ _ rfl (keyH s hs) _ HB2.out ?_) | (refine wl_loadG (by rfl) 57 _ rfl ⟨N, 0, none⟩ rfl 16 (s.h.map (Value.int .u8)) (by rw [List.length_map]; exact hs.hl) aggID hath ?_) | (refine wl_loadG (by rfl) 61 _ rfl ⟨N, 0, none⟩ rfl 49 s.cs HCL.out aggS hat0 ?_) | (go_at_call 111; refine (badValues_any s hs _).mono ?_; rw [hbY]; rintro e wB ⟨rfl, hb2⟩))
        go_ret
        exact ⟨rv (ri (by rw [HBAD.out (by rw [HFI.out, if_pos hin]; decide), HFI.out, if_pos hin])), bel_all HN.out hbl hbA hbS⟩
      · have HIN := hid hin
        cases b1
        · cases b2
          · cases hbY : badY s
            · have HBY := hid hbY
              go_wp2_with (first | (refine wl_loadG (by rfl) 61 _ rfl ⟨b, off + k * 49, none⟩ rfl 49 s.cs HCL.out aggS hat ?_) | (refine wl_allocV rfl 61 rfl sh0.cs sh0_zero N HN.out ?_; intro wA hA hbA hsA) | (refine wl_storeV rfl 61 _ _ rfl 61 N rfl s.cs rfl 49 aggS HCL.out sh0.cs hA sh0_len c1 ?_; intro wS hS hbS hsS; have cx := (hS.cell 16).trans (cs_x s hs); have hXS := hX.below (by rw [HN.out]; exact hbA.trans hbS); have hHS := hH.below (by rw [HN.out]; exact hbA.trans hbS); have hath := at_h hs hS; have hat0 := hS.at0) | (go_at_call 86; refine (outside_any _ _ _ _).mono ?_; rintro e w1 ⟨rfl, rfl⟩) | (at_lookup; refine wl_lookG _ (by rfl) _ _ 193 rfl 3 4 lawI Try.underlying193 Try.underlying4 (zeroB _) w.heap.size k _ rfl hXS _ _ rfl (keyX s hs) _ HB1.out ?_) | (at_lookup; refine wl_lookG _ (by rfl) _ _ 183 rfl 57 4 lawH Try.underlying183 Try.underlying4 (zeroB _) (w.heap.size + 1) k _ rfl hHS _ _ rfl (keyH s hs) _ HB2.out ?_) | (refine wl_loadG (by rfl) 57 _ rfl ⟨N, 0, none⟩ rfl 16 (s.h.map (Value.int .u8)) (by rw [List.length_map]; exact hs.hl) aggID hath ?_) | (refine wl_loadG (by rfl) 61 _ rfl ⟨N, 0, none⟩ rfl 49 s.cs HCL.out aggS hat0 ?_) | (go_at_call 111; refine (badValues_any s hs _).mono ?_; rw [hbY]; rintro e wB ⟨rfl, hb2⟩))
              have hNS : N < wS.heap.size := hS.lt
              have hSB := hS.below hb2 hNS
              have cxB := (hSB.cell 16).trans (cs_x s hs)
              have hathB := at_h hs hSB
              have hXB := hXS.below hb2
              have hHB := hHS.below hb2
              have hbB := (bel_all HN.out hbl hbA hbS).trans (hb2.mono (bel_all HN.out hbl hbA hbS).size)
              obtain ⟨W1, hrun1, hX1, hg1⟩ := hXB.drew.put lawI Try.underlying193 Try.underlying4 (by unfold maxLen; omega) (keyX s hs)
              have hH1 := hHB.drew.kept hg1 (by simp)
              obtain ⟨W2, hrun2, hH2, hg2⟩ := hH1.put lawH Try.underlying183 Try.underlying4 (by unfold maxLen; omega) (keyH s hs)
              have hX2 := hX1.kept hg2 (by simp)
              have hS1 := hSB.drew.grown hg1 (by simp; omega)
              have cx1 := (hS1.cell 16).trans (cs_x s hs)
              have hath1 := at_h hs hS1
              have ra0 : wB.drew.rangeAt N 0 (s.h.map (Value.int .u8)) := fun j v hv => by have := hathB j v hv; rwa [Addr.add_mid] at this
              have ra1 : W1.rangeAt N 0 (s.h.map (Value.int .u8)) := fun j v hv => by have := hath1 j v hv; rwa [Addr.add_mid] at this
              have hS2 := hS1.grown hg2 (by simp; omega)
              have cx2 := (hS2.cell 16).trans (cs_x s hs)
              have hath2 := at_h hs hS2
              have ra2 : W2.rangeAt N 0 (s.h.map (Value.int .u8)) := fun j v hv => by have := hath2 j v hv; rwa [Addr.add_mid] at this
              have cx0 : wB.drew.cell? ⟨N, 16, none⟩ = some (.int .i64 s.x) := cxB
              have hu := Try.underlying57
              have hi : (Try.prog.info? 57).map (·.size) = some (s.h.map (Value.int .u8)).length := by rw [List.length_map, hs.hl]; exact aggID.2
              have hHL : (s.h.map (Value.int .u8)).length = 16 := by rw [List.length_map]; exact hs.hl
              have hH1' : ∀ v ∈ s.h.map (Value.int .u8), v.oneCell' = true := ints_one _ _
              have hb2' := (hbB.drew.grown hg1 (by simpa using hbB.size) (fun k hk => by cases hk; exact Nat.le_refl _)).grown hg2 (Nat.le_trans hbB.size (by simpa using hg1.size)) (fun k hk => by cases hk; omega)
              generalize s.h.map (Value.int .u8) = HV at *
              clear hath hath1 hath2 hathB hat hat0
              go_region_held3 (fun w' => w'.cell? ⟨N, 16, none⟩ = some (.int .i64 s.x) ∧ w'.rangeAt N 0 HV) (first | exact ⟨cx0, ra0⟩ | exact ⟨cx1, ra1⟩ | exact ⟨cx2, ra2⟩) (fail)
              go_wp2
              go_roundw
              case rel => exact ⟨k + 1, by omega, by go_num, hid (HSTEP.out (by rw [HFI.out, if_neg (by rw [HIN.out]; decide), if_neg (by decide), if_neg (by rw [HBY.out]; decide)])), by rw [HKX.out]; exact hX2, by rw [HKH.out]; exact hH2, hb2'⟩
              case measure => simp [intOf] <;> omega
            · have HBY := hid hbY
              go_wp2_with (first | (refine wl_loadG (by rfl) 61 _ rfl ⟨b, off + k * 49, none⟩ rfl 49 s.cs HCL.out aggS hat ?_) | (refine wl_allocV rfl 61 rfl sh0.cs sh0_zero N HN.out ?_; intro wA hA hbA hsA) | (refine wl_storeV rfl 61 _ _ rfl 61 N rfl s.cs rfl 49 aggS HCL.out sh0.cs hA sh0_len c1 ?_; intro wS hS hbS hsS; have cx := (hS.cell 16).trans (cs_x s hs); have hXS := hX.below (by rw [HN.out]; exact hbA.trans hbS); have hHS := hH.below (by rw [HN.out]; exact hbA.trans hbS); have hath := at_h hs hS; have hat0 := hS.at0) | (go_at_call 86; refine (outside_any _ _ _ _).mono ?_; rintro e w1 ⟨rfl, rfl⟩) | (at_lookup; refine wl_lookG _ (by rfl) _ _ 193 rfl 3 4 lawI Try.underlying193 Try.underlying4 (zeroB _) w.heap.size k _ rfl hXS _ _ rfl (keyX s hs) _ HB1.out ?_) | (at_lookup; refine wl_lookG _ (by rfl) _ _ 183 rfl 57 4 lawH Try.underlying183 Try.underlying4 (zeroB _) (w.heap.size + 1) k _ rfl hHS _ _ rfl (keyH s hs) _ HB2.out ?_) | (refine wl_loadG (by rfl) 57 _ rfl ⟨N, 0, none⟩ rfl 16 (s.h.map (Value.int .u8)) (by rw [List.length_map]; exact hs.hl) aggID hath ?_) | (refine wl_loadG (by rfl) 61 _ rfl ⟨N, 0, none⟩ rfl 49 s.cs HCL.out aggS hat0 ?_) | (go_at_call 111; refine (badValues_any s hs _).mono ?_; rw [hbY]; rintro e wB ⟨rfl, hb2⟩))
              go_ret
              exact ⟨rv (ri (by rw [HBAD.out (by rw [HFI.out, if_neg (by rw [HIN.out]; decide), if_neg (by decide), if_pos HBY.out]; decide), HFI.out, if_neg (by rw [HIN.out]; decide), if_neg (by decide), if_pos HBY.out])), (bel_all HN.out hbl hbA hbS).trans (hb2.mono (bel_all HN.out hbl hbA hbS).size)⟩
          · go_wp2_with (first | (refine wl_loadG (by rfl) 61 _ rfl ⟨b, off + k * 49, none⟩ rfl 49 s.cs HCL.out aggS hat ?_) | (refine wl_allocV rfl 61 rfl sh0.cs sh0_zero N HN.out ?_; intro wA hA hbA hsA) | (refine wl_storeV rfl 61 _ _ rfl 61 N rfl s.cs rfl 49 aggS HCL.out sh0.cs hA sh0_len c1 ?_; intro wS hS hbS hsS; have cx := (hS.cell 16).trans (cs_x s hs); have hXS := hX.below (by rw [HN.out]; exact hbA.trans hbS); have hHS := hH.below (by rw [HN.out]; exact hbA.trans hbS); have hath := at_h hs hS; have hat0 := hS.at0) | (go_at_call 86; refine (outside_any _ _ _ _).mono ?_; rintro e w1 ⟨rfl, rfl⟩) | (at_lookup; refine wl_lookG _ (by rfl) _ _ 193 rfl 3 4 lawI Try.underlying193 Try.underlying4 (zeroB _) w.heap.size k _ rfl hXS _ _ rfl (keyX s hs) _ HB1.out ?_) | (at_lookup; refine wl_lookG _ (by rfl) _ _ 183 rfl 57 4 lawH Try.underlying183 Try.underlying4 (zeroB _) (w.heap.size + 1) k _ rfl hHS _ _ rfl (keyH s hs) true (by first | exact HB2.out | exact ⟨fun _ => HB2.out.1 trivial, fun _ => rfl⟩) ?_) | (refine wl_loadG (by rfl) 57 _ rfl ⟨N, 0, none⟩ rfl 16 (s.h.map (Value.int .u8)) (by rw [List.length_map]; exact hs.hl) aggID hath ?_) | (refine wl_loadG (by rfl) 61 _ rfl ⟨N, 0, none⟩ rfl 49 s.cs HCL.out aggS hat0 ?_) | (go_at_call 111; refine (badValues_any s hs _).mono ?_; rw [hbY]; rintro e wB ⟨rfl, hb2⟩))
            go_ret
            exact ⟨rv (ri (by rw [HBAD.out (by rw [HFI.out, if_neg (by rw [HIN.out]; decide), if_pos (by decide)]; decide), HFI.out, if_neg (by rw [HIN.out]; decide), if_pos (by decide)])), bel_all HN.out hbl hbA hbS⟩
        · go_wp2_with (first | (refine wl_loadG (by rfl) 61 _ rfl ⟨b, off + k * 49, none⟩ rfl 49 s.cs HCL.out aggS hat ?_) | (refine wl_allocV rfl 61 rfl sh0.cs sh0_zero N HN.out ?_; intro wA hA hbA hsA) | (refine wl_storeV rfl 61 _ _ rfl 61 N rfl s.cs rfl 49 aggS HCL.out sh0.cs hA sh0_len c1 ?_; intro wS hS hbS hsS; have cx := (hS.cell 16).trans (cs_x s hs); have hXS := hX.below (by rw [HN.out]; exact hbA.trans hbS); have hHS := hH.below (by rw [HN.out]; exact hbA.trans hbS); have hath := at_h hs hS; have hat0 := hS.at0) | (go_at_call 86; refine (outside_any _ _ _ _).mono ?_; rintro e w1 ⟨rfl, rfl⟩) | (at_lookup; refine wl_lookG _ (by rfl) _ _ 193 rfl 3 4 lawI Try.underlying193 Try.underlying4 (zeroB _) w.heap.size k _ rfl hXS _ _ rfl (keyX s hs) true (by first | exact HB1.out | exact ⟨fun _ => HB1.out.1 trivial, fun _ => rfl⟩) ?_) | (at_lookup; refine wl_lookG _ (by rfl) _ _ 183 rfl 57 4 lawH Try.underlying183 Try.underlying4 (zeroB _) (w.heap.size + 1) k _ rfl hHS _ _ rfl (keyH s hs) _ HB2.out ?_) | (refine wl_loadG (by rfl) 57 _ rfl ⟨N, 0, none⟩ rfl 16 (s.h.map (Value.int .u8)) (by rw [List.length_map]; exact hs.hl) aggID hath ?_) | (refine wl_loadG (by rfl) 61 _ rfl ⟨N, 0, none⟩ rfl 49 s.cs HCL.out aggS hat0 ?_) | (go_at_call 111; refine (badValues_any s hs _).mono ?_; rw [hbY]; rintro e wB ⟨rfl, hb2⟩))
          go_ret
          exact ⟨rv (ri (by rw [HBAD.out (by rw [HFI.out, if_neg (by rw [HIN.out]; decide), if_pos (by rfl)]; decide), HFI.out, if_neg (by rw [HIN.out]; decide), if_pos (by rfl)])), bel_all HN.out hbl hbA hbS⟩
    · go_wp2
      go_ret
      exact ⟨rv (ri (by have := HE.out; unfold eachE; rw [show l.length = k by omega, this])), hbl⟩
end Go.Proofs.Ytbljihhelladbaa.shr
namespace Go.Proofs.Ytbljihhelladbaa
set_option linter.unusedSimpArgs false
set_option linter.unusedVariables false
open Go.RowKit
theorem all_range_eqI : ∀ (xs ys : List Int), xs.length = ys.length → ((List.range xs.length).all fun i => xs.getD i 0 == ys.getD i 0) = (xs == ys)
  | [], [], _ => rfl
  | x :: xs, y :: ys, h => by
    have ih := all_range_eqI xs ys (by simpa using h)
    rw [List.length_cons, List.range_succ_eq_map, List.all_cons, List.all_map]
    simp only [List.getD_cons_zero, Function.comp_def, List.getD_cons_succ, ih]
    simp [List.cons_beq_cons]
  | [], _ :: _, h => by simp at h
  | _ :: _, [], h => by simp at h
theorem run_equalIn_ints {P : Program} (w : World) (d : Nat) (t e : TypeId) (n : Nat) (q : IntKind) (ht : P.underlying t = some (.array n e)) (he : P.underlying e = some (.int q)) (hsz : ∀ w, (sizeOf e).run P w = .ok 1 w)
    (xs ys : List Int) (hx : xs.length = n) (hy : ys.length = n) :
    (Op.equalIn (d + 2) t (.agg (xs.map (Value.int q)).toArray) (.agg (ys.map (Value.int q)).toArray)).run P w = .ok (xs == ys) w := by
  rw [← all_range_eqI xs ys (hx.trans hy.symm), hx, List.range_eq_range', Op.equalIn]
  simp only [Sem.run_bind, run_underlying ht, Result.andThen_ok, hsz, Std.Legacy.Range.forIn_eq_forIn_range', Std.Legacy.Range.size, Nat.sub_zero, Nat.add_sub_cancel, Nat.div_one]
  have hl : ∀ i ∈ List.range' 0 n 1, i < n := fun i hi => by simpa using (List.mem_range'_1.1 hi).2
  generalize List.range' 0 n 1 = l at hl ⊢
  induction l with
  | nil => simp
  | cons i l ih =>
    have hi : i < n := hl i (by simp)
    have px : (part e (xs.map (Value.int q)).toArray (i * 1)).run P w = .ok (.int q (xs.getD i 0)) w := by
      simp [part, isAgg, run_underlying he, List.getD, List.getElem?_eq_getElem (show i < xs.length by omega)]
    have py : (part e (ys.map (Value.int q)).toArray (i * 1)).run P w = .ok (.int q (ys.getD i 0)) w := by
      simp [part, isAgg, run_underlying he, List.getD, List.getElem?_eq_getElem (show i < ys.length by omega)]
    have pe : (Op.equalIn (d + 1) e (.int q (xs.getD i 0)) (.int q (ys.getD i 0))).run P w = .ok (xs.getD i 0 == ys.getD i 0) w := by
      rw [run_equalIn_int w d e q q _ _ he]
    simp only [List.forIn_cons, Sem.run_bind, px, py, pe, Result.andThen_ok, List.all_cons]
    cases hb : (xs.getD i 0 == ys.getD i 0)
    · simp
    · simp only [Bool.not_true, Bool.false_eq_true, if_false, Sem.run_pure, Result.andThen_ok, Bool.true_and]
      exact ih fun j hj => hl j (by simp [hj])
end Go.Proofs.Ytbljihhelladbaa
namespace Go.Proofs.Ytbljihhelladbaa.shr
set_option linter.unusedVariables false
open Go.RowKit Go.Proofs.Ytbljihhelladbaa.sh
set_option linter.unusedSimpArgs false
set_option pp.maxSteps 6000
theorem CheckShares_any (need : Int) (ao : Option Addr) (cap : Nat) (l : List Sh) (w : World) (hr : RowS w ao l) (hok : ∀ s ∈ l, s.Ok) (hn : l.length ≤ 9223372036854775807) :
    Calls Try.prog 34 #[.int .i64 need, .slice ao l.length cap] w fun e w' => e = .returned (.int .i64 (sharesE false need l)) ∧ Below w.heap.size w w' := by
  have HOK := hid hok
  clear hok
  unfold sharesE
  cases hin : inB need 1 32
  · go_enter Try.func34, Try.ntmps34
    go_wp2_with (go_at_call 86; refine (outside_any _ _ _ _).mono ?_; rintro e w1 ⟨rfl, rfl⟩)
    go_ret
    exact ⟨rfl, Below.refl _ _⟩
  · by_cases h1 : (l.length : Int) < need
    · go_enter Try.func34, Try.ntmps34
      go_wp2_with (go_at_call 86; refine (outside_any _ _ _ _).mono ?_; rintro e w1 ⟨rfl, rfl⟩)
      go_ret
      exact ⟨rv (ri (by simp [h1])), Below.refl _ _⟩
    · by_cases h2 : 32 < l.length
      · go_enter Try.func34, Try.ntmps34
        go_wp2_with (go_at_call 86; refine (outside_any _ _ _ _).mono ?_; rintro e w1 ⟨rfl, rfl⟩)
        go_ret
        exact ⟨rv (ri (by simp [h1, h2])), Below.refl _ _⟩
      · have H1 := hid h1
        have H2 := hid h2
        go_enter Try.func34, Try.ntmps34
        go_wp2_with (first | (go_at_call 86; refine (outside_any _ _ _ _).mono ?_; rintro e w1 ⟨rfl, rfl⟩) | (go_at_call 103; refine (eachFault_any _ _ l _ hr HOK.out (by omega)).mono ?_; rintro e w1 ⟨rfl, hb1⟩))
        go_ret
        exact ⟨rv (ri (by simp [H1.out, H2.out])), hb1⟩
set_option maxRecDepth 100000 in
theorem same1 (s t : Sh) (hs : s.Ok) (ht : t.Ok) (g : Nat) (w : World) (hg : BlkV 61 w g s.cs) :
    Calls Try.prog 98 #[.agg t.cs.toArray, .pointer (some ⟨g, 0, none⟩)] w fun e w' => e = .returned (.bool (same s t)) ∧ Below w.heap.size w w' := by
  have hT0 : BlkV 61 (w.alloc (.cells t.cs.toArray 61)) w.heap.size t.cs := BlkV.new _ _ _ rfl
  have hS0 := hg.alloc (.cells t.cs.toArray 61)
  have cT := (hT0.cell 16).trans (cs_x t ht)
  have cS := (hS0.cell 16).trans (cs_x s hs)
  have aT := at_h ht hT0
  have aS := at_h hs hS0
  have heq := fun w => run_equalIn_ints (P := Try.prog) w 9998 57 5 16 .u8 Try.underlying57 Try.underlying5 (fun w => by kernel_rfl) t.h s.h ht.hl hs.hl
  have hb := (Below.refl w.heap.size w).alloc (Nat.le_refl _) (.cells t.cs.toArray 61)
  have HTL : Hid (t.cs.length = 49) := ht.csl
  have HT1 : Hid ((t.h.map (Value.int .u8)).length = 16) := by show _ = _; rw [List.length_map]; exact ht.hl
  have HS1 : Hid ((s.h.map (Value.int .u8)).length = 16) := by show _ = _; rw [List.length_map]; exact hs.hl
  unfold same
  generalize t.cs = T at *
  generalize t.h.map (Value.int .u8) = TH at *
  generalize s.h.map (Value.int .u8) = SH at *
  clear hS0 hT0 hg
  by_cases hx : t.x = s.x
  · have hx' : (t.x == s.x) = true := by simp [hx]
    have HX := hid hx'
    clear hx
    go_enter Try.func98, Try.ntmps98
    go_wp2
    go_ret
    exact ⟨rv (rb (by rw [HX.out]; rfl)), hb⟩
  · have hx' : (t.x == s.x) = false := by simp [hx]
    have HX := hid hx'
    clear hx
    go_enter Try.func98, Try.ntmps98
    go_wp2_with (first | (refine wl_loadG (by rfl) 57 _ rfl ⟨w.heap.size, 0, none⟩ rfl 16 TH HT1.out aggID aT ?_) | (refine wl_loadG (by rfl) 57 _ rfl ⟨g, 0, none⟩ rfl 16 SH HS1.out aggID aS ?_))
    go_ret
    exact ⟨rv (rb (by rw [HX.out]; rfl)), hb⟩
set_option maxRecDepth 100000 in
theorem idxSame (caps : Array Value) (p : Sh → Bool) (ao : Option Addr) (cap n : Nat) (l : List Sh) (w : World) (hl : n = l.length) (hr : RowS w ao l) (hn : l.length ≤ 4611686018427387904) (hok : ∀ s ∈ l, s.Ok)
    (hf : ∀ i, i < l.length → ∀ w', Below w.heap.size w w' → Calls Try.prog 98 (#[.agg (l.getD i nil).cs.toArray] ++ caps) w' fun e w'' => e = .returned (.bool (p (l.getD i nil))) ∧ Below w'.heap.size w' w'') :
    Calls Try.prog 119 #[.slice ao n cap, .func (.func 98) #[] caps] w fun e w' => e = .returned (.int .i64 (slInt.findI p l 0)) ∧ Below w.heap.size w w' := by
  subst hl
  have HOK := hid hok
  clear hok
  go_enter Try.func119, Try.ntmps119
  go_wp2
  go_loopw [5, 8] (fun _ i wr => ∃ k : Nat, k ≤ l.length ∧ i = .int .i64 k ∧ Hid (slInt.findI p (l.drop k) k = slInt.findI p l 0) ∧ Below w.heap.size w wr) (fun _ i _ => l.length - (intOf i).toNat)
  case atStart => exact ⟨0, Nat.zero_le _, rfl, rfl, Below.refl _ _⟩
  case round =>
    obtain ⟨k, hk, rfl, HA, hbl⟩ := hrel
    by_cases h0 : k < l.length
    · obtain ⟨b, off, s, rfl, hb, HS, hat0⟩ := hr.elem (i := k) h0
      have hs : s.Ok := by rw [HS.out, getD_lt' l nil h0]; exact HOK.out _ (List.getElem_mem h0)
      have hat := At.belowB hat0 hbl hb
      have HCL := hid hs.csl
      have HD := slInt.findI_drop p l nil k h0
      rw [← HS.out, HA.out] at HD
      replace HD := hid HD
      have HF := hf k h0 _ hbl
      rw [← HS.out] at HF
      replace HF := hid HF
      clear hf hat0
      cases hc : p s
      · have HN := hid hc
        rw [hc] at HF
        clear hc
        go_wp2_with (first | (refine wl_loadG (by rfl) 61 _ rfl ⟨b, off + k * 49, none⟩ rfl 49 s.cs HCL.out aggS hat ?_) | (go_at_call 98; refine HF.out.mono ?_; rintro e w1 ⟨rfl, hb1⟩))
        go_roundw
        case rel => exact ⟨k + 1, by omega, by go_num, by show _ = _; rw [HD.out, if_neg (by rw [HN.out]; simp)], hbl.trans (hb1.mono hbl.size)⟩
        case measure => simp [intOf] <;> omega
      · have HN := hid hc
        rw [hc] at HF
        clear hc
        go_wp2_with (first | (refine wl_loadG (by rfl) 61 _ rfl ⟨b, off + k * 49, none⟩ rfl 49 s.cs HCL.out aggS hat ?_) | (go_at_call 98; refine HF.out.mono ?_; rintro e w1 ⟨rfl, hb1⟩))
        go_ret
        exact ⟨rv (ri (by rw [HD.out, if_pos HN.out])), hbl.trans (hb1.mono hbl.size)⟩
    · go_wp2
      go_ret
      exact ⟨rv (ri (by rw [← HA.out, List.drop_eq_nil_of_le (by omega)]; rfl)), hbl⟩
set_option maxRecDepth 100000 in
theorem conSame (caps : Array Value) (p : Sh → Bool) (ao : Option Addr) (cap n : Nat) (l : List Sh) (w : World) (hl : n = l.length) (hr : RowS w ao l) (hn : l.length ≤ 4611686018427387904) (hok : ∀ s ∈ l, s.Ok)
    (hf : ∀ i, i < l.length → ∀ w', Below w.heap.size w w' → Calls Try.prog 98 (#[.agg (l.getD i nil).cs.toArray] ++ caps) w' fun e w'' => e = .returned (.bool (p (l.getD i nil))) ∧ Below w'.heap.size w' w'') :
    Calls Try.prog 58 #[.slice ao n cap, .func (.func 98) #[] caps] w fun e w' => e = .returned (.bool (l.any p)) ∧ Below w.heap.size w w' := by
  subst hl
  have HF := hid (slInt.findI_any p l 0)
  have HI := hid (idxSame caps p ao cap l.length l w rfl hr hn hok hf)
  clear hf hok
  go_enter Try.func58, Try.ntmps58
  go_wp2_with (go_at_call 119; refine HI.out.mono ?_; rintro e w1 ⟨rfl, hb1⟩)
  go_ret
  exact ⟨rv (rb HF.out), hb1⟩
end Go.Proofs.Ytbljihhelladbaa.shr
