/-
  Contracts of both Stir functions. Condition: a state of 64 octets.
-/
import Derived.Test.YtbljihhelladbaaStX
namespace Go.Proofs.Ytbljihhelladbaa.st
open Go.RowKit
set_option pp.maxSteps 4000

/-- what is added to a word -/
def addend (r i : Nat) (c : Int) : Int := bits .xor .u32 (rotl c (5 + i)) (2654435769 * ((16 * r + i + 1 : Nat) : Int) % 4294967296)

theorem rotR' (x : Int) (k : Nat) (K : Int) (hK : K = k) (w : World) (h : k < 32) (hx : W32 x) : Calls Try.prog 230 #[.int .u32 x, .int .i64 K] w fun e w' => e = .returned (.int .u32 (rotl x k)) ∧ w' = w := by
  subst hK; exact (rotR x k w h hx).mono fun e w' h => ⟨h.1, h.2.symm⟩
theorem rotT' (x : Int) (k : Nat) (K : Int) (hK : K = k) (w : World) (h : k < 32) (hx : W32 x) : Calls Try.prog 197 #[.int .u32 x, .int .i64 K] w fun e w' => e = .returned (.int .u32 (rotl x k)) ∧ ∃ n, w' = w.drewN n := by
  subst hK; exact rotT x k w h hx

theorem turnM (g : Nat) (ws : List Int) (r i : Nat) (w : World) (hl : ws.length = 16) (hw : AllW ws) (hg : BlkI .u32 236 w g ws) (hr : r < 8) (hi : i < 16) :
    Calls Try.prog 229 #[.pointer (some ⟨g, 0, none⟩), .int .i64 r, .int .i64 i] w fun e w' => e = .returned (.int .u32 (addend r i (ws.getD ((i + 1 + r) % 16) 0))) ∧ w' = w := by
  obtain ⟨j, HJ⟩ : ∃ j, Hid (j = (i + 1 + r) % 16) := ⟨_, rfl⟩
  have hj : j < 16 := by rw [HJ.out]; omega
  obtain ⟨c, HC, hcell⟩ := hg.elem (i := j) (by omega)
  have hc : W32 c := by rw [HC.out]; exact hw.getD j
  have hd : ((i : Int) + 1 + (r : Int)).tmod 16 = j := by rw [Int.tmod_eq_emod_of_nonneg (by omega), HJ.out]; omega
  go_enter Try.func229, Try.ntmps229
  go_wp2_with fail
  refine (rotR' c (5 + i) _ (by omega) w (by omega) hc).mono ?_
  rintro e wn ⟨rfl, rfl⟩
  go_wp2
  go_ret
  refine ⟨rv (ri ?_), rfl⟩
  unfold addend
  rw [← HJ.out, ← HC.out]
  congr 1

theorem addW_eq (r i : Nat) (w : List Int) : addW r i w = w.set i ((w.getD i 0 + addend r i (w.getD ((i + 1 + r) % 16) 0)) % 4294967296) := rfl
theorem wordsL_w {s : List Int} (hs : Octs s) : AllW (wordsL s 16) := by
  intro c hc
  unfold wordsL at hc
  obtain ⟨i, _, rfl⟩ := List.mem_map.1 hc
  exact w32_w4 (hs.getD _) (hs.getD _) (hs.getD _) (hs.getD _)

set_option maxRecDepth 100000 in
set_option maxHeartbeats 2000000 in
theorem stirM (s : List Int) (w : World) (hl : s.length = 64) (hs : Octs s) :
    Calls Try.prog 217 #[.agg (s.map (Value.int .u8)).toArray] w fun e w' => e = .returned (.agg ((stirL s).map (Value.int .u8)).toArray) ∧ Below w.heap.size w w' := by
  have HL := hid hl
  have HZ := hid zero16
  have HY := hid zero64
  obtain ⟨Z, HZ'⟩ : ∃ Z, Hid (Z = (List.replicate 16 (0 : Int)).map (Value.int .u32)) := ⟨_, rfl⟩
  obtain ⟨Y, HY'⟩ : ∃ Y, Hid (Y = (List.replicate 64 (0 : Int)).map (Value.int .u8)) := ⟨_, rfl⟩
  rw [← HZ'.out] at HZ
  rw [← HY'.out] at HY
  obtain ⟨S, HS⟩ : ∃ S, Hid (S = s.map (Value.int .u8)) := ⟨_, rfl⟩
  rw [← HS.out]
  have HSL : Hid (S.length = 64) := by show S.length = 64; rw [HS.out, List.length_map, HL.out]
  have HYL : Hid (Y.length = 64) := by show Y.length = 64; rw [HY'.out, List.length_map, List.length_replicate]
  have HZL : Hid (Z.length = 16) := by show Z.length = 16; rw [HZ'.out, List.length_map, List.length_replicate]
  clear hl
  go_enter Try.func217, Try.ntmps217
  go_wp2_with (first | (refine wl_alloc rfl 152 rfl Y HY.out ?_) | (refine wl_load rfl 152 _ rfl ⟨w.heap.size, 0, none⟩ rfl S (by rw [HSL.out]; exact agg64) ((BlkV.new _ w S rfl).alloc _).at0 ?_))
  rw [HS.out]
  refine (wordsOf s _ HL.out hs).mono ?_
  rintro e w1 ⟨rfl, hb1⟩
  rw [← HS.out] at hb1 ⊢
  obtain ⟨V, HV⟩ : ∃ V, Hid (V = wordsL s 16) := ⟨_, rfl⟩
  rw [← HV.out]
  have hVl : V.length = 16 := by rw [HV.out, wordsL_length]
  have hVw : AllW V := by rw [HV.out]; exact wordsL_w hs
  have HVL := hid hVl
  obtain ⟨VV, HVV⟩ : ∃ VV, Hid (VV = V.map (Value.int .u32)) := ⟨_, rfl⟩
  rw [← HVV.out]
  have HVVL : Hid (VV.length = 16) := by show VV.length = 16; rw [HVV.out, List.length_map, HVL.out]
  have hVV1 : ∀ u ∈ VV, u.oneCell' = true := by rw [HVV.out]; exact ints_one _ _
  have hR0 := (BlkV.new 152 (w.alloc (.cells S.toArray 152)) (g := w.heap.size + 1) Y (by simp)).below hb1 (by simp)
  have bA : Below w.heap.size w w1 := (((Below.refl w.heap.size w).alloc (Nat.le_refl _) _).alloc (by simp) _).trans (hb1.mono (by simp; omega))
  have hsz := hb1.size
  simp only [World.alloc, Array.size_push] at hsz
  clear hVl hb1
  go_wp2_with (first | (refine wl_alloc rfl 236 rfl Z HZ.out ?_) | (refine wl_storeAll rfl 236 _ _ rfl 236 w1.heap.size rfl VV rfl 16 agg16 HVVL.out Z (BlkV.new _ w1 Z rfl) HZL.out hVV1 ?_; intro hW0))
  obtain ⟨g3, Hg3⟩ : ∃ g3, Hid (g3 = w1.heap.size) := ⟨_, rfl⟩
  have hR1 := (hR0.alloc (.cells Z.toArray 236)).otherRow (g' := w1.heap.size) (by omega) VV.toArray
  have bB := below_setRow' (bA.alloc bA.size (.cells Z.toArray 236)) bA.size VV.toArray
  have hgg : w.heap.size + 1 < g3 := by rw [Hg3.out]; omega
  have hW1 : BlkI .u32 236 ((w1.alloc (.cells Z.toArray 236)).setRow w1.heap.size VV.toArray) w1.heap.size (roundTo V 0) := by rw [HVV.out] at hW0 ⊢; exact hW0
  rw [← Hg3.out] at hR1 bB hW1 ⊢
  generalize (w1.alloc (.cells Z.toArray 236)).setRow g3 VV.toArray = w2 at *
  clear hR0 bA hsz hW0 Hg3
  go_loopw [8] (fun r wr => ∃ k : Nat, k ≤ 8 ∧ r = .int .i64 k ∧ BlkI .u32 236 wr g3 (roundTo V k) ∧ BlkV 152 wr (w.heap.size + 1) Y ∧ Below w.heap.size w wr) (fun r _ => 8 - (intOf r).toNat)
  case atStart => exact ⟨0, by omega, rfl, hW1, hR1, bB⟩
  case round =>
    obtain ⟨r, hr, rfl, hW, hR, hb⟩ := hrel
    by_cases h0 : r < 8
    · have hdr : decide ((r : Int) < 8) = true := by simp; omega
      go_wp2_with fail
      go_loopw [11] (fun i wr => ∃ k : Nat, k ≤ 16 ∧ i = .int .i64 k ∧ BlkI .u32 236 wr g3 (stepTo r (roundTo V r) k) ∧ BlkV 152 wr (w.heap.size + 1) Y ∧ Below w.heap.size w wr) (fun i _ => 16 - (intOf i).toNat)
      case atStart => exact ⟨0, by omega, rfl, hW, hR, hb⟩
      case round =>
        obtain ⟨i, hi, rfl, hWi, hRi, hbi⟩ := hrel
        by_cases h1 : i < 16
        · obtain ⟨U, HU⟩ : ∃ U, Hid (U = stepTo r (roundTo V r) i) := ⟨_, rfl⟩
          rw [← HU.out] at hWi
          have hUl : U.length = 16 := by rw [HU.out, stepTo_length, roundTo_length, HVL.out]
          have hUw : AllW U := by rw [HU.out]; exact stepTo_w (roundTo_w hVw r) r i
          obtain ⟨c, HC, hcell⟩ := hWi.elem (i := i) (by omega)
          have hfz := hWi.frozen i
          obtain ⟨A, HA⟩ : ∃ A, Hid (A = addend r i (U.getD ((i + 1 + r) % 16) 0)) := ⟨_, rfl⟩
          obtain ⟨D, HD⟩ : ∃ D, Hid (D = (c + A) % 4294967296) := ⟨_, rfl⟩
          have hT := hid (turnM g3 U r i wr.drew hUl hUw hWi.drew h0 h1)
          rw [← HA.out] at hT
          obtain ⟨U1, HU1⟩ : ∃ U1, Hid (U1 = addW r i U) := ⟨_, rfl⟩
          have hU1l : U1.length = 16 := by rw [HU1.out, addW_eq, List.length_set, hUl]
          have hU1w : AllW U1 := by rw [HU1.out]; exact addW_w hUw r i
          have hW1i : BlkI .u32 236 (wr.setCell ⟨g3, i, none⟩ (.int .u32 D)).drew g3 U1 := by
            rw [HU1.out, addW_eq, ← HA.out, ← HC.out, ← HD.out]
            exact (hWi.set i D).drew
          have hR1i := (hRi.other (a := ⟨g3, i, none⟩) (by simp; omega) (.int .u32 D)).drew
          have hb1i := (hbi.setCell (p := ⟨g3, i, none⟩) (by simp; omega) (.int .u32 D)).drew
          obtain ⟨j, HJ⟩ : ∃ j, Hid (j = (i + 9) % 16) := ⟨_, rfl⟩
          have hj : j < 16 := by rw [HJ.out]; omega
          obtain ⟨x, HX, hcx⟩ := hW1i.elem (i := j) (by omega)
          obtain ⟨y, HY1, hcy⟩ := hW1i.elem (i := i) (by omega)
          have hfx := hW1i.frozen j
          have hyw : W32 y := by rw [HY1.out]; exact hU1w.getD i
          have hXW : BlkI .u32 236 ((wr.setCell ⟨g3, i, none⟩ (.int .u32 D)).drew.setCell ⟨g3, j, none⟩ (.int .u32 (bits .xor .u32 x (rotl y 11)))) g3 (stepTo r (roundTo V r) (i + 1)) := by
            have := hW1i.set j (bits .xor .u32 x (rotl y 11))
            have e : U1.set j (bits .xor .u32 x (rotl y 11)) = stepTo r (roundTo V r) (i + 1) := by rw [HX.out, HY1.out, HJ.out, HU1.out, HU.out]; rfl
            rw [e] at this
            exact this
          have hXR := hR1i.other (a := ⟨g3, j, none⟩) (by simp; omega) (.int .u32 (bits .xor .u32 x (rotl y 11)))
          have hXb := hb1i.setCell (p := ⟨g3, j, none⟩) (by simp; omega) (.int .u32 (bits .xor .u32 x (rotl y 11)))
          have hwrap : IntKind.u32.wrap (c + A) = D := by rw [IntKind.wrap_u32', HD.out]
          have hjI : (j : Int) < 16 := by omega
          have hw9 : IntKind.i64.wrap ((i : Int) + 9) = (i : Int) + 9 := IntWalk.i64_in _ (by omega)
          have hd9 : ((i : Int) + 9).tmod 16 = j := by rw [Int.tmod_eq_emod_of_nonneg (by omega), HJ.out]; omega
          clear hW1i hR1i hb1i hUl hU1l hU1w hUw hWi hRi hbi
          go_wp2_with fail
          refine wp_region_still_tail 7 (by kernel_rfl) (by kernel_rfl) ?_
          simp only [List.take_succ_cons, List.take_zero, List.drop_succ_cons, List.drop_zero]
          change wpStill _ _ wr.drew (fun a' => wpList _ _ _ _ a' wr.drew) _ _
          repeat still_step
          still_call hT.out
          repeat still_step
          refine wpStill_nil ?_
          go_wp2_with fail
          clear hcell hfz
          generalize (wr.setCell ⟨g3, i, none⟩ (.int .u32 D)).drew = wq at *
          refine wp_region_still_tail 10 (by kernel_rfl) (by kernel_rfl) ?_
          simp only [List.take_succ_cons, List.take_zero, List.drop_succ_cons, List.drop_zero]
          change wpStill _ _ wq.drew (fun a' => wpList _ _ _ _ a' wq.drew) _ _
          repeat still_step
          still_call (rotR' y 11 11 rfl wq.drew (by decide) hyw)
          repeat still_step
          refine wpStill_nil ?_
          go_wp2_with fail
          go_roundw
          case rel => exact ⟨i + 1, by omega, by go_num, hXW, hXR, hXb.drew⟩
          case measure => simp [intOf] <;> omega
        · obtain rfl : i = 16 := by omega
          go_wp2_with fail
          go_roundw
          case rel => exact ⟨r + 1, by omega, by go_num, hWi, hRi, hbi⟩
          case measure => simp [intOf] <;> omega
    · obtain rfl : r = 8 := by omega
      obtain ⟨X, HX⟩ : ∃ X, Hid (X = roundTo V 8) := ⟨_, rfl⟩
      have HXL : Hid (X.length = 16) := by show X.length = 16; rw [HX.out, roundTo_length, HVL.out]
      have hWv : BlkV 236 wr g3 (X.map (Value.int .u32)) := by rw [HX.out]; exact BlkI.v hW
      clear hW
      go_wp2_with (first | (refine wl_load rfl 236 _ rfl ⟨g3, 0, none⟩ rfl (X.map (Value.int .u32)) (by rw [List.length_map, HXL.out]; exact agg16) hWv.at0 ?_))
      refine (stateOf X _ HXL.out).mono ?_
      rintro e w5 ⟨rfl, hb5⟩
      obtain ⟨R, HR⟩ : ∃ R, Hid (R = (octL X 64).map (Value.int .u8)) := ⟨_, rfl⟩
      have HRL : Hid (R.length = 64) := by show R.length = 64; rw [HR.out, List.length_map, octL_length]
      have hR1 : ∀ u ∈ R, u.oneCell' = true := by rw [HR.out]; exact ints_one _ _
      have hR5 := hR.below hb5 hR.lt
      have hbb := hb.trans (hb5.mono hb.size)
      rw [← HR.out]
      go_wp2_with (first | (refine wl_storeAll rfl 152 _ _ rfl 152 (w.heap.size + 1) rfl R rfl 64 agg64 HRL.out Y hR5 HYL.out hR1 ?_; intro hRR))
      (try simp only [Exit.inBlock, Exit.then]); refine bodyPost_ret (results_cell rfl _ _ _ _ rfl R (by rw [HRL.out]; exact agg64) hRR.at0) rfl ?_
      exact ⟨by rw [HR.out, HX.out, HV.out]; rfl, below_setRow' hbb (by omega) _⟩
end Go.Proofs.Ytbljihhelladbaa.st
