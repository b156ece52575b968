/-
  The contract of keyref1.Stir. Condition: a state of 64 octets. Blocks of streams, walked: contracts. Conditions: keys and nonces of octets. Numbers of a stream, plain: the stirring is one to one, and so numbers come. No program, no condition.
-/
import Derived.Test.YtdhipjoplkpgmaaGreatDoorHStX
import Derived.Test.YtdhipjoplkpgmaaGreatDoorHNum
import Derived.Deep.CutRange
set_option maxRecDepth 100000
set_option linter.unusedSimpArgs false
set_option linter.unusedVariables false
set_option maxHeartbeats 2000000
namespace Go.Proofs.YtdhipjoplkpgmaaGreatDoor.st
open Go.RowKit
theorem stirR (s : List Int) (w : World) (hl : s.length = 64) (hs : Octs s) :
  Calls Tryz.prog 113 #[.agg (s.map (Value.int .u8)).toArray] w fun e w' => e = .returned (.agg ((stirL s).map (Value.int .u8)).toArray) ∧ Below w.heap.size w w' := by
 have HL := hid hl
 have HZ := hid zero16
 have HY := hid zero64
 obtain ⟨Z, HZ'⟩ : ∃ Z, Hid (Z = (List.replicate 16 (0 : Int)).map (Value.int .u32)) := ⟨_, rfl⟩
 obtain ⟨Y, HY'⟩ : ∃ Y, Hid (Y = (List.replicate 64 (0 : Int)).map (Value.int .u8)) := ⟨_, rfl⟩
 rw [← HZ'.out] at HZ
 rw [← HY'.out] at HY
 obtain ⟨S, HS⟩ := hidE (s.map (Value.int .u8))
 rw [← HS.out]
 have HSL : Hid (S.length = 64) := by show S.length = 64; rw [HS.out, List.length_map, HL.out]
 have HYL : Hid (Y.length = 64) := by show Y.length = 64; rw [HY'.out, List.length_map, List.length_replicate]
 have HZL : Hid (Z.length = 16) := by show Z.length = 16; rw [HZ'.out, List.length_map, List.length_replicate]
 clear hl
 go_enter Tryz.func113, Tryz.ntmps113
 go_wp2_with (first | (refine wl_alloc rfl 53 rfl Y HY.out ?_) | (refine wl_load rfl 53 _ rfl ⟨w.heap.size, 0, none⟩ rfl S (by rw [HSL.out]; exact agg64) ((BlkV.new _ w S rfl).alloc _).at0 ?_))
 rw [HS.out]
 refine (wordsR s _ HL.out hs).mono ?_
 rintro e w1 ⟨rfl, hb1⟩
 rw [← HS.out] at hb1 ⊢
 obtain ⟨V, HV⟩ := hidE (wordsL s 16)
 rw [← HV.out]
 have hVl : V.length = 16 := by rw [HV.out, wordsL_length]
 have hVw : AllW V := by rw [HV.out]; exact wordsL_w hs
 have HVL := hid hVl
 obtain ⟨VV, HVV⟩ := hidE (V.map (Value.int .u32))
 rw [← HVV.out]
 have HVVL : Hid (VV.length = 16) := by show VV.length = 16; rw [HVV.out, List.length_map, HVL.out]
 have hVV1 : ∀ u ∈ VV, u.oneCell' = true := by rw [HVV.out]; exact ints_one _ _
 have hR0 := (BlkV.new 53 (w.alloc (.cells S.toArray 53)) (g := w.heap.size + 1) Y (by simp)).below hb1 (by simp)
 have bA : Below w.heap.size w w1 := (((Below.refl w.heap.size w).alloc (Nat.le_refl _) _).alloc (by simp) _).trans (hb1.mono (by simp; omega))
 have hsz := hb1.size
 simp only [World.alloc, Array.size_push] at hsz
 clear hVl hb1
 go_wp2_with (first | (refine wl_alloc rfl 287 rfl Z HZ.out ?_) | (refine wl_storeAll rfl 287 _ _ rfl 287 w1.heap.size rfl VV rfl 16 agg16 HVVL.out Z (BlkV.new _ w1 Z rfl) HZL.out hVV1 ?_; intro hW0))
 obtain ⟨g3, Hg3⟩ := hidE w1.heap.size
 have hR1 := (hR0.alloc (.cells Z.toArray 287)).otherRow (g' := w1.heap.size) (by omega) VV.toArray
 have bB := below_setRow' (bA.alloc bA.size (.cells Z.toArray 287)) bA.size VV.toArray
 have hgg : w.heap.size + 1 < g3 := by rw [Hg3.out]; omega
 have hW1 : BlkI .u32 287 ((w1.alloc (.cells Z.toArray 287)).setRow w1.heap.size VV.toArray) w1.heap.size (roundTo V 0) := by rw [HVV.out] at hW0 ⊢; exact hW0
 rw [← Hg3.out] at hR1 bB hW1 ⊢
 generalize (w1.alloc (.cells Z.toArray 287)).setRow g3 VV.toArray = w2 at *
 clear hR0 bA hsz hW0 Hg3
 go_loopw [10] (fun r wr => ∃ k : Nat, k ≤ 8 ∧ r = .int .i64 k ∧ BlkI .u32 287 wr g3 (roundTo V k) ∧ BlkV 53 wr (w.heap.size + 1) Y ∧ Below w.heap.size w wr) (fun r _ => 8 - (intOf r).toNat)
 case atStart => exact ⟨0, by omega, rfl, hW1, hR1, bB⟩
 case round =>
  obtain ⟨r, hr, rfl, hW, hR, hb⟩ := hrel
  by_cases h0 : r < 8
  ·have hdr : decide ((r : Int) < 8) = true := by simp; omega
   go_wp2_with fail
   go_loopw [13] (fun i wr => ∃ k : Nat, k ≤ 16 ∧ i = .int .i64 k ∧ BlkI .u32 287 wr g3 (stepTo r (roundTo V r) k) ∧ BlkV 53 wr (w.heap.size + 1) Y ∧ Below w.heap.size w wr) (fun i _ => 16 - (intOf i).toNat)
   case atStart => exact ⟨0, by omega, rfl, hW, hR, hb⟩
   case round =>
    obtain ⟨i, hi, rfl, hWi, hRi, hbi⟩ := hrel
    by_cases h1 : i < 16
    ·obtain ⟨U, HU⟩ := hidE (stepTo r (roundTo V r) i)
     rw [← HU.out] at hWi
     have hUl : U.length = 16 := by rw [HU.out, stepTo_length, roundTo_length, HVL.out]
     have hUw : AllW U := by rw [HU.out]; exact stepTo_w (roundTo_w hVw r) r i
     obtain ⟨c, HC, hcell⟩ := hWi.elem (i := i) (by omega)
     have hfz := hWi.frozen i
     obtain ⟨A, HA⟩ := hidE (addend r i (U.getD ((i + 1 + r) % 16) 0))
     obtain ⟨D, HD⟩ := hidE ((c + A) % 4294967296)
     obtain ⟨m, HM⟩ := hidE ((i + 1 + r) % 16)
     have hm : m < 16 := by rw [HM.out]; omega
     obtain ⟨v, HVm, hcv⟩ := hWi.elem (i := m) (by omega)
     have hvw : W32 v := by rw [HVm.out]; exact hUw.getD m
     have hA2 : bits .xor .u32 (rotl v (5 + i)) (2654435769 * ((16 * r + i + 1 : Nat) : Int) % 4294967296) = A := by rw [HA.out, HVm.out, HM.out]; rfl
     obtain ⟨U1, HU1⟩ := hidE (addW r i U)
     have hU1l : U1.length = 16 := by rw [HU1.out, addW_eq, List.length_set, hUl]
     have hU1w : AllW U1 := by rw [HU1.out]; exact addW_w hUw r i
     have hW1i : BlkI .u32 287 (wr.setCell ⟨g3, i, none⟩ (.int .u32 D)).drew g3 U1 := by
      rw [HU1.out, addW_eq, ← HA.out, ← HC.out, ← HD.out]
      exact (hWi.set i D).drew
     have hR1i := (hRi.other (a := ⟨g3, i, none⟩) (by simp; omega) (.int .u32 D)).drew
     have hg3 : w.heap.size ≤ g3 := by omega
     have hne1 : w.heap.size + 1 ≠ g3 := by omega
     have hbi0 := hbi
     obtain ⟨j, HJ⟩ := hidE ((i + 9) % 16)
     have hj : j < 16 := by rw [HJ.out]; omega
     have hwrap : IntKind.u32.wrap (c + A) = D := by rw [IntKind.wrap_u32', HD.out]
     have hjI : (j : Int) < 16 := by omega
     have hw9 : IntKind.i64.wrap ((i : Int) + 9) = (i : Int) + 9 := IntWalk.i64_in _ (by omega)
     have hd9 : ((i : Int) + 9).tmod 16 = j := by rw [Int.tmod_eq_emod_of_nonneg (by omega), HJ.out]; omega
     have hdm : ((i : Int) + 1 + (r : Int)).tmod 16 = m := by rw [Int.tmod_eq_emod_of_nonneg (by omega), HM.out]; omega
     have hmI : (m : Int) < 16 := by omega
     have hw5 : IntKind.i64.wrap (5 + (i : Int)) = 5 + (i : Int) := IntWalk.i64_in _ (by omega)
     have hwa : IntKind.i64.wrap (16 * (r : Int)) = 16 * (r : Int) := IntWalk.i64_in _ (by omega)
     have hwb : IntKind.i64.wrap (16 * (r : Int) + (i : Int)) = 16 * (r : Int) + (i : Int) := IntWalk.i64_in _ (by omega)
     have hwc : IntKind.i64.wrap (16 * (r : Int) + (i : Int) + 1) = 16 * (r : Int) + (i : Int) + 1 := IntWalk.i64_in _ (by omega)
     have hwd : IntKind.u32.wrap (16 * (r : Int) + (i : Int) + 1) = 16 * (r : Int) + (i : Int) + 1 := by rw [IntKind.wrap_u32']; omega
     have hwe : IntKind.u32.wrap (2654435769 * (16 * (r : Int) + (i : Int) + 1)) = 2654435769 * ((16 * r + i + 1 : Nat) : Int) % 4294967296 := by rw [IntKind.wrap_u32', show ((16 * r + i + 1 : Nat) : Int) = 16 * (r : Int) + (i : Int) + 1 by omega]
     obtain ⟨G, HG⟩ := hidE (2654435769 * ((16 * r + i + 1 : Nat) : Int) % 4294967296)
     rw [← HG.out] at hwe hA2
     have hK5 : (5 : Int) + (i : Int) = ((5 + i : Nat) : Int) := by omega
     have hT5 := fun w => rotT' v (5 + i) (5 + (i : Int)) hK5 w (by omega) hvw
     have HT5 := hid hT5
     have HK := hid hK5
     clear hT5 hK5
     clear hUl hUw hWi hRi hbi
     have hdi : decide ((i : Int) < 16) = true := by simp; omega
     go_wp2_with fail
     go_cut [] from 24 to 51 (fun wq => ∃ q, wq = (wr.drewN q).setCell ⟨g3, i, none⟩ (.int .u32 D))
     case first =>
      go_region_with (go_at_call 193; refine (HT5.out _).mono ?_; rintro e wn ⟨rfl, n, rfl⟩)
      all_goals (go_wp2_with fail; go_meet; exact ⟨_, rfl⟩)
     case rest =>
      obtain ⟨q, HQ⟩ := hcut
      have hWq : BlkI .u32 287 wc g3 U1 := by rw [HQ]; exact hW1i
      have hRq : BlkV 53 wc (w.heap.size + 1) Y := by rw [HQ]; exact hR1i
      have hbq : Below w.heap.size w wc := by rw [HQ]; exact (bdN hbi0 q).setCell (p := ⟨g3, i, none⟩) hg3 (.int .u32 D)
      clear HQ hW1i hR1i hcell hfz hcv
      obtain ⟨x, HX, hcx⟩ := hWq.elem (i := j) (by omega)
      obtain ⟨y, HY1, hcy⟩ := hWq.elem (i := i) (by omega)
      have hfx := hWq.frozen j
      have hyw : W32 y := by rw [HY1.out]; exact hU1w.getD i
      have e1 : U1.set j (bits .xor .u32 x (rotl y 11)) = stepTo r (roundTo V r) (i + 1) := by rw [HX.out, HY1.out, HJ.out, HU1.out, HU.out]; rfl
      have hS : ∀ q, BlkI .u32 287 ((wc.drewN q).setCell ⟨g3, j, none⟩ (.int .u32 (bits .xor .u32 x (rotl y 11)))) g3 (stepTo r (roundTo V r) (i + 1)) := fun q => by
       have := (hWq.drewN q).set j (bits .xor .u32 x (rotl y 11))
       rw [e1] at this
       exact this
      have hS2 := fun q => (hRq.drewN q).other (a := ⟨g3, j, none⟩) hne1 (.int .u32 (bits .xor .u32 x (rotl y 11)))
      have hS3 := fun q => (bdN hbq q).setCell (p := ⟨g3, j, none⟩) hg3 (.int .u32 (bits .xor .u32 x (rotl y 11)))
      have HS1 := hid hS
      have HS2 := hid hS2
      have HS3 := hid hS3
      clear hS hS2 hS3 hWq hRq hbq hU1l hU1w e1
      go_wp2_with fail
      go_region_with (go_at_call 193; refine (rotT' y 11 11 rfl _ (by decide) hyw).mono ?_; rintro e wn ⟨rfl, n, rfl⟩)
      all_goals (
       go_wp2_with fail
       go_roundw
       case rel => exact ⟨i + 1, by omega, by go_num, HS1.out _, HS2.out _, HS3.out _⟩
       case measure => simp [intOf] <;> omega)
    ·obtain rfl : i = 16 := by omega
     go_wp2_with fail
     go_roundw
     case rel => exact ⟨r + 1, by omega, by go_num, hWi, hRi, hbi⟩
     case measure => simp [intOf] <;> omega
  ·obtain rfl : r = 8 := by omega
   obtain ⟨X, HX⟩ := hidE (roundTo V 8)
   have HXL : Hid (X.length = 16) := by show X.length = 16; rw [HX.out, roundTo_length, HVL.out]
   have hWv : BlkV 287 wr g3 (X.map (Value.int .u32)) := by rw [HX.out]; exact BlkI.v hW
   clear hW
   go_wp2_with (first | (refine wl_load rfl 287 _ rfl ⟨g3, 0, none⟩ rfl (X.map (Value.int .u32)) (by rw [List.length_map, HXL.out]; exact agg16) hWv.at0 ?_))
   refine (octetsR X _ HXL.out).mono ?_
   rintro e w5 ⟨rfl, hb5⟩
   obtain ⟨R, HR⟩ := hidE ((octL X 64).map (Value.int .u8))
   have HRL : Hid (R.length = 64) := by show R.length = 64; rw [HR.out, List.length_map, octL_length]
   have hR1 : ∀ u ∈ R, u.oneCell' = true := by rw [HR.out]; exact ints_one _ _
   have hR5 := hR.below hb5 hR.lt
   have hbb := hb.trans (hb5.mono hb.size)
   rw [← HR.out]
   go_wp2_with (first | (refine wl_storeAll rfl 53 _ _ rfl 53 (w.heap.size + 1) rfl R rfl 64 agg64 HRL.out Y hR5 HYL.out hR1 ?_; intro hRR))
   (try simp only [Exit.inBlock, Exit.then]); refine bodyPost_ret (results_cell rfl _ _ _ _ rfl R (by rw [HRL.out]; exact agg64) hRR.at0) rfl ?_
   exact ⟨by rw [HR.out, HX.out, HV.out]; rfl, below_setRow' hbb (by omega) _⟩
end Go.Proofs.YtdhipjoplkpgmaaGreatDoor.st
namespace Go.Proofs.YtdhipjoplkpgmaaGreatDoor.st
open Go.RowKit
theorem info8 : Info Tryz.prog 5 (.int .u8 0) 1 1 := by unfold Info; kernel_rfl
def blk (k n : List Int) (q : Nat) : List Int := stirL (seed k n q)
theorem rowV_of {t : TypeId} {w : World} {g : Nat} {cs : List Value} (h : BlkV t w g cs) : RowV w (some ⟨g, 0, none⟩) cs := Or.inr ⟨g, 0, rfl, h.lt, fun j u hu => by rw [Nat.zero_add, h.cell]; exact hu⟩
end Go.Proofs.YtdhipjoplkpgmaaGreatDoor.st
namespace Go.Proofs.YtdhipjoplkpgmaaGreatDoor.st
open Go.RowKit
theorem infoU8 : (Tryz.prog.info? 5).map (fun i => (i.zero, i.size, i.bytes)) = some (some (.int .u8 0), 1, 1) := by kernel_rfl
theorem o8_at (q : Int) (i : Nat) (h : i < 8) : (o8 q).getD i 0 = q / 2 ^ (56 - 8 * i) % 256 := by
 match i, h with
 | 0, _ => rfl
 | 1, _ => rfl
 | 2, _ => rfl
 | 3, _ => rfl
 | 4, _ => rfl
 | 5, _ => rfl
 | 6, _ => rfl
 | 7, _ => simp [o8]
theorem o8_fill (q : Int) : fillTo (fun i => (o8 q).getD i 0) 8 8 = o8 q := rfl
theorem longR (q : Int) (w : World) :
  Calls Tryz.prog 46 #[.int .i64 q] w fun e w' => e = .returned (.slice (some ⟨w.heap.size, 0, none⟩) 8 8) ∧ BlkI .u8 5 w' w.heap.size (o8 q) ∧ Below w.heap.size w w' := by
 have hmk := run_make_row' (P := Tryz.prog) 61 5 (.int .u8 0) 1 Tryz.underlying61 infoU8 rfl .i64 .i64 8 (by omega) (by omega)
 have e8 : ((8 : Nat) : Int) = 8 := rfl
 simp only [e8] at hmk
 go_enter Tryz.func46, Tryz.ntmps46
 go_wp2_with fail
 go_loopw [8] (fun i wr => ∃ k : Nat, k ≤ 8 ∧ i = .int .i64 k ∧ BlkI .u8 5 wr w.heap.size (fillTo (fun i => (o8 q).getD i 0) 8 k) ∧ Below w.heap.size w wr) (fun i _ => 8 - (intOf i).toNat)
 case atStart =>
  refine ⟨0, by omega, rfl, ?_, (Below.refl _ _).alloc (Nat.le_refl _) _⟩
  rw [fillTo_zero]
  exact BlkI.made .u8 5 w 8
 case round =>
  obtain ⟨k, hk, rfl, hW, hb⟩ := hrel
  by_cases h0 : k < 8
  ·have hf := hW.frozen k
   have hc := hW.cell (i := k) (by rw [fillTo_length _ _ _ (by omega)]; exact h0)
   have hST := hW.set k ((o8 q).getD k 0)
   have e := fillTo_set (fun i => (o8 q).getD i 0) 8 k h0
   rw [e, o8_at q k h0] at hST
   clear e
   go_wp2
   go_roundw
   case rel => exact ⟨k + 1, by omega, by go_num, hST, hb.setCell (Nat.le_refl _) _⟩
   case measure => simp [intOf] <;> omega
  ·obtain rfl : k = 8 := by omega
   rw [o8_fill] at hW
   go_wp2
   go_ret
   exact ⟨rfl, hW, hb⟩
end Go.Proofs.YtdhipjoplkpgmaaGreatDoor.st
namespace Go.Proofs.YtdhipjoplkpgmaaGreatDoor.st
open Go.RowKit Fld
def vAt (b : List Int) (j : Nat) : Int := 256 * b.getD (2 * j) 0 + b.getD (2 * j + 1) 0
def stepN (many : Nat) (b o : List Int) (j : Nat) : List Int := if o.length < many then (if vAt b j < 65535 then o ++ [vAt b j % 257] else o) else o
def pairTo (many : Nat) (b o : List Int) : Nat → List Int
 | 0 => o
 | j + 1 => stepN many b (pairTo many b o j) j
def blkTo (many : Nat) (k n : List Int) : Nat → List Int
 | 0 => []
 | q + 1 => pairTo many (blk k n q) (blkTo many k n q) 32
def numsOf (many : Nat) (k n : List Int) : List Int := blkTo many k n (many + 2)
end Go.Proofs.YtdhipjoplkpgmaaGreatDoor.st
