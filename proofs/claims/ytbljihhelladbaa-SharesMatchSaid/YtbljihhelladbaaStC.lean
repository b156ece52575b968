/-
  Contracts of mix.stateOf, keyref1.words and octets. Condition: octets.
-/
import Derived.Test.YtbljihhelladbaaStB
namespace Go.Proofs.Ytbljihhelladbaa.st
open Go.RowKit
set_option pp.maxSteps 4000

theorem run_index1 {P : Program} (w : World) (t e : TypeId) (n : Nat) (ht : P.underlying t = some (.array n e)) (k : IntKind) (he : P.underlying e = some (.int k)) (hs : (P.info? e).map (·.size) = some 1) (cs : List Value) (i : Nat) (hi : i < n) (v : Value) (hv : cs[i]? = some v) :
    (Instr.index t (.agg cs.toArray) (.int .i64 i)).run P w = .ok v w := by
  obtain ⟨f, hf, hf2⟩ := Option.map_eq_some_iff.1 hs
  simp [Instr.index, asIntOf, run_underlying ht, sizeOf, typeInfo, hf, hf2, Result.andThen, part, isAgg, run_underlying he, hi, hv]

theorem size5 : (Try.prog.info? 5).map (·.size) = some 1 := by kernel_rfl
theorem size174 : (Try.prog.info? 165).map (·.size) = some 1 := by kernel_rfl

theorem fillTo_splice (k : IntKind) (f : Nat → Int) (n m : Nat) (ds : List Int) (h : m + ds.length ≤ n) (hd : ∀ j, j < ds.length → ds.getD j 0 = f (m + j)) :
    splice ((fillTo f n m).map (Value.int k)) m (ds.map (Value.int k)) = (fillTo f n (m + ds.length)).map (Value.int k) := by
  unfold splice
  rw [← List.map_take, List.length_map, ← List.map_drop, ← List.map_append, ← List.map_append]
  congr 1
  apply List.ext_getElem?
  intro i
  rw [fillTo_get]
  by_cases h1 : i < m
  · rw [List.getElem?_append_left (by rw [List.length_take, fillTo_length _ _ _ (by omega)]; omega), List.getElem?_take, if_pos h1, fillTo_get, if_pos h1, if_pos (by omega)]
  · have hlt : ((fillTo f n m).take m).length = m := by rw [List.length_take, fillTo_length _ _ _ (by omega)]; omega
    rw [List.getElem?_append_right (by omega), hlt]
    by_cases h2 : i < m + ds.length
    · rw [List.getElem?_append_left (by omega), if_pos h2, List.getElem?_eq_getElem (by omega)]
      have := hd (i - m) (by omega)
      rw [getD_lt' _ _ (by omega), show m + (i - m) = i by omega] at this
      rw [this]
    · rw [List.getElem?_append_right (by omega), List.getElem?_drop, fillTo_get, if_neg (by omega), if_neg h2, show m + ds.length + (i - m - ds.length) = i by omega]
      by_cases h3 : i < n
      · rw [if_pos (by omega), if_pos (by omega)]
      · rw [if_neg (by omega), if_neg (by omega)]

theorem zero4 : (Try.prog.info? 204).map (·.zero) = some (some (.agg ((List.replicate 4 (0 : Int)).map (Value.int .u8)).toArray)) := by kernel_rfl
theorem o4_length (n : Int) : (o4 n).length = 4 := rfl

set_option maxRecDepth 100000 in
set_option maxHeartbeats 1000000 in
theorem stateOf (ws : List Int) (w : World) (hl : ws.length = 16) :
    Calls Try.prog 231 #[.agg (ws.map (Value.int .u32)).toArray] w fun e w' => e = .returned (.agg ((octL ws 64).map (Value.int .u8)).toArray) ∧ Below w.heap.size w w' := by
  have HL := hid hl
  have HZ := hid zero64
  obtain ⟨Z, HZ'⟩ : ∃ Z, Hid (Z = (List.replicate 64 (0 : Int)).map (Value.int .u8)) := ⟨_, rfl⟩
  rw [← HZ'.out] at HZ
  obtain ⟨S, HS⟩ : ∃ S, Hid (S = ws.map (Value.int .u32)) := ⟨_, rfl⟩
  rw [← HS.out]
  have HSL : Hid (S.length = 16) := by show S.length = 16; rw [HS.out, List.length_map, HL.out]
  clear hl
  go_enter Try.func231, Try.ntmps231
  go_wp2_with (first | (refine wl_alloc rfl 152 rfl Z HZ.out ?_) | (refine wl_load rfl 236 _ rfl ⟨w.heap.size, 0, none⟩ rfl S (by rw [HSL.out]; exact agg16) ((BlkV.new _ w S rfl).alloc _ |>.alloc _).at0 ?_))
  go_loopw [8] (fun i wr => ∃ k : Nat, k ≤ 16 ∧ i = .int .i64 k ∧ BlkV 152 wr (w.heap.size + 2) ((fillTo (fun i => (o4 (ws.getD (i / 4) 0)).getD (i % 4) 0) 64 (4 * k)).map (Value.int .u8)) ∧ BlkV 152 wr (w.heap.size + 1) Z ∧ Below w.heap.size w wr) (fun i _ => 16 - (intOf i).toNat)
  case atStart =>
    refine ⟨0, by omega, rfl, ?_, (BlkV.new _ _ Z (by simp)).alloc _, (((Below.refl _ _).alloc (Nat.le_refl _) _).alloc (by simp) _).alloc (by simp; omega) _⟩
    rw [fillTo_zero, ← HZ'.out]
    exact BlkV.new _ _ Z (by simp)
  case round =>
    obtain ⟨k, hk, rfl, hW, hR, hb⟩ := hrel
    by_cases h0 : k < 16
    · obtain ⟨c, HC⟩ : ∃ c, Hid (c = ws.getD k 0) := ⟨_, rfl⟩
      have hSk : S[k]? = some (.int .u32 c) := by rw [HS.out, List.getElem?_map, List.getElem?_eq_getElem (by rw [HL.out]; exact h0), HC.out, getD_lt' ws 0 (by rw [HL.out]; exact h0)]; rfl
      have hIX := fun w => run_index1 (P := Try.prog) w 236 165 16 Try.underlying236 .u32 Try.underlying165 size174 S k h0 _ hSk
      have hal : Try.prog.arrayLen 152 = 64 := by kernel_rfl
      have hal4 : Try.prog.arrayLen 204 = 4 := by kernel_rfl
      go_wp2_with fail
      refine (octets c wr).mono ?_
      rintro e wn ⟨rfl, hbn⟩
      obtain ⟨O, HO⟩ : ∃ O, Hid (O = (o4 c).map (Value.int .u8)) := ⟨_, rfl⟩
      rw [← HO.out]
      obtain ⟨Z4, HZ4⟩ : ∃ Z4, Hid (Z4 = (List.replicate 4 (0 : Int)).map (Value.int .u8)) := ⟨_, rfl⟩
      have hz4 := zero4
      rw [← HZ4.out] at hz4
      have HZ4' := hid hz4
      have HOL : Hid (O.length = 4) := by show O.length = 4; rw [HO.out]; rfl
      have hO1 : ∀ u ∈ O, u.oneCell' = true := by rw [HO.out]; exact ints_one _ _
      have hWn := hW.below hbn hW.lt
      have hRn := hR.below hbn hR.lt
      have hbb := hb.trans (hbn.mono hb.size)
      clear hz4 hW hR
      go_wp2_with (first | (refine wl_alloc rfl 204 rfl Z4 HZ4'.out ?_) | (refine wl_storeAll rfl 204 _ _ rfl 204 wn.heap.size rfl O rfl 4 agg4 HOL.out Z4 (BlkV.new _ wn Z4 rfl) (by rw [HZ4.out]; rfl) hO1 ?_; intro hOO))
      have hWS := (hWn.alloc (.cells Z4.toArray 204)).otherRow (g' := wn.heap.size) (by have := hWn.lt; omega) O.toArray
      have hRS := (hRn.alloc (.cells Z4.toArray 204)).otherRow (g' := wn.heap.size) (by have := hRn.lt; omega) O.toArray
      have hbS := below_setRow' (hbb.alloc hbb.size (.cells Z4.toArray 204)) hbb.size O.toArray
      obtain ⟨gO, HgO⟩ : ∃ gO, Hid (gO = wn.heap.size) := ⟨_, rfl⟩
      have hgW : gO ≠ w.heap.size + 2 := by rw [HgO.out]; have := hWn.lt; omega
      have hgR : gO ≠ w.heap.size + 1 := by rw [HgO.out]; have := hRn.lt; omega
      rw [← HgO.out] at hWS hRS hbS hOO ⊢
      generalize (wn.alloc (.cells Z4.toArray 204)).setRow gO O.toArray = wS at *
      clear hWn hRn hbb hbn HgO
      obtain ⟨L, HLL⟩ : ∃ L, Hid (L = (fillTo (fun i => (o4 (ws.getD (i / 4) 0)).getD (i % 4) 0) 64 (4 * k)).map (Value.int .u8)) := ⟨_, rfl⟩
      rw [← HLL.out] at hWS
      have HLn : Hid (L.length = 64) := by show L.length = 64; rw [HLL.out, List.length_map, fillTo_length _ _ _ (by omega)]
      have hb1 : (0 : Int) ≤ 4 * (k : Int) := by omega
      have hb3 : 4 * (k : Int) ≤ 64 := by omega
      have hnn : (4 * (k : Int)).toNat = 4 * k := by omega
      have hmin : O.length = Nat.min 4 (64 - 4 * k) := by rw [HOL.out]; exact (Nat.min_eq_left (by omega)).symm
      have hfit : 4 * k + O.length ≤ L.length := by rw [HOL.out, HLn.out]; omega
      have hwr : IntKind.i64.wrap (4 * (k : Int)) = 4 * (k : Int) := IntWalk.i64_in _ (by omega)
      have hne : ¬ 64 = 4 * k := by omega
      go_region_law (refine step_copy_splice rfl (.tmp 16) (.tmp 17) 69 69 rfl 5 Try.underlying69 size5 (some ⟨w.heap.size + 2, 4 * k, none⟩) (some ⟨gO, 0, none⟩) (64 - 4 * k) (64 - 4 * k) 4 4 rfl rfl (w.heap.size + 2) (4 * k) L 152 hWS O hmin (fun _ => ⟨rfl, _, rfl, hOO.at0⟩) hfit hO1 (w.heap.size + 2) wS ((Below.refl _ _).drew) (Nat.le_refl _) ?_; intro w4 hg4 hb4)
      have hW4 : BlkV 152 w4 (w.heap.size + 2) ((fillTo (fun i => (o4 (ws.getD (i / 4) 0)).getD (i % 4) 0) 64 (4 * (k + 1))).map (Value.int .u8)) := by
        have := hg4.out
        rw [HLL.out, HO.out, fillTo_splice _ _ _ _ _ (by rw [o4_length]; omega) (fun j hj => by
          rw [o4_length] at hj
          rw [show (4 * k + j) / 4 = k by omega, show (4 * k + j) % 4 = j by omega, ← HC.out])] at this
        exact this
      have hR4 := hRS.below hb4 (by omega)
      go_wp2
      go_roundw
      case rel => exact ⟨k + 1, by omega, by go_num, hW4, hR4, hbS.trans (hb4.mono (by omega))⟩
      case measure => simp [intOf] <;> omega
    · obtain rfl : k = 16 := by omega
      rw [fillTo_all] at hW
      obtain ⟨R, HR⟩ : ∃ R, Hid (R = (octL ws 64).map (Value.int .u8)) := ⟨_, rfl⟩
      have hWv : BlkV 152 wr (w.heap.size + 2) R := by rw [HR.out]; exact hW
      have HRL : Hid (R.length = 64) := by show R.length = 64; rw [HR.out, List.length_map, octL_length]
      have hR1 : ∀ u ∈ R, u.oneCell' = true := by rw [HR.out]; exact ints_one _ _
      have HZL : Hid (Z.length = 64) := by show Z.length = 64; rw [HZ'.out, List.length_map, List.length_replicate]
      clear hW
      go_wp2_with (first | (refine wl_load rfl 152 _ rfl ⟨w.heap.size + 2, 0, none⟩ rfl R (by rw [HRL.out]; exact agg64) hWv.at0 ?_) | (refine wl_storeAll rfl 152 _ _ rfl 152 (w.heap.size + 1) rfl R rfl 64 agg64 HRL.out Z hR HZL.out hR1 ?_; intro hRR))
      (try simp only [Exit.inBlock, Exit.then]); refine bodyPost_ret (results_cell rfl _ _ _ _ rfl R (by rw [HRL.out]; exact agg64) hRR.at0) rfl ?_
      exact ⟨by rw [HR.out], below_setRow' hb (by omega) _⟩
end Go.Proofs.Ytbljihhelladbaa.st
