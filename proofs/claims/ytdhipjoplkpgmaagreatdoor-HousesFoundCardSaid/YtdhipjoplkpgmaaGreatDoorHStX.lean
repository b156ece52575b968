/-
  Words and octets of a state: contracts of wordsOf, stateOf, octets and words. Conditions: states of octets. Contracts of both Stir functions. Condition: a state of 64 octets. Contracts of mix.longOctets, streamBlock. Conditions: a key and a nonce of octets.
-/
import Derived.Test.YtdhipjoplkpgmaaGreatDoorHStA
import Derived.StillTailTactics
import Derived.Deep.RegionWith
import Derived.Deep.RegionLaw
import Derived.BigRegion
import Derived.IntWalk
set_option maxRecDepth 100000
set_option linter.unusedSimpArgs false
set_option linter.unusedVariables false
set_option maxHeartbeats 2000000
namespace Go.Proofs.YtdhipjoplkpgmaaGreatDoor.st
open Go.RowKit
def Octs (l : List Int) : Prop := ∀ c ∈ l, Oct c
theorem Octs.getD {l : List Int} (h : Octs l) (i : Nat) : Oct (l.getD i 0) := by
 by_cases hi : i < l.length
 ·rw [getD_lt' _ _ hi]; exact h _ (List.getElem_mem hi)
 ·rw [List.getD_eq_getElem?_getD, List.getElem?_eq_none (by omega)]; exact ⟨by simp, by simp⟩
def fillTo (f : Nat → Int) (n k : Nat) : List Int := (List.range k).map f ++ List.replicate (n - k) 0
theorem fillTo_length (f : Nat → Int) (n k : Nat) (h : k ≤ n) : (fillTo f n k).length = n := by
 unfold fillTo; rw [List.length_append, List.length_map, List.length_range, List.length_replicate]; omega
theorem fillTo_zero (f : Nat → Int) (n : Nat) : fillTo f n 0 = List.replicate n 0 := by unfold fillTo; rw [List.range_zero]; rfl
theorem fillTo_all (f : Nat → Int) (n : Nat) : fillTo f n n = (List.range n).map f := by unfold fillTo; rw [Nat.sub_self, List.replicate_zero, List.append_nil]
theorem fillTo_get (f : Nat → Int) (n k i : Nat) : (fillTo f n k)[i]? = if i < k then some (f i) else if i < k + (n - k) then some 0 else none := by
 unfold fillTo
 rw [List.getElem?_append, List.length_map, List.length_range, List.getElem?_replicate]
 by_cases h : i < k
 ·rw [if_pos h, if_pos h, List.getElem?_map, List.getElem?_range h]; rfl
 ·rw [if_neg h, if_neg h]
  by_cases h2 : i < k + (n - k)
  ·rw [if_pos h2, if_pos (by omega)]
  ·rw [if_neg h2, if_neg (by omega)]
theorem fillTo_set (f : Nat → Int) (n k : Nat) (h : k < n) : (fillTo f n k).set k (f k) = fillTo f n (k + 1) := by
 apply List.ext_getElem?
 intro i
 rw [List.getElem?_set, fillTo_length f n k (by omega), fillTo_get, fillTo_get]
 by_cases e : k = i
 ·subst e; rw [if_pos rfl, if_pos h, if_pos (by omega)]
 ·rw [if_neg e]
  by_cases h1 : i < k
  ·rw [if_pos h1, if_pos (by omega)]
  ·rw [if_neg h1, if_neg (by omega : ¬ i < k + 1), show k + (n - k) = k + 1 + (n - (k + 1)) by omega]
theorem at_ints {k : IntKind} {t : TypeId} {w : World} {g : Nat} {l : List Int} (h : BlkV t w g (l.map (Value.int k))) (off : Nat) (ds : List Int) (hd : ∀ j, j < ds.length → off + j < l.length ∧ ds.getD j 0 = l.getD (off + j) 0) : At w ⟨g, off, none⟩ (ds.map (Value.int k)) :=
 h.at off _ fun j u hu => by
  have hj : j < ds.length := by have := (List.getElem?_eq_some_iff.1 hu).1; simpa using this
  obtain ⟨h1, h2⟩ := hd j hj
  rw [List.getElem?_map, List.getElem?_eq_getElem hj] at hu
  rw [List.getElem?_map, List.getElem?_eq_getElem h1]
  rw [getD_lt' _ _ hj, getD_lt' _ _ h1] at h2
  rw [← h2]
  exact hu
theorem run_arrayAt4 (w : World) (a : Addr) (cap : Nat) : (Instr.arrayAt 334 (.slice (some a) 4 cap)).run Tryz.prog w = .ok (.pointer (some a)) w := by
 simp [Instr.arrayAt, run_underlying Tryz.underlying334, Result.andThen]
theorem zero16 : (Tryz.prog.info? 287).map (·.zero) = some (some (.agg ((List.replicate 16 (0 : Int)).map (Value.int .u32)).toArray)) := by kernel_rfl
theorem zero64 : (Tryz.prog.info? 53).map (·.zero) = some (some (.agg ((List.replicate 64 (0 : Int)).map (Value.int .u8)).toArray)) := by kernel_rfl
theorem wordsOf (s : List Int) (w : World) (hl : s.length = 64) (hs : Octs s) :
  Calls Tryz.prog 288 #[.agg (s.map (Value.int .u8)).toArray] w fun e w' => e = .returned (.agg ((wordsL s 16).map (Value.int .u32)).toArray) ∧ Below w.heap.size w w' := by
 have HL := hid hl
 have HZ := hid zero16
 obtain ⟨Z, HZ'⟩ : ∃ Z, Hid (Z = (List.replicate 16 (0 : Int)).map (Value.int .u32)) := ⟨_, rfl⟩
 rw [← HZ'.out] at HZ
 obtain ⟨S, HS⟩ := hidE (s.map (Value.int .u8))
 rw [← HS.out]
 clear hl
 go_enter Tryz.func288, Tryz.ntmps288
 go_wp2_with (first | (refine wl_alloc rfl 287 rfl Z HZ.out ?_))
 go_loopw [5] (fun i wr => ∃ k : Nat, k ≤ 16 ∧ i = .int .i64 k ∧ BlkV 53 wr w.heap.size S ∧ BlkI .u32 287 wr (w.heap.size + 2) (fillTo (fun i => w4 (s.getD (4 * i) 0) (s.getD (4 * i + 1) 0) (s.getD (4 * i + 2) 0) (s.getD (4 * i + 3) 0)) 16 k) ∧ BlkV 287 wr (w.heap.size + 1) Z ∧ Below w.heap.size w wr) (fun i _ => 16 - (intOf i).toNat)
 case atStart =>
  refine ⟨0, by omega, rfl, ((BlkV.new _ w S rfl).alloc _).alloc _, ?_, (BlkV.new _ _ Z (by simp)).alloc _, (((Below.refl _ _).alloc (Nat.le_refl _) _).alloc (by simp) _).alloc (by simp; omega) _⟩
  rw [fillTo_zero]
  have := BlkV.new 287 ((w.alloc (.cells S.toArray 53)).alloc (.cells Z.toArray 287)) (g := w.heap.size + 2) Z (by simp)
  rw [HZ'.out] at this ⊢
  exact this
 case round =>
  obtain ⟨k, hk, rfl, hS, hW, hR, hb⟩ := hrel
  by_cases h0 : k < 16
  ·obtain ⟨a, HA⟩ := hidE (s.getD (4 * k) 0)
   obtain ⟨b, HB⟩ := hidE (s.getD (4 * k + 1) 0)
   obtain ⟨c, HC⟩ := hidE (s.getD (4 * k + 2) 0)
   obtain ⟨d, HD⟩ := hidE (s.getD (4 * k + 3) 0)
   have ha : Oct a := by rw [HA.out]; exact hs.getD _
   have hbo : Oct b := by rw [HB.out]; exact hs.getD _
   have hc : Oct c := by rw [HC.out]; exact hs.getD _
   have hd : Oct d := by rw [HD.out]; exact hs.getD _
   have hAt : At wr ⟨w.heap.size, 4 * k, none⟩ ([a, b, c, d].map (Value.int .u8)) := at_ints (l := s) (by rw [← HS.out]; exact hS) _ _ fun j hj => by
    match j, hj with
    | 0, _ => exact ⟨by rw [HL.out]; omega, HA.out⟩
    | 1, _ => exact ⟨by rw [HL.out]; omega, HB.out⟩
    | 2, _ => exact ⟨by rw [HL.out]; omega, HC.out⟩
    | 3, _ => exact ⟨by rw [HL.out]; omega, HD.out⟩
   have hal : Tryz.prog.arrayLen 53 = 64 := by kernel_rfl
   have hAA := run_arrayAt4
   have hb1 : (0 : Int) ≤ 4 * (k : Int) := by omega
   have hb2 : 4 * (k : Int) ≤ 4 * (k : Int) + 4 := by omega
   have hb3 : 4 * (k : Int) + 4 ≤ 64 := by omega
   have hSl : Hid (S.length = 64) := by show S.length = 64; rw [HS.out, List.length_map, HL.out]
   go_wp2_with (first | (refine wl_load rfl 334 _ rfl ⟨w.heap.size, 4 * k, none⟩ rfl ([a, b, c, d].map (Value.int .u8)) agg4 hAt ?_))
   refine (word a b c d wr ha hbo hc hd).mono ?_
   rintro e wn ⟨rfl, hbn⟩
   have hfr := (hW.below hbn hW.lt).frozen k
   have hWn := hW.below hbn hW.lt
   have hcell := hWn.cell (i := k) (by rw [fillTo_length _ _ _ (by omega)]; exact h0)
   have hST := hWn.set k (w4 a b c d)
   go_wp2
   go_roundw
   case rel => exact ⟨k + 1, by omega, by go_num, (hS.below hbn hS.lt).other (by simp; omega) _, by rw [← fillTo_set _ _ _ h0, ← HA.out, ← HB.out, ← HC.out, ← HD.out]; exact hST, (hR.below hbn hR.lt).other (by simp) _, (hb.trans (hbn.mono hb.size)).setCell (by simp; omega) _⟩
   case measure => simp [intOf] <;> omega
  ·obtain rfl : k = 16 := by omega
   rw [fillTo_all] at hW
   have hWl := wordsL_length s 16
   obtain ⟨R, HR⟩ := hidE ((wordsL s 16).map (Value.int .u32))
   have hWv : BlkV 287 wr (w.heap.size + 2) R := by rw [HR.out]; exact BlkI.v hW
   have hRl : R.length = 16 := by rw [HR.out, List.length_map, hWl]
   have hR1 : ∀ u ∈ R, u.oneCell' = true := by rw [HR.out]; exact ints_one _ _
   have hZl : Z.length = 16 := by rw [HZ'.out]; simp
   have HRL := hid hRl
   have HZL := hid hZl
   clear hW hRl hZl hWl
   go_wp2_with (first | (refine wl_load rfl 287 _ rfl ⟨w.heap.size + 2, 0, none⟩ rfl R (by rw [HRL.out]; exact agg16) hWv.at0 ?_) | (refine wl_storeAll rfl 287 _ _ rfl 287 (w.heap.size + 1) rfl R rfl 16 agg16 HRL.out Z hR HZL.out hR1 ?_; intro hRR))
   (try simp only [Exit.inBlock, Exit.then]); refine bodyPost_ret (results_cell rfl _ _ _ _ rfl R (by rw [HRL.out]; exact agg16) hRR.at0) rfl ?_
   exact ⟨by rw [HR.out], below_setRow' hb (by omega) _⟩
end Go.Proofs.YtdhipjoplkpgmaaGreatDoor.st
namespace Go.Proofs.YtdhipjoplkpgmaaGreatDoor.st
open Go.RowKit
theorem run_index1 {P : Program} (w : World) (t e : TypeId) (n : Nat) (ht : P.underlying t = some (.array n e)) (k : IntKind) (he : P.underlying e = some (.int k)) (hs : (P.info? e).map (·.size) = some 1) (cs : List Value) (i : Nat) (hi : i < n) (v : Value) (hv : cs[i]? = some v) :
  (Instr.index t (.agg cs.toArray) (.int .i64 i)).run P w = .ok v w := by
 obtain ⟨f, hf, hf2⟩ := Option.map_eq_some_iff.1 hs
 simp [Instr.index, asIntOf, run_underlying ht, sizeOf, typeInfo, hf, hf2, Result.andThen, part, isAgg, run_underlying he, hi, hv]
theorem size5 : (Tryz.prog.info? 5).map (·.size) = some 1 := by kernel_rfl
theorem size174 : (Tryz.prog.info? 235).map (·.size) = some 1 := by kernel_rfl
theorem fillTo_splice (k : IntKind) (f : Nat → Int) (n m : Nat) (ds : List Int) (h : m + ds.length ≤ n) (hd : ∀ j, j < ds.length → ds.getD j 0 = f (m + j)) :
  splice ((fillTo f n m).map (Value.int k)) m (ds.map (Value.int k)) = (fillTo f n (m + ds.length)).map (Value.int k) := by
 unfold splice
 rw [← List.map_take, List.length_map, ← List.map_drop, ← List.map_append, ← List.map_append]
 congr 1
 apply List.ext_getElem?
 intro i
 rw [fillTo_get]
 by_cases h1 : i < m
 ·rw [List.getElem?_append_left (by rw [List.length_take, fillTo_length _ _ _ (by omega)]; omega), List.getElem?_take, if_pos h1, fillTo_get, if_pos h1, if_pos (by omega)]
 ·have hlt : ((fillTo f n m).take m).length = m := by rw [List.length_take, fillTo_length _ _ _ (by omega)]; omega
  rw [List.getElem?_append_right (by omega), hlt]
  by_cases h2 : i < m + ds.length
  ·rw [List.getElem?_append_left (by omega), if_pos h2, List.getElem?_eq_getElem (by omega)]
   have := hd (i - m) (by omega)
   rw [getD_lt' _ _ (by omega), show m + (i - m) = i by omega] at this
   rw [this]
  ·rw [List.getElem?_append_right (by omega), List.getElem?_drop, fillTo_get, if_neg (by omega), if_neg h2, show m + ds.length + (i - m - ds.length) = i by omega]
   by_cases h3 : i < n
   ·rw [if_pos (by omega), if_pos (by omega)]
   ·rw [if_neg (by omega), if_neg (by omega)]
theorem zero4 : (Tryz.prog.info? 334).map (·.zero) = some (some (.agg ((List.replicate 4 (0 : Int)).map (Value.int .u8)).toArray)) := by kernel_rfl
theorem o4_length (n : Int) : (o4 n).length = 4 := rfl
theorem stateOf (ws : List Int) (w : World) (hl : ws.length = 16) :
  Calls Tryz.prog 291 #[.agg (ws.map (Value.int .u32)).toArray] w fun e w' => e = .returned (.agg ((octL ws 64).map (Value.int .u8)).toArray) ∧ Below w.heap.size w w' := by
 have HL := hid hl
 have HZ := hid zero64
 obtain ⟨Z, HZ'⟩ : ∃ Z, Hid (Z = (List.replicate 64 (0 : Int)).map (Value.int .u8)) := ⟨_, rfl⟩
 rw [← HZ'.out] at HZ
 obtain ⟨S, HS⟩ := hidE (ws.map (Value.int .u32))
 rw [← HS.out]
 have HSL : Hid (S.length = 16) := by show S.length = 16; rw [HS.out, List.length_map, HL.out]
 clear hl
 go_enter Tryz.func291, Tryz.ntmps291
 go_wp2_with (first | (refine wl_alloc rfl 53 rfl Z HZ.out ?_) | (refine wl_load rfl 287 _ rfl ⟨w.heap.size, 0, none⟩ rfl S (by rw [HSL.out]; exact agg16) ((BlkV.new _ w S rfl).alloc _ |>.alloc _).at0 ?_))
 go_loopw [8] (fun i wr => ∃ k : Nat, k ≤ 16 ∧ i = .int .i64 k ∧ BlkV 53 wr (w.heap.size + 2) ((fillTo (fun i => (o4 (ws.getD (i / 4) 0)).getD (i % 4) 0) 64 (4 * k)).map (Value.int .u8)) ∧ BlkV 53 wr (w.heap.size + 1) Z ∧ Below w.heap.size w wr) (fun i _ => 16 - (intOf i).toNat)
 case atStart =>
  refine ⟨0, by omega, rfl, ?_, (BlkV.new _ _ Z (by simp)).alloc _, (((Below.refl _ _).alloc (Nat.le_refl _) _).alloc (by simp) _).alloc (by simp; omega) _⟩
  rw [fillTo_zero, ← HZ'.out]
  exact BlkV.new _ _ Z (by simp)
 case round =>
  obtain ⟨k, hk, rfl, hW, hR, hb⟩ := hrel
  by_cases h0 : k < 16
  ·obtain ⟨c, HC⟩ := hidE (ws.getD k 0)
   have hSk : S[k]? = some (.int .u32 c) := by rw [HS.out, List.getElem?_map, List.getElem?_eq_getElem (by rw [HL.out]; exact h0), HC.out, getD_lt' ws 0 (by rw [HL.out]; exact h0)]; rfl
   have hIX := fun w => run_index1 (P := Tryz.prog) w 287 235 16 Tryz.underlying287 .u32 Tryz.underlying235 size174 S k h0 _ hSk
   have hal : Tryz.prog.arrayLen 53 = 64 := by kernel_rfl
   have hal4 : Tryz.prog.arrayLen 334 = 4 := by kernel_rfl
   go_wp2_with fail
   refine (octets c wr).mono ?_
   rintro e wn ⟨rfl, hbn⟩
   obtain ⟨O, HO⟩ := hidE ((o4 c).map (Value.int .u8))
   rw [← HO.out]
   obtain ⟨Z4, HZ4⟩ := hidE ((List.replicate 4 (0 : Int)).map (Value.int .u8))
   have hz4 := zero4
   rw [← HZ4.out] at hz4
   have HZ4' := hid hz4
   have HOL : Hid (O.length = 4) := by show O.length = 4; rw [HO.out]; rfl
   have hO1 : ∀ u ∈ O, u.oneCell' = true := by rw [HO.out]; exact ints_one _ _
   have hWn := hW.below hbn hW.lt
   have hRn := hR.below hbn hR.lt
   have hbb := hb.trans (hbn.mono hb.size)
   clear hz4 hW hR
   go_wp2_with (first | (refine wl_alloc rfl 334 rfl Z4 HZ4'.out ?_) | (refine wl_storeAll rfl 334 _ _ rfl 334 wn.heap.size rfl O rfl 4 agg4 HOL.out Z4 (BlkV.new _ wn Z4 rfl) (by rw [HZ4.out]; rfl) hO1 ?_; intro hOO))
   have hWS := (hWn.alloc (.cells Z4.toArray 334)).otherRow (g' := wn.heap.size) (by have := hWn.lt; omega) O.toArray
   have hRS := (hRn.alloc (.cells Z4.toArray 334)).otherRow (g' := wn.heap.size) (by have := hRn.lt; omega) O.toArray
   have hbS := below_setRow' (hbb.alloc hbb.size (.cells Z4.toArray 334)) hbb.size O.toArray
   obtain ⟨gO, HgO⟩ := hidE wn.heap.size
   have hgW : gO ≠ w.heap.size + 2 := by rw [HgO.out]; have := hWn.lt; omega
   have hgR : gO ≠ w.heap.size + 1 := by rw [HgO.out]; have := hRn.lt; omega
   rw [← HgO.out] at hWS hRS hbS hOO ⊢
   generalize (wn.alloc (.cells Z4.toArray 334)).setRow gO O.toArray = wS at *
   clear hWn hRn hbb hbn HgO
   obtain ⟨L, HLL⟩ : ∃ L, Hid (L = (fillTo (fun i => (o4 (ws.getD (i / 4) 0)).getD (i % 4) 0) 64 (4 * k)).map (Value.int .u8)) := ⟨_, rfl⟩
   rw [← HLL.out] at hWS
   have HLn : Hid (L.length = 64) := by show L.length = 64; rw [HLL.out, List.length_map, fillTo_length _ _ _ (by omega)]
   have hb1 : (0 : Int) ≤ 4 * (k : Int) := by omega
   have hb3 : 4 * (k : Int) ≤ 64 := by omega
   have hnn : (4 * (k : Int)).toNat = 4 * k := by omega
   have hmin : O.length = Nat.min 4 (64 - 4 * k) := by rw [HOL.out]; exact (Nat.min_eq_left (by omega)).symm
   have hfit : 4 * k + O.length ≤ L.length := by rw [HOL.out, HLn.out]; omega
   have hwr : IntKind.i64.wrap (4 * (k : Int)) = 4 * (k : Int) := IntWalk.i64_in _ (by omega)
   have hne : ¬ 64 = 4 * k := by omega
   go_region_law (refine step_copy_splice rfl (.tmp 16) (.tmp 17) 61 61 rfl 5 Tryz.underlying61 size5 (some ⟨w.heap.size + 2, 4 * k, none⟩) (some ⟨gO, 0, none⟩) (64 - 4 * k) (64 - 4 * k) 4 4 rfl rfl (w.heap.size + 2) (4 * k) L 53 hWS O hmin (fun _ => ⟨rfl, _, rfl, hOO.at0⟩) hfit hO1 (w.heap.size + 2) wS ((Below.refl _ _).drew) (Nat.le_refl _) ?_; intro w4 hg4 hb4)
   have hW4 : BlkV 53 w4 (w.heap.size + 2) ((fillTo (fun i => (o4 (ws.getD (i / 4) 0)).getD (i % 4) 0) 64 (4 * (k + 1))).map (Value.int .u8)) := by
    have := hg4.out
    rw [HLL.out, HO.out, fillTo_splice _ _ _ _ _ (by rw [o4_length]; omega) (fun j hj => by
     rw [o4_length] at hj
     rw [show (4 * k + j) / 4 = k by omega, show (4 * k + j) % 4 = j by omega, ← HC.out])] at this
    exact this
   have hR4 := hRS.below hb4 (by omega)
   go_wp2
   go_roundw
   case rel => exact ⟨k + 1, by omega, by go_num, hW4, hR4, hbS.trans (hb4.mono (by omega))⟩
   case measure => simp [intOf] <;> omega
  ·obtain rfl : k = 16 := by omega
   rw [fillTo_all] at hW
   obtain ⟨R, HR⟩ := hidE ((octL ws 64).map (Value.int .u8))
   have hWv : BlkV 53 wr (w.heap.size + 2) R := by rw [HR.out]; exact hW
   have HRL : Hid (R.length = 64) := by show R.length = 64; rw [HR.out, List.length_map, octL_length]
   have hR1 : ∀ u ∈ R, u.oneCell' = true := by rw [HR.out]; exact ints_one _ _
   have HZL : Hid (Z.length = 64) := by show Z.length = 64; rw [HZ'.out, List.length_map, List.length_replicate]
   clear hW
   go_wp2_with (first | (refine wl_load rfl 53 _ rfl ⟨w.heap.size + 2, 0, none⟩ rfl R (by rw [HRL.out]; exact agg64) hWv.at0 ?_) | (refine wl_storeAll rfl 53 _ _ rfl 53 (w.heap.size + 1) rfl R rfl 64 agg64 HRL.out Z hR HZL.out hR1 ?_; intro hRR))
   (try simp only [Exit.inBlock, Exit.then]); refine bodyPost_ret (results_cell rfl _ _ _ _ rfl R (by rw [HRL.out]; exact agg64) hRR.at0) rfl ?_
   exact ⟨by rw [HR.out], below_setRow' hb (by omega) _⟩
end Go.Proofs.YtdhipjoplkpgmaaGreatDoor.st
namespace Go.Proofs.YtdhipjoplkpgmaaGreatDoor.st
open Go.RowKit
theorem o4_at (c : Int) (r : Nat) (h : r < 4) : (o4 c).getD r 0 = c / 2 ^ (24 - 8 * r) % 256 := by
 match r, h with
 | 0, _ => rfl
 | 1, _ => rfl
 | 2, _ => rfl
 | 3, _ => simp [o4]
theorem octetsR (ws : List Int) (w : World) (hl : ws.length = 16) :
  Calls Tryz.prog 194 #[.agg (ws.map (Value.int .u32)).toArray] w fun e w' => e = .returned (.agg ((octL ws 64).map (Value.int .u8)).toArray) ∧ Below w.heap.size w w' := by
 have HL := hid hl
 have HZ := hid zero64
 obtain ⟨Z, HZ'⟩ : ∃ Z, Hid (Z = (List.replicate 64 (0 : Int)).map (Value.int .u8)) := ⟨_, rfl⟩
 rw [← HZ'.out] at HZ
 obtain ⟨S, HS⟩ := hidE (ws.map (Value.int .u32))
 rw [← HS.out]
 have HSL : Hid (S.length = 16) := by show S.length = 16; rw [HS.out, List.length_map, HL.out]
 clear hl
 go_enter Tryz.func194, Tryz.ntmps194
 go_wp2_with (first | (refine wl_alloc rfl 53 rfl Z HZ.out ?_))
 go_loopw [5] (fun i wr => ∃ k : Nat, k ≤ 64 ∧ i = .int .i64 k ∧ BlkI .u8 53 wr (w.heap.size + 2) (fillTo (fun i => (o4 (ws.getD (i / 4) 0)).getD (i % 4) 0) 64 k) ∧ BlkV 53 wr (w.heap.size + 1) Z ∧ BlkV 287 wr w.heap.size S ∧ Below w.heap.size w wr) (fun i _ => 64 - (intOf i).toNat)
 case atStart =>
  refine ⟨0, by omega, rfl, ?_, (BlkV.new _ _ Z (by simp)).alloc _, ((BlkV.new _ w S rfl).alloc _).alloc _, (((Below.refl _ _).alloc (Nat.le_refl _) _).alloc (by simp) _).alloc (by simp; omega) _⟩
  rw [fillTo_zero]
  have := BlkV.new 53 ((w.alloc (.cells S.toArray 287)).alloc (.cells Z.toArray 53)) (g := w.heap.size + 2) Z (by simp)
  rw [HZ'.out] at this ⊢
  exact this
 case round =>
  obtain ⟨k, hk, rfl, hW, hR, hS, hb⟩ := hrel
  by_cases h0 : k < 64
  ·obtain ⟨q, r, rfl, hr⟩ : ∃ q r : Nat, k = 4 * q + r ∧ r < 4 := ⟨k / 4, k % 4, by omega, by omega⟩
   obtain ⟨c, HC⟩ := hidE (ws.getD q 0)
   have hcell : wr.cell? ⟨w.heap.size, q, none⟩ = some (.int .u32 c) := by rw [hS.cell, HS.out, List.getElem?_map, List.getElem?_eq_getElem (by rw [HL.out]; omega), HC.out, getD_lt' ws 0 (by rw [HL.out]; omega)]; rfl
   have hf := hW.frozen (4 * q + r)
   have hc := hW.cell (i := 4 * q + r) (by rw [fillTo_length _ _ _ (by omega)]; exact h0)
   have hST := hW.set (4 * q + r) ((o4 (ws.getD q 0)).getD r 0)
   rw [o4_at _ _ hr, ← HC.out] at hST
   have hd : ((4 * (q : Int) + (r : Int)).tdiv 4) = q := by rw [Int.tdiv_eq_ediv_of_nonneg (by omega)]; omega
   have hm : ((4 * (q : Int) + (r : Int)).tmod 4) = r := by rw [Int.tmod_eq_emod_of_nonneg (by omega)]; omega
   go_wp2
   go_roundw
   case rel =>
    refine ⟨4 * q + r + 1, by omega, by go_num, ?_, hR.other (by simp) _, hS.other (by simp; omega) _, hb.setCell (by simp; omega) _⟩
    rw [← fillTo_set _ _ _ h0, show (4 * q + r) / 4 = q by omega, show (4 * q + r) % 4 = r by omega, o4_at _ _ hr, ← HC.out]
    exact hST
   case measure => simp [intOf] <;> omega
  ·obtain rfl : k = 64 := by omega
   rw [fillTo_all] at hW
   obtain ⟨R, HR⟩ := hidE ((octL ws 64).map (Value.int .u8))
   have hWv : BlkV 53 wr (w.heap.size + 2) R := by rw [HR.out]; exact BlkI.v hW
   have HRL : Hid (R.length = 64) := by show R.length = 64; rw [HR.out, List.length_map, octL_length]
   have hR1 : ∀ u ∈ R, u.oneCell' = true := by rw [HR.out]; exact ints_one _ _
   have HZL : Hid (Z.length = 64) := by show Z.length = 64; rw [HZ'.out, List.length_map, List.length_replicate]
   clear hW
   go_wp2_with (first | (refine wl_load rfl 53 _ rfl ⟨w.heap.size + 2, 0, none⟩ rfl R (by rw [HRL.out]; exact agg64) hWv.at0 ?_) | (refine wl_storeAll rfl 53 _ _ rfl 53 (w.heap.size + 1) rfl R rfl 64 agg64 HRL.out Z hR HZL.out hR1 ?_; intro hRR))
   (try simp only [Exit.inBlock, Exit.then]); refine bodyPost_ret (results_cell rfl _ _ _ _ rfl R (by rw [HRL.out]; exact agg64) hRR.at0) rfl ?_
   exact ⟨by rw [HR.out], below_setRow' hb (by omega) _⟩
def pw (s : List Int) (j : Nat) : Nat → Int
 | 0 => 0
 | c + 1 => bits .or .u32 (pw s j c * 256 % 4294967296) (s.getD (4 * j + c) 0)
def pwL (s : List Int) (k : Nat) : List Int := (List.range 16).map fun (j : Nat) => pw s j (min 4 (k - 4 * j))
theorem pwL_length (s : List Int) (k : Nat) : (pwL s k).length = 16 := by unfold pwL; rw [List.length_map, List.length_range]
theorem pwL_get (s : List Int) (k j : Nat) (h : j < 16) : (pwL s k)[j]? = some (pw s j (min 4 (k - 4 * j))) := by
 unfold pwL; rw [List.getElem?_map, List.getElem?_range h]; rfl
theorem pwL_getD (s : List Int) (q r : Nat) (h : q < 16) (hr : r < 4) : (pwL s (4 * q + r)).getD q 0 = pw s q r := by
 rw [List.getD_eq_getElem?_getD, pwL_get _ _ _ h, show min 4 (4 * q + r - 4 * q) = r by omega]; rfl
theorem pwL_set (s : List Int) (q r : Nat) (h : q < 16) (hr : r < 4) : (pwL s (4 * q + r)).set q (pw s q (r + 1)) = pwL s (4 * q + r + 1) := by
 apply List.ext_getElem?
 intro i
 rw [List.getElem?_set, pwL_length]
 by_cases hi : i < 16
 ·rw [pwL_get _ _ _ hi, pwL_get _ _ _ hi]
  by_cases e : q = i
  ·subst e; rw [if_pos rfl, if_pos hi, show min 4 (4 * q + r + 1 - 4 * q) = r + 1 by omega]
  ·rw [if_neg e]
   by_cases h2 : i < q
   ·rw [show min 4 (4 * q + r - 4 * i) = 4 by omega, show min 4 (4 * q + r + 1 - 4 * i) = 4 by omega]
   ·rw [show min 4 (4 * q + r - 4 * i) = 0 by omega, show min 4 (4 * q + r + 1 - 4 * i) = 0 by omega]
 ·rw [if_neg (by omega), List.getElem?_eq_none (by rw [pwL_length]; omega), List.getElem?_eq_none (by rw [pwL_length]; omega)]
theorem or_step (x b : Int) (hx : 0 ≤ x ∧ x < 16777216) (hb : Oct b) : bits .or .u32 (x * 256 % 4294967296) b = x * 256 + b := by
 unfold Oct at hb
 have e : x * 256 % 4294967296 = x * 2 ^ 8 := by omega
 rw [e, or_sum x b 8 hx.1 (by omega) (by omega) (by omega)]
 omega
theorem pw_four (s : List Int) (hs : Octs s) (j : Nat) : pw s j 4 = w4 (s.getD (4 * j) 0) (s.getD (4 * j + 1) 0) (s.getD (4 * j + 2) 0) (s.getD (4 * j + 3) 0) := by
 have h0 := hs.getD (4 * j)
 have h1 := hs.getD (4 * j + 1)
 have h2 := hs.getD (4 * j + 2)
 have h3 := hs.getD (4 * j + 3)
 have p1 : pw s j 1 = s.getD (4 * j) 0 := by
  show bits .or .u32 (0 * 256 % 4294967296) (s.getD (4 * j + 0) 0) = _
  rw [or_step 0 _ (by omega) (hs.getD _)]; simp
 have p2 : pw s j 2 = s.getD (4 * j) 0 * 256 + s.getD (4 * j + 1) 0 := by
  show bits .or .u32 (pw s j 1 * 256 % 4294967296) _ = _
  rw [p1, or_step _ _ (by unfold Oct at h0; omega) h1]
 have p3 : pw s j 3 = (s.getD (4 * j) 0 * 256 + s.getD (4 * j + 1) 0) * 256 + s.getD (4 * j + 2) 0 := by
  show bits .or .u32 (pw s j 2 * 256 % 4294967296) _ = _
  rw [p2, or_step _ _ (by unfold Oct at h0 h1; omega) h2]
 show bits .or .u32 (pw s j 3 * 256 % 4294967296) _ = _
 rw [p3, or_step _ _ (by unfold Oct at h0 h1 h2; omega) h3]
 unfold w4
 omega
theorem pwL_all (s : List Int) (hs : Octs s) : pwL s 64 = wordsL s 16 := by
 apply List.ext_getElem?
 intro i
 by_cases hi : i < 16
 ·rw [pwL_get _ _ _ hi, show min 4 (64 - 4 * i) = 4 by omega, pw_four s hs]
  unfold wordsL
  rw [List.getElem?_map, List.getElem?_range hi]; rfl
 ·rw [List.getElem?_eq_none (by rw [pwL_length]; omega), List.getElem?_eq_none (by rw [wordsL_length]; omega)]
theorem wordsR (s : List Int) (w : World) (hl : s.length = 64) (hs : Octs s) :
  Calls Tryz.prog 192 #[.agg (s.map (Value.int .u8)).toArray] w fun e w' => e = .returned (.agg ((wordsL s 16).map (Value.int .u32)).toArray) ∧ Below w.heap.size w w' := by
 have HL := hid hl
 have HZ := hid zero16
 obtain ⟨Z, HZ'⟩ : ∃ Z, Hid (Z = (List.replicate 16 (0 : Int)).map (Value.int .u32)) := ⟨_, rfl⟩
 rw [← HZ'.out] at HZ
 obtain ⟨S, HS⟩ := hidE (s.map (Value.int .u8))
 rw [← HS.out]
 have HSL : Hid (S.length = 64) := by show S.length = 64; rw [HS.out, List.length_map, HL.out]
 clear hl
 go_enter Tryz.func192, Tryz.ntmps192
 go_wp2_with (first | (refine wl_alloc rfl 287 rfl Z HZ.out ?_) | (refine wl_load rfl 53 _ rfl ⟨w.heap.size, 0, none⟩ rfl S (by rw [HSL.out]; exact agg64) ((BlkV.new _ w S rfl).alloc _ |>.alloc _).at0 ?_))
 go_loopw [7] (fun i wr => ∃ k : Nat, k ≤ 64 ∧ i = .int .i64 k ∧ BlkI .u32 287 wr (w.heap.size + 2) (pwL s k) ∧ BlkV 287 wr (w.heap.size + 1) Z ∧ Below w.heap.size w wr) (fun i _ => 64 - (intOf i).toNat)
 case atStart =>
  refine ⟨0, by omega, rfl, ?_, (BlkV.new _ _ Z (by simp)).alloc _, (((Below.refl _ _).alloc (Nat.le_refl _) _).alloc (by simp) _).alloc (by simp; omega) _⟩
  have e : pwL s 0 = List.replicate 16 0 := rfl
  rw [e]
  have := BlkV.new 287 ((w.alloc (.cells S.toArray 53)).alloc (.cells Z.toArray 287)) (g := w.heap.size + 2) Z (by simp)
  rw [HZ'.out] at this ⊢
  exact this
 case round =>
  obtain ⟨k, hk, rfl, hW, hR, hb⟩ := hrel
  by_cases h0 : k < 64
  ·obtain ⟨q, r, rfl, hr⟩ : ∃ q r : Nat, k = 4 * q + r ∧ r < 4 := ⟨k / 4, k % 4, by omega, by omega⟩
   obtain ⟨c, HC⟩ := hidE (s.getD (4 * q + r) 0)
   obtain ⟨p, HP⟩ := hidE (pw s q r)
   have hSk : S[4 * q + r]? = some (.int .u8 c) := by rw [HS.out, List.getElem?_map, List.getElem?_eq_getElem (by rw [HL.out]; exact h0), HC.out, getD_lt' s 0 (by rw [HL.out]; exact h0)]; rfl
   have hIX := fun w => run_index1 (P := Tryz.prog) w 53 5 64 Tryz.underlying53 .u8 Tryz.underlying5 size5 S (4 * q + r) h0 _ hSk
   rw [show ((4 * q + r : Nat) : Int) = 4 * (q : Int) + (r : Int) by omega] at hIX
   have hc := hW.cell (i := q) (by rw [pwL_length]; omega)
   rw [pwL_getD _ _ _ (by omega) hr, ← HP.out] at hc
   have hf := hW.frozen q
   have hST := hW.set q (pw s q (r + 1))
   have hco : Oct c := by rw [HC.out]; exact hs.getD _
   obtain ⟨hc0, hc1⟩ := hco
   rw [pwL_set _ _ _ (by omega) hr, show pw s q (r + 1) = bits .or .u32 (p * 256 % 4294967296) c by rw [HC.out, HP.out]; rfl] at hST
   have hd : ((4 * (q : Int) + (r : Int)).tdiv 4) = q := by rw [Int.tdiv_eq_ediv_of_nonneg (by omega)]; omega
   go_wp2
   go_roundw
   case rel => exact ⟨4 * q + r + 1, by omega, by go_num, hST, hR.other (by simp) _, hb.setCell (by simp; omega) _⟩
   case measure => simp [intOf] <;> omega
  ·obtain rfl : k = 64 := by omega
   rw [pwL_all s hs] at hW
   obtain ⟨R, HR⟩ := hidE ((wordsL s 16).map (Value.int .u32))
   have hWv : BlkV 287 wr (w.heap.size + 2) R := by rw [HR.out]; exact BlkI.v hW
   have HRL : Hid (R.length = 16) := by show R.length = 16; rw [HR.out, List.length_map, wordsL_length]
   have hR1 : ∀ u ∈ R, u.oneCell' = true := by rw [HR.out]; exact ints_one _ _
   have HZL : Hid (Z.length = 16) := by show Z.length = 16; rw [HZ'.out, List.length_map, List.length_replicate]
   clear hW
   go_wp2_with (first | (refine wl_load rfl 287 _ rfl ⟨w.heap.size + 2, 0, none⟩ rfl R (by rw [HRL.out]; exact agg16) hWv.at0 ?_) | (refine wl_storeAll rfl 287 _ _ rfl 287 (w.heap.size + 1) rfl R rfl 16 agg16 HRL.out Z hR HZL.out hR1 ?_; intro hRR))
   (try simp only [Exit.inBlock, Exit.then]); refine bodyPost_ret (results_cell rfl _ _ _ _ rfl R (by rw [HRL.out]; exact agg16) hRR.at0) rfl ?_
   exact ⟨by rw [HR.out], below_setRow' hb (by omega) _⟩
end Go.Proofs.YtdhipjoplkpgmaaGreatDoor.st
namespace Go.Proofs.YtdhipjoplkpgmaaGreatDoor.st
open Go.RowKit
def addend (r i : Nat) (c : Int) : Int := bits .xor .u32 (rotl c (5 + i)) (2654435769 * ((16 * r + i + 1 : Nat) : Int) % 4294967296)
theorem rotR' (x : Int) (k : Nat) (K : Int) (hK : K = k) (w : World) (h : k < 32) (hx : W32 x) : Calls Tryz.prog 290 #[.int .u32 x, .int .i64 K] w fun e w' => e = .returned (.int .u32 (rotl x k)) ∧ w' = w := by
 subst hK; exact (rotR x k w h hx).mono fun e w' h => ⟨h.1, h.2.symm⟩
theorem rotT' (x : Int) (k : Nat) (K : Int) (hK : K = k) (w : World) (h : k < 32) (hx : W32 x) : Calls Tryz.prog 193 #[.int .u32 x, .int .i64 K] w fun e w' => e = .returned (.int .u32 (rotl x k)) ∧ ∃ n, w' = w.drewN n := by
 subst hK; exact rotT x k w h hx
theorem turnM (g : Nat) (ws : List Int) (r i : Nat) (w : World) (hl : ws.length = 16) (hw : AllW ws) (hg : BlkI .u32 287 w g ws) (hr : r < 8) (hi : i < 16) :
  Calls Tryz.prog 289 #[.pointer (some ⟨g, 0, none⟩), .int .i64 r, .int .i64 i] w fun e w' => e = .returned (.int .u32 (addend r i (ws.getD ((i + 1 + r) % 16) 0))) ∧ w' = w := by
 obtain ⟨j, HJ⟩ := hidE ((i + 1 + r) % 16)
 have hj : j < 16 := by rw [HJ.out]; omega
 obtain ⟨c, HC, hcell⟩ := hg.elem (i := j) (by omega)
 have hc : W32 c := by rw [HC.out]; exact hw.getD j
 have hd : ((i : Int) + 1 + (r : Int)).tmod 16 = j := by rw [Int.tmod_eq_emod_of_nonneg (by omega), HJ.out]; omega
 go_enter Tryz.func289, Tryz.ntmps289
 go_wp2_with fail
 refine (rotR' c (5 + i) _ (by omega) w (by omega) hc).mono ?_
 rintro e wn ⟨rfl, rfl⟩
 go_wp2
 go_ret
 refine ⟨rv (ri ?_), rfl⟩
 unfold addend
 rw [← HJ.out, ← HC.out]
 congr 1
theorem addW_eq (r i : Nat) (w : List Int) : addW r i w = w.set i ((w.getD i 0 + addend r i (w.getD ((i + 1 + r) % 16) 0)) % 4294967296) := rfl
theorem wordsL_w {s : List Int} (hs : Octs s) : AllW (wordsL s 16) := by
 intro c hc
 unfold wordsL at hc
 obtain ⟨i, _, rfl⟩ := List.mem_map.1 hc
 exact w32_w4 (hs.getD _) (hs.getD _) (hs.getD _) (hs.getD _)
theorem stirM (s : List Int) (w : World) (hl : s.length = 64) (hs : Octs s) :
  Calls Tryz.prog 183 #[.agg (s.map (Value.int .u8)).toArray] w fun e w' => e = .returned (.agg ((stirL s).map (Value.int .u8)).toArray) ∧ Below w.heap.size w w' := by
 have HL := hid hl
 have HZ := hid zero16
 have HY := hid zero64
 obtain ⟨Z, HZ'⟩ : ∃ Z, Hid (Z = (List.replicate 16 (0 : Int)).map (Value.int .u32)) := ⟨_, rfl⟩
 obtain ⟨Y, HY'⟩ : ∃ Y, Hid (Y = (List.replicate 64 (0 : Int)).map (Value.int .u8)) := ⟨_, rfl⟩
 rw [← HZ'.out] at HZ
 rw [← HY'.out] at HY
 obtain ⟨S, HS⟩ := hidE (s.map (Value.int .u8))
 rw [← HS.out]
 have HSL : Hid (S.length = 64) := by show S.length = 64; rw [HS.out, List.length_map, HL.out]
 have HYL : Hid (Y.length = 64) := by show Y.length = 64; rw [HY'.out, List.length_map, List.length_replicate]
 have HZL : Hid (Z.length = 16) := by show Z.length = 16; rw [HZ'.out, List.length_map, List.length_replicate]
 clear hl
 go_enter Tryz.func183, Tryz.ntmps183
 go_wp2_with (first | (refine wl_alloc rfl 53 rfl Y HY.out ?_) | (refine wl_load rfl 53 _ rfl ⟨w.heap.size, 0, none⟩ rfl S (by rw [HSL.out]; exact agg64) ((BlkV.new _ w S rfl).alloc _).at0 ?_))
 rw [HS.out]
 refine (wordsOf s _ HL.out hs).mono ?_
 rintro e w1 ⟨rfl, hb1⟩
 rw [← HS.out] at hb1 ⊢
 obtain ⟨V, HV⟩ := hidE (wordsL s 16)
 rw [← HV.out]
 have hVl : V.length = 16 := by rw [HV.out, wordsL_length]
 have hVw : AllW V := by rw [HV.out]; exact wordsL_w hs
 have HVL := hid hVl
 obtain ⟨VV, HVV⟩ := hidE (V.map (Value.int .u32))
 rw [← HVV.out]
 have HVVL : Hid (VV.length = 16) := by show VV.length = 16; rw [HVV.out, List.length_map, HVL.out]
 have hVV1 : ∀ u ∈ VV, u.oneCell' = true := by rw [HVV.out]; exact ints_one _ _
 have hR0 := (BlkV.new 53 (w.alloc (.cells S.toArray 53)) (g := w.heap.size + 1) Y (by simp)).below hb1 (by simp)
 have bA : Below w.heap.size w w1 := (((Below.refl w.heap.size w).alloc (Nat.le_refl _) _).alloc (by simp) _).trans (hb1.mono (by simp; omega))
 have hsz := hb1.size
 simp only [World.alloc, Array.size_push] at hsz
 clear hVl hb1
 go_wp2_with (first | (refine wl_alloc rfl 287 rfl Z HZ.out ?_) | (refine wl_storeAll rfl 287 _ _ rfl 287 w1.heap.size rfl VV rfl 16 agg16 HVVL.out Z (BlkV.new _ w1 Z rfl) HZL.out hVV1 ?_; intro hW0))
 obtain ⟨g3, Hg3⟩ := hidE w1.heap.size
 have hR1 := (hR0.alloc (.cells Z.toArray 287)).otherRow (g' := w1.heap.size) (by omega) VV.toArray
 have bB := below_setRow' (bA.alloc bA.size (.cells Z.toArray 287)) bA.size VV.toArray
 have hgg : w.heap.size + 1 < g3 := by rw [Hg3.out]; omega
 have hW1 : BlkI .u32 287 ((w1.alloc (.cells Z.toArray 287)).setRow w1.heap.size VV.toArray) w1.heap.size (roundTo V 0) := by rw [HVV.out] at hW0 ⊢; exact hW0
 rw [← Hg3.out] at hR1 bB hW1 ⊢
 generalize (w1.alloc (.cells Z.toArray 287)).setRow g3 VV.toArray = w2 at *
 clear hR0 bA hsz hW0 Hg3
 go_loopw [8] (fun r wr => ∃ k : Nat, k ≤ 8 ∧ r = .int .i64 k ∧ BlkI .u32 287 wr g3 (roundTo V k) ∧ BlkV 53 wr (w.heap.size + 1) Y ∧ Below w.heap.size w wr) (fun r _ => 8 - (intOf r).toNat)
 case atStart => exact ⟨0, by omega, rfl, hW1, hR1, bB⟩
 case round =>
  obtain ⟨r, hr, rfl, hW, hR, hb⟩ := hrel
  by_cases h0 : r < 8
  ·have hdr : decide ((r : Int) < 8) = true := by simp; omega
   go_wp2_with fail
   go_loopw [11] (fun i wr => ∃ k : Nat, k ≤ 16 ∧ i = .int .i64 k ∧ BlkI .u32 287 wr g3 (stepTo r (roundTo V r) k) ∧ BlkV 53 wr (w.heap.size + 1) Y ∧ Below w.heap.size w wr) (fun i _ => 16 - (intOf i).toNat)
   case atStart => exact ⟨0, by omega, rfl, hW, hR, hb⟩
   case round =>
    obtain ⟨i, hi, rfl, hWi, hRi, hbi⟩ := hrel
    by_cases h1 : i < 16
    ·obtain ⟨U, HU⟩ := hidE (stepTo r (roundTo V r) i)
     rw [← HU.out] at hWi
     have hUl : U.length = 16 := by rw [HU.out, stepTo_length, roundTo_length, HVL.out]
     have hUw : AllW U := by rw [HU.out]; exact stepTo_w (roundTo_w hVw r) r i
     obtain ⟨c, HC, hcell⟩ := hWi.elem (i := i) (by omega)
     have hfz := hWi.frozen i
     obtain ⟨A, HA⟩ := hidE (addend r i (U.getD ((i + 1 + r) % 16) 0))
     obtain ⟨D, HD⟩ := hidE ((c + A) % 4294967296)
     have hT := hid (turnM g3 U r i wr.drew hUl hUw hWi.drew h0 h1)
     rw [← HA.out] at hT
     obtain ⟨U1, HU1⟩ := hidE (addW r i U)
     have hU1l : U1.length = 16 := by rw [HU1.out, addW_eq, List.length_set, hUl]
     have hU1w : AllW U1 := by rw [HU1.out]; exact addW_w hUw r i
     have hW1i : BlkI .u32 287 (wr.setCell ⟨g3, i, none⟩ (.int .u32 D)).drew g3 U1 := by
      rw [HU1.out, addW_eq, ← HA.out, ← HC.out, ← HD.out]
      exact (hWi.set i D).drew
     have hR1i := (hRi.other (a := ⟨g3, i, none⟩) (by simp; omega) (.int .u32 D)).drew
     have hb1i := (hbi.setCell (p := ⟨g3, i, none⟩) (by simp; omega) (.int .u32 D)).drew
     obtain ⟨j, HJ⟩ := hidE ((i + 9) % 16)
     have hj : j < 16 := by rw [HJ.out]; omega
     obtain ⟨x, HX, hcx⟩ := hW1i.elem (i := j) (by omega)
     obtain ⟨y, HY1, hcy⟩ := hW1i.elem (i := i) (by omega)
     have hfx := hW1i.frozen j
     have hyw : W32 y := by rw [HY1.out]; exact hU1w.getD i
     have hXW : BlkI .u32 287 ((wr.setCell ⟨g3, i, none⟩ (.int .u32 D)).drew.setCell ⟨g3, j, none⟩ (.int .u32 (bits .xor .u32 x (rotl y 11)))) g3 (stepTo r (roundTo V r) (i + 1)) := by
      have := hW1i.set j (bits .xor .u32 x (rotl y 11))
      have e : U1.set j (bits .xor .u32 x (rotl y 11)) = stepTo r (roundTo V r) (i + 1) := by rw [HX.out, HY1.out, HJ.out, HU1.out, HU.out]; rfl
      rw [e] at this
      exact this
     have hXR := hR1i.other (a := ⟨g3, j, none⟩) (by simp; omega) (.int .u32 (bits .xor .u32 x (rotl y 11)))
     have hXb := hb1i.setCell (p := ⟨g3, j, none⟩) (by simp; omega) (.int .u32 (bits .xor .u32 x (rotl y 11)))
     have hwrap : IntKind.u32.wrap (c + A) = D := by rw [IntKind.wrap_u32', HD.out]
     have hjI : (j : Int) < 16 := by omega
     have hw9 : IntKind.i64.wrap ((i : Int) + 9) = (i : Int) + 9 := IntWalk.i64_in _ (by omega)
     have hd9 : ((i : Int) + 9).tmod 16 = j := by rw [Int.tmod_eq_emod_of_nonneg (by omega), HJ.out]; omega
     clear hW1i hR1i hb1i hUl hU1l hU1w hUw hWi hRi hbi
     go_wp2_with fail
     refine wp_region_still_tail 7 (by kernel_rfl) (by kernel_rfl) ?_
     simp only [List.take_succ_cons, List.take_zero, List.drop_succ_cons, List.drop_zero]
     change wpStill _ _ wr.drew (fun a' => wpList _ _ _ _ a' wr.drew) _ _
     repeat still_step
     still_call hT.out
     repeat still_step
     refine wpStill_nil ?_
     go_wp2_with fail
     clear hcell hfz
     generalize (wr.setCell ⟨g3, i, none⟩ (.int .u32 D)).drew = wq at *
     refine wp_region_still_tail 10 (by kernel_rfl) (by kernel_rfl) ?_
     simp only [List.take_succ_cons, List.take_zero, List.drop_succ_cons, List.drop_zero]
     change wpStill _ _ wq.drew (fun a' => wpList _ _ _ _ a' wq.drew) _ _
     repeat still_step
     still_call (rotR' y 11 11 rfl wq.drew (by decide) hyw)
     repeat still_step
     refine wpStill_nil ?_
     go_wp2_with fail
     go_roundw
     case rel => exact ⟨i + 1, by omega, by go_num, hXW, hXR, hXb.drew⟩
     case measure => simp [intOf] <;> omega
    ·obtain rfl : i = 16 := by omega
     go_wp2_with fail
     go_roundw
     case rel => exact ⟨r + 1, by omega, by go_num, hWi, hRi, hbi⟩
     case measure => simp [intOf] <;> omega
  ·obtain rfl : r = 8 := by omega
   obtain ⟨X, HX⟩ := hidE (roundTo V 8)
   have HXL : Hid (X.length = 16) := by show X.length = 16; rw [HX.out, roundTo_length, HVL.out]
   have hWv : BlkV 287 wr g3 (X.map (Value.int .u32)) := by rw [HX.out]; exact BlkI.v hW
   clear hW
   go_wp2_with (first | (refine wl_load rfl 287 _ rfl ⟨g3, 0, none⟩ rfl (X.map (Value.int .u32)) (by rw [List.length_map, HXL.out]; exact agg16) hWv.at0 ?_))
   refine (stateOf X _ HXL.out).mono ?_
   rintro e w5 ⟨rfl, hb5⟩
   obtain ⟨R, HR⟩ := hidE ((octL X 64).map (Value.int .u8))
   have HRL : Hid (R.length = 64) := by show R.length = 64; rw [HR.out, List.length_map, octL_length]
   have hR1 : ∀ u ∈ R, u.oneCell' = true := by rw [HR.out]; exact ints_one _ _
   have hR5 := hR.below hb5 hR.lt
   have hbb := hb.trans (hb5.mono hb.size)
   rw [← HR.out]
   go_wp2_with (first | (refine wl_storeAll rfl 53 _ _ rfl 53 (w.heap.size + 1) rfl R rfl 64 agg64 HRL.out Y hR5 HYL.out hR1 ?_; intro hRR))
   (try simp only [Exit.inBlock, Exit.then]); refine bodyPost_ret (results_cell rfl _ _ _ _ rfl R (by rw [HRL.out]; exact agg64) hRR.at0) rfl ?_
   exact ⟨by rw [HR.out, HX.out, HV.out]; rfl, below_setRow' hbb (by omega) _⟩
end Go.Proofs.YtdhipjoplkpgmaaGreatDoor.st
namespace Go.Proofs.YtdhipjoplkpgmaaGreatDoor.st
open Go.RowKit
def o8 (q : Int) : List Int := [q / 72057594037927936 % 256, q / 281474976710656 % 256, q / 1099511627776 % 256, q / 4294967296 % 256, q / 16777216 % 256, q / 65536 % 256, q / 256 % 256, q % 256]
theorem octets' (n : Int) (w : World) : Calls Tryz.prog 251 #[.int .u32 n] w fun e w' => e = .returned (.agg #[.int .u8 (n / 16777216 % 256), .int .u8 (n / 65536 % 256), .int .u8 (n / 256 % 256), .int .u8 (n % 256)]) ∧ Below w.heap.size w w' := octets n w
theorem agg8 : Agg Tryz.prog 280 8 := Agg.arr Tryz.underlying280 (by kernel_rfl)
theorem longOctets (q : Int) (w : World) (h : 0 ≤ q ∧ q < 18446744073709551616) :
  Calls Tryz.prog 186 #[.int .u64 q] w fun e w' => e = .returned (.agg ((o8 q).map (Value.int .u8)).toArray) ∧ Below w.heap.size w w' := by
 obtain ⟨hi, HI⟩ := hidE (q / 4294967296 % 4294967296)
 obtain ⟨lo, LO⟩ := hidE (q % 4294967296)
 have E : Hid ([hi / 16777216 % 256, hi / 65536 % 256, hi / 256 % 256, hi % 256, lo / 16777216 % 256, lo / 65536 % 256, lo / 256 % 256, lo % 256] = o8 q) := by
  show _ = _
  rw [HI.out, LO.out]
  unfold o8
  simp only [List.cons.injEq, and_true]
  refine ⟨?_, ?_, ?_, ?_, ?_, ?_, ?_, ?_⟩ <;> omega
 have h1 : q / 4294967296 % 4294967296 = hi := HI.out.symm
 have h2 : q % 4294967296 = lo := LO.out.symm
 clear h
 go_enter Tryz.func186, Tryz.ntmps186
 go_wp2_with fail
 refine (octets' hi _).mono ?_
 rintro e w1 ⟨rfl, b1⟩
 go_wp2_with fail
 refine (octets' lo _).mono ?_
 rintro e w2 ⟨rfl, b2⟩
 have hB : BlkV 280 w2 w.heap.size ((List.replicate 8 (0 : Int)).map (Value.int .u8)) := ((BlkV.new 280 w ((List.replicate 8 (0 : Int)).map (Value.int .u8)) rfl).below b1 (by simp)).below b2 (by have := b1.size; simp at this; omega)
 have bb : Below w.heap.size w w2 := (((Below.refl w.heap.size w).alloc (Nat.le_refl _) _).trans (b1.mono (by simp))).trans (b2.mono (by have := b1.size; simp at this; omega))
 clear b1 b2
 go_wp2_with (first | (refine wl_storeAll rfl 280 _ _ rfl 280 w.heap.size rfl ([hi / 16777216 % 256, hi / 65536 % 256, hi / 256 % 256, hi % 256, lo / 16777216 % 256, lo / 65536 % 256, lo / 256 % 256, lo % 256].map (Value.int .u8)) rfl 8 agg8 rfl ((List.replicate 8 (0 : Int)).map (Value.int .u8)) ((hB.alloc _).alloc _) rfl (ints_one _ _) ?_; intro hRR))
 (try simp only [Exit.inBlock, Exit.then]); refine bodyPost_ret (results_cell rfl _ _ _ _ rfl _ agg8 hRR.at0) rfl ?_
 exact ⟨by rw [E.out], below_setRow' ((bb.alloc bb.size _).alloc (by have := bb.size; simp; omega) _) (Nat.le_refl _) _⟩
def seed (k n : List Int) (q : Int) : List Int := splice (splice (splice (List.replicate 64 0) 0 k) 32 n) 56 (o8 q)
theorem splice_map (k : IntKind) (l d : List Int) (off : Nat) : splice (l.map (Value.int k)) off (d.map (Value.int k)) = (splice l off d).map (Value.int k) := by
 unfold splice
 rw [List.length_map, ← List.map_take, ← List.map_drop, ← List.map_append, ← List.map_append]
theorem o8_octs (q : Int) : Octs (o8 q) := by
 intro c hc
 unfold o8 at hc
 simp only [List.mem_cons, List.not_mem_nil, or_false] at hc
 unfold Oct
 rcases hc with rfl | rfl | rfl | rfl | rfl | rfl | rfl | rfl <;> omega
theorem zeros_octs (n : Nat) : Octs (List.replicate n 0) := by
 intro c hc; rw [(List.mem_replicate.1 hc).2]; unfold Oct; omega
end Go.Proofs.YtdhipjoplkpgmaaGreatDoor.st
