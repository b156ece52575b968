/-
  Words and octets of a state: contracts of wordsOf, stateOf, octets and words. Conditions: states of octets.
-/
import Derived.Test.YtbljihhelladbaaTMem
import Derived.StillTailTactics
import Derived.Deep.RegionWith
import Derived.Deep.RegionLaw
import Derived.BigRegion
import Derived.IntWalk
/- Contracts of both Stir functions: both make 'stirL'. Condition: the state is octets. -/
namespace Go.Proofs.Ytbljihhelladbaa.st
set_option linter.unusedSimpArgs false
set_option linter.unusedVariables false
open Go.RowKit
set_option pp.maxSteps 4000
def Octs (l : List Int) : Prop := ∀ c ∈ l, Oct c
theorem Octs.getD {l : List Int} (h : Octs l) (i : Nat) : Oct (l.getD i 0) := by
  by_cases hi : i < l.length
  · rw [getD_lt' _ _ hi]; exact h _ (List.getElem_mem hi)
  · rw [List.getD_eq_getElem?_getD, List.getElem?_eq_none (by omega)]; exact ⟨by simp, by simp⟩
/-- a row that is filled from the front -/
def fillTo (f : Nat → Int) (n k : Nat) : List Int := (List.range k).map f ++ List.replicate (n - k) 0
theorem fillTo_length (f : Nat → Int) (n k : Nat) (h : k ≤ n) : (fillTo f n k).length = n := by
  unfold fillTo; rw [List.length_append, List.length_map, List.length_range, List.length_replicate]; omega
theorem fillTo_zero (f : Nat → Int) (n : Nat) : fillTo f n 0 = List.replicate n 0 := by unfold fillTo; rw [List.range_zero]; rfl
theorem fillTo_all (f : Nat → Int) (n : Nat) : fillTo f n n = (List.range n).map f := by unfold fillTo; rw [Nat.sub_self, List.replicate_zero, List.append_nil]
theorem fillTo_get (f : Nat → Int) (n k i : Nat) : (fillTo f n k)[i]? = if i < k then some (f i) else if i < k + (n - k) then some 0 else none := by
  unfold fillTo
  rw [List.getElem?_append, List.length_map, List.length_range, List.getElem?_replicate]
  by_cases h : i < k
  · rw [if_pos h, if_pos h, List.getElem?_map, List.getElem?_range h]; rfl
  · rw [if_neg h, if_neg h]
    by_cases h2 : i < k + (n - k)
    · rw [if_pos h2, if_pos (by omega)]
    · rw [if_neg h2, if_neg (by omega)]
theorem fillTo_set (f : Nat → Int) (n k : Nat) (h : k < n) : (fillTo f n k).set k (f k) = fillTo f n (k + 1) := by
  apply List.ext_getElem?
  intro i
  rw [List.getElem?_set, fillTo_length f n k (by omega), fillTo_get, fillTo_get]
  by_cases e : k = i
  · subst e; rw [if_pos rfl, if_pos h, if_pos (by omega)]
  · rw [if_neg e]
    by_cases h1 : i < k
    · rw [if_pos h1, if_pos (by omega)]
    · rw [if_neg h1, if_neg (by omega : ¬ i < k + 1), show k + (n - k) = k + 1 + (n - (k + 1)) by omega]
theorem at_ints {k : IntKind} {t : TypeId} {w : World} {g : Nat} {l : List Int} (h : BlkV t w g (l.map (Value.int k))) (off : Nat) (ds : List Int) (hd : ∀ j, j < ds.length → off + j < l.length ∧ ds.getD j 0 = l.getD (off + j) 0) : At w ⟨g, off, none⟩ (ds.map (Value.int k)) :=
  h.at off _ fun j u hu => by
    have hj : j < ds.length := by have := (List.getElem?_eq_some_iff.1 hu).1; simpa using this
    obtain ⟨h1, h2⟩ := hd j hj
    rw [List.getElem?_map, List.getElem?_eq_getElem hj] at hu
    rw [List.getElem?_map, List.getElem?_eq_getElem h1]
    rw [getD_lt' _ _ hj, getD_lt' _ _ h1] at h2
    rw [← h2]
    exact hu
theorem run_arrayAt4 (w : World) (a : Addr) (cap : Nat) : (Instr.arrayAt 204 (.slice (some a) 4 cap)).run Try.prog w = .ok (.pointer (some a)) w := by
  simp [Instr.arrayAt, run_underlying Try.underlying204, Result.andThen]
theorem zero16 : (Try.prog.info? 236).map (·.zero) = some (some (.agg ((List.replicate 16 (0 : Int)).map (Value.int .u32)).toArray)) := by kernel_rfl
theorem zero64 : (Try.prog.info? 152).map (·.zero) = some (some (.agg ((List.replicate 64 (0 : Int)).map (Value.int .u8)).toArray)) := by kernel_rfl
set_option maxRecDepth 100000 in
set_option maxHeartbeats 1000000 in
theorem wordsOf (s : List Int) (w : World) (hl : s.length = 64) (hs : Octs s) :
    Calls Try.prog 228 #[.agg (s.map (Value.int .u8)).toArray] w fun e w' => e = .returned (.agg ((wordsL s 16).map (Value.int .u32)).toArray) ∧ Below w.heap.size w w' := by
  have HL := hid hl
  have HZ := hid zero16
  obtain ⟨Z, HZ'⟩ : ∃ Z, Hid (Z = (List.replicate 16 (0 : Int)).map (Value.int .u32)) := ⟨_, rfl⟩
  rw [← HZ'.out] at HZ
  obtain ⟨S, HS⟩ : ∃ S, Hid (S = s.map (Value.int .u8)) := ⟨_, rfl⟩
  rw [← HS.out]
  clear hl
  go_enter Try.func228, Try.ntmps228
  go_wp2_with (first | (refine wl_alloc rfl 236 rfl Z HZ.out ?_))
  go_loopw [5] (fun i wr => ∃ k : Nat, k ≤ 16 ∧ i = .int .i64 k ∧ BlkV 152 wr w.heap.size S ∧ BlkI .u32 236 wr (w.heap.size + 2) (fillTo (fun i => w4 (s.getD (4 * i) 0) (s.getD (4 * i + 1) 0) (s.getD (4 * i + 2) 0) (s.getD (4 * i + 3) 0)) 16 k) ∧ BlkV 236 wr (w.heap.size + 1) Z ∧ Below w.heap.size w wr) (fun i _ => 16 - (intOf i).toNat)
  case atStart =>
    refine ⟨0, by omega, rfl, ((BlkV.new _ w S rfl).alloc _).alloc _, ?_, (BlkV.new _ _ Z (by simp)).alloc _, (((Below.refl _ _).alloc (Nat.le_refl _) _).alloc (by simp) _).alloc (by simp; omega) _⟩
    rw [fillTo_zero]
    have := BlkV.new 236 ((w.alloc (.cells S.toArray 152)).alloc (.cells Z.toArray 236)) (g := w.heap.size + 2) Z (by simp)
    rw [HZ'.out] at this ⊢
    exact this
  case round =>
    obtain ⟨k, hk, rfl, hS, hW, hR, hb⟩ := hrel
    by_cases h0 : k < 16
    · obtain ⟨a, HA⟩ : ∃ a, Hid (a = s.getD (4 * k) 0) := ⟨_, rfl⟩
      obtain ⟨b, HB⟩ : ∃ b, Hid (b = s.getD (4 * k + 1) 0) := ⟨_, rfl⟩
      obtain ⟨c, HC⟩ : ∃ c, Hid (c = s.getD (4 * k + 2) 0) := ⟨_, rfl⟩
      obtain ⟨d, HD⟩ : ∃ d, Hid (d = s.getD (4 * k + 3) 0) := ⟨_, rfl⟩
      have ha : Oct a := by rw [HA.out]; exact hs.getD _
      have hbo : Oct b := by rw [HB.out]; exact hs.getD _
      have hc : Oct c := by rw [HC.out]; exact hs.getD _
      have hd : Oct d := by rw [HD.out]; exact hs.getD _
      have hAt : At wr ⟨w.heap.size, 4 * k, none⟩ ([a, b, c, d].map (Value.int .u8)) := at_ints (l := s) (by rw [← HS.out]; exact hS) _ _ fun j hj => by
        match j, hj with
        | 0, _ => exact ⟨by rw [HL.out]; omega, HA.out⟩
        | 1, _ => exact ⟨by rw [HL.out]; omega, HB.out⟩
        | 2, _ => exact ⟨by rw [HL.out]; omega, HC.out⟩
        | 3, _ => exact ⟨by rw [HL.out]; omega, HD.out⟩
      have hal : Try.prog.arrayLen 152 = 64 := by kernel_rfl
      have hAA := run_arrayAt4
      have hb1 : (0 : Int) ≤ 4 * (k : Int) := by omega
      have hb2 : 4 * (k : Int) ≤ 4 * (k : Int) + 4 := by omega
      have hb3 : 4 * (k : Int) + 4 ≤ 64 := by omega
      have hSl : Hid (S.length = 64) := by show S.length = 64; rw [HS.out, List.length_map, HL.out]
      go_wp2_with (first | (refine wl_load rfl 204 _ rfl ⟨w.heap.size, 4 * k, none⟩ rfl ([a, b, c, d].map (Value.int .u8)) agg4 hAt ?_))
      refine (word a b c d wr ha hbo hc hd).mono ?_
      rintro e wn ⟨rfl, hbn⟩
      have hfr := (hW.below hbn hW.lt).frozen k
      have hWn := hW.below hbn hW.lt
      have hcell := hWn.cell (i := k) (by rw [fillTo_length _ _ _ (by omega)]; exact h0)
      have hST := hWn.set k (w4 a b c d)
      go_wp2
      go_roundw
      case rel => exact ⟨k + 1, by omega, by go_num, (hS.below hbn hS.lt).other (by simp; omega) _, by rw [← fillTo_set _ _ _ h0, ← HA.out, ← HB.out, ← HC.out, ← HD.out]; exact hST, (hR.below hbn hR.lt).other (by simp) _, (hb.trans (hbn.mono hb.size)).setCell (by simp; omega) _⟩
      case measure => simp [intOf] <;> omega
    · obtain rfl : k = 16 := by omega
      rw [fillTo_all] at hW
      have hWl := wordsL_length s 16
      obtain ⟨R, HR⟩ : ∃ R, Hid (R = (wordsL s 16).map (Value.int .u32)) := ⟨_, rfl⟩
      have hWv : BlkV 236 wr (w.heap.size + 2) R := by rw [HR.out]; exact BlkI.v hW
      have hRl : R.length = 16 := by rw [HR.out, List.length_map, hWl]
      have hR1 : ∀ u ∈ R, u.oneCell' = true := by rw [HR.out]; exact ints_one _ _
      have hZl : Z.length = 16 := by rw [HZ'.out]; simp
      have HRL := hid hRl
      have HZL := hid hZl
      clear hW hRl hZl hWl
      go_wp2_with (first | (refine wl_load rfl 236 _ rfl ⟨w.heap.size + 2, 0, none⟩ rfl R (by rw [HRL.out]; exact agg16) hWv.at0 ?_) | (refine wl_storeAll rfl 236 _ _ rfl 236 (w.heap.size + 1) rfl R rfl 16 agg16 HRL.out Z hR HZL.out hR1 ?_; intro hRR))
      (try simp only [Exit.inBlock, Exit.then]); refine bodyPost_ret (results_cell rfl _ _ _ _ rfl R (by rw [HRL.out]; exact agg16) hRR.at0) rfl ?_
      exact ⟨by rw [HR.out], below_setRow' hb (by omega) _⟩
end Go.Proofs.Ytbljihhelladbaa.st
/- Contracts of mix.stateOf, keyref1.words and octets. Condition: octets. -/
namespace Go.Proofs.Ytbljihhelladbaa.st
open Go.RowKit
set_option pp.maxSteps 4000
theorem run_index1 {P : Program} (w : World) (t e : TypeId) (n : Nat) (ht : P.underlying t = some (.array n e)) (k : IntKind) (he : P.underlying e = some (.int k)) (hs : (P.info? e).map (·.size) = some 1) (cs : List Value) (i : Nat) (hi : i < n) (v : Value) (hv : cs[i]? = some v) :
    (Instr.index t (.agg cs.toArray) (.int .i64 i)).run P w = .ok v w := by
  obtain ⟨f, hf, hf2⟩ := Option.map_eq_some_iff.1 hs
  simp [Instr.index, asIntOf, run_underlying ht, sizeOf, typeInfo, hf, hf2, Result.andThen, part, isAgg, run_underlying he, hi, hv]
theorem size5 : (Try.prog.info? 5).map (·.size) = some 1 := by kernel_rfl
theorem size174 : (Try.prog.info? 165).map (·.size) = some 1 := by kernel_rfl
theorem fillTo_splice (k : IntKind) (f : Nat → Int) (n m : Nat) (ds : List Int) (h : m + ds.length ≤ n) (hd : ∀ j, j < ds.length → ds.getD j 0 = f (m + j)) :
    splice ((fillTo f n m).map (Value.int k)) m (ds.map (Value.int k)) = (fillTo f n (m + ds.length)).map (Value.int k) := by
  unfold splice
  rw [← List.map_take, List.length_map, ← List.map_drop, ← List.map_append, ← List.map_append]
  congr 1
  apply List.ext_getElem?
  intro i
  rw [fillTo_get]
  by_cases h1 : i < m
  · rw [List.getElem?_append_left (by rw [List.length_take, fillTo_length _ _ _ (by omega)]; omega), List.getElem?_take, if_pos h1, fillTo_get, if_pos h1, if_pos (by omega)]
  · have hlt : ((fillTo f n m).take m).length = m := by rw [List.length_take, fillTo_length _ _ _ (by omega)]; omega
    rw [List.getElem?_append_right (by omega), hlt]
    by_cases h2 : i < m + ds.length
    · rw [List.getElem?_append_left (by omega), if_pos h2, List.getElem?_eq_getElem (by omega)]
      have := hd (i - m) (by omega)
      rw [getD_lt' _ _ (by omega), show m + (i - m) = i by omega] at this
      rw [this]
    · rw [List.getElem?_append_right (by omega), List.getElem?_drop, fillTo_get, if_neg (by omega), if_neg h2, show m + ds.length + (i - m - ds.length) = i by omega]
      by_cases h3 : i < n
      · rw [if_pos (by omega), if_pos (by omega)]
      · rw [if_neg (by omega), if_neg (by omega)]
theorem zero4 : (Try.prog.info? 204).map (·.zero) = some (some (.agg ((List.replicate 4 (0 : Int)).map (Value.int .u8)).toArray)) := by kernel_rfl
theorem o4_length (n : Int) : (o4 n).length = 4 := rfl
set_option maxRecDepth 100000 in
set_option maxHeartbeats 1000000 in
theorem stateOf (ws : List Int) (w : World) (hl : ws.length = 16) :
    Calls Try.prog 231 #[.agg (ws.map (Value.int .u32)).toArray] w fun e w' => e = .returned (.agg ((octL ws 64).map (Value.int .u8)).toArray) ∧ Below w.heap.size w w' := by
  have HL := hid hl
  have HZ := hid zero64
  obtain ⟨Z, HZ'⟩ : ∃ Z, Hid (Z = (List.replicate 64 (0 : Int)).map (Value.int .u8)) := ⟨_, rfl⟩
  rw [← HZ'.out] at HZ
  obtain ⟨S, HS⟩ : ∃ S, Hid (S = ws.map (Value.int .u32)) := ⟨_, rfl⟩
  rw [← HS.out]
  have HSL : Hid (S.length = 16) := by show S.length = 16; rw [HS.out, List.length_map, HL.out]
  clear hl
  go_enter Try.func231, Try.ntmps231
  go_wp2_with (first | (refine wl_alloc rfl 152 rfl Z HZ.out ?_) | (refine wl_load rfl 236 _ rfl ⟨w.heap.size, 0, none⟩ rfl S (by rw [HSL.out]; exact agg16) ((BlkV.new _ w S rfl).alloc _ |>.alloc _).at0 ?_))
  go_loopw [8] (fun i wr => ∃ k : Nat, k ≤ 16 ∧ i = .int .i64 k ∧ BlkV 152 wr (w.heap.size + 2) ((fillTo (fun i => (o4 (ws.getD (i / 4) 0)).getD (i % 4) 0) 64 (4 * k)).map (Value.int .u8)) ∧ BlkV 152 wr (w.heap.size + 1) Z ∧ Below w.heap.size w wr) (fun i _ => 16 - (intOf i).toNat)
  case atStart =>
    refine ⟨0, by omega, rfl, ?_, (BlkV.new _ _ Z (by simp)).alloc _, (((Below.refl _ _).alloc (Nat.le_refl _) _).alloc (by simp) _).alloc (by simp; omega) _⟩
    rw [fillTo_zero, ← HZ'.out]
    exact BlkV.new _ _ Z (by simp)
  case round =>
    obtain ⟨k, hk, rfl, hW, hR, hb⟩ := hrel
    by_cases h0 : k < 16
    · obtain ⟨c, HC⟩ : ∃ c, Hid (c = ws.getD k 0) := ⟨_, rfl⟩
      have hSk : S[k]? = some (.int .u32 c) := by rw [HS.out, List.getElem?_map, List.getElem?_eq_getElem (by rw [HL.out]; exact h0), HC.out, getD_lt' ws 0 (by rw [HL.out]; exact h0)]; rfl
      have hIX := fun w => run_index1 (P := Try.prog) w 236 165 16 Try.underlying236 .u32 Try.underlying165 size174 S k h0 _ hSk
      have hal : Try.prog.arrayLen 152 = 64 := by kernel_rfl
      have hal4 : Try.prog.arrayLen 204 = 4 := by kernel_rfl
      go_wp2_with fail
      refine (octets c wr).mono ?_
      rintro e wn ⟨rfl, hbn⟩
      obtain ⟨O, HO⟩ : ∃ O, Hid (O = (o4 c).map (Value.int .u8)) := ⟨_, rfl⟩
      rw [← HO.out]
      obtain ⟨Z4, HZ4⟩ : ∃ Z4, Hid (Z4 = (List.replicate 4 (0 : Int)).map (Value.int .u8)) := ⟨_, rfl⟩
      have hz4 := zero4
      rw [← HZ4.out] at hz4
      have HZ4' := hid hz4
      have HOL : Hid (O.length = 4) := by show O.length = 4; rw [HO.out]; rfl
      have hO1 : ∀ u ∈ O, u.oneCell' = true := by rw [HO.out]; exact ints_one _ _
      have hWn := hW.below hbn hW.lt
      have hRn := hR.below hbn hR.lt
      have hbb := hb.trans (hbn.mono hb.size)
      clear hz4 hW hR
      go_wp2_with (first | (refine wl_alloc rfl 204 rfl Z4 HZ4'.out ?_) | (refine wl_storeAll rfl 204 _ _ rfl 204 wn.heap.size rfl O rfl 4 agg4 HOL.out Z4 (BlkV.new _ wn Z4 rfl) (by rw [HZ4.out]; rfl) hO1 ?_; intro hOO))
      have hWS := (hWn.alloc (.cells Z4.toArray 204)).otherRow (g' := wn.heap.size) (by have := hWn.lt; omega) O.toArray
      have hRS := (hRn.alloc (.cells Z4.toArray 204)).otherRow (g' := wn.heap.size) (by have := hRn.lt; omega) O.toArray
      have hbS := below_setRow' (hbb.alloc hbb.size (.cells Z4.toArray 204)) hbb.size O.toArray
      obtain ⟨gO, HgO⟩ : ∃ gO, Hid (gO = wn.heap.size) := ⟨_, rfl⟩
      have hgW : gO ≠ w.heap.size + 2 := by rw [HgO.out]; have := hWn.lt; omega
      have hgR : gO ≠ w.heap.size + 1 := by rw [HgO.out]; have := hRn.lt; omega
      rw [← HgO.out] at hWS hRS hbS hOO ⊢
      generalize (wn.alloc (.cells Z4.toArray 204)).setRow gO O.toArray = wS at *
      clear hWn hRn hbb hbn HgO
      obtain ⟨L, HLL⟩ : ∃ L, Hid (L = (fillTo (fun i => (o4 (ws.getD (i / 4) 0)).getD (i % 4) 0) 64 (4 * k)).map (Value.int .u8)) := ⟨_, rfl⟩
      rw [← HLL.out] at hWS
      have HLn : Hid (L.length = 64) := by show L.length = 64; rw [HLL.out, List.length_map, fillTo_length _ _ _ (by omega)]
      have hb1 : (0 : Int) ≤ 4 * (k : Int) := by omega
      have hb3 : 4 * (k : Int) ≤ 64 := by omega
      have hnn : (4 * (k : Int)).toNat = 4 * k := by omega
      have hmin : O.length = Nat.min 4 (64 - 4 * k) := by rw [HOL.out]; exact (Nat.min_eq_left (by omega)).symm
      have hfit : 4 * k + O.length ≤ L.length := by rw [HOL.out, HLn.out]; omega
      have hwr : IntKind.i64.wrap (4 * (k : Int)) = 4 * (k : Int) := IntWalk.i64_in _ (by omega)
      have hne : ¬ 64 = 4 * k := by omega
      go_region_law (refine step_copy_splice rfl (.tmp 16) (.tmp 17) 69 69 rfl 5 Try.underlying69 size5 (some ⟨w.heap.size + 2, 4 * k, none⟩) (some ⟨gO, 0, none⟩) (64 - 4 * k) (64 - 4 * k) 4 4 rfl rfl (w.heap.size + 2) (4 * k) L 152 hWS O hmin (fun _ => ⟨rfl, _, rfl, hOO.at0⟩) hfit hO1 (w.heap.size + 2) wS ((Below.refl _ _).drew) (Nat.le_refl _) ?_; intro w4 hg4 hb4)
      have hW4 : BlkV 152 w4 (w.heap.size + 2) ((fillTo (fun i => (o4 (ws.getD (i / 4) 0)).getD (i % 4) 0) 64 (4 * (k + 1))).map (Value.int .u8)) := by
        have := hg4.out
        rw [HLL.out, HO.out, fillTo_splice _ _ _ _ _ (by rw [o4_length]; omega) (fun j hj => by
          rw [o4_length] at hj
          rw [show (4 * k + j) / 4 = k by omega, show (4 * k + j) % 4 = j by omega, ← HC.out])] at this
        exact this
      have hR4 := hRS.below hb4 (by omega)
      go_wp2
      go_roundw
      case rel => exact ⟨k + 1, by omega, by go_num, hW4, hR4, hbS.trans (hb4.mono (by omega))⟩
      case measure => simp [intOf] <;> omega
    · obtain rfl : k = 16 := by omega
      rw [fillTo_all] at hW
      obtain ⟨R, HR⟩ : ∃ R, Hid (R = (octL ws 64).map (Value.int .u8)) := ⟨_, rfl⟩
      have hWv : BlkV 152 wr (w.heap.size + 2) R := by rw [HR.out]; exact hW
      have HRL : Hid (R.length = 64) := by show R.length = 64; rw [HR.out, List.length_map, octL_length]
      have hR1 : ∀ u ∈ R, u.oneCell' = true := by rw [HR.out]; exact ints_one _ _
      have HZL : Hid (Z.length = 64) := by show Z.length = 64; rw [HZ'.out, List.length_map, List.length_replicate]
      clear hW
      go_wp2_with (first | (refine wl_load rfl 152 _ rfl ⟨w.heap.size + 2, 0, none⟩ rfl R (by rw [HRL.out]; exact agg64) hWv.at0 ?_) | (refine wl_storeAll rfl 152 _ _ rfl 152 (w.heap.size + 1) rfl R rfl 64 agg64 HRL.out Z hR HZL.out hR1 ?_; intro hRR))
      (try simp only [Exit.inBlock, Exit.then]); refine bodyPost_ret (results_cell rfl _ _ _ _ rfl R (by rw [HRL.out]; exact agg64) hRR.at0) rfl ?_
      exact ⟨by rw [HR.out], below_setRow' hb (by omega) _⟩
end Go.Proofs.Ytbljihhelladbaa.st
/- Contracts of keyref1.words and octets. Condition: octets. -/
namespace Go.Proofs.Ytbljihhelladbaa.st
open Go.RowKit
set_option pp.maxSteps 4000
theorem o4_at (c : Int) (r : Nat) (h : r < 4) : (o4 c).getD r 0 = c / 2 ^ (24 - 8 * r) % 256 := by
  match r, h with
  | 0, _ => rfl
  | 1, _ => rfl
  | 2, _ => rfl
  | 3, _ => simp [o4]
set_option maxRecDepth 100000 in
set_option maxHeartbeats 1000000 in
theorem octetsR (ws : List Int) (w : World) (hl : ws.length = 16) :
    Calls Try.prog 198 #[.agg (ws.map (Value.int .u32)).toArray] w fun e w' => e = .returned (.agg ((octL ws 64).map (Value.int .u8)).toArray) ∧ Below w.heap.size w w' := by
  have HL := hid hl
  have HZ := hid zero64
  obtain ⟨Z, HZ'⟩ : ∃ Z, Hid (Z = (List.replicate 64 (0 : Int)).map (Value.int .u8)) := ⟨_, rfl⟩
  rw [← HZ'.out] at HZ
  obtain ⟨S, HS⟩ : ∃ S, Hid (S = ws.map (Value.int .u32)) := ⟨_, rfl⟩
  rw [← HS.out]
  have HSL : Hid (S.length = 16) := by show S.length = 16; rw [HS.out, List.length_map, HL.out]
  clear hl
  go_enter Try.func198, Try.ntmps198
  go_wp2_with (first | (refine wl_alloc rfl 152 rfl Z HZ.out ?_))
  go_loopw [5] (fun i wr => ∃ k : Nat, k ≤ 64 ∧ i = .int .i64 k ∧ BlkI .u8 152 wr (w.heap.size + 2) (fillTo (fun i => (o4 (ws.getD (i / 4) 0)).getD (i % 4) 0) 64 k) ∧ BlkV 152 wr (w.heap.size + 1) Z ∧ BlkV 236 wr w.heap.size S ∧ Below w.heap.size w wr) (fun i _ => 64 - (intOf i).toNat)
  case atStart =>
    refine ⟨0, by omega, rfl, ?_, (BlkV.new _ _ Z (by simp)).alloc _, ((BlkV.new _ w S rfl).alloc _).alloc _, (((Below.refl _ _).alloc (Nat.le_refl _) _).alloc (by simp) _).alloc (by simp; omega) _⟩
    rw [fillTo_zero]
    have := BlkV.new 152 ((w.alloc (.cells S.toArray 236)).alloc (.cells Z.toArray 152)) (g := w.heap.size + 2) Z (by simp)
    rw [HZ'.out] at this ⊢
    exact this
  case round =>
    obtain ⟨k, hk, rfl, hW, hR, hS, hb⟩ := hrel
    by_cases h0 : k < 64
    · obtain ⟨q, r, rfl, hr⟩ : ∃ q r : Nat, k = 4 * q + r ∧ r < 4 := ⟨k / 4, k % 4, by omega, by omega⟩
      obtain ⟨c, HC⟩ : ∃ c, Hid (c = ws.getD q 0) := ⟨_, rfl⟩
      have hcell : wr.cell? ⟨w.heap.size, q, none⟩ = some (.int .u32 c) := by rw [hS.cell, HS.out, List.getElem?_map, List.getElem?_eq_getElem (by rw [HL.out]; omega), HC.out, getD_lt' ws 0 (by rw [HL.out]; omega)]; rfl
      have hf := hW.frozen (4 * q + r)
      have hc := hW.cell (i := 4 * q + r) (by rw [fillTo_length _ _ _ (by omega)]; exact h0)
      have hST := hW.set (4 * q + r) ((o4 (ws.getD q 0)).getD r 0)
      rw [o4_at _ _ hr, ← HC.out] at hST
      have hd : ((4 * (q : Int) + (r : Int)).tdiv 4) = q := by rw [Int.tdiv_eq_ediv_of_nonneg (by omega)]; omega
      have hm : ((4 * (q : Int) + (r : Int)).tmod 4) = r := by rw [Int.tmod_eq_emod_of_nonneg (by omega)]; omega
      go_wp2
      go_roundw
      case rel =>
        refine ⟨4 * q + r + 1, by omega, by go_num, ?_, hR.other (by simp) _, hS.other (by simp; omega) _, hb.setCell (by simp; omega) _⟩
        rw [← fillTo_set _ _ _ h0, show (4 * q + r) / 4 = q by omega, show (4 * q + r) % 4 = r by omega, o4_at _ _ hr, ← HC.out]
        exact hST
      case measure => simp [intOf] <;> omega
    · obtain rfl : k = 64 := by omega
      rw [fillTo_all] at hW
      obtain ⟨R, HR⟩ : ∃ R, Hid (R = (octL ws 64).map (Value.int .u8)) := ⟨_, rfl⟩
      have hWv : BlkV 152 wr (w.heap.size + 2) R := by rw [HR.out]; exact BlkI.v hW
      have HRL : Hid (R.length = 64) := by show R.length = 64; rw [HR.out, List.length_map, octL_length]
      have hR1 : ∀ u ∈ R, u.oneCell' = true := by rw [HR.out]; exact ints_one _ _
      have HZL : Hid (Z.length = 64) := by show Z.length = 64; rw [HZ'.out, List.length_map, List.length_replicate]
      clear hW
      go_wp2_with (first | (refine wl_load rfl 152 _ rfl ⟨w.heap.size + 2, 0, none⟩ rfl R (by rw [HRL.out]; exact agg64) hWv.at0 ?_) | (refine wl_storeAll rfl 152 _ _ rfl 152 (w.heap.size + 1) rfl R rfl 64 agg64 HRL.out Z hR HZL.out hR1 ?_; intro hRR))
      (try simp only [Exit.inBlock, Exit.then]); refine bodyPost_ret (results_cell rfl _ _ _ _ rfl R (by rw [HRL.out]; exact agg64) hRR.at0) rfl ?_
      exact ⟨by rw [HR.out], below_setRow' hb (by omega) _⟩
/-- a word, octet by octet -/
def pw (s : List Int) (j : Nat) : Nat → Int
  | 0 => 0
  | c + 1 => bits .or .u32 (pw s j c * 256 % 4294967296) (s.getD (4 * j + c) 0)
def pwL (s : List Int) (k : Nat) : List Int := (List.range 16).map fun (j : Nat) => pw s j (min 4 (k - 4 * j))
theorem pwL_length (s : List Int) (k : Nat) : (pwL s k).length = 16 := by unfold pwL; rw [List.length_map, List.length_range]
theorem pwL_get (s : List Int) (k j : Nat) (h : j < 16) : (pwL s k)[j]? = some (pw s j (min 4 (k - 4 * j))) := by
  unfold pwL; rw [List.getElem?_map, List.getElem?_range h]; rfl
theorem pwL_getD (s : List Int) (q r : Nat) (h : q < 16) (hr : r < 4) : (pwL s (4 * q + r)).getD q 0 = pw s q r := by
  rw [List.getD_eq_getElem?_getD, pwL_get _ _ _ h, show min 4 (4 * q + r - 4 * q) = r by omega]; rfl
theorem pwL_set (s : List Int) (q r : Nat) (h : q < 16) (hr : r < 4) : (pwL s (4 * q + r)).set q (pw s q (r + 1)) = pwL s (4 * q + r + 1) := by
  apply List.ext_getElem?
  intro i
  rw [List.getElem?_set, pwL_length]
  by_cases hi : i < 16
  · rw [pwL_get _ _ _ hi, pwL_get _ _ _ hi]
    by_cases e : q = i
    · subst e; rw [if_pos rfl, if_pos hi, show min 4 (4 * q + r + 1 - 4 * q) = r + 1 by omega]
    · rw [if_neg e]
      by_cases h2 : i < q
      · rw [show min 4 (4 * q + r - 4 * i) = 4 by omega, show min 4 (4 * q + r + 1 - 4 * i) = 4 by omega]
      · rw [show min 4 (4 * q + r - 4 * i) = 0 by omega, show min 4 (4 * q + r + 1 - 4 * i) = 0 by omega]
  · rw [if_neg (by omega), List.getElem?_eq_none (by rw [pwL_length]; omega), List.getElem?_eq_none (by rw [pwL_length]; omega)]
theorem or_step (x b : Int) (hx : 0 ≤ x ∧ x < 16777216) (hb : Oct b) : bits .or .u32 (x * 256 % 4294967296) b = x * 256 + b := by
  unfold Oct at hb
  have e : x * 256 % 4294967296 = x * 2 ^ 8 := by omega
  rw [e, or_sum x b 8 hx.1 (by omega) (by omega) (by omega)]
  omega
theorem pw_four (s : List Int) (hs : Octs s) (j : Nat) : pw s j 4 = w4 (s.getD (4 * j) 0) (s.getD (4 * j + 1) 0) (s.getD (4 * j + 2) 0) (s.getD (4 * j + 3) 0) := by
  have h0 := hs.getD (4 * j)
  have h1 := hs.getD (4 * j + 1)
  have h2 := hs.getD (4 * j + 2)
  have h3 := hs.getD (4 * j + 3)
  have p1 : pw s j 1 = s.getD (4 * j) 0 := by
    show bits .or .u32 (0 * 256 % 4294967296) (s.getD (4 * j + 0) 0) = _
    rw [or_step 0 _ (by omega) (hs.getD _)]; simp
  have p2 : pw s j 2 = s.getD (4 * j) 0 * 256 + s.getD (4 * j + 1) 0 := by
    show bits .or .u32 (pw s j 1 * 256 % 4294967296) _ = _
    rw [p1, or_step _ _ (by unfold Oct at h0; omega) h1]
  have p3 : pw s j 3 = (s.getD (4 * j) 0 * 256 + s.getD (4 * j + 1) 0) * 256 + s.getD (4 * j + 2) 0 := by
    show bits .or .u32 (pw s j 2 * 256 % 4294967296) _ = _
    rw [p2, or_step _ _ (by unfold Oct at h0 h1; omega) h2]
  show bits .or .u32 (pw s j 3 * 256 % 4294967296) _ = _
  rw [p3, or_step _ _ (by unfold Oct at h0 h1 h2; omega) h3]
  unfold w4
  omega
theorem pwL_all (s : List Int) (hs : Octs s) : pwL s 64 = wordsL s 16 := by
  apply List.ext_getElem?
  intro i
  by_cases hi : i < 16
  · rw [pwL_get _ _ _ hi, show min 4 (64 - 4 * i) = 4 by omega, pw_four s hs]
    unfold wordsL
    rw [List.getElem?_map, List.getElem?_range hi]; rfl
  · rw [List.getElem?_eq_none (by rw [pwL_length]; omega), List.getElem?_eq_none (by rw [wordsL_length]; omega)]
set_option maxRecDepth 100000 in
set_option maxHeartbeats 1000000 in
theorem wordsR (s : List Int) (w : World) (hl : s.length = 64) (hs : Octs s) :
    Calls Try.prog 196 #[.agg (s.map (Value.int .u8)).toArray] w fun e w' => e = .returned (.agg ((wordsL s 16).map (Value.int .u32)).toArray) ∧ Below w.heap.size w w' := by
  have HL := hid hl
  have HZ := hid zero16
  obtain ⟨Z, HZ'⟩ : ∃ Z, Hid (Z = (List.replicate 16 (0 : Int)).map (Value.int .u32)) := ⟨_, rfl⟩
  rw [← HZ'.out] at HZ
  obtain ⟨S, HS⟩ : ∃ S, Hid (S = s.map (Value.int .u8)) := ⟨_, rfl⟩
  rw [← HS.out]
  have HSL : Hid (S.length = 64) := by show S.length = 64; rw [HS.out, List.length_map, HL.out]
  clear hl
  go_enter Try.func196, Try.ntmps196
  go_wp2_with (first | (refine wl_alloc rfl 236 rfl Z HZ.out ?_) | (refine wl_load rfl 152 _ rfl ⟨w.heap.size, 0, none⟩ rfl S (by rw [HSL.out]; exact agg64) ((BlkV.new _ w S rfl).alloc _ |>.alloc _).at0 ?_))
  go_loopw [7] (fun i wr => ∃ k : Nat, k ≤ 64 ∧ i = .int .i64 k ∧ BlkI .u32 236 wr (w.heap.size + 2) (pwL s k) ∧ BlkV 236 wr (w.heap.size + 1) Z ∧ Below w.heap.size w wr) (fun i _ => 64 - (intOf i).toNat)
  case atStart =>
    refine ⟨0, by omega, rfl, ?_, (BlkV.new _ _ Z (by simp)).alloc _, (((Below.refl _ _).alloc (Nat.le_refl _) _).alloc (by simp) _).alloc (by simp; omega) _⟩
    have e : pwL s 0 = List.replicate 16 0 := rfl
    rw [e]
    have := BlkV.new 236 ((w.alloc (.cells S.toArray 152)).alloc (.cells Z.toArray 236)) (g := w.heap.size + 2) Z (by simp)
    rw [HZ'.out] at this ⊢
    exact this
  case round =>
    obtain ⟨k, hk, rfl, hW, hR, hb⟩ := hrel
    by_cases h0 : k < 64
    · obtain ⟨q, r, rfl, hr⟩ : ∃ q r : Nat, k = 4 * q + r ∧ r < 4 := ⟨k / 4, k % 4, by omega, by omega⟩
      obtain ⟨c, HC⟩ : ∃ c, Hid (c = s.getD (4 * q + r) 0) := ⟨_, rfl⟩
      obtain ⟨p, HP⟩ : ∃ p, Hid (p = pw s q r) := ⟨_, rfl⟩
      have hSk : S[4 * q + r]? = some (.int .u8 c) := by rw [HS.out, List.getElem?_map, List.getElem?_eq_getElem (by rw [HL.out]; exact h0), HC.out, getD_lt' s 0 (by rw [HL.out]; exact h0)]; rfl
      have hIX := fun w => run_index1 (P := Try.prog) w 152 5 64 Try.underlying152 .u8 Try.underlying5 size5 S (4 * q + r) h0 _ hSk
      rw [show ((4 * q + r : Nat) : Int) = 4 * (q : Int) + (r : Int) by omega] at hIX
      have hc := hW.cell (i := q) (by rw [pwL_length]; omega)
      rw [pwL_getD _ _ _ (by omega) hr, ← HP.out] at hc
      have hf := hW.frozen q
      have hST := hW.set q (pw s q (r + 1))
      have hco : Oct c := by rw [HC.out]; exact hs.getD _
      obtain ⟨hc0, hc1⟩ := hco
      rw [pwL_set _ _ _ (by omega) hr, show pw s q (r + 1) = bits .or .u32 (p * 256 % 4294967296) c by rw [HC.out, HP.out]; rfl] at hST
      have hd : ((4 * (q : Int) + (r : Int)).tdiv 4) = q := by rw [Int.tdiv_eq_ediv_of_nonneg (by omega)]; omega
      go_wp2
      go_roundw
      case rel => exact ⟨4 * q + r + 1, by omega, by go_num, hST, hR.other (by simp) _, hb.setCell (by simp; omega) _⟩
      case measure => simp [intOf] <;> omega
    · obtain rfl : k = 64 := by omega
      rw [pwL_all s hs] at hW
      obtain ⟨R, HR⟩ : ∃ R, Hid (R = (wordsL s 16).map (Value.int .u32)) := ⟨_, rfl⟩
      have hWv : BlkV 236 wr (w.heap.size + 2) R := by rw [HR.out]; exact BlkI.v hW
      have HRL : Hid (R.length = 16) := by show R.length = 16; rw [HR.out, List.length_map, wordsL_length]
      have hR1 : ∀ u ∈ R, u.oneCell' = true := by rw [HR.out]; exact ints_one _ _
      have HZL : Hid (Z.length = 16) := by show Z.length = 16; rw [HZ'.out, List.length_map, List.length_replicate]
      clear hW
      go_wp2_with (first | (refine wl_load rfl 236 _ rfl ⟨w.heap.size + 2, 0, none⟩ rfl R (by rw [HRL.out]; exact agg16) hWv.at0 ?_) | (refine wl_storeAll rfl 236 _ _ rfl 236 (w.heap.size + 1) rfl R rfl 16 agg16 HRL.out Z hR HZL.out hR1 ?_; intro hRR))
      (try simp only [Exit.inBlock, Exit.then]); refine bodyPost_ret (results_cell rfl _ _ _ _ rfl R (by rw [HRL.out]; exact agg16) hRR.at0) rfl ?_
      exact ⟨by rw [HR.out], below_setRow' hb (by omega) _⟩
end Go.Proofs.Ytbljihhelladbaa.st
