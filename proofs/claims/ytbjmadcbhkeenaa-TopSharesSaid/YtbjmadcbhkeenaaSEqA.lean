/-
  Arrays of integers held against each other. No condition beyond their lengths. Contracts of share.CheckShares; of keyref2.SharesError's closure; of package slices with that closure. Conditions: shares of the type's form. Words and octets of a state: contracts of wordsOf, stateOf, octets and words. Conditions: states of octets. Contract of keyref2.SharesError. Conditions: shares of the type's form. Contracts of share.points and keyref2.places: places and values of an octet, in rows of the call's own. Conditions: shares of the type's form, 2^40 at most.
-/
import Derived.Test.YtbjmadcbhkeenaaSMem
import Derived.Test.YtbjmadcbhkeenaaSShF
import Derived.Test.YtbjmadcbhkeenaaSShr
import Derived.Stop.BytesEq
import Derived.StillTailTactics
import Derived.Deep.RegionWith
import Derived.Deep.RegionLaw
import Derived.BigRegion
import Derived.IntWalk
namespace Go.Proofs.Ytbjmadcbhkeenaa
set_option linter.unusedSimpArgs false
set_option linter.unusedVariables false
open Go.RowKit
theorem all_range_eqI : ∀ (xs ys : List Int), xs.length = ys.length → ((List.range xs.length).all fun i => xs.getD i 0 == ys.getD i 0) = (xs == ys)
  | [], [], _ => rfl
  | x :: xs, y :: ys, h => by
    have ih := all_range_eqI xs ys (by simpa using h)
    rw [List.length_cons, List.range_succ_eq_map, List.all_cons, List.all_map]
    simp only [List.getD_cons_zero, Function.comp_def, List.getD_cons_succ, ih]
    simp [List.cons_beq_cons]
  | [], _ :: _, h => by simp at h
  | _ :: _, [], h => by simp at h
theorem run_equalIn_ints {P : Program} (w : World) (d : Nat) (t e : TypeId) (n : Nat) (q : IntKind) (ht : P.underlying t = some (.array n e)) (he : P.underlying e = some (.int q)) (hsz : ∀ w, (sizeOf e).run P w = .ok 1 w)
    (xs ys : List Int) (hx : xs.length = n) (hy : ys.length = n) :
    (Op.equalIn (d + 2) t (.agg (xs.map (Value.int q)).toArray) (.agg (ys.map (Value.int q)).toArray)).run P w = .ok (xs == ys) w := by
  rw [← all_range_eqI xs ys (hx.trans hy.symm), hx, List.range_eq_range', Op.equalIn]
  simp only [Sem.run_bind, run_underlying ht, Result.andThen_ok, hsz, Std.Legacy.Range.forIn_eq_forIn_range', Std.Legacy.Range.size, Nat.sub_zero, Nat.add_sub_cancel, Nat.div_one]
  have hl : ∀ i ∈ List.range' 0 n 1, i < n := fun i hi => by simpa using (List.mem_range'_1.1 hi).2
  generalize List.range' 0 n 1 = l at hl ⊢
  induction l with
  | nil => simp
  | cons i l ih =>
    have hi : i < n := hl i (by simp)
    have px : (part e (xs.map (Value.int q)).toArray (i * 1)).run P w = .ok (.int q (xs.getD i 0)) w := by
      simp [part, isAgg, run_underlying he, List.getD, List.getElem?_eq_getElem (show i < xs.length by omega)]
    have py : (part e (ys.map (Value.int q)).toArray (i * 1)).run P w = .ok (.int q (ys.getD i 0)) w := by
      simp [part, isAgg, run_underlying he, List.getD, List.getElem?_eq_getElem (show i < ys.length by omega)]
    have pe : (Op.equalIn (d + 1) e (.int q (xs.getD i 0)) (.int q (ys.getD i 0))).run P w = .ok (xs.getD i 0 == ys.getD i 0) w := by
      rw [run_equalIn_int w d e q q _ _ he]
    simp only [List.forIn_cons, Sem.run_bind, px, py, pe, Result.andThen_ok, List.all_cons]
    cases hb : (xs.getD i 0 == ys.getD i 0)
    · simp
    · simp only [Bool.not_true, Bool.false_eq_true, if_false, Sem.run_pure, Result.andThen_ok, Bool.true_and]
      exact ih fun j hj => hl j (by simp [hj])
end Go.Proofs.Ytbjmadcbhkeenaa
namespace Go.Proofs.Ytbjmadcbhkeenaa.shr
set_option linter.unusedVariables false
open Go.RowKit Go.Proofs.Ytbjmadcbhkeenaa.sh
set_option linter.unusedSimpArgs false
set_option pp.maxSteps 6000
theorem CheckShares_any (need : Int) (ao : Option Addr) (cap : Nat) (l : List Sh) (w : World) (hr : RowS w ao l) (hok : ∀ s ∈ l, s.Ok) (hn : l.length ≤ 9223372036854775807) :
    Calls Try.prog 27 #[.int .i64 need, .slice ao l.length cap] w fun e w' => e = .returned (.int .i64 (sharesE false need l)) ∧ Below w.heap.size w w' := by
  have HOK := hid hok
  clear hok
  unfold sharesE
  cases hin : inB need 1 32
  · go_enter Try.func27, Try.ntmps27
    go_wp2_with (go_at_call 18; refine (outside_any _ _ _ _).mono ?_; rintro e w1 ⟨rfl, rfl⟩)
    go_ret
    exact ⟨rfl, Below.refl _ _⟩
  · by_cases h1 : (l.length : Int) < need
    · go_enter Try.func27, Try.ntmps27
      go_wp2_with (go_at_call 18; refine (outside_any _ _ _ _).mono ?_; rintro e w1 ⟨rfl, rfl⟩)
      go_ret
      exact ⟨rv (ri (by simp [h1])), Below.refl _ _⟩
    · by_cases h2 : 32 < l.length
      · go_enter Try.func27, Try.ntmps27
        go_wp2_with (go_at_call 18; refine (outside_any _ _ _ _).mono ?_; rintro e w1 ⟨rfl, rfl⟩)
        go_ret
        exact ⟨rv (ri (by simp [h1, h2])), Below.refl _ _⟩
      · have H1 := hid h1
        have H2 := hid h2
        go_enter Try.func27, Try.ntmps27
        go_wp2_with (first | (go_at_call 18; refine (outside_any _ _ _ _).mono ?_; rintro e w1 ⟨rfl, rfl⟩) | (go_at_call 21; refine (eachFault_any _ _ l _ hr HOK.out (by omega)).mono ?_; rintro e w1 ⟨rfl, hb1⟩))
        go_ret
        exact ⟨rv (ri (by simp [H1.out, H2.out])), hb1⟩
end Go.Proofs.Ytbjmadcbhkeenaa.shr
/- Contracts of both Stir functions: both make 'stirL'. Condition: the state is octets. -/
namespace Go.Proofs.Ytbjmadcbhkeenaa.st
set_option linter.unusedSimpArgs false
set_option linter.unusedVariables false
open Go.RowKit
set_option pp.maxSteps 4000
def Octs (l : List Int) : Prop := ∀ c ∈ l, Oct c
theorem Octs.getD {l : List Int} (h : Octs l) (i : Nat) : Oct (l.getD i 0) := by
  by_cases hi : i < l.length
  · rw [getD_lt' _ _ hi]; exact h _ (List.getElem_mem hi)
  · rw [List.getD_eq_getElem?_getD, List.getElem?_eq_none (by omega)]; exact ⟨by simp, by simp⟩
/-- a row that is filled from the front -/
def fillTo (f : Nat → Int) (n k : Nat) : List Int := (List.range k).map f ++ List.replicate (n - k) 0
theorem fillTo_length (f : Nat → Int) (n k : Nat) (h : k ≤ n) : (fillTo f n k).length = n := by
  unfold fillTo; rw [List.length_append, List.length_map, List.length_range, List.length_replicate]; omega
theorem fillTo_zero (f : Nat → Int) (n : Nat) : fillTo f n 0 = List.replicate n 0 := by unfold fillTo; rw [List.range_zero]; rfl
theorem fillTo_all (f : Nat → Int) (n : Nat) : fillTo f n n = (List.range n).map f := by unfold fillTo; rw [Nat.sub_self, List.replicate_zero, List.append_nil]
theorem fillTo_get (f : Nat → Int) (n k i : Nat) : (fillTo f n k)[i]? = if i < k then some (f i) else if i < k + (n - k) then some 0 else none := by
  unfold fillTo
  rw [List.getElem?_append, List.length_map, List.length_range, List.getElem?_replicate]
  by_cases h : i < k
  · rw [if_pos h, if_pos h, List.getElem?_map, List.getElem?_range h]; rfl
  · rw [if_neg h, if_neg h]
    by_cases h2 : i < k + (n - k)
    · rw [if_pos h2, if_pos (by omega)]
    · rw [if_neg h2, if_neg (by omega)]
theorem fillTo_set (f : Nat → Int) (n k : Nat) (h : k < n) : (fillTo f n k).set k (f k) = fillTo f n (k + 1) := by
  apply List.ext_getElem?
  intro i
  rw [List.getElem?_set, fillTo_length f n k (by omega), fillTo_get, fillTo_get]
  by_cases e : k = i
  · subst e; rw [if_pos rfl, if_pos h, if_pos (by omega)]
  · rw [if_neg e]
    by_cases h1 : i < k
    · rw [if_pos h1, if_pos (by omega)]
    · rw [if_neg h1, if_neg (by omega : ¬ i < k + 1), show k + (n - k) = k + 1 + (n - (k + 1)) by omega]
theorem at_ints {k : IntKind} {t : TypeId} {w : World} {g : Nat} {l : List Int} (h : BlkV t w g (l.map (Value.int k))) (off : Nat) (ds : List Int) (hd : ∀ j, j < ds.length → off + j < l.length ∧ ds.getD j 0 = l.getD (off + j) 0) : At w ⟨g, off, none⟩ (ds.map (Value.int k)) :=
  h.at off _ fun j u hu => by
    have hj : j < ds.length := by have := (List.getElem?_eq_some_iff.1 hu).1; simpa using this
    obtain ⟨h1, h2⟩ := hd j hj
    rw [List.getElem?_map, List.getElem?_eq_getElem hj] at hu
    rw [List.getElem?_map, List.getElem?_eq_getElem h1]
    rw [getD_lt' _ _ hj, getD_lt' _ _ h1] at h2
    rw [← h2]
    exact hu
theorem run_arrayAt4 (w : World) (a : Addr) (cap : Nat) : (Instr.arrayAt 121 (.slice (some a) 4 cap)).run Try.prog w = .ok (.pointer (some a)) w := by
  simp [Instr.arrayAt, run_underlying Try.underlying121, Result.andThen]
theorem zero16 : (Try.prog.info? 123).map (·.zero) = some (some (.agg ((List.replicate 16 (0 : Int)).map (Value.int .u32)).toArray)) := by kernel_rfl
theorem zero64 : (Try.prog.info? 111).map (·.zero) = some (some (.agg ((List.replicate 64 (0 : Int)).map (Value.int .u8)).toArray)) := by kernel_rfl
set_option maxRecDepth 100000 in
set_option maxHeartbeats 1000000 in
theorem wordsOf (s : List Int) (w : World) (hl : s.length = 64) (hs : Octs s) :
    Calls Try.prog 71 #[.agg (s.map (Value.int .u8)).toArray] w fun e w' => e = .returned (.agg ((wordsL s 16).map (Value.int .u32)).toArray) ∧ Below w.heap.size w w' := by
  have HL := hid hl
  have HZ := hid zero16
  obtain ⟨Z, HZ'⟩ : ∃ Z, Hid (Z = (List.replicate 16 (0 : Int)).map (Value.int .u32)) := ⟨_, rfl⟩
  rw [← HZ'.out] at HZ
  obtain ⟨S, HS⟩ : ∃ S, Hid (S = s.map (Value.int .u8)) := ⟨_, rfl⟩
  rw [← HS.out]
  clear hl
  go_enter Try.func71, Try.ntmps71
  go_wp2_with (first | (refine wl_alloc rfl 123 rfl Z HZ.out ?_))
  go_loopw [5] (fun i wr => ∃ k : Nat, k ≤ 16 ∧ i = .int .i64 k ∧ BlkV 111 wr w.heap.size S ∧ BlkI .u32 123 wr (w.heap.size + 2) (fillTo (fun i => w4 (s.getD (4 * i) 0) (s.getD (4 * i + 1) 0) (s.getD (4 * i + 2) 0) (s.getD (4 * i + 3) 0)) 16 k) ∧ BlkV 123 wr (w.heap.size + 1) Z ∧ Below w.heap.size w wr) (fun i _ => 16 - (intOf i).toNat)
  case atStart =>
    refine ⟨0, by omega, rfl, ((BlkV.new _ w S rfl).alloc _).alloc _, ?_, (BlkV.new _ _ Z (by simp)).alloc _, (((Below.refl _ _).alloc (Nat.le_refl _) _).alloc (by simp) _).alloc (by simp; omega) _⟩
    rw [fillTo_zero]
    have := BlkV.new 123 ((w.alloc (.cells S.toArray 111)).alloc (.cells Z.toArray 123)) (g := w.heap.size + 2) Z (by simp)
    rw [HZ'.out] at this ⊢
    exact this
  case round =>
    obtain ⟨k, hk, rfl, hS, hW, hR, hb⟩ := hrel
    by_cases h0 : k < 16
    · obtain ⟨a, HA⟩ : ∃ a, Hid (a = s.getD (4 * k) 0) := ⟨_, rfl⟩
      obtain ⟨b, HB⟩ : ∃ b, Hid (b = s.getD (4 * k + 1) 0) := ⟨_, rfl⟩
      obtain ⟨c, HC⟩ : ∃ c, Hid (c = s.getD (4 * k + 2) 0) := ⟨_, rfl⟩
      obtain ⟨d, HD⟩ : ∃ d, Hid (d = s.getD (4 * k + 3) 0) := ⟨_, rfl⟩
      have ha : Oct a := by rw [HA.out]; exact hs.getD _
      have hbo : Oct b := by rw [HB.out]; exact hs.getD _
      have hc : Oct c := by rw [HC.out]; exact hs.getD _
      have hd : Oct d := by rw [HD.out]; exact hs.getD _
      have hAt : At wr ⟨w.heap.size, 4 * k, none⟩ ([a, b, c, d].map (Value.int .u8)) := at_ints (l := s) (by rw [← HS.out]; exact hS) _ _ fun j hj => by
        match j, hj with
        | 0, _ => exact ⟨by rw [HL.out]; omega, HA.out⟩
        | 1, _ => exact ⟨by rw [HL.out]; omega, HB.out⟩
        | 2, _ => exact ⟨by rw [HL.out]; omega, HC.out⟩
        | 3, _ => exact ⟨by rw [HL.out]; omega, HD.out⟩
      have hal : Try.prog.arrayLen 111 = 64 := by kernel_rfl
      have hAA := run_arrayAt4
      have hb1 : (0 : Int) ≤ 4 * (k : Int) := by omega
      have hb2 : 4 * (k : Int) ≤ 4 * (k : Int) + 4 := by omega
      have hb3 : 4 * (k : Int) + 4 ≤ 64 := by omega
      have hSl : Hid (S.length = 64) := by show S.length = 64; rw [HS.out, List.length_map, HL.out]
      go_wp2_with (first | (refine wl_load rfl 121 _ rfl ⟨w.heap.size, 4 * k, none⟩ rfl ([a, b, c, d].map (Value.int .u8)) agg4 hAt ?_))
      refine (word a b c d wr ha hbo hc hd).mono ?_
      rintro e wn ⟨rfl, hbn⟩
      have hfr := (hW.below hbn hW.lt).frozen k
      have hWn := hW.below hbn hW.lt
      have hcell := hWn.cell (i := k) (by rw [fillTo_length _ _ _ (by omega)]; exact h0)
      have hST := hWn.set k (w4 a b c d)
      go_wp2
      go_roundw
      case rel => exact ⟨k + 1, by omega, by go_num, (hS.below hbn hS.lt).other (by simp; omega) _, by rw [← fillTo_set _ _ _ h0, ← HA.out, ← HB.out, ← HC.out, ← HD.out]; exact hST, (hR.below hbn hR.lt).other (by simp) _, (hb.trans (hbn.mono hb.size)).setCell (by simp; omega) _⟩
      case measure => simp [intOf] <;> omega
    · obtain rfl : k = 16 := by omega
      rw [fillTo_all] at hW
      have hWl := wordsL_length s 16
      obtain ⟨R, HR⟩ : ∃ R, Hid (R = (wordsL s 16).map (Value.int .u32)) := ⟨_, rfl⟩
      have hWv : BlkV 123 wr (w.heap.size + 2) R := by rw [HR.out]; exact BlkI.v hW
      have hRl : R.length = 16 := by rw [HR.out, List.length_map, hWl]
      have hR1 : ∀ u ∈ R, u.oneCell' = true := by rw [HR.out]; exact ints_one _ _
      have hZl : Z.length = 16 := by rw [HZ'.out]; simp
      have HRL := hid hRl
      have HZL := hid hZl
      clear hW hRl hZl hWl
      go_wp2_with (first | (refine wl_load rfl 123 _ rfl ⟨w.heap.size + 2, 0, none⟩ rfl R (by rw [HRL.out]; exact agg16) hWv.at0 ?_) | (refine wl_storeAll rfl 123 _ _ rfl 123 (w.heap.size + 1) rfl R rfl 16 agg16 HRL.out Z hR HZL.out hR1 ?_; intro hRR))
      (try simp only [Exit.inBlock, Exit.then]); refine bodyPost_ret (results_cell rfl _ _ _ _ rfl R (by rw [HRL.out]; exact agg16) hRR.at0) rfl ?_
      exact ⟨by rw [HR.out], below_setRow' hb (by omega) _⟩
end Go.Proofs.Ytbjmadcbhkeenaa.st
/- Contracts of mix.stateOf, keyref1.words and octets. Condition: octets. -/
namespace Go.Proofs.Ytbjmadcbhkeenaa.st
open Go.RowKit
set_option pp.maxSteps 4000
theorem run_index1 {P : Program} (w : World) (t e : TypeId) (n : Nat) (ht : P.underlying t = some (.array n e)) (k : IntKind) (he : P.underlying e = some (.int k)) (hs : (P.info? e).map (·.size) = some 1) (cs : List Value) (i : Nat) (hi : i < n) (v : Value) (hv : cs[i]? = some v) :
    (Instr.index t (.agg cs.toArray) (.int .i64 i)).run P w = .ok v w := by
  obtain ⟨f, hf, hf2⟩ := Option.map_eq_some_iff.1 hs
  simp [Instr.index, asIntOf, run_underlying ht, sizeOf, typeInfo, hf, hf2, Result.andThen, part, isAgg, run_underlying he, hi, hv]
theorem size5 : (Try.prog.info? 5).map (·.size) = some 1 := by kernel_rfl
theorem size174 : (Try.prog.info? 93).map (·.size) = some 1 := by kernel_rfl
theorem fillTo_splice (k : IntKind) (f : Nat → Int) (n m : Nat) (ds : List Int) (h : m + ds.length ≤ n) (hd : ∀ j, j < ds.length → ds.getD j 0 = f (m + j)) :
    splice ((fillTo f n m).map (Value.int k)) m (ds.map (Value.int k)) = (fillTo f n (m + ds.length)).map (Value.int k) := by
  unfold splice
  rw [← List.map_take, List.length_map, ← List.map_drop, ← List.map_append, ← List.map_append]
  congr 1
  apply List.ext_getElem?
  intro i
  rw [fillTo_get]
  by_cases h1 : i < m
  · rw [List.getElem?_append_left (by rw [List.length_take, fillTo_length _ _ _ (by omega)]; omega), List.getElem?_take, if_pos h1, fillTo_get, if_pos h1, if_pos (by omega)]
  · have hlt : ((fillTo f n m).take m).length = m := by rw [List.length_take, fillTo_length _ _ _ (by omega)]; omega
    rw [List.getElem?_append_right (by omega), hlt]
    by_cases h2 : i < m + ds.length
    · rw [List.getElem?_append_left (by omega), if_pos h2, List.getElem?_eq_getElem (by omega)]
      have := hd (i - m) (by omega)
      rw [getD_lt' _ _ (by omega), show m + (i - m) = i by omega] at this
      rw [this]
    · rw [List.getElem?_append_right (by omega), List.getElem?_drop, fillTo_get, if_neg (by omega), if_neg h2, show m + ds.length + (i - m - ds.length) = i by omega]
      by_cases h3 : i < n
      · rw [if_pos (by omega), if_pos (by omega)]
      · rw [if_neg (by omega), if_neg (by omega)]
theorem zero4 : (Try.prog.info? 121).map (·.zero) = some (some (.agg ((List.replicate 4 (0 : Int)).map (Value.int .u8)).toArray)) := by kernel_rfl
theorem o4_length (n : Int) : (o4 n).length = 4 := rfl
set_option maxRecDepth 100000 in
set_option maxHeartbeats 1000000 in
theorem stateOf (ws : List Int) (w : World) (hl : ws.length = 16) :
    Calls Try.prog 74 #[.agg (ws.map (Value.int .u32)).toArray] w fun e w' => e = .returned (.agg ((octL ws 64).map (Value.int .u8)).toArray) ∧ Below w.heap.size w w' := by
  have HL := hid hl
  have HZ := hid zero64
  obtain ⟨Z, HZ'⟩ : ∃ Z, Hid (Z = (List.replicate 64 (0 : Int)).map (Value.int .u8)) := ⟨_, rfl⟩
  rw [← HZ'.out] at HZ
  obtain ⟨S, HS⟩ : ∃ S, Hid (S = ws.map (Value.int .u32)) := ⟨_, rfl⟩
  rw [← HS.out]
  have HSL : Hid (S.length = 16) := by show S.length = 16; rw [HS.out, List.length_map, HL.out]
  clear hl
  go_enter Try.func74, Try.ntmps74
  go_wp2_with (first | (refine wl_alloc rfl 111 rfl Z HZ.out ?_) | (refine wl_load rfl 123 _ rfl ⟨w.heap.size, 0, none⟩ rfl S (by rw [HSL.out]; exact agg16) ((BlkV.new _ w S rfl).alloc _ |>.alloc _).at0 ?_))
  go_loopw [8] (fun i wr => ∃ k : Nat, k ≤ 16 ∧ i = .int .i64 k ∧ BlkV 111 wr (w.heap.size + 2) ((fillTo (fun i => (o4 (ws.getD (i / 4) 0)).getD (i % 4) 0) 64 (4 * k)).map (Value.int .u8)) ∧ BlkV 111 wr (w.heap.size + 1) Z ∧ Below w.heap.size w wr) (fun i _ => 16 - (intOf i).toNat)
  case atStart =>
    refine ⟨0, by omega, rfl, ?_, (BlkV.new _ _ Z (by simp)).alloc _, (((Below.refl _ _).alloc (Nat.le_refl _) _).alloc (by simp) _).alloc (by simp; omega) _⟩
    rw [fillTo_zero, ← HZ'.out]
    exact BlkV.new _ _ Z (by simp)
  case round =>
    obtain ⟨k, hk, rfl, hW, hR, hb⟩ := hrel
    by_cases h0 : k < 16
    · obtain ⟨c, HC⟩ : ∃ c, Hid (c = ws.getD k 0) := ⟨_, rfl⟩
      have hSk : S[k]? = some (.int .u32 c) := by rw [HS.out, List.getElem?_map, List.getElem?_eq_getElem (by rw [HL.out]; exact h0), HC.out, getD_lt' ws 0 (by rw [HL.out]; exact h0)]; rfl
      have hIX := fun w => run_index1 (P := Try.prog) w 123 93 16 Try.underlying123 .u32 Try.underlying93 size174 S k h0 _ hSk
      have hal : Try.prog.arrayLen 111 = 64 := by kernel_rfl
      have hal4 : Try.prog.arrayLen 121 = 4 := by kernel_rfl
      go_wp2_with fail
      refine (octets c wr).mono ?_
      rintro e wn ⟨rfl, hbn⟩
      obtain ⟨O, HO⟩ : ∃ O, Hid (O = (o4 c).map (Value.int .u8)) := ⟨_, rfl⟩
      rw [← HO.out]
      obtain ⟨Z4, HZ4⟩ : ∃ Z4, Hid (Z4 = (List.replicate 4 (0 : Int)).map (Value.int .u8)) := ⟨_, rfl⟩
      have hz4 := zero4
      rw [← HZ4.out] at hz4
      have HZ4' := hid hz4
      have HOL : Hid (O.length = 4) := by show O.length = 4; rw [HO.out]; rfl
      have hO1 : ∀ u ∈ O, u.oneCell' = true := by rw [HO.out]; exact ints_one _ _
      have hWn := hW.below hbn hW.lt
      have hRn := hR.below hbn hR.lt
      have hbb := hb.trans (hbn.mono hb.size)
      clear hz4 hW hR
      go_wp2_with (first | (refine wl_alloc rfl 121 rfl Z4 HZ4'.out ?_) | (refine wl_storeAll rfl 121 _ _ rfl 121 wn.heap.size rfl O rfl 4 agg4 HOL.out Z4 (BlkV.new _ wn Z4 rfl) (by rw [HZ4.out]; rfl) hO1 ?_; intro hOO))
      have hWS := (hWn.alloc (.cells Z4.toArray 121)).otherRow (g' := wn.heap.size) (by have := hWn.lt; omega) O.toArray
      have hRS := (hRn.alloc (.cells Z4.toArray 121)).otherRow (g' := wn.heap.size) (by have := hRn.lt; omega) O.toArray
      have hbS := below_setRow' (hbb.alloc hbb.size (.cells Z4.toArray 121)) hbb.size O.toArray
      obtain ⟨gO, HgO⟩ : ∃ gO, Hid (gO = wn.heap.size) := ⟨_, rfl⟩
      have hgW : gO ≠ w.heap.size + 2 := by rw [HgO.out]; have := hWn.lt; omega
      have hgR : gO ≠ w.heap.size + 1 := by rw [HgO.out]; have := hRn.lt; omega
      rw [← HgO.out] at hWS hRS hbS hOO ⊢
      generalize (wn.alloc (.cells Z4.toArray 121)).setRow gO O.toArray = wS at *
      clear hWn hRn hbb hbn HgO
      obtain ⟨L, HLL⟩ : ∃ L, Hid (L = (fillTo (fun i => (o4 (ws.getD (i / 4) 0)).getD (i % 4) 0) 64 (4 * k)).map (Value.int .u8)) := ⟨_, rfl⟩
      rw [← HLL.out] at hWS
      have HLn : Hid (L.length = 64) := by show L.length = 64; rw [HLL.out, List.length_map, fillTo_length _ _ _ (by omega)]
      have hb1 : (0 : Int) ≤ 4 * (k : Int) := by omega
      have hb3 : 4 * (k : Int) ≤ 64 := by omega
      have hnn : (4 * (k : Int)).toNat = 4 * k := by omega
      have hmin : O.length = Nat.min 4 (64 - 4 * k) := by rw [HOL.out]; exact (Nat.min_eq_left (by omega)).symm
      have hfit : 4 * k + O.length ≤ L.length := by rw [HOL.out, HLn.out]; omega
      have hwr : IntKind.i64.wrap (4 * (k : Int)) = 4 * (k : Int) := IntWalk.i64_in _ (by omega)
      have hne : ¬ 64 = 4 * k := by omega
      go_region_law (refine step_copy_splice rfl (.tmp 16) (.tmp 17) 51 51 rfl 5 Try.underlying51 size5 (some ⟨w.heap.size + 2, 4 * k, none⟩) (some ⟨gO, 0, none⟩) (64 - 4 * k) (64 - 4 * k) 4 4 rfl rfl (w.heap.size + 2) (4 * k) L 111 hWS O hmin (fun _ => ⟨rfl, _, rfl, hOO.at0⟩) hfit hO1 (w.heap.size + 2) wS ((Below.refl _ _).drew) (Nat.le_refl _) ?_; intro w4 hg4 hb4)
      have hW4 : BlkV 111 w4 (w.heap.size + 2) ((fillTo (fun i => (o4 (ws.getD (i / 4) 0)).getD (i % 4) 0) 64 (4 * (k + 1))).map (Value.int .u8)) := by
        have := hg4.out
        rw [HLL.out, HO.out, fillTo_splice _ _ _ _ _ (by rw [o4_length]; omega) (fun j hj => by
          rw [o4_length] at hj
          rw [show (4 * k + j) / 4 = k by omega, show (4 * k + j) % 4 = j by omega, ← HC.out])] at this
        exact this
      have hR4 := hRS.below hb4 (by omega)
      go_wp2
      go_roundw
      case rel => exact ⟨k + 1, by omega, by go_num, hW4, hR4, hbS.trans (hb4.mono (by omega))⟩
      case measure => simp [intOf] <;> omega
    · obtain rfl : k = 16 := by omega
      rw [fillTo_all] at hW
      obtain ⟨R, HR⟩ : ∃ R, Hid (R = (octL ws 64).map (Value.int .u8)) := ⟨_, rfl⟩
      have hWv : BlkV 111 wr (w.heap.size + 2) R := by rw [HR.out]; exact hW
      have HRL : Hid (R.length = 64) := by show R.length = 64; rw [HR.out, List.length_map, octL_length]
      have hR1 : ∀ u ∈ R, u.oneCell' = true := by rw [HR.out]; exact ints_one _ _
      have HZL : Hid (Z.length = 64) := by show Z.length = 64; rw [HZ'.out, List.length_map, List.length_replicate]
      clear hW
      go_wp2_with (first | (refine wl_load rfl 111 _ rfl ⟨w.heap.size + 2, 0, none⟩ rfl R (by rw [HRL.out]; exact agg64) hWv.at0 ?_) | (refine wl_storeAll rfl 111 _ _ rfl 111 (w.heap.size + 1) rfl R rfl 64 agg64 HRL.out Z hR HZL.out hR1 ?_; intro hRR))
      (try simp only [Exit.inBlock, Exit.then]); refine bodyPost_ret (results_cell rfl _ _ _ _ rfl R (by rw [HRL.out]; exact agg64) hRR.at0) rfl ?_
      exact ⟨by rw [HR.out], below_setRow' hb (by omega) _⟩
end Go.Proofs.Ytbjmadcbhkeenaa.st
/- Contracts of keyref1.words and octets. Condition: octets. -/
namespace Go.Proofs.Ytbjmadcbhkeenaa.st
open Go.RowKit
set_option pp.maxSteps 4000
theorem o4_at (c : Int) (r : Nat) (h : r < 4) : (o4 c).getD r 0 = c / 2 ^ (24 - 8 * r) % 256 := by
  match r, h with
  | 0, _ => rfl
  | 1, _ => rfl
  | 2, _ => rfl
  | 3, _ => simp [o4]
/-- a word, octet by octet -/
def pw (s : List Int) (j : Nat) : Nat → Int
  | 0 => 0
  | c + 1 => bits .or .u32 (pw s j c * 256 % 4294967296) (s.getD (4 * j + c) 0)
def pwL (s : List Int) (k : Nat) : List Int := (List.range 16).map fun (j : Nat) => pw s j (min 4 (k - 4 * j))
theorem pwL_length (s : List Int) (k : Nat) : (pwL s k).length = 16 := by unfold pwL; rw [List.length_map, List.length_range]
end Go.Proofs.Ytbjmadcbhkeenaa.st
namespace Go.Proofs.Ytbjmadcbhkeenaa.shr
set_option linter.unusedVariables false
open Go.RowKit Go.Proofs.Ytbjmadcbhkeenaa.sh
set_option linter.unusedSimpArgs false
set_option pp.maxSteps 6000
theorem size16 : (Try.prog.info? 38).map (·.size) = some 1 := by kernel_rfl
end Go.Proofs.Ytbjmadcbhkeenaa.shr
namespace Go.Proofs.Ytbjmadcbhkeenaa.shr
set_option linter.unusedVariables false
open Go.RowKit Go.Proofs.Ytbjmadcbhkeenaa.sh
set_option linter.unusedSimpArgs false
set_option pp.maxSteps 6000
theorem infoI : Info Try.prog 3 (.int .i64 0) 1 8 := by unfold Info; kernel_rfl
theorem xsOf_succ (l : List Sh) (k : Nat) (hk : k < l.length) : xsOf (l.take (k + 1)) = xsOf (l.take k) ++ [(l.getD k nil).x] := by
  unfold xsOf
  rw [List.take_succ_eq_append_getElem hk, List.map_append, getD_lt' l nil hk]; rfl
theorem ysOf_succ (l : List Sh) (o k : Nat) (hk : k < l.length) : ysOf (l.take (k + 1)) o = ysOf (l.take k) o ++ [(l.getD k nil).y.getD o 0] := by
  unfold ysOf
  rw [List.take_succ_eq_append_getElem hk, List.map_append, getD_lt' l nil hk]; rfl
theorem ownsRow_drew {w : World} {base : Nat} {e : TypeId} {size n : Nat} {v : Value} {xs : List Value} (h : w.ownsRow base e size v n xs) : w.drew.ownsRow base e size v n xs := h
theorem ownsRow_below {w w' : World} {base : Nat} {e : TypeId} {size n : Nat} {v : Value} {xs : List Value} (h : w.ownsRow base e size v n xs) (N : Nat) (hN : w.heap.size = N) (hb : Below N w w') : w'.ownsRow base e size v n xs := by
  subst hN; exact ownsRow_belowAll h hb
set_option maxRecDepth 100000 in
theorem points_any (ao : Option Addr) (cap n : Nat) (l : List Sh) (o : Nat) (w : World) (hn' : n = l.length) (hr : RowS w ao l) (hok : ∀ s ∈ l, s.Ok) (hn : l.length ≤ 1099511627776) (ho : o < 32) :
    Calls Try.prog 30 #[.slice ao n cap, .int .i64 o] w fun e w' => ∃ ax cx ay cy, e = .returned (.tuple #[.slice ax n cx, .slice ay n cy]) ∧ n ≤ cx ∧ n ≤ cy ∧ w'.ownsRow w.heap.size 3 1 (.slice ax n cx) n ((xsOf l).map (Value.int .i64)) ∧ w'.ownsRow w.heap.size 3 1 (.slice ay n cy) n ((ysOf l o).map (Value.int .i64)) ∧ Apart2 (.slice ax n cx) (.slice ay n cy) ∧ Below w.heap.size w w' := by
  subst hn'
  have HOK := hid hok
  clear hok
  go_enter Try.func30, Try.ntmps30
  go_wp2
  go_loopw [4, 5, 10] (fun vx vy i wr => ∃ (k : Nat) (ax : Option Addr) (cx : Nat) (ay : Option Addr) (cy : Nat), k ≤ l.length ∧ i = .int .i64 k ∧ vx = .slice ax k cx ∧ vy = .slice ay k cy ∧ k ≤ cx ∧ k ≤ cy ∧
      wr.ownsRow w.heap.size 3 1 (.slice ax k cx) k ((xsOf (l.take k)).map (Value.int .i64)) ∧ wr.ownsRow w.heap.size 3 1 (.slice ay k cy) k ((ysOf (l.take k) o).map (Value.int .i64)) ∧ Apart2 (.slice ax k cx) (.slice ay k cy) ∧ Below w.heap.size w wr) (fun _ _ i _ => l.length - (intOf i).toNat)
  case atStart => exact ⟨0, none, 0, none, 0, Nat.zero_le _, rfl, rfl, rfl, Nat.le_refl _, Nat.le_refl _, World.ownsRow_nil _ _ _ _, World.ownsRow_nil _ _ _ _, Or.inl rfl, Below.refl _ _⟩
  case round =>
    obtain ⟨k, ax, cx, ay, cy, hk, rfl, rfl, rfl, hkx, hky, hX, hY, hap, hbl⟩ := hrel
    by_cases h0 : k < l.length
    · obtain ⟨b, off, s, rfl, hb, HS, hat0⟩ := hr.elem (i := k) h0
      have hs : s.Ok := by rw [HS.out, getD_lt' l nil h0]; exact HOK.out _ (List.getElem_mem h0)
      have hat := At.belowB hat0 hbl hb
      have HCL := hid hs.csl
      have c1 := cs_one s
      clear hat0
      obtain ⟨N, HN⟩ : ∃ N, Hid (wr.heap.size = N) := ⟨_, rfl⟩
      have hlt : w.heap.size ≤ N := by rw [← HN.out]; exact hbl.size
      have hxN : ∀ g, (Value.slice ax k cx).ownBlock = some g → g < N := fun g hg => by rw [← HN.out]; exact ownsRow_lt hX g hg
      have hyN : ∀ g, (Value.slice ay k cy).ownBlock = some g → g < N := fun g hg => by rw [← HN.out]; exact ownsRow_lt hY g hg
      obtain ⟨yv, HYV⟩ : ∃ c, Hid (c = s.y.getD o 0) := ⟨_, rfl⟩
      have ho1 : (0 : Int) ≤ (o : Int) := by omega
      have ho2 : (o : Int) < 32 := by omega
      have hybd : 0 ≤ yv ∧ yv ≤ 65535 := by rw [HYV.out, getD_lt' s.y 0 (by rw [hs.yl]; exact ho)]; exact hs.yb _ (List.getElem_mem _)
      have HXS := hid (xsOf_succ l k h0)
      have HYS := hid (ysOf_succ l o k h0)
      rw [← HS.out] at HXS HYS
      rw [← HYV.out] at HYS
      go_wp2_with (first | (refine wl_loadG (by rfl) 41 _ rfl ⟨b, off + k * 49, none⟩ rfl 49 s.cs HCL.out aggS hat ?_) | (refine wl_allocV rfl 41 rfl sh0.cs sh0_zero N HN.out ?_; intro wA hA hbA hsA) | (refine wl_storeV rfl 41 _ _ rfl 41 N rfl s.cs rfl 49 aggS HCL.out sh0.cs hA sh0_len c1 ?_; intro wS hS hbS hsS))
      have cX := (hS.cell 16).trans (cs_x s hs)
      have cyv : wS.cell? ⟨N, 17 + o, none⟩ = some (.int .u16 yv) := by rw [HYV.out]; exact (hS.cell (17 + o)).trans (cs_yi s hs o ho)
      have hbW := bel_all HN.out hbl hbA hbS
      have hXS := ownsRow_below hX N HN.out (hbA.trans hbS)
      have hYS := ownsRow_below hY N HN.out (hbA.trans hbS)
      have hSz : Hid (wS.heap.size = N + 1) := by show _ = _; omega
      have hneX : some N ≠ (Value.slice ax k cx).ownBlock := fun e => Nat.lt_irrefl _ (hxN N e.symm)
      have hneY : some N ≠ (Value.slice ay k cy).ownBlock := fun e => Nat.lt_irrefl _ (hyN N e.symm)
      have hx1 : ∀ m, N ≤ m → some m ≠ (Value.slice ax k cx).ownBlock := fun m hm e => by have := hxN m e.symm; omega
      have hwN : w.heap.size ≤ wS.heap.size := by rw [hSz.out]; omega
      clear hX hY hA hat hsA hsS hbA hbS
      have hwy : IntKind.i64.wrap yv = yv := IntWalk.i64_in _ (by omega)
      have D1 : At (wS.alloc (.cells #[.int .i64 s.x] 3)).drew ⟨wS.heap.size, 0, none⟩ [.int .i64 s.x] := at_new' wS [.int .i64 s.x] _ rfl
      have D12 : At ((wS.alloc (.cells #[.int .i64 s.x] 3)).alloc (.cells #[.int .i64 yv] 3)).drew ⟨wS.heap.size + 1, 0, none⟩ [.int .i64 yv] := at_new' (wS.alloc (.cells #[.int .i64 s.x] 3)) [.int .i64 yv] _ (by simp)
      have D11 : At ((wS.alloc (.cells #[.int .i64 s.x] 3)).alloc (.cells #[.int .i64 yv] 3)).drew ⟨wS.heap.size, 0, none⟩ [.int .i64 s.x] := At.alloc (w := wS.alloc (.cells #[.int .i64 s.x] 3)) (at_new' wS [.int .i64 s.x] _ rfl) _
      have D21 : At ((wS.alloc (.cells #[.int .i64 yv] 3)).alloc (.cells #[.int .i64 s.x] 3)).drew ⟨wS.heap.size + 1, 0, none⟩ [.int .i64 s.x] := at_new' (wS.alloc (.cells #[.int .i64 yv] 3)) [.int .i64 s.x] _ (by simp)
      have D22 : At ((wS.alloc (.cells #[.int .i64 yv] 3)).alloc (.cells #[.int .i64 s.x] 3)).drew ⟨wS.heap.size, 0, none⟩ [.int .i64 yv] := At.alloc (w := wS.alloc (.cells #[.int .i64 yv] 3)) (at_new' wS [.int .i64 yv] _ rfl) _
      have oX := ownsRow_drew hXS
      have oY := ownsRow_drew hYS
      go_region_held3 (fun w' => w'.cell? ⟨N, 16, none⟩ = some (.int .i64 s.x) ∧ w'.cell? ⟨N, 17 + o, none⟩ = some (.int .u16 yv)) (first | go_keep | (go_split_ands; first | exact ⟨hg12.cell (by assumption) hneY, hg12.cell (by assumption) hneY⟩ | exact ⟨hg4.cell (by assumption) hneX, hg4.cell (by assumption) hneX⟩)) (first | (refine step_push (by rfl) (.tmp 19) (.tmp 25) 24 rfl 3 (.int .i64 0) 1 8 Try.underlying24 infoI rfl (by decide) w.heap.size (.slice ay k cy) k _ (by rfl) (by first | exact ((oY.alloc _).kept hg4 hap.symm).alloc _ | exact ((oY.alloc _).alloc _).kept hg4 hap.symm) _ 1 1 (by rfl) [.int .i64 yv] (by rfl) (by first | exact at_new' _ [.int .i64 yv] _ rfl | exact D12.kept hg4 (hx1 (wS.heap.size + 1) (by rw [hSz.out]; omega)) | exact D22.kept hg4 (hx1 wS.heap.size (by rw [hSz.out]; omega))) (by simp [Value.oneCell']) (by unfold maxLen; omega) (by omega) (by have := hg4.size; simp at this ⊢; omega) (k + 1) rfl ?_; intro ay' cy' w12 hcy' hY12 hg12 hl12) | (refine step_push (by rfl) (.tmp 14) (.tmp 17) 24 rfl 3 (.int .i64 0) 1 8 Try.underlying24 infoI rfl (by decide) w.heap.size (.slice ax k cx) k _ (by rfl) (by first | exact oX.alloc _ | exact (oX.alloc _).alloc _) _ 1 1 (by rfl) [.int .i64 s.x] (by rfl) (by first | exact D1 | exact D11 | exact D21) (by simp [Value.oneCell']) (by unfold maxLen; omega) (by omega) (by simp; omega) (k + 1) rfl ?_; intro ax' cx' w4 hcx' hX4 hg4 hl4))
      all_goals (have hap4 := hap.push hl4 (fun g hg => Nat.lt_of_lt_of_le (hyN g hg) (by have := hSz.out; simp; omega)))
      all_goals (have hX12 : w12.ownsRow w.heap.size 3 1 (.slice ax' (k + 1) cx') (k + 1) ((xsOf (l.take k)).map (Value.int .i64) ++ [.int .i64 s.x]) := by first | exact hX4.kept hg12 hap4 | exact (hX4.alloc _).kept hg12 hap4)
      all_goals (have hap12 := (hap4.symm).push hl12 (fun g hg => by have := ownsRow_lt hX4 g hg; simp; omega))
      all_goals (have hbD : Below w.heap.size w wS.drew := hbW.drew)
      all_goals (have hb4 : Below w.heap.size w w4 := by first | exact (hbD.alloc hwN _).grown hg4 (by simp; omega) (fun g hg => (hXS.lt g hg).1) | exact ((hbD.alloc hwN _).alloc (by simp; omega) _).grown hg4 (by simp; omega) (fun g hg => (hXS.lt g hg).1))
      all_goals (have hb12 : Below w.heap.size w w12 := by first | exact hb4.grown hg12 hb4.size (fun g hg => (hYS.lt g hg).1) | exact (hb4.alloc hb4.size _).grown hg12 (by have := hb4.size; simp; omega) (fun g hg => (hYS.lt g hg).1))
      all_goals go_wp2
      all_goals go_roundw
      any_goals (case rel => exact ⟨k + 1, ax', cx', ay', cy', by omega, by go_num, rfl, rfl, hcx', hcy', by rw [HXS.out, List.map_append]; exact hX12, by rw [HYS.out, List.map_append]; exact hY12, hap12.symm, hb12⟩)
      any_goals (simp [intOf] <;> omega)
    · obtain rfl : k = l.length := by omega
      go_wp2
      go_ret2
      exact ⟨ax, cx, ay, cy, rfl, hkx, hky, by rwa [List.take_length] at hX, by rwa [List.take_length] at hY, hap, hbl⟩
end Go.Proofs.Ytbjmadcbhkeenaa.shr
