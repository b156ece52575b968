/-
  Arrays of integers held against each other. No condition beyond their lengths. Contract of keyref2.SharesError. Conditions: shares of the type's form. Contract of share.polynomials: the polynomials through good shares, in rows of the call's own. Conditions: good shares of the type's form, 64 at most. Contracts of share.said and share.lies. Conditions: the polynomials through good shares; a share of the type's form at a place from 0 to 256. A slice literal of one struct or array: the law at the operation. No condition but the value's size. The contract of keyref1.Stir. Condition: a state of 64 octets. Blocks of streams, walked: contracts. Conditions: keys and nonces of octets. Numbers of a stream, plain: the stirring is one to one, and so numbers come. No program, no condition. Contracts of NumberOf and slices.Equal; the numbers of a stream, pair by pair. Conditions: octets. Contracts of share.polynomial and keyref2.polynomials: an octet's polynomial out of a seed. Conditions: a seed of octets, a need from 1 to 32. Contracts of share.Combine and Agree. Conditions: shares of the type's form. Contract of share.Fit. Conditions: shares of the type's form; a secret of octets. Contract of keyref2.FitOf. Conditions: good shares of the type's form, a secret of octets, a need from 1 to 32. Contract of keyref2.polynomials; shares with given values. Conditions: a secret and a seed of octets, a need from 1 to 32. Contract of keyref2.ZeroOf; slices of shares that a call has made. Conditions: shares of the type's form.
-/
import Derived.Test.YtbljihhelladbaaTMem
import Derived.Test.YtbljihhelladbaaTShBC
import Derived.Test.YtbljihhelladbaaTStX
import Derived.Test.YtbljihhelladbaaTStE
import Derived.Test.YtbljihhelladbaaTNum
import Derived.Stop.BytesEq
import Derived.Deep.RegionHeld3
import Derived.Deep.MidRow
import Derived.Great.BuildSlice
import Derived.Deep.CutRange
import Derived.Maps.RangeWalk
import Derived.StillTailTactics
namespace Go.Proofs.Ytbljihhelladbaa
set_option linter.unusedSimpArgs false
set_option linter.unusedVariables false
open Go.RowKit
theorem all_range_eqI : ∀ (xs ys : List Int), xs.length = ys.length → ((List.range xs.length).all fun i => xs.getD i 0 == ys.getD i 0) = (xs == ys)
  | [], [], _ => rfl
  | x :: xs, y :: ys, h => by
    have ih := all_range_eqI xs ys (by simpa using h)
    rw [List.length_cons, List.range_succ_eq_map, List.all_cons, List.all_map]
    simp only [List.getD_cons_zero, Function.comp_def, List.getD_cons_succ, ih]
    simp [List.cons_beq_cons]
  | [], _ :: _, h => by simp at h
  | _ :: _, [], h => by simp at h
theorem run_equalIn_ints {P : Program} (w : World) (d : Nat) (t e : TypeId) (n : Nat) (q : IntKind) (ht : P.underlying t = some (.array n e)) (he : P.underlying e = some (.int q)) (hsz : ∀ w, (sizeOf e).run P w = .ok 1 w)
    (xs ys : List Int) (hx : xs.length = n) (hy : ys.length = n) :
    (Op.equalIn (d + 2) t (.agg (xs.map (Value.int q)).toArray) (.agg (ys.map (Value.int q)).toArray)).run P w = .ok (xs == ys) w := by
  rw [← all_range_eqI xs ys (hx.trans hy.symm), hx, List.range_eq_range', Op.equalIn]
  simp only [Sem.run_bind, run_underlying ht, Result.andThen_ok, hsz, Std.Legacy.Range.forIn_eq_forIn_range', Std.Legacy.Range.size, Nat.sub_zero, Nat.add_sub_cancel, Nat.div_one]
  have hl : ∀ i ∈ List.range' 0 n 1, i < n := fun i hi => by simpa using (List.mem_range'_1.1 hi).2
  generalize List.range' 0 n 1 = l at hl ⊢
  induction l with
  | nil => simp
  | cons i l ih =>
    have hi : i < n := hl i (by simp)
    have px : (part e (xs.map (Value.int q)).toArray (i * 1)).run P w = .ok (.int q (xs.getD i 0)) w := by
      simp [part, isAgg, run_underlying he, List.getD, List.getElem?_eq_getElem (show i < xs.length by omega)]
    have py : (part e (ys.map (Value.int q)).toArray (i * 1)).run P w = .ok (.int q (ys.getD i 0)) w := by
      simp [part, isAgg, run_underlying he, List.getD, List.getElem?_eq_getElem (show i < ys.length by omega)]
    have pe : (Op.equalIn (d + 1) e (.int q (xs.getD i 0)) (.int q (ys.getD i 0))).run P w = .ok (xs.getD i 0 == ys.getD i 0) w := by
      rw [run_equalIn_int w d e q q _ _ he]
    simp only [List.forIn_cons, Sem.run_bind, px, py, pe, Result.andThen_ok, List.all_cons]
    cases hb : (xs.getD i 0 == ys.getD i 0)
    · simp
    · simp only [Bool.not_true, Bool.false_eq_true, if_false, Sem.run_pure, Result.andThen_ok, Bool.true_and]
      exact ih fun j hj => hl j (by simp [hj])
end Go.Proofs.Ytbljihhelladbaa
namespace Go.Proofs.Ytbljihhelladbaa.shr
set_option linter.unusedVariables false
open Go.RowKit Go.Proofs.Ytbljihhelladbaa.sh
set_option linter.unusedSimpArgs false
set_option pp.maxSteps 6000
theorem size16 : (Try.prog.info? 58).map (·.size) = some 1 := by kernel_rfl
end Go.Proofs.Ytbljihhelladbaa.shr
namespace Go.Proofs.Ytbljihhelladbaa.shr
set_option linter.unusedVariables false
open Go.RowKit Go.Proofs.Ytbljihhelladbaa.sh Go.Proofs.Ytbljihhelladbaa.Fld
set_option linter.unusedSimpArgs false
set_option pp.maxSteps 6000
/-- the first polynomials lie in rows above B -/
structure PolyBlk (B : Nat) (w : World) (l : List Sh) (ps : List Value) (k : Nat) : Prop where
  len : ps.length = 32
  one : ∀ u ∈ ps, u.oneCell' = true
  at_ : ∀ o, o < k → ∃ g, B < g ∧ ps[o]? = some (.slice (some ⟨g, 0, none⟩) l.length l.length) ∧ BlkI .i64 3 w g (polyOf l o)
/-- the polynomials through shares, as a value -/
structure PolysAt (w : World) (l : List Sh) (ps : List Value) : Prop where
  len : ps.length = 32
  one : ∀ u ∈ ps, u.oneCell' = true
  at_ : ∀ o, o < 32 → ∃ ao, ps[o]? = some (.slice ao l.length l.length) ∧ RowI .i64 w ao (polyOf l o)
theorem PolysAt.below {w w' : World} {l : List Sh} {ps : List Value} (h : PolysAt w l ps) (hb : Below w.heap.size w w') : PolysAt w' l ps :=
  ⟨h.len, h.one, fun o ho => by obtain ⟨ao, h1, h2⟩ := h.at_ o ho; exact ⟨ao, h1, h2.below hb⟩⟩
/-- the same, the rows in blocks of the call's own -/
structure PolysHi (B : Nat) (w : World) (l : List Sh) (ps : List Value) : Prop where
  len : ps.length = 32
  one : ∀ u ∈ ps, u.oneCell' = true
  at_ : ∀ o, o < 32 → ∃ g, B ≤ g ∧ ps[o]? = some (.slice (some ⟨g, 0, none⟩) l.length l.length) ∧ BlkI .i64 3 w g (polyOf l o)
theorem PolysHi.at {B : Nat} {w : World} {l : List Sh} {ps : List Value} (h : PolysHi B w l ps) : PolysAt w l ps :=
  ⟨h.len, h.one, fun o ho => by obtain ⟨g, _, h1, h2⟩ := h.at_ o ho; exact ⟨_, h1, h2.row⟩⟩
end Go.Proofs.Ytbljihhelladbaa.shr
namespace Go.Proofs.Ytbljihhelladbaa.shr
set_option linter.unusedVariables false
open Go.RowKit Go.Proofs.Ytbljihhelladbaa.sh Go.Proofs.Ytbljihhelladbaa.Fld
set_option linter.unusedSimpArgs false
set_option pp.maxSteps 6000
theorem aggKey : Agg Try.prog 23 32 := Agg.arr Try.underlying23 (by kernel_rfl)
def zero32 : List Value := (List.replicate 32 0).map (Value.int .u8)
theorem zeroKey : (Try.prog.info? 23).map (·.zero) = some (some (.agg zero32.toArray)) := by kernel_rfl
end Go.Proofs.Ytbljihhelladbaa.shr
namespace Go.Proofs.Ytbljihhelladbaa
set_option linter.unusedSimpArgs false
set_option linter.unusedVariables false
open Go.RowKit
theorem fold_zip : ∀ (cs : List Value) (k : Nat) (base : Array Value), k + cs.length ≤ base.size →
    ((cs.zipIdx k).foldl (fun (a : Array Value) (x : Value × Nat) => a.setIfInBounds (0 + x.2) x.1) base).toList = base.toList.take k ++ cs ++ base.toList.drop (k + cs.length)
  | [], k, base, _ => by simp
  | c :: r, k, base, h => by
    rw [List.zipIdx_cons, List.foldl_cons, fold_zip r (k + 1) _ (by simp at h ⊢; omega)]
    simp only [Nat.zero_add, Array.toList_setIfInBounds, List.length_cons]
    have hk : k < base.toList.length := by simp at h ⊢; omega
    rw [List.take_set, List.drop_set, if_pos (by omega), List.take_succ_eq_append_getElem hk, List.set_append_right _ _ (by rw [List.length_take]; omega), (by rw [List.length_take]; omega : k - (List.take k base.toList).length = 0), List.set_cons_zero, show k + 1 + r.length = k + (r.length + 1) by omega]
    simp
end Go.Proofs.Ytbljihhelladbaa
namespace Go.Proofs.Ytbljihhelladbaa.st
set_option linter.unusedSimpArgs false
set_option linter.unusedVariables false
open Go.RowKit
set_option pp.maxSteps 4000
set_option maxRecDepth 100000 in
set_option maxHeartbeats 2000000 in
theorem stirR (s : List Int) (w : World) (hl : s.length = 64) (hs : Octs s) :
    Calls Try.prog 154 #[.agg (s.map (Value.int .u8)).toArray] w fun e w' => e = .returned (.agg ((stirL s).map (Value.int .u8)).toArray) ∧ Below w.heap.size w w' := by
  have HL := hid hl
  have HZ := hid zero16
  have HY := hid zero64
  obtain ⟨Z, HZ'⟩ : ∃ Z, Hid (Z = (List.replicate 16 (0 : Int)).map (Value.int .u32)) := ⟨_, rfl⟩
  obtain ⟨Y, HY'⟩ : ∃ Y, Hid (Y = (List.replicate 64 (0 : Int)).map (Value.int .u8)) := ⟨_, rfl⟩
  rw [← HZ'.out] at HZ
  rw [← HY'.out] at HY
  obtain ⟨S, HS⟩ : ∃ S, Hid (S = s.map (Value.int .u8)) := ⟨_, rfl⟩
  rw [← HS.out]
  have HSL : Hid (S.length = 64) := by show S.length = 64; rw [HS.out, List.length_map, HL.out]
  have HYL : Hid (Y.length = 64) := by show Y.length = 64; rw [HY'.out, List.length_map, List.length_replicate]
  have HZL : Hid (Z.length = 16) := by show Z.length = 16; rw [HZ'.out, List.length_map, List.length_replicate]
  clear hl
  go_enter Try.func154, Try.ntmps154
  go_wp2_with (first | (refine wl_alloc rfl 152 rfl Y HY.out ?_) | (refine wl_load rfl 152 _ rfl ⟨w.heap.size, 0, none⟩ rfl S (by rw [HSL.out]; exact agg64) ((BlkV.new _ w S rfl).alloc _).at0 ?_))
  rw [HS.out]
  refine (wordsR s _ HL.out hs).mono ?_
  rintro e w1 ⟨rfl, hb1⟩
  rw [← HS.out] at hb1 ⊢
  obtain ⟨V, HV⟩ : ∃ V, Hid (V = wordsL s 16) := ⟨_, rfl⟩
  rw [← HV.out]
  have hVl : V.length = 16 := by rw [HV.out, wordsL_length]
  have hVw : AllW V := by rw [HV.out]; exact wordsL_w hs
  have HVL := hid hVl
  obtain ⟨VV, HVV⟩ : ∃ VV, Hid (VV = V.map (Value.int .u32)) := ⟨_, rfl⟩
  rw [← HVV.out]
  have HVVL : Hid (VV.length = 16) := by show VV.length = 16; rw [HVV.out, List.length_map, HVL.out]
  have hVV1 : ∀ u ∈ VV, u.oneCell' = true := by rw [HVV.out]; exact ints_one _ _
  have hR0 := (BlkV.new 152 (w.alloc (.cells S.toArray 152)) (g := w.heap.size + 1) Y (by simp)).below hb1 (by simp)
  have bA : Below w.heap.size w w1 := (((Below.refl w.heap.size w).alloc (Nat.le_refl _) _).alloc (by simp) _).trans (hb1.mono (by simp; omega))
  have hsz := hb1.size
  simp only [World.alloc, Array.size_push] at hsz
  clear hVl hb1
  go_wp2_with (first | (refine wl_alloc rfl 236 rfl Z HZ.out ?_) | (refine wl_storeAll rfl 236 _ _ rfl 236 w1.heap.size rfl VV rfl 16 agg16 HVVL.out Z (BlkV.new _ w1 Z rfl) HZL.out hVV1 ?_; intro hW0))
  obtain ⟨g3, Hg3⟩ : ∃ g3, Hid (g3 = w1.heap.size) := ⟨_, rfl⟩
  have hR1 := (hR0.alloc (.cells Z.toArray 236)).otherRow (g' := w1.heap.size) (by omega) VV.toArray
  have bB := below_setRow' (bA.alloc bA.size (.cells Z.toArray 236)) bA.size VV.toArray
  have hgg : w.heap.size + 1 < g3 := by rw [Hg3.out]; omega
  have hW1 : BlkI .u32 236 ((w1.alloc (.cells Z.toArray 236)).setRow w1.heap.size VV.toArray) w1.heap.size (roundTo V 0) := by rw [HVV.out] at hW0 ⊢; exact hW0
  rw [← Hg3.out] at hR1 bB hW1 ⊢
  generalize (w1.alloc (.cells Z.toArray 236)).setRow g3 VV.toArray = w2 at *
  clear hR0 bA hsz hW0 Hg3
  go_loopw [10] (fun r wr => ∃ k : Nat, k ≤ 8 ∧ r = .int .i64 k ∧ BlkI .u32 236 wr g3 (roundTo V k) ∧ BlkV 152 wr (w.heap.size + 1) Y ∧ Below w.heap.size w wr) (fun r _ => 8 - (intOf r).toNat)
  case atStart => exact ⟨0, by omega, rfl, hW1, hR1, bB⟩
  case round =>
    obtain ⟨r, hr, rfl, hW, hR, hb⟩ := hrel
    by_cases h0 : r < 8
    · have hdr : decide ((r : Int) < 8) = true := by simp; omega
      go_wp2_with fail
      go_loopw [13] (fun i wr => ∃ k : Nat, k ≤ 16 ∧ i = .int .i64 k ∧ BlkI .u32 236 wr g3 (stepTo r (roundTo V r) k) ∧ BlkV 152 wr (w.heap.size + 1) Y ∧ Below w.heap.size w wr) (fun i _ => 16 - (intOf i).toNat)
      case atStart => exact ⟨0, by omega, rfl, hW, hR, hb⟩
      case round =>
        obtain ⟨i, hi, rfl, hWi, hRi, hbi⟩ := hrel
        by_cases h1 : i < 16
        · obtain ⟨U, HU⟩ : ∃ U, Hid (U = stepTo r (roundTo V r) i) := ⟨_, rfl⟩
          rw [← HU.out] at hWi
          have hUl : U.length = 16 := by rw [HU.out, stepTo_length, roundTo_length, HVL.out]
          have hUw : AllW U := by rw [HU.out]; exact stepTo_w (roundTo_w hVw r) r i
          obtain ⟨c, HC, hcell⟩ := hWi.elem (i := i) (by omega)
          have hfz := hWi.frozen i
          obtain ⟨A, HA⟩ : ∃ A, Hid (A = addend r i (U.getD ((i + 1 + r) % 16) 0)) := ⟨_, rfl⟩
          obtain ⟨D, HD⟩ : ∃ D, Hid (D = (c + A) % 4294967296) := ⟨_, rfl⟩
          obtain ⟨m, HM⟩ : ∃ m, Hid (m = (i + 1 + r) % 16) := ⟨_, rfl⟩
          have hm : m < 16 := by rw [HM.out]; omega
          obtain ⟨v, HVm, hcv⟩ := hWi.elem (i := m) (by omega)
          have hvw : W32 v := by rw [HVm.out]; exact hUw.getD m
          have hA2 : bits .xor .u32 (rotl v (5 + i)) (2654435769 * ((16 * r + i + 1 : Nat) : Int) % 4294967296) = A := by rw [HA.out, HVm.out, HM.out]; rfl
          obtain ⟨U1, HU1⟩ : ∃ U1, Hid (U1 = addW r i U) := ⟨_, rfl⟩
          have hU1l : U1.length = 16 := by rw [HU1.out, addW_eq, List.length_set, hUl]
          have hU1w : AllW U1 := by rw [HU1.out]; exact addW_w hUw r i
          have hW1i : BlkI .u32 236 (wr.setCell ⟨g3, i, none⟩ (.int .u32 D)).drew g3 U1 := by
            rw [HU1.out, addW_eq, ← HA.out, ← HC.out, ← HD.out]
            exact (hWi.set i D).drew
          have hR1i := (hRi.other (a := ⟨g3, i, none⟩) (by simp; omega) (.int .u32 D)).drew
          have hg3 : w.heap.size ≤ g3 := by omega
          have hne1 : w.heap.size + 1 ≠ g3 := by omega
          have hbi0 := hbi
          obtain ⟨j, HJ⟩ : ∃ j, Hid (j = (i + 9) % 16) := ⟨_, rfl⟩
          have hj : j < 16 := by rw [HJ.out]; omega
          have hwrap : IntKind.u32.wrap (c + A) = D := by rw [IntKind.wrap_u32', HD.out]
          have hjI : (j : Int) < 16 := by omega
          have hw9 : IntKind.i64.wrap ((i : Int) + 9) = (i : Int) + 9 := IntWalk.i64_in _ (by omega)
          have hd9 : ((i : Int) + 9).tmod 16 = j := by rw [Int.tmod_eq_emod_of_nonneg (by omega), HJ.out]; omega
          have hdm : ((i : Int) + 1 + (r : Int)).tmod 16 = m := by rw [Int.tmod_eq_emod_of_nonneg (by omega), HM.out]; omega
          have hmI : (m : Int) < 16 := by omega
          have hw5 : IntKind.i64.wrap (5 + (i : Int)) = 5 + (i : Int) := IntWalk.i64_in _ (by omega)
          have hwa : IntKind.i64.wrap (16 * (r : Int)) = 16 * (r : Int) := IntWalk.i64_in _ (by omega)
          have hwb : IntKind.i64.wrap (16 * (r : Int) + (i : Int)) = 16 * (r : Int) + (i : Int) := IntWalk.i64_in _ (by omega)
          have hwc : IntKind.i64.wrap (16 * (r : Int) + (i : Int) + 1) = 16 * (r : Int) + (i : Int) + 1 := IntWalk.i64_in _ (by omega)
          have hwd : IntKind.u32.wrap (16 * (r : Int) + (i : Int) + 1) = 16 * (r : Int) + (i : Int) + 1 := by rw [IntKind.wrap_u32']; omega
          have hwe : IntKind.u32.wrap (2654435769 * (16 * (r : Int) + (i : Int) + 1)) = 2654435769 * ((16 * r + i + 1 : Nat) : Int) % 4294967296 := by rw [IntKind.wrap_u32', show ((16 * r + i + 1 : Nat) : Int) = 16 * (r : Int) + (i : Int) + 1 by omega]
          obtain ⟨G, HG⟩ : ∃ G, Hid (G = 2654435769 * ((16 * r + i + 1 : Nat) : Int) % 4294967296) := ⟨_, rfl⟩
          rw [← HG.out] at hwe hA2
          have hK5 : (5 : Int) + (i : Int) = ((5 + i : Nat) : Int) := by omega
          have hT5 := fun w => rotT' v (5 + i) (5 + (i : Int)) hK5 w (by omega) hvw
          have HT5 := hid hT5
          have HK := hid hK5
          clear hT5 hK5
          clear hUl hUw hWi hRi hbi
          have hdi : decide ((i : Int) < 16) = true := by simp; omega
          go_wp2_with fail
          go_cut [] from 24 to 51 (fun wq => ∃ q, wq = (wr.drewN q).setCell ⟨g3, i, none⟩ (.int .u32 D))
          case first =>
            go_region_with (go_at_call 197; refine (HT5.out _).mono ?_; rintro e wn ⟨rfl, n, rfl⟩)
            all_goals (go_wp2_with fail; go_meet; exact ⟨_, rfl⟩)
          case rest =>
            obtain ⟨q, HQ⟩ := hcut
            have hWq : BlkI .u32 236 wc g3 U1 := by rw [HQ]; exact hW1i
            have hRq : BlkV 152 wc (w.heap.size + 1) Y := by rw [HQ]; exact hR1i
            have hbq : Below w.heap.size w wc := by rw [HQ]; exact (bdN hbi0 q).setCell (p := ⟨g3, i, none⟩) hg3 (.int .u32 D)
            clear HQ hW1i hR1i hcell hfz hcv
            obtain ⟨x, HX, hcx⟩ := hWq.elem (i := j) (by omega)
            obtain ⟨y, HY1, hcy⟩ := hWq.elem (i := i) (by omega)
            have hfx := hWq.frozen j
            have hyw : W32 y := by rw [HY1.out]; exact hU1w.getD i
            have e1 : U1.set j (bits .xor .u32 x (rotl y 11)) = stepTo r (roundTo V r) (i + 1) := by rw [HX.out, HY1.out, HJ.out, HU1.out, HU.out]; rfl
            have hS : ∀ q, BlkI .u32 236 ((wc.drewN q).setCell ⟨g3, j, none⟩ (.int .u32 (bits .xor .u32 x (rotl y 11)))) g3 (stepTo r (roundTo V r) (i + 1)) := fun q => by
              have := (hWq.drewN q).set j (bits .xor .u32 x (rotl y 11))
              rw [e1] at this
              exact this
            have hS2 := fun q => (hRq.drewN q).other (a := ⟨g3, j, none⟩) hne1 (.int .u32 (bits .xor .u32 x (rotl y 11)))
            have hS3 := fun q => (bdN hbq q).setCell (p := ⟨g3, j, none⟩) hg3 (.int .u32 (bits .xor .u32 x (rotl y 11)))
            have HS1 := hid hS
            have HS2 := hid hS2
            have HS3 := hid hS3
            clear hS hS2 hS3 hWq hRq hbq hU1l hU1w e1
            go_wp2_with fail
            go_region_with (go_at_call 197; refine (rotT' y 11 11 rfl _ (by decide) hyw).mono ?_; rintro e wn ⟨rfl, n, rfl⟩)
            all_goals (
              go_wp2_with fail
              go_roundw
              case rel => exact ⟨i + 1, by omega, by go_num, HS1.out _, HS2.out _, HS3.out _⟩
              case measure => simp [intOf] <;> omega)
        · obtain rfl : i = 16 := by omega
          go_wp2_with fail
          go_roundw
          case rel => exact ⟨r + 1, by omega, by go_num, hWi, hRi, hbi⟩
          case measure => simp [intOf] <;> omega
    · obtain rfl : r = 8 := by omega
      obtain ⟨X, HX⟩ : ∃ X, Hid (X = roundTo V 8) := ⟨_, rfl⟩
      have HXL : Hid (X.length = 16) := by show X.length = 16; rw [HX.out, roundTo_length, HVL.out]
      have hWv : BlkV 236 wr g3 (X.map (Value.int .u32)) := by rw [HX.out]; exact BlkI.v hW
      clear hW
      go_wp2_with (first | (refine wl_load rfl 236 _ rfl ⟨g3, 0, none⟩ rfl (X.map (Value.int .u32)) (by rw [List.length_map, HXL.out]; exact agg16) hWv.at0 ?_))
      refine (octetsR X _ HXL.out).mono ?_
      rintro e w5 ⟨rfl, hb5⟩
      obtain ⟨R, HR⟩ : ∃ R, Hid (R = (octL X 64).map (Value.int .u8)) := ⟨_, rfl⟩
      have HRL : Hid (R.length = 64) := by show R.length = 64; rw [HR.out, List.length_map, octL_length]
      have hR1 : ∀ u ∈ R, u.oneCell' = true := by rw [HR.out]; exact ints_one _ _
      have hR5 := hR.below hb5 hR.lt
      have hbb := hb.trans (hb5.mono hb.size)
      rw [← HR.out]
      go_wp2_with (first | (refine wl_storeAll rfl 152 _ _ rfl 152 (w.heap.size + 1) rfl R rfl 64 agg64 HRL.out Y hR5 HYL.out hR1 ?_; intro hRR))
      (try simp only [Exit.inBlock, Exit.then]); refine bodyPost_ret (results_cell rfl _ _ _ _ rfl R (by rw [HRL.out]; exact agg64) hRR.at0) rfl ?_
      exact ⟨by rw [HR.out, HX.out, HV.out]; rfl, below_setRow' hbb (by omega) _⟩
end Go.Proofs.Ytbljihhelladbaa.st
/- mix.Stream of a whole block: 64 octets from a place that 64 divides. Conditions: a key and a nonce of octets; the place at most 2^40. -/
namespace Go.Proofs.Ytbljihhelladbaa.st
set_option linter.unusedSimpArgs false
set_option linter.unusedVariables false
open Go.RowKit
set_option pp.maxSteps 4000
theorem info8 : Info Try.prog 5 (.int .u8 0) 1 1 := by unfold Info; kernel_rfl
/-- a block of a stream -/
def blk (k n : List Int) (q : Nat) : List Int := stirL (seed k n q)
theorem blk_length (k n : List Int) (q : Nat) : (blk k n q).length = 64 := octL_length _ _
theorem rowV_of {t : TypeId} {w : World} {g : Nat} {cs : List Value} (h : BlkV t w g cs) : RowV w (some ⟨g, 0, none⟩) cs := Or.inr ⟨g, 0, rfl, h.lt, fun j u hu => by rw [Nat.zero_add, h.cell]; exact hu⟩
end Go.Proofs.Ytbljihhelladbaa.st
/- keyref1.long; keyref1.Stream of a whole block. Conditions: as mix.Stream's. -/
namespace Go.Proofs.Ytbljihhelladbaa.st
open Go.RowKit
set_option pp.maxSteps 4000
theorem infoU8 : (Try.prog.info? 5).map (fun i => (i.zero, i.size, i.bytes)) = some (some (.int .u8 0), 1, 1) := by kernel_rfl
theorem o8_at (q : Int) (i : Nat) (h : i < 8) : (o8 q).getD i 0 = q / 2 ^ (56 - 8 * i) % 256 := by
  match i, h with
  | 0, _ => rfl
  | 1, _ => rfl
  | 2, _ => rfl
  | 3, _ => rfl
  | 4, _ => rfl
  | 5, _ => rfl
  | 6, _ => rfl
  | 7, _ => simp [o8]
theorem o8_fill (q : Int) : fillTo (fun i => (o8 q).getD i 0) 8 8 = o8 q := rfl
set_option maxRecDepth 100000 in
set_option maxHeartbeats 1000000 in
theorem longR (q : Int) (w : World) :
    Calls Try.prog 153 #[.int .i64 q] w fun e w' => e = .returned (.slice (some ⟨w.heap.size, 0, none⟩) 8 8) ∧ BlkI .u8 5 w' w.heap.size (o8 q) ∧ Below w.heap.size w w' := by
  have hmk := run_make_row' (P := Try.prog) 69 5 (.int .u8 0) 1 Try.underlying69 infoU8 rfl .i64 .i64 8 (by omega) (by omega)
  have e8 : ((8 : Nat) : Int) = 8 := rfl
  simp only [e8] at hmk
  go_enter Try.func153, Try.ntmps153
  go_wp2_with fail
  go_loopw [8] (fun i wr => ∃ k : Nat, k ≤ 8 ∧ i = .int .i64 k ∧ BlkI .u8 5 wr w.heap.size (fillTo (fun i => (o8 q).getD i 0) 8 k) ∧ Below w.heap.size w wr) (fun i _ => 8 - (intOf i).toNat)
  case atStart =>
    refine ⟨0, by omega, rfl, ?_, (Below.refl _ _).alloc (Nat.le_refl _) _⟩
    rw [fillTo_zero]
    exact BlkI.made .u8 5 w 8
  case round =>
    obtain ⟨k, hk, rfl, hW, hb⟩ := hrel
    by_cases h0 : k < 8
    · have hf := hW.frozen k
      have hc := hW.cell (i := k) (by rw [fillTo_length _ _ _ (by omega)]; exact h0)
      have hST := hW.set k ((o8 q).getD k 0)
      have e := fillTo_set (fun i => (o8 q).getD i 0) 8 k h0
      rw [e, o8_at q k h0] at hST
      clear e
      go_wp2
      go_roundw
      case rel => exact ⟨k + 1, by omega, by go_num, hST, hb.setCell (Nat.le_refl _) _⟩
      case measure => simp [intOf] <;> omega
    · obtain rfl : k = 8 := by omega
      rw [o8_fill] at hW
      go_wp2
      go_ret
      exact ⟨rfl, hW, hb⟩
end Go.Proofs.Ytbljihhelladbaa.st
/- keyref1.Stream of a whole block. Conditions: as mix.Stream's. -/
namespace Go.Proofs.Ytbljihhelladbaa.st
open Go.RowKit
set_option pp.maxSteps 4000
end Go.Proofs.Ytbljihhelladbaa.st
/- Stirring loses nothing: states of 64 octets that are stirred to one are one (plain Lean, no program). No condition but octets. -/
namespace Go.Proofs.Ytbljihhelladbaa.st
set_option linter.unusedSimpArgs false
set_option linter.unusedVariables false
open Go.RowKit Go.Proofs.Ytbljihhelladbaa.Fld
end Go.Proofs.Ytbljihhelladbaa.st
/- The numbers of a stream, in plain Lean; at most one block of a stream gives none: so they are enough. Conditions: octets; fewer than 2^40 blocks. -/
namespace Go.Proofs.Ytbljihhelladbaa.st
open Go.RowKit Go.Proofs.Ytbljihhelladbaa.Fld
theorem octL_octs (ws : List Int) : Octs (octL ws 64) := by
  intro c hc
  unfold octL at hc
  obtain ⟨i, _, rfl⟩ := List.mem_map.1 hc
  have : i % 4 < 4 := Nat.mod_lt _ (by omega)
  rw [o4_at _ _ this]
  unfold Oct
  omega
theorem blk_octs (k n : List Int) (q : Nat) : Octs (blk k n q) := octL_octs _
end Go.Proofs.Ytbljihhelladbaa.st
/- Contracts of keyref2.NumberOf (two octets), slices.Equal at []int. Conditions: octets. -/
namespace Go.Proofs.Ytbljihhelladbaa.st
set_option linter.unusedSimpArgs false
set_option linter.unusedVariables false
open Go.RowKit
set_option pp.maxSteps 4000
end Go.Proofs.Ytbljihhelladbaa.st
/- Contract of share.numbers: the numbers of a stream. Conditions: a key and a nonce of octets, at most 4096 numbers. -/
namespace Go.Proofs.Ytbljihhelladbaa.st
open Go.RowKit Go.Proofs.Ytbljihhelladbaa.slInt
set_option pp.maxSteps 4000
/-- rows of different types lie apart -/
theorem apart {w : World} {b1 b2 : Nat} {e1 e2 : TypeId} {s1 s2 : Nat} {v1 v2 : Value} {n1 n2 : Nat} {x1 x2 : List Value} (h1 : w.ownsRow b1 e1 s1 v1 n1 x1) (h2 : w.ownsRow b2 e2 s2 v2 n2 x2) (he : e1 ≠ e2) : v2.ownBlock = none ∨ v2.ownBlock ≠ v1.ownBlock := by
  rcases h2 with ⟨_, ⟨rfl, _⟩ | ⟨g, cap, cur, rfl, hg, hh, _⟩⟩
  · exact Or.inl rfl
  · refine Or.inr fun hc => ?_
    rcases h1 with ⟨_, ⟨rfl, _⟩ | ⟨g', cap', cur', rfl, hg', hh', _⟩⟩
    · cases hc
    · have e : g = g' := by simpa [Value.ownBlock] using hc
      subst e
      rw [hh] at hh'
      simp at hh'
      exact he hh'.2.symm
end Go.Proofs.Ytbljihhelladbaa.st
namespace Go.Proofs.Ytbljihhelladbaa.shr
open Go.RowKit Go.Proofs.Ytbljihhelladbaa.sh Go.Proofs.Ytbljihhelladbaa.Fld
set_option linter.unusedSimpArgs false
set_option linter.unusedVariables false
set_option pp.maxSteps 6000
theorem aggNo : Agg Try.prog 25 16 := Agg.arr Try.underlying25 (by kernel_rfl)
def zero16 : List Value := (List.replicate 16 0).map (Value.int .u8)
end Go.Proofs.Ytbljihhelladbaa.shr
namespace Go.Proofs.Ytbljihhelladbaa.shr
set_option linter.unusedVariables false
open Go.RowKit Go.Proofs.Ytbljihhelladbaa.sh Go.Proofs.Ytbljihhelladbaa.Fld
set_option linter.unusedSimpArgs false
set_option pp.maxSteps 6000
theorem RowS.drop {w : World} {b off : Nat} {l : List Sh} (h : RowS w (some ⟨b, off, none⟩) l) (n : Nat) (hn : n < l.length) : RowS w (some ⟨b, off + n * 49, none⟩) (l.drop n) := by
  obtain ⟨b', off', e, h2, h3⟩ := h.at hn
  obtain ⟨rfl, rfl⟩ : b = b' ∧ off = off' := by simpa using e
  refine Or.inr ⟨b, off + n * 49, rfl, h2, fun i hi => ?_⟩
  rw [List.length_drop] at hi
  have := h3 (n + i) (by omega)
  have e2 : (l.drop n).getD i nil = l.getD (n + i) nil := by simp [List.getD_eq_getElem?_getD]
  rw [e2, show off + n * 49 + i * 49 = off + (n + i) * 49 by omega]
  exact this
end Go.Proofs.Ytbljihhelladbaa.shr
namespace Go.Proofs.Ytbljihhelladbaa.shr
set_option linter.unusedVariables false
open Go.RowKit Go.Proofs.Ytbljihhelladbaa.sh Go.Proofs.Ytbljihhelladbaa.Fld
set_option linter.unusedSimpArgs false
set_option pp.maxSteps 6000
/-- shares, cell by cell -/
def flatS (l : List Sh) : List Value := l.flatMap (·.cs)
theorem flatS_length (l : List Sh) (hl : ∀ s ∈ l, s.Ok) : (flatS l).length = l.length * 49 := by
  induction l with
  | nil => rfl
  | cons s l ih =>
    unfold flatS at *
    rw [List.flatMap_cons, List.length_append, ih (fun t ht => hl t (List.mem_cons_of_mem _ ht)), (hl s (List.mem_cons_self ..)).csl, List.length_cons]
    omega
theorem flatS_get (l : List Sh) (hl : ∀ s ∈ l, s.Ok) (i j : Nat) (hi : i < l.length) (hj : j < 49) : (flatS l)[i * 49 + j]? = (l.getD i nil).cs[j]? := by
  induction l generalizing i with
  | nil => simp at hi
  | cons s l ih =>
    have hs := (hl s (List.mem_cons_self ..)).csl
    unfold flatS at *
    rw [List.flatMap_cons]
    cases i with
    | zero =>
      rw [List.getElem?_append_left (by rw [hs]; omega)]
      simp
    | succ i =>
      rw [List.getElem?_append_right (by rw [hs]; omega), hs, show (i + 1) * 49 + j - 49 = i * 49 + j by omega, ih (fun t ht => hl t (List.mem_cons_of_mem _ ht)) i (by simpa using hi)]
      simp
theorem RowS.flat {w : World} {ao : Option Addr} {l : List Sh} (h : RowS w ao l) (hl : ∀ s ∈ l, s.Ok) : RowV w ao (flatS l) := by
  rcases h with h | ⟨b, off, h1, h2, h3⟩
  · exact Or.inl (by rw [h]; rfl)
  · refine Or.inr ⟨b, off, h1, h2, fun j u hu => ?_⟩
    have hj := (List.getElem?_eq_some_iff.1 hu).1
    rw [flatS_length l hl] at hj
    have hi : j / 49 < l.length := by omega
    have e : j = j / 49 * 49 + j % 49 := by omega
    rw [e, flatS_get l hl _ _ hi (by omega)] at hu
    have := h3 (j / 49) hi (j % 49) u hu
    rw [Addr.add_mid] at this
    rw [e, ← Nat.add_assoc]
    exact this
end Go.Proofs.Ytbljihhelladbaa.shr
namespace Go.Proofs.Ytbljihhelladbaa.shr
set_option linter.unusedVariables false
open Go.RowKit Go.Proofs.Ytbljihhelladbaa.sh Go.Proofs.Ytbljihhelladbaa.Fld
set_option linter.unusedSimpArgs false
set_option pp.maxSteps 6000
theorem RowI.takeS {k : IntKind} {w : World} {ao : Option Addr} {l : List Int} (h : RowI k w ao l) (n : Nat) : RowI k w ao (l.take n) := by
  rcases h with h | ⟨b, off, h1, h2, h3⟩
  · exact Or.inl (by rw [h]; simp)
  · refine Or.inr ⟨b, off, h1, h2, fun i hi => ?_⟩
    rw [List.length_take] at hi
    rw [h3 i (by omega)]
    congr 2
    simp [List.getD_eq_getElem?_getD, List.getElem?_take, show i < n by omega]
end Go.Proofs.Ytbljihhelladbaa.shr
/- A one-cell store into a variable, the world behind it a letter. Conditions: the cell is there. -/
namespace Go.Proofs.Ytbljihhelladbaa
open Go.RowKit
set_option linter.unusedSimpArgs false
set_option linter.unusedVariables false
set_option pp.maxSteps 6000
/-- one cell stored: the world behind it a letter -/
theorem wl_setV {P : Program} {w : World} {ops : Array Oper} {rest : List Oper} {o : Oper} {a : Act} {Q : Exit → Act → World → Prop} (hgd : o.guard = none) (ty : TypeId) (x y : Operand) (ho : o.op = .store ty x y)
    (t : TypeId) (g i : Nat) (hx : a.eval x = .pointer (some ⟨g, i, none⟩)) (v : Value) (hy : a.eval y = v) (hv : v.cells = #[v]) (h1 : v.oneCell' = true) (hi1 : (P.info? ty).map (·.size) = some 1) (cur : List Value) (hg : BlkV t w g cur) (hi : i < cur.length)
    (h : ∀ w', BlkV t w' g (cur.set i v) → w.grownBy w' (some g) → w'.heap.size = w.heap.size → wpList P ops Q rest (a.put o.dst undef) w') : wpList P ops Q (o :: rest) a w := by
  obtain ⟨f, hf, hs⟩ := Option.map_eq_some_iff.1 hi1
  have hrun : (storeVar ty ⟨g, i, none⟩ v).run P w = .ok () (w.setRow g (cur.set i v).toArray) := by
    have h := run_storeCells_at (P := P) g i t [v] 0 cur.toArray w hg (by simp; omega) (by intro u hu; rw [List.mem_singleton.1 hu]; exact h1)
    simp only [Nat.add_zero] at h
    have e : cur.take i ++ [v] ++ cur.drop (i + 1) = cur.set i v := by
      rw [List.set_eq_take_append_cons_drop, if_pos hi]; simp
    have h' : (storeCells ⟨g, i, none⟩ [v]).run P w = .ok () (w.setRow g (cur.set i v).toArray) := by
      rw [← e]; simpa using h
    simp [storeVar, hv, sizeOf, typeInfo, hf, hs, h']
  refine wpList_plain hgd fun K hK' => ?_
  unfold Oper.wp
  simp [execOp, ho, hx, hy, Instr.storeAt, Instr.sureAddr, hrun, Result.andThen]
  exact hK' _ _ (h _ (hg.setRow _) ⟨rfl, rfl, rfl, by simp, fun k _ hk => setRow_other w g k _ (fun e => hk (by rw [e]))⟩ (by simp))
end Go.Proofs.Ytbljihhelladbaa
/- Contract of keyref2.polynomials: the polynomials of a seed. Conditions: a secret and a seed of octets, a need from 1 to 32. -/
namespace Go.Proofs.Ytbljihhelladbaa.shr
open Go.RowKit Go.Proofs.Ytbljihhelladbaa.sh Go.Proofs.Ytbljihhelladbaa.Fld
set_option linter.unusedSimpArgs false
set_option linter.unusedVariables false
set_option pp.maxSteps 6000
/-- polynomials, as a value -/
structure PolysG (w : World) (f : Nat → List Int) (ps : List Value) : Prop where
  len : ps.length = 32
  one : ∀ u ∈ ps, u.oneCell' = true
  at_ : ∀ o, o < 32 → ∃ ao cap, ps[o]? = some (.slice ao (f o).length cap) ∧ RowI .i64 w ao (f o)
theorem PolysG.below {w w' : World} {f : Nat → List Int} {ps : List Value} (h : PolysG w f ps) (hb : Below w.heap.size w w') : PolysG w' f ps :=
  ⟨h.len, h.one, fun o ho => by obtain ⟨ao, cap, h1, h2⟩ := h.at_ o ho; exact ⟨ao, cap, h1, h2.below hb⟩⟩
structure PolyOwn (B : Nat) (w : World) (f : Nat → List Int) (ps : List Value) (k : Nat) : Prop where
  len : ps.length = 32
  one : ∀ u ∈ ps, u.oneCell' = true
  at_ : ∀ o, o < k → ∃ ao cap, ps[o]? = some (.slice ao (f o).length cap) ∧ w.ownsRow B 3 1 (.slice ao (f o).length cap) (f o).length ((f o).map (Value.int .i64))
theorem grown_setCell (w : World) (a : Addr) (v : Value) : w.grownBy (w.setCell a v) (some a.block) :=
  ⟨rfl, rfl, rfl, by simp, fun i _ hi => heap_setCell_other w a i v (fun e => hi (by rw [e]))⟩
theorem grown_setRow (w : World) (g : Nat) (cs : Array Value) : w.grownBy (w.setRow g cs) (some g) :=
  ⟨rfl, rfl, rfl, by simp, fun i _ hi => setRow_other w g i cs (fun e => hi (by rw [e]))⟩
end Go.Proofs.Ytbljihhelladbaa.shr
/- Shares with given values, plain; the numbers of a seed's polynomial are in range. A struct literal of a share. Conditions: the type's form. -/
namespace Go.Proofs.Ytbljihhelladbaa.shr
open Go.RowKit Go.Proofs.Ytbljihhelladbaa.sh Go.Proofs.Ytbljihhelladbaa.Fld
set_option linter.unusedSimpArgs false
set_option linter.unusedVariables false
set_option pp.maxSteps 6000
end Go.Proofs.Ytbljihhelladbaa.shr
/- Contract of keyref2.ZeroOf. Conditions: shares of the type's form at places from 0 to 256, 32 at most; a seed of octets, a need from 1 to 32. -/
namespace Go.Proofs.Ytbljihhelladbaa.shr
open Go.RowKit Go.Proofs.Ytbljihhelladbaa.sh Go.Proofs.Ytbljihhelladbaa.Fld
set_option linter.unusedSimpArgs false
set_option linter.unusedVariables false
set_option pp.maxSteps 6000
end Go.Proofs.Ytbljihhelladbaa.shr
/- A slice of shares that a call has made, as a block whose first cells are known (RowB); its shares are given values one by one. No program, no condition but the form. -/
namespace Go.Proofs.Ytbljihhelladbaa.shr
open Go.RowKit Go.Proofs.Ytbljihhelladbaa.sh Go.Proofs.Ytbljihhelladbaa.Fld
set_option linter.unusedSimpArgs false
set_option linter.unusedVariables false
set_option pp.maxSteps 6000
/-- block g begins with these cells, and none is frozen -/
def RowB (t : TypeId) (w : World) (g : Nat) (cs : List Value) : Prop := ∃ cur, BlkV t w g cur ∧ cur.take cs.length = cs
section
variable {t : TypeId} {w w' : World} {g : Nat} {cs : List Value}
theorem RowB.lt (h : RowB t w g cs) : g < w.heap.size := by obtain ⟨cur, h, _⟩ := h; exact h.lt
theorem RowB.cell (h : RowB t w g cs) {i : Nat} {u : Value} (hi : cs[i]? = some u) : w.cell? ⟨g, i, none⟩ = some u := by
  obtain ⟨cur, h, h2⟩ := h
  rw [h.cell]
  have hlt : i < cs.length := (List.getElem?_eq_some_iff.1 hi).1
  rw [← hi, ← h2, List.getElem?_take, if_pos hlt]
theorem RowB.frozen (h : RowB t w g cs) (i : Nat) : w.frozen? ⟨g, i, none⟩ = false := by obtain ⟨cur, h, _⟩ := h; exact h.frozen i
theorem RowB.set (h : RowB t w g cs) (i : Nat) (v : Value) : RowB t (w.setCell ⟨g, i, none⟩ v) g (cs.set i v) := by
  obtain ⟨cur, h, h2⟩ := h
  refine ⟨cur.set i v, h.set i v, ?_⟩
  rw [List.length_set, List.take_set, h2]
theorem RowB.drew (h : RowB t w g cs) : RowB t w.drew g cs := h
theorem RowB.drewN (h : RowB t w g cs) (n : Nat) : RowB t (w.drewN n) g cs := h
theorem RowB.below {B : Nat} (h : RowB t w g cs) (hb : Below B w w') (hg : g < B) : RowB t w' g cs := by obtain ⟨cur, h, h2⟩ := h; exact ⟨cur, h.below hb hg, h2⟩
theorem RowB.grown {row : Option Nat} (h : RowB t w g cs) (hg : w.grownBy w' row) (hr : row ≠ some g) : RowB t w' g cs := by obtain ⟨cur, h, h2⟩ := h; exact ⟨cur, h.grown hg hr, h2⟩
theorem RowB.row (h : RowB t w g cs) : RowV w (some ⟨g, 0, none⟩) cs := Or.inr ⟨g, 0, rfl, h.lt, fun j u hu => by rw [Nat.zero_add]; exact h.cell hu⟩
theorem grown_below {row : Option Nat} (hb : Below w.heap.size w w') : w.grownBy w' row := ⟨hb.os, hb.tape, hb.output, hb.size, fun k hk _ => hb.block k hk⟩
theorem grown_drew {row : Option Nat} (h : w.grownBy w' row) : w.grownBy w'.drew row := ⟨h.os, h.tape, h.output, h.size, h.block⟩
theorem grown_set {g : Nat} (h : w.grownBy w' (some g)) (i : Nat) (v : Value) : w.grownBy (w'.setCell ⟨g, i, none⟩ v) (some g) := h.trans (grown_setCell w' ⟨g, i, none⟩ v)
theorem below_of_grown {B g : Nat} (h : w.grownBy w' (some g)) (hB : B ≤ w.heap.size) (hg : B ≤ g) : Below B w w' := (Below.refl B w).grown h hB fun k hk => by cases hk; exact hg
end
end Go.Proofs.Ytbljihhelladbaa.shr
