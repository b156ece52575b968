/-
  Contract of share.polynomials: the polynomials through good shares, in rows of the call's own. Conditions: good shares of the type's form, 64 at most. Contracts of share.said and share.lies. Conditions: the polynomials through good shares; a share of the type's form at a place from 0 to 256. A slice literal of one struct or array: the law at the operation. No condition but the value's size. Contracts of both Stir functions. Condition: a state of 64 octets.
-/
import Derived.Test.YtbjmadcbhkeenaaSEqA
import Derived.Test.YtbjmadcbhkeenaaSGsB
import Derived.Test.YtbjmadcbhkeenaaSShF
import Derived.Great.BuildSlice
namespace Go.Proofs.Ytbjmadcbhkeenaa.shr
set_option linter.unusedVariables false
open Go.RowKit Go.Proofs.Ytbjmadcbhkeenaa.sh Go.Proofs.Ytbjmadcbhkeenaa.Fld
set_option linter.unusedSimpArgs false
set_option pp.maxSteps 6000
theorem through_n (ax ay : Option Addr) (cx cy n : Nat) (xs ys : List Int) (w : World) (hn' : n = xs.length) (hx : RowI .i64 w ax xs) (hy : RowI .i64 w ay ys) (hl : ys.length = xs.length) (rx : Rng xs) (ry : Rng ys) (hap : ApartTo xs xs.length) (hn : xs.length ≤ 64) :
    Calls Try.prog 37 #[.slice ax n cx, .slice ay n cy] w fun e w' => e = .returned (.slice (some ⟨w.heap.size, 0, none⟩) n n) ∧ BlkI .i64 3 w' w.heap.size (through xs ys) ∧ Below w.heap.size w w' := by
  subst hn'
  exact through_any ax ay cx cy xs ys w hx hy hl rx ry hap hn
/-- the first polynomials lie in rows above B -/
structure PolyBlk (B : Nat) (w : World) (l : List Sh) (ps : List Value) (k : Nat) : Prop where
  len : ps.length = 32
  one : ∀ u ∈ ps, u.oneCell' = true
  at_ : ∀ o, o < k → ∃ g, B < g ∧ ps[o]? = some (.slice (some ⟨g, 0, none⟩) l.length l.length) ∧ BlkI .i64 3 w g (polyOf l o)
/-- the polynomials through shares, as a value -/
structure PolysAt (w : World) (l : List Sh) (ps : List Value) : Prop where
  len : ps.length = 32
  one : ∀ u ∈ ps, u.oneCell' = true
  at_ : ∀ o, o < 32 → ∃ ao, ps[o]? = some (.slice ao l.length l.length) ∧ RowI .i64 w ao (polyOf l o)
theorem PolysAt.below {w w' : World} {l : List Sh} {ps : List Value} (h : PolysAt w l ps) (hb : Below w.heap.size w w') : PolysAt w' l ps :=
  ⟨h.len, h.one, fun o ho => by obtain ⟨ao, h1, h2⟩ := h.at_ o ho; exact ⟨ao, h1, h2.below hb⟩⟩
/-- the same, the rows in blocks of the call's own -/
structure PolysHi (B : Nat) (w : World) (l : List Sh) (ps : List Value) : Prop where
  len : ps.length = 32
  one : ∀ u ∈ ps, u.oneCell' = true
  at_ : ∀ o, o < 32 → ∃ g, B ≤ g ∧ ps[o]? = some (.slice (some ⟨g, 0, none⟩) l.length l.length) ∧ BlkI .i64 3 w g (polyOf l o)
theorem PolysHi.at {B : Nat} {w : World} {l : List Sh} {ps : List Value} (h : PolysHi B w l ps) : PolysAt w l ps :=
  ⟨h.len, h.one, fun o ho => by obtain ⟨g, _, h1, h2⟩ := h.at_ o ho; exact ⟨_, h1, h2.row⟩⟩
def noSlices : List Value := List.replicate 32 (.slice none 0 0)
theorem aggP : Agg Try.prog 60 32 := Agg.arr Try.underlying60 (by kernel_rfl)
theorem zeroP : (Try.prog.info? 60).map (·.zero) = some (some (.agg noSlices.toArray)) := by kernel_rfl
theorem row_of_owns {w : World} {base n : Nat} {ao : Option Addr} {cap : Nat} {l : List Int} (h : w.ownsRow base 3 1 (.slice ao n cap) n (l.map (Value.int .i64))) : RowI .i64 w ao l := by
  obtain ⟨a, c, h1, _, h2⟩ := Mine.row (Or.inl h)
  cases h1
  exact h2.i
set_option maxRecDepth 100000 in
theorem polynomials_hi (ao : Option Addr) (cap n : Nat) (l : List Sh) (w : World) (hn' : n = l.length) (hr : RowS w ao l) (hok : ∀ s ∈ l, s.Ok) (hg : Good l) (hn : l.length ≤ 64) :
    Calls Try.prog 22 #[.slice ao n cap] w fun e w' => ∃ ps, e = .returned (.agg ps.toArray) ∧ PolysHi w.heap.size w' l ps ∧ Below w.heap.size w w' := by
  subst hn'
  have HOK := hid hok
  clear hok
  obtain ⟨Z, HZ⟩ : ∃ Z, Hid (Z = noSlices) := ⟨_, rfl⟩
  have HZ0 := hid zeroP
  rw [← HZ.out] at HZ0
  have HZL : Hid (Z.length = 32) := by rw [HZ.out]; rfl
  go_enter Try.func22, Try.ntmps22
  go_wp2_with (first | (refine wl_alloc rfl 60 rfl Z HZ0.out ?_))
  go_loopw [5] (fun i wr => ∃ (k : Nat) (ps : List Value), k ≤ 32 ∧ i = .int .i64 k ∧ BlkV 60 wr w.heap.size Z ∧ BlkV 60 wr (w.heap.size + 1) ps ∧ PolyBlk (w.heap.size + 1) wr l ps k ∧ Below w.heap.size w wr) (fun i _ => 32 - (intOf i).toNat)
  case atStart => exact ⟨0, Z, by omega, rfl, (BlkV.new _ w Z rfl).alloc _, BlkV.new _ _ Z (by simp), ⟨HZL.out, by rw [HZ.out]; intro u hu; rw [List.eq_of_mem_replicate hu]; rfl, fun o ho => absurd ho (Nat.not_lt_zero o)⟩, ((Below.refl _ _).alloc (Nat.le_refl _) _).alloc (by simp) _⟩
  case round =>
    obtain ⟨k, ps, hk, rfl, hR, hC, hP, hbl⟩ := hrel
    by_cases h0 : k < 32
    · have hrw := hr.below hbl
      have hkI : (k : Int) < 32 := by omega
      have hkI0 : (0 : Int) ≤ (k : Int) := by omega
      have hltC := hC.lt
      go_wp2_with fail
      refine (points_any _ _ _ l k wr rfl hrw HOK.out (by omega) h0).mono ?_
      rintro e w1 ⟨ax, cx, ay, cy, rfl, hcx, hcy, hX, hY, _, hb1⟩
      go_wp2_with fail
      refine (through_n ax ay cx cy l.length (xsOf l) (ysOf l k) w1 (xsOf_length l).symm (row_of_owns hX) (row_of_owns hY) (by rw [ysOf_length, xsOf_length]) hg.rx (hg.ry k) hg.ap (by rw [xsOf_length]; exact hn)).mono ?_
      rintro e w2 ⟨rfl, hG, hb2⟩
      have hb12 : Below wr.heap.size wr w2 := hb1.trans (hb2.mono hb1.size)
      have hC2 := hC.below hb12 hltC
      have hc1 := hC2.cell k
      have hfz := hC2.frozen k
      have hpk : ps[k]? = some (ps[k]'(by rw [hP.len]; exact h0)) := List.getElem?_eq_getElem _
      rw [hpk] at hc1
      have h1 := hb1.size
      go_wp2
      go_roundw
      case rel =>
        refine ⟨k + 1, ps.set k (.slice (some ⟨w1.heap.size, 0, none⟩) l.length l.length), by omega, by go_num, (hR.below hb12 (by omega)).other (by simp) _, hC2.set k _, ⟨by rw [List.length_set]; exact hP.len, ?_, ?_⟩, (hbl.trans (hb12.mono hbl.size)).setCell (by simp) _⟩
        · intro u hu
          rcases List.mem_or_eq_of_mem_set hu with h | rfl
          · exact hP.one u h
          · rfl
        · intro o ho
          by_cases e : o = k
          · subst e
            exact ⟨w1.heap.size, by omega, by rw [List.getElem?_set_self (by rw [hP.len]; exact h0)], hG.other (by simp; omega) _⟩
          · obtain ⟨g, h2, h3, h4⟩ := hP.at_ o (by omega)
            exact ⟨g, h2, by rw [List.getElem?_set_ne (fun h => e h.symm)]; exact h3, (h4.below hb12 h4.lt).other (by simp; omega) _⟩
      case measure => simp [intOf] <;> omega
    · obtain rfl : k = 32 := by omega
      have hPL := hid hP.len
      have hZl : Hid (Z.length = 32) := HZL
      have ha := hC.at0
      go_wp2_with (first | (refine wl_loadG (by rfl) 60 _ rfl ⟨w.heap.size + 1, 0, none⟩ rfl 32 ps hPL.out aggP ha ?_) | (refine wl_storeAll rfl 60 _ _ rfl 60 w.heap.size rfl ps rfl 32 aggP hPL.out Z hR hZl.out hP.one ?_; intro hS))
      (try simp only [Exit.inBlock, Exit.then]); refine bodyPost_ret (results_cell rfl _ _ _ _ rfl ps (by rw [hPL.out]; exact aggP) hS.at0) rfl ?_
      refine ⟨ps, rfl, ⟨hPL.out, hP.one, fun o ho => ?_⟩, below_setRow' hbl (Nat.le_refl _) _⟩
      obtain ⟨g, h2, h3, h4⟩ := hP.at_ o ho
      have h5 : BlkI .i64 3 (wr.setRow w.heap.size ps.toArray) g (polyOf l o) := BlkV.otherRow h4.v (by omega) _
      exact ⟨g, by omega, h3, h5⟩
theorem polynomials_any (ao : Option Addr) (cap n : Nat) (l : List Sh) (w : World) (hn' : n = l.length) (hr : RowS w ao l) (hok : ∀ s ∈ l, s.Ok) (hg : Good l) (hn : l.length ≤ 64) :
    Calls Try.prog 22 #[.slice ao n cap] w fun e w' => ∃ ps, e = .returned (.agg ps.toArray) ∧ PolysAt w' l ps ∧ Below w.heap.size w w' :=
  (polynomials_hi ao cap n l w hn' hr hok hg hn).mono fun _ _ ⟨ps, h1, h2, h3⟩ => ⟨ps, h1, h2.at, h3⟩
end Go.Proofs.Ytbjmadcbhkeenaa.shr
namespace Go.Proofs.Ytbjmadcbhkeenaa.shr
set_option linter.unusedVariables false
open Go.RowKit Go.Proofs.Ytbjmadcbhkeenaa.sh Go.Proofs.Ytbjmadcbhkeenaa.Fld
set_option linter.unusedSimpArgs false
set_option pp.maxSteps 6000
theorem run_indexS {P : Program} (w : World) (t e e2 : TypeId) (n : Nat) (ht : P.underlying t = some (.array n e)) (he : P.underlying e = some (.slice e2)) (hs : (P.info? e).map (·.size) = some 1) (cs : List Value) (i : Nat) (hi : i < n) (v : Value) (hv : cs[i]? = some v) :
    (Instr.index t (.agg cs.toArray) (.int .i64 i)).run P w = .ok v w := by
  obtain ⟨f, hf, hf2⟩ := Option.map_eq_some_iff.1 hs
  simp [Instr.index, asIntOf, run_underlying ht, sizeOf, typeInfo, hf, hf2, Result.andThen, part, isAgg, run_underlying he, hi, hv]
theorem sizeSl : (Try.prog.info? 24).map (·.size) = some 1 := by kernel_rfl
theorem aggKey : Agg Try.prog 23 32 := Agg.arr Try.underlying23 (by kernel_rfl)
def zero32 : List Value := (List.replicate 32 0).map (Value.int .u8)
theorem zeroKey : (Try.prog.info? 23).map (·.zero) = some (some (.agg zero32.toArray)) := by kernel_rfl
theorem value_q {n : Nat} (ao : Option Addr) (cap : Nat) (l : List Int) (x : Int) (w : World) (hn : n = l.length) (hr : RowI .i64 w ao l) (hl : Rng l) (hx : 0 ≤ x ∧ x ≤ 256) (hs : n ≤ 4611686018427387904) (V : Int) (hV : ev l x % 257 = V) :
    Calls Try.prog 20 #[.slice ao n cap, .int .i64 x] w fun e w' => e = .returned (.int .i64 V) ∧ w' = w := by
  subst hV
  exact value_n ao cap l x w hn hr hl hx hs
set_option maxRecDepth 100000 in
theorem said_any (ps : List Value) (l : List Sh) (w : World) (hP : PolysAt w l ps) (hg : Good l) (hn : l.length ≤ 64) :
    Calls Try.prog 28 #[.agg ps.toArray] w fun e w' => e = .returned (.tuple #[.agg ((secretOf l).map (Value.int .u8)).toArray, .int .i64 (secretE l)]) ∧ Below w.heap.size w w' := by
  have hPL := hid hP.len
  have hp1 := hP.one
  obtain ⟨Z, HZ⟩ : ∃ Z, Hid (Z = zero32) := ⟨_, rfl⟩
  have HZ0 := hid zeroKey
  rw [← HZ.out] at HZ0
  have HZL : Hid (Z.length = 32) := by rw [HZ.out]; rfl
  have hbu : (Try.prog.built 23 []) = some Z.toArray := by rw [HZ.out]; kernel_rfl
  have HBU := hid hbu
  clear hbu
  go_enter Try.func28, Try.ntmps28
  go_wp2_with (first | (refine wl_alloc rfl 23 rfl Z HZ0.out ?_) | (refine wl_loadG (by rfl) 60 _ rfl ⟨w.heap.size, 0, none⟩ rfl 32 ps hPL.out aggP ((BlkV.new _ w ps rfl).alloc _ |>.alloc _).at0 ?_))
  have hA0 : BlkV 23 (((w.alloc (.cells ps.toArray 60)).alloc (.cells Z.toArray 23)).alloc (.cells Z.toArray 23)) (w.heap.size + 1) Z := (BlkV.new _ _ Z (by simp)).alloc _
  have hB0 : BlkV 23 (((w.alloc (.cells ps.toArray 60)).alloc (.cells Z.toArray 23)).alloc (.cells Z.toArray 23)) (w.heap.size + 2) Z := BlkV.new _ _ Z (by simp)
  have hb0 : Below w.heap.size w (((w.alloc (.cells ps.toArray 60)).alloc (.cells Z.toArray 23)).alloc (.cells Z.toArray 23)) := (((Below.refl _ _).alloc (Nat.le_refl _) _).alloc (by simp) _).alloc (by simp; omega) _
  go_loopw [9] (fun i wr => ∃ k : Nat, k ≤ 32 ∧ i = .int .i64 k ∧ Hid (∀ o, o < k → valAt l o 0 ≠ 256) ∧ BlkV 23 wr (w.heap.size + 1) Z ∧ BlkI .u8 23 wr (w.heap.size + 2) (st.fillTo (fun o => valAt l o 0) 32 k) ∧ Below w.heap.size w wr) (fun i _ => 32 - (intOf i).toNat)
  case atStart => exact ⟨0, by omega, rfl, fun o ho => absurd ho (Nat.not_lt_zero o), hA0, by rw [st.fillTo_zero]; show BlkV _ _ _ zero32; rw [← HZ.out]; exact hB0, hb0⟩
  case round =>
    obtain ⟨k, hk, rfl, HN, hR, hC, hbl⟩ := hrel
    clear hA0 hB0 hb0
    by_cases h0 : k < 32
    · obtain ⟨pa, hpk, hrow0⟩ := hP.at_ k h0
      have hrow := hrow0.below hbl
      have hIX := fun w => run_indexS (P := Try.prog) w 60 24 3 32 Try.underlying60 Try.underlying24 sizeSl ps k h0 _ hpk
      obtain ⟨V, HV⟩ : ∃ V, Hid (V = valAt l k 0) := ⟨_, rfl⟩
      have hVr : 0 ≤ V ∧ V ≤ 256 := by rw [HV.out]; exact valAt_range ..
      have hev : ev (polyOf l k) 0 % 257 = V := by rw [HV.out]; exact hg.val k 0
      have hkI : (k : Int) < 32 := by omega
      have hkI0 : (0 : Int) ≤ (k : Int) := by omega
      have hpl := (hg.poly_length k).symm
      have hcell := hC.cell (i := k) (by rw [st.fillTo_length _ _ _ hk]; exact h0)
      have hfz := hC.frozen k
      have HEV := hid hev
      have HPL := hid hpl
      have HROW := hid hrow
      clear hpk hrow0 hev hpl hrow
      by_cases h1 : V = 256
      · have H1 := hid h1
        have h1' : (V == 256) = true := by simp [h1]
        have hfa := hid (fault0_of l k h0 (by rw [← HV.out]; exact h1))
        clear h1
        go_wp2_with (first | (go_at_call 20; refine (value_q _ _ _ _ _ HPL.out HROW.out (hg.poly_rng k) ⟨by decide, by decide⟩ (by omega) V HEV.out).mono ?_; rintro e w1 ⟨rfl, rfl⟩) | (refine wl_build0 rfl 23 rfl Z HBU.out ?_) | (refine wl_storeV rfl 23 _ _ rfl 23 (w.heap.size + 1) rfl Z rfl 32 aggKey HZL.out Z hR HZL.out (by rw [HZ.out]; exact ints_one _ _) ?_; intro wS hS hbS hsS))
        (try simp only [Exit.inBlock, Exit.then]); refine bodyPost_ret (results_cell2 rfl _ _ _ _ rfl Z (by rw [HZL.out]; exact aggKey) hS.at0) rfl ?_
        refine ⟨rv ?_, hbl.trans (hbS.mono (by omega))⟩
        unfold secretOf secretE
        rw [if_pos hfa.out, if_pos hfa.out, HZ.out]
        rfl
      · have H1 := hid h1
        have h1' : (V == 256) = false := by simp [h1]
        have hVw : IntKind.u8.wrap V = V := IntKind.wrap_u8' V ▸ by omega
        clear h1
        go_wp2_with (first | (go_at_call 20; refine (value_q _ _ _ _ _ HPL.out HROW.out (hg.poly_rng k) ⟨by decide, by decide⟩ (by omega) V HEV.out).mono ?_; rintro e w1 ⟨rfl, rfl⟩))
        go_roundw
        case rel => exact ⟨k + 1, by omega, by go_num, fun o ho => by
          by_cases e : o = k
          · rw [e, ← HV.out]; exact H1.out
          · exact HN.out o (by omega), hR.other (by simp) _, by rw [← st.fillTo_set _ _ _ h0, ← HV.out]; exact hC.set k V, hbl.setCell (by simp; omega) _⟩
        case measure => simp [intOf] <;> omega
    · obtain rfl : k = 32 := by omega
      rw [st.fillTo_all] at hC
      have hfa := hid (fault0_not l HN.out)
      obtain ⟨R, HR⟩ : ∃ R, Hid (R = ((List.range 32).map fun o => valAt l o 0).map (Value.int .u8)) := ⟨_, rfl⟩
      have hCv : BlkV 23 wr (w.heap.size + 2) R := by rw [HR.out]; exact BlkI.v hC
      have HRL : Hid (R.length = 32) := by show _ = _; rw [HR.out]; simp
      have hR1 : ∀ u ∈ R, u.oneCell' = true := by rw [HR.out]; exact ints_one _ _
      clear hC
      go_wp2_with (first | (refine wl_loadG (by rfl) 23 _ rfl ⟨w.heap.size + 2, 0, none⟩ rfl 32 R HRL.out aggKey hCv.at0 ?_) | (refine wl_storeV rfl 23 _ _ rfl 23 (w.heap.size + 1) rfl R rfl 32 aggKey HRL.out Z hR HZL.out hR1 ?_; intro wS hS hbS hsS))
      (try simp only [Exit.inBlock, Exit.then]); refine bodyPost_ret (results_cell2 rfl _ _ _ _ rfl R (by rw [HRL.out]; exact aggKey) hS.at0) rfl ?_
      refine ⟨rv ?_, hbl.trans (hbS.mono (by omega))⟩
      unfold secretOf secretE
      rw [if_neg (by rw [hfa.out]; decide), if_neg (by rw [hfa.out]; decide), HR.out]
      rfl
set_option maxRecDepth 100000 in
theorem lies_any (ps : List Value) (l : List Sh) (s : Sh) (w : World) (hP : PolysAt w l ps) (hg : Good l) (hn : l.length ≤ 64) (hs : s.Ok) (hx : 0 ≤ s.x ∧ s.x ≤ 256) :
    Calls Try.prog 25 #[.agg ps.toArray, .agg s.cs.toArray] w fun e w' => e = .returned (.bool (liesB l s)) ∧ Below w.heap.size w w' := by
  have hPL := hid hP.len
  have HSL : Hid (s.cs.length = 49) := hs.csl
  have hS0 : BlkV 41 ((w.alloc (.cells ps.toArray 60)).alloc (.cells s.cs.toArray 41)) (w.heap.size + 1) s.cs := BlkV.new _ _ _ (by simp)
  have hb0 : Below w.heap.size w ((w.alloc (.cells ps.toArray 60)).alloc (.cells s.cs.toArray 41)) := ((Below.refl _ _).alloc (Nat.le_refl _) _).alloc (by simp) _
  go_enter Try.func25, Try.ntmps25
  go_wp2_with (first | (refine wl_loadG (by rfl) 60 _ rfl ⟨w.heap.size, 0, none⟩ rfl 32 ps hPL.out aggP ((BlkV.new _ w ps rfl).alloc _).at0 ?_))
  go_loopw [8] (fun i wr => ∃ k : Nat, k ≤ 32 ∧ i = .int .i64 k ∧ Hid (liesTo l s k = true) ∧ BlkV 41 wr (w.heap.size + 1) s.cs ∧ Below w.heap.size w wr) (fun i _ => 32 - (intOf i).toNat)
  case atStart => exact ⟨0, by omega, rfl, rfl, hS0, hb0⟩
  case round =>
    obtain ⟨k, hk, rfl, HN, hS, hbl⟩ := hrel
    clear hS0 hb0
    by_cases h0 : k < 32
    · obtain ⟨pa, hpk, hrow0⟩ := hP.at_ k h0
      have hrow := hrow0.below hbl
      have hIX := fun w => run_indexS (P := Try.prog) w 60 24 3 32 Try.underlying60 Try.underlying24 sizeSl ps k h0 _ hpk
      obtain ⟨V, HV⟩ : ∃ V, Hid (V = valAt l k s.x) := ⟨_, rfl⟩
      have hVr : 0 ≤ V ∧ V ≤ 256 := by rw [HV.out]; exact valAt_range ..
      have hev : ev (polyOf l k) s.x % 257 = V := by rw [HV.out]; exact hg.val k s.x
      obtain ⟨yv, HYV⟩ : ∃ c, Hid (c = s.y.getD k 0) := ⟨_, rfl⟩
      have hybd : 0 ≤ yv ∧ yv ≤ 65535 := by rw [HYV.out, getD_lt' s.y 0 (by rw [hs.yl]; exact h0)]; exact hs.yb _ (List.getElem_mem _)
      have hkI : (k : Int) < 32 := by omega
      have hkI0 : (0 : Int) ≤ (k : Int) := by omega
      have hpl := (hg.poly_length k).symm
      have cX := (hS.cell 16).trans (cs_x s hs)
      have cY : wr.cell? ⟨w.heap.size + 1, 17 + k, none⟩ = some (.int .u16 yv) := by rw [HYV.out]; exact (hS.cell (17 + k)).trans (cs_yi s hs k h0)
      have HEV := hid hev
      have HPL := hid hpl
      have HROW := hid hrow
      have HLT := hid (liesTo_succ l s k)
      rw [HN.out, ← HV.out, ← HYV.out] at HLT
      clear hpk hrow0 hev hpl hrow
      go_wp2_with fail
      go_quiet ((go_at_call 20; exact Calls.quiet_of_same (value_q _ _ _ _ _ HPL.out (HROW.out.drewN _) (hg.poly_rng k) hx (by omega) V HEV.out)))
      by_cases h1 : V = yv
      · have H1 := hid h1
        have h1' : (V != yv) = false := by simp [h1]
        clear h1
        go_wp2
        go_roundw
        case rel => exact ⟨k + 1, by omega, by go_num, by show _ = _; rw [HLT.out, H1.out]; simp, hS.drewN _, bdN hbl _⟩
        case measure => simp [intOf] <;> omega
      · have H1 := hid h1
        have h1' : (V != yv) = true := by simp [h1]
        have hf := hid (liesB_false l s k h0 (by rw [← HV.out, ← HYV.out]; exact h1))
        clear h1
        go_wp2
        go_ret
        exact ⟨rv (rb hf.out.symm), bdN hbl _⟩
    · obtain rfl : k = 32 := by omega
      go_wp2
      go_ret
      exact ⟨rv (rb HN.out.symm), hbl⟩
end Go.Proofs.Ytbjmadcbhkeenaa.shr
namespace Go.Proofs.Ytbjmadcbhkeenaa
set_option linter.unusedSimpArgs false
set_option linter.unusedVariables false
open Go.RowKit
theorem fold_zip : ∀ (cs : List Value) (k : Nat) (base : Array Value), k + cs.length ≤ base.size →
    ((cs.zipIdx k).foldl (fun (a : Array Value) (x : Value × Nat) => a.setIfInBounds (0 + x.2) x.1) base).toList = base.toList.take k ++ cs ++ base.toList.drop (k + cs.length)
  | [], k, base, _ => by simp
  | c :: r, k, base, h => by
    rw [List.zipIdx_cons, List.foldl_cons, fold_zip r (k + 1) _ (by simp at h ⊢; omega)]
    simp only [Nat.zero_add, Array.toList_setIfInBounds, List.length_cons]
    have hk : k < base.toList.length := by simp at h ⊢; omega
    rw [List.take_set, List.drop_set, if_pos (by omega), List.take_succ_eq_append_getElem hk, List.set_append_right _ _ (by rw [List.length_take]; omega), (by rw [List.length_take]; omega : k - (List.take k base.toList).length = 0), List.set_cons_zero, show k + 1 + r.length = k + (r.length + 1) by omega]
    simp
theorem fill_one (size : Nat) (cs : List Value) (base : Array Value) (hs : cs.length = size) (hb : base.size = size) : Instr.fill (fun i => some (i * size, size)) base [(0, .agg cs.toArray)] = some cs.toArray := by
  have h := fold_zip cs 0 base (by omega)
  unfold Instr.fill
  simp only [Value.cells, Nat.zero_mul]
  rw [if_neg (by simp; omega)]
  unfold Instr.fill
  congr 1
  apply Array.ext'
  rw [show ((cs.toArray.zipIdx).foldl (fun (a : Array Value) (x : Value × Nat) => a.setIfInBounds (0 + x.2) x.1) base) = ((cs.zipIdx 0).foldl (fun (a : Array Value) (x : Value × Nat) => a.setIfInBounds (0 + x.2) x.1) base) by simp, h]
  simp; omega
theorem wl_slice1 {P : Program} {w : World} {ops : Array Oper} {rest : List Oper} {o : Oper} {a : Act} {Q : Exit → Act → World → Prop} (hgd : o.guard = none) (t e : TypeId) (x : Operand) (ho : o.op = .buildSlice t 1 #[(0, x)])
    (ht : P.underlying t = some (.slice e)) (size : Nat) (z : List Value) (hi : (P.info? e).map (fun i => (i.zero, i.size)) = some (some (.agg z.toArray), size)) (hz : z.length = size) (h0 : 0 < size) (h24 : size ≤ 2 ^ 24)
    (cs : List Value) (hx : a.eval x = .agg cs.toArray) (hcs : cs.length = size) (N : Nat) (hN : w.heap.size = N)
    (h : ∀ w', BlkV e w' N cs → Below N w w' → w'.heap.size = N + 1 → wpList P ops Q rest (a.put o.dst (.slice (some ⟨N, 0, none⟩) 1 1)) w') : wpList P ops Q (o :: rest) a w := by
  subst hN
  obtain ⟨i, hi0, hh⟩ := Option.map_eq_some_iff.1 hi
  simp only [Prod.mk.injEq] at hh
  obtain ⟨hzi, hsi⟩ := hh
  subst hsi
  have hf : Instr.fill (fun j => some (j * i.size, i.size)) ((Array.range (1 * i.size)).map (fun j => (Value.agg z.toArray).cells[j % (Value.agg z.toArray).cells.size]!)) #[(0, Value.agg cs.toArray)].toList = some cs.toArray := fill_one i.size cs _ hcs (by simp)
  have hrun := run_buildSlice (P := P) w t e 1 #[(0, Value.agg cs.toArray)] cs.toArray i (.agg z.toArray) ht hi0 hzi (by omega) (by omega) hf
  refine wpList_plain hgd fun K hK' => ?_
  unfold Oper.wp
  simp [execOp, ho, hx, hrun, Result.andThen]
  exact hK' _ _ (h _ (BlkV.new e w cs rfl) ((Below.refl _ _).alloc (Nat.le_refl _) _) (by simp))
/-- an own row of one element out of a block -/
theorem ownsRow_blk {w : World} {base : Nat} {e : TypeId} {g size : Nat} {cs : List Value} (h : BlkV e w g cs) (hb : base ≤ g) (hl : cs.length = size) : w.ownsRow base e size (.slice (some ⟨g, 0, none⟩) 1 1) 1 cs := by
  refine ⟨by rw [hl]; simp, Or.inr ⟨g, 1, cs.toArray, rfl, hb, h, Nat.le_refl _, by decide, by simp [hl], ?_⟩⟩
  simp [← hl]
end Go.Proofs.Ytbjmadcbhkeenaa
namespace Go.Proofs.Ytbjmadcbhkeenaa.st
set_option linter.unusedSimpArgs false
set_option linter.unusedVariables false
open Go.RowKit
set_option pp.maxSteps 4000
/-- what is added to a word -/
def addend (r i : Nat) (c : Int) : Int := bits .xor .u32 (rotl c (5 + i)) (2654435769 * ((16 * r + i + 1 : Nat) : Int) % 4294967296)
theorem rotR' (x : Int) (k : Nat) (K : Int) (hK : K = k) (w : World) (h : k < 32) (hx : W32 x) : Calls Try.prog 73 #[.int .u32 x, .int .i64 K] w fun e w' => e = .returned (.int .u32 (rotl x k)) ∧ w' = w := by
  subst hK; exact (rotR x k w h hx).mono fun e w' h => ⟨h.1, h.2.symm⟩
theorem turnM (g : Nat) (ws : List Int) (r i : Nat) (w : World) (hl : ws.length = 16) (hw : AllW ws) (hg : BlkI .u32 123 w g ws) (hr : r < 8) (hi : i < 16) :
    Calls Try.prog 72 #[.pointer (some ⟨g, 0, none⟩), .int .i64 r, .int .i64 i] w fun e w' => e = .returned (.int .u32 (addend r i (ws.getD ((i + 1 + r) % 16) 0))) ∧ w' = w := by
  obtain ⟨j, HJ⟩ : ∃ j, Hid (j = (i + 1 + r) % 16) := ⟨_, rfl⟩
  have hj : j < 16 := by rw [HJ.out]; omega
  obtain ⟨c, HC, hcell⟩ := hg.elem (i := j) (by omega)
  have hc : W32 c := by rw [HC.out]; exact hw.getD j
  have hd : ((i : Int) + 1 + (r : Int)).tmod 16 = j := by rw [Int.tmod_eq_emod_of_nonneg (by omega), HJ.out]; omega
  go_enter Try.func72, Try.ntmps72
  go_wp2_with fail
  refine (rotR' c (5 + i) _ (by omega) w (by omega) hc).mono ?_
  rintro e wn ⟨rfl, rfl⟩
  go_wp2
  go_ret
  refine ⟨rv (ri ?_), rfl⟩
  unfold addend
  rw [← HJ.out, ← HC.out]
  congr 1
theorem addW_eq (r i : Nat) (w : List Int) : addW r i w = w.set i ((w.getD i 0 + addend r i (w.getD ((i + 1 + r) % 16) 0)) % 4294967296) := rfl
theorem wordsL_w {s : List Int} (hs : Octs s) : AllW (wordsL s 16) := by
  intro c hc
  unfold wordsL at hc
  obtain ⟨i, _, rfl⟩ := List.mem_map.1 hc
  exact w32_w4 (hs.getD _) (hs.getD _) (hs.getD _) (hs.getD _)
set_option maxRecDepth 100000 in
set_option maxHeartbeats 2000000 in
theorem stirM (s : List Int) (w : World) (hl : s.length = 64) (hs : Octs s) :
    Calls Try.prog 69 #[.agg (s.map (Value.int .u8)).toArray] w fun e w' => e = .returned (.agg ((stirL s).map (Value.int .u8)).toArray) ∧ Below w.heap.size w w' := by
  have HL := hid hl
  have HZ := hid zero16
  have HY := hid zero64
  obtain ⟨Z, HZ'⟩ : ∃ Z, Hid (Z = (List.replicate 16 (0 : Int)).map (Value.int .u32)) := ⟨_, rfl⟩
  obtain ⟨Y, HY'⟩ : ∃ Y, Hid (Y = (List.replicate 64 (0 : Int)).map (Value.int .u8)) := ⟨_, rfl⟩
  rw [← HZ'.out] at HZ
  rw [← HY'.out] at HY
  obtain ⟨S, HS⟩ : ∃ S, Hid (S = s.map (Value.int .u8)) := ⟨_, rfl⟩
  rw [← HS.out]
  have HSL : Hid (S.length = 64) := by show S.length = 64; rw [HS.out, List.length_map, HL.out]
  have HYL : Hid (Y.length = 64) := by show Y.length = 64; rw [HY'.out, List.length_map, List.length_replicate]
  have HZL : Hid (Z.length = 16) := by show Z.length = 16; rw [HZ'.out, List.length_map, List.length_replicate]
  clear hl
  go_enter Try.func69, Try.ntmps69
  go_wp2_with (first | (refine wl_alloc rfl 111 rfl Y HY.out ?_) | (refine wl_load rfl 111 _ rfl ⟨w.heap.size, 0, none⟩ rfl S (by rw [HSL.out]; exact agg64) ((BlkV.new _ w S rfl).alloc _).at0 ?_))
  rw [HS.out]
  refine (wordsOf s _ HL.out hs).mono ?_
  rintro e w1 ⟨rfl, hb1⟩
  rw [← HS.out] at hb1 ⊢
  obtain ⟨V, HV⟩ : ∃ V, Hid (V = wordsL s 16) := ⟨_, rfl⟩
  rw [← HV.out]
  have hVl : V.length = 16 := by rw [HV.out, wordsL_length]
  have hVw : AllW V := by rw [HV.out]; exact wordsL_w hs
  have HVL := hid hVl
  obtain ⟨VV, HVV⟩ : ∃ VV, Hid (VV = V.map (Value.int .u32)) := ⟨_, rfl⟩
  rw [← HVV.out]
  have HVVL : Hid (VV.length = 16) := by show VV.length = 16; rw [HVV.out, List.length_map, HVL.out]
  have hVV1 : ∀ u ∈ VV, u.oneCell' = true := by rw [HVV.out]; exact ints_one _ _
  have hR0 := (BlkV.new 111 (w.alloc (.cells S.toArray 111)) (g := w.heap.size + 1) Y (by simp)).below hb1 (by simp)
  have bA : Below w.heap.size w w1 := (((Below.refl w.heap.size w).alloc (Nat.le_refl _) _).alloc (by simp) _).trans (hb1.mono (by simp; omega))
  have hsz := hb1.size
  simp only [World.alloc, Array.size_push] at hsz
  clear hVl hb1
  go_wp2_with (first | (refine wl_alloc rfl 123 rfl Z HZ.out ?_) | (refine wl_storeAll rfl 123 _ _ rfl 123 w1.heap.size rfl VV rfl 16 agg16 HVVL.out Z (BlkV.new _ w1 Z rfl) HZL.out hVV1 ?_; intro hW0))
  obtain ⟨g3, Hg3⟩ : ∃ g3, Hid (g3 = w1.heap.size) := ⟨_, rfl⟩
  have hR1 := (hR0.alloc (.cells Z.toArray 123)).otherRow (g' := w1.heap.size) (by omega) VV.toArray
  have bB := below_setRow' (bA.alloc bA.size (.cells Z.toArray 123)) bA.size VV.toArray
  have hgg : w.heap.size + 1 < g3 := by rw [Hg3.out]; omega
  have hW1 : BlkI .u32 123 ((w1.alloc (.cells Z.toArray 123)).setRow w1.heap.size VV.toArray) w1.heap.size (roundTo V 0) := by rw [HVV.out] at hW0 ⊢; exact hW0
  rw [← Hg3.out] at hR1 bB hW1 ⊢
  generalize (w1.alloc (.cells Z.toArray 123)).setRow g3 VV.toArray = w2 at *
  clear hR0 bA hsz hW0 Hg3
  go_loopw [8] (fun r wr => ∃ k : Nat, k ≤ 8 ∧ r = .int .i64 k ∧ BlkI .u32 123 wr g3 (roundTo V k) ∧ BlkV 111 wr (w.heap.size + 1) Y ∧ Below w.heap.size w wr) (fun r _ => 8 - (intOf r).toNat)
  case atStart => exact ⟨0, by omega, rfl, hW1, hR1, bB⟩
  case round =>
    obtain ⟨r, hr, rfl, hW, hR, hb⟩ := hrel
    by_cases h0 : r < 8
    · have hdr : decide ((r : Int) < 8) = true := by simp; omega
      go_wp2_with fail
      go_loopw [11] (fun i wr => ∃ k : Nat, k ≤ 16 ∧ i = .int .i64 k ∧ BlkI .u32 123 wr g3 (stepTo r (roundTo V r) k) ∧ BlkV 111 wr (w.heap.size + 1) Y ∧ Below w.heap.size w wr) (fun i _ => 16 - (intOf i).toNat)
      case atStart => exact ⟨0, by omega, rfl, hW, hR, hb⟩
      case round =>
        obtain ⟨i, hi, rfl, hWi, hRi, hbi⟩ := hrel
        by_cases h1 : i < 16
        · obtain ⟨U, HU⟩ : ∃ U, Hid (U = stepTo r (roundTo V r) i) := ⟨_, rfl⟩
          rw [← HU.out] at hWi
          have hUl : U.length = 16 := by rw [HU.out, stepTo_length, roundTo_length, HVL.out]
          have hUw : AllW U := by rw [HU.out]; exact stepTo_w (roundTo_w hVw r) r i
          obtain ⟨c, HC, hcell⟩ := hWi.elem (i := i) (by omega)
          have hfz := hWi.frozen i
          obtain ⟨A, HA⟩ : ∃ A, Hid (A = addend r i (U.getD ((i + 1 + r) % 16) 0)) := ⟨_, rfl⟩
          obtain ⟨D, HD⟩ : ∃ D, Hid (D = (c + A) % 4294967296) := ⟨_, rfl⟩
          have hT := hid (turnM g3 U r i wr.drew hUl hUw hWi.drew h0 h1)
          rw [← HA.out] at hT
          obtain ⟨U1, HU1⟩ : ∃ U1, Hid (U1 = addW r i U) := ⟨_, rfl⟩
          have hU1l : U1.length = 16 := by rw [HU1.out, addW_eq, List.length_set, hUl]
          have hU1w : AllW U1 := by rw [HU1.out]; exact addW_w hUw r i
          have hW1i : BlkI .u32 123 (wr.setCell ⟨g3, i, none⟩ (.int .u32 D)).drew g3 U1 := by
            rw [HU1.out, addW_eq, ← HA.out, ← HC.out, ← HD.out]
            exact (hWi.set i D).drew
          have hR1i := (hRi.other (a := ⟨g3, i, none⟩) (by simp; omega) (.int .u32 D)).drew
          have hb1i := (hbi.setCell (p := ⟨g3, i, none⟩) (by simp; omega) (.int .u32 D)).drew
          obtain ⟨j, HJ⟩ : ∃ j, Hid (j = (i + 9) % 16) := ⟨_, rfl⟩
          have hj : j < 16 := by rw [HJ.out]; omega
          obtain ⟨x, HX, hcx⟩ := hW1i.elem (i := j) (by omega)
          obtain ⟨y, HY1, hcy⟩ := hW1i.elem (i := i) (by omega)
          have hfx := hW1i.frozen j
          have hyw : W32 y := by rw [HY1.out]; exact hU1w.getD i
          have hXW : BlkI .u32 123 ((wr.setCell ⟨g3, i, none⟩ (.int .u32 D)).drew.setCell ⟨g3, j, none⟩ (.int .u32 (bits .xor .u32 x (rotl y 11)))) g3 (stepTo r (roundTo V r) (i + 1)) := by
            have := hW1i.set j (bits .xor .u32 x (rotl y 11))
            have e : U1.set j (bits .xor .u32 x (rotl y 11)) = stepTo r (roundTo V r) (i + 1) := by rw [HX.out, HY1.out, HJ.out, HU1.out, HU.out]; rfl
            rw [e] at this
            exact this
          have hXR := hR1i.other (a := ⟨g3, j, none⟩) (by simp; omega) (.int .u32 (bits .xor .u32 x (rotl y 11)))
          have hXb := hb1i.setCell (p := ⟨g3, j, none⟩) (by simp; omega) (.int .u32 (bits .xor .u32 x (rotl y 11)))
          have hwrap : IntKind.u32.wrap (c + A) = D := by rw [IntKind.wrap_u32', HD.out]
          have hjI : (j : Int) < 16 := by omega
          have hw9 : IntKind.i64.wrap ((i : Int) + 9) = (i : Int) + 9 := IntWalk.i64_in _ (by omega)
          have hd9 : ((i : Int) + 9).tmod 16 = j := by rw [Int.tmod_eq_emod_of_nonneg (by omega), HJ.out]; omega
          clear hW1i hR1i hb1i hUl hU1l hU1w hUw hWi hRi hbi
          go_wp2_with fail
          refine wp_region_still_tail 7 (by kernel_rfl) (by kernel_rfl) ?_
          simp only [List.take_succ_cons, List.take_zero, List.drop_succ_cons, List.drop_zero]
          change wpStill _ _ wr.drew (fun a' => wpList _ _ _ _ a' wr.drew) _ _
          repeat still_step
          still_call hT.out
          repeat still_step
          refine wpStill_nil ?_
          go_wp2_with fail
          clear hcell hfz
          generalize (wr.setCell ⟨g3, i, none⟩ (.int .u32 D)).drew = wq at *
          refine wp_region_still_tail 10 (by kernel_rfl) (by kernel_rfl) ?_
          simp only [List.take_succ_cons, List.take_zero, List.drop_succ_cons, List.drop_zero]
          change wpStill _ _ wq.drew (fun a' => wpList _ _ _ _ a' wq.drew) _ _
          repeat still_step
          still_call (rotR' y 11 11 rfl wq.drew (by decide) hyw)
          repeat still_step
          refine wpStill_nil ?_
          go_wp2_with fail
          go_roundw
          case rel => exact ⟨i + 1, by omega, by go_num, hXW, hXR, hXb.drew⟩
          case measure => simp [intOf] <;> omega
        · obtain rfl : i = 16 := by omega
          go_wp2_with fail
          go_roundw
          case rel => exact ⟨r + 1, by omega, by go_num, hWi, hRi, hbi⟩
          case measure => simp [intOf] <;> omega
    · obtain rfl : r = 8 := by omega
      obtain ⟨X, HX⟩ : ∃ X, Hid (X = roundTo V 8) := ⟨_, rfl⟩
      have HXL : Hid (X.length = 16) := by show X.length = 16; rw [HX.out, roundTo_length, HVL.out]
      have hWv : BlkV 123 wr g3 (X.map (Value.int .u32)) := by rw [HX.out]; exact BlkI.v hW
      clear hW
      go_wp2_with (first | (refine wl_load rfl 123 _ rfl ⟨g3, 0, none⟩ rfl (X.map (Value.int .u32)) (by rw [List.length_map, HXL.out]; exact agg16) hWv.at0 ?_))
      refine (stateOf X _ HXL.out).mono ?_
      rintro e w5 ⟨rfl, hb5⟩
      obtain ⟨R, HR⟩ : ∃ R, Hid (R = (octL X 64).map (Value.int .u8)) := ⟨_, rfl⟩
      have HRL : Hid (R.length = 64) := by show R.length = 64; rw [HR.out, List.length_map, octL_length]
      have hR1 : ∀ u ∈ R, u.oneCell' = true := by rw [HR.out]; exact ints_one _ _
      have hR5 := hR.below hb5 hR.lt
      have hbb := hb.trans (hb5.mono hb.size)
      rw [← HR.out]
      go_wp2_with (first | (refine wl_storeAll rfl 111 _ _ rfl 111 (w.heap.size + 1) rfl R rfl 64 agg64 HRL.out Y hR5 HYL.out hR1 ?_; intro hRR))
      (try simp only [Exit.inBlock, Exit.then]); refine bodyPost_ret (results_cell rfl _ _ _ _ rfl R (by rw [HRL.out]; exact agg64) hRR.at0) rfl ?_
      exact ⟨by rw [HR.out, HX.out, HV.out]; rfl, below_setRow' hbb (by omega) _⟩
end Go.Proofs.Ytbjmadcbhkeenaa.st
