/-
  Contracts of share.said and share.lies. Conditions: the polynomials through good shares; a share of the type's form at a place from 0 to 256.
-/
import Derived.Test.YtbljihhelladbaaShM
namespace Go.Proofs.Ytbljihhelladbaa.shr
set_option linter.unusedVariables false
open Go.RowKit Go.Proofs.Ytbljihhelladbaa.sh Go.Proofs.Ytbljihhelladbaa.Fld
set_option linter.unusedSimpArgs false
set_option pp.maxSteps 6000

theorem run_indexS {P : Program} (w : World) (t e e2 : TypeId) (n : Nat) (ht : P.underlying t = some (.array n e)) (he : P.underlying e = some (.slice e2)) (hs : (P.info? e).map (·.size) = some 1) (cs : List Value) (i : Nat) (hi : i < n) (v : Value) (hv : cs[i]? = some v) :
    (Instr.index t (.agg cs.toArray) (.int .i64 i)).run P w = .ok v w := by
  obtain ⟨f, hf, hf2⟩ := Option.map_eq_some_iff.1 hs
  simp [Instr.index, asIntOf, run_underlying ht, sizeOf, typeInfo, hf, hf2, Result.andThen, part, isAgg, run_underlying he, hi, hv]
theorem sizeSl : (Try.prog.info? 26).map (·.size) = some 1 := by kernel_rfl
theorem aggKey : Agg Try.prog 23 32 := Agg.arr Try.underlying23 (by kernel_rfl)
def zero32 : List Value := (List.replicate 32 0).map (Value.int .u8)
theorem zeroKey : (Try.prog.info? 23).map (·.zero) = some (some (.agg zero32.toArray)) := by kernel_rfl

theorem value_q {n : Nat} (ao : Option Addr) (cap : Nat) (l : List Int) (x : Int) (w : World) (hn : n = l.length) (hr : RowI .i64 w ao l) (hl : Rng l) (hx : 0 ≤ x ∧ x ≤ 256) (hs : n ≤ 4611686018427387904) (V : Int) (hV : ev l x % 257 = V) :
    Calls Try.prog 92 #[.slice ao n cap, .int .i64 x] w fun e w' => e = .returned (.int .i64 V) ∧ w' = w := by
  subst hV
  exact value_n ao cap l x w hn hr hl hx hs

set_option maxRecDepth 100000 in
theorem said_any (ps : List Value) (l : List Sh) (w : World) (hP : PolysAt w l ps) (hg : Good l) (hn : l.length ≤ 64) :
    Calls Try.prog 99 #[.agg ps.toArray] w fun e w' => e = .returned (.tuple #[.agg ((secretOf l).map (Value.int .u8)).toArray, .int .i64 (secretE l)]) ∧ Below w.heap.size w w' := by
  have hPL := hid hP.len
  have hp1 := hP.one
  obtain ⟨Z, HZ⟩ : ∃ Z, Hid (Z = zero32) := ⟨_, rfl⟩
  have HZ0 := hid zeroKey
  rw [← HZ.out] at HZ0
  have HZL : Hid (Z.length = 32) := by rw [HZ.out]; rfl
  have hbu : (Try.prog.built 23 []) = some Z.toArray := by rw [HZ.out]; kernel_rfl
  have HBU := hid hbu
  clear hbu
  go_enter Try.func99, Try.ntmps99
  go_wp2_with (first | (refine wl_alloc rfl 23 rfl Z HZ0.out ?_) | (refine wl_loadG (by rfl) 139 _ rfl ⟨w.heap.size, 0, none⟩ rfl 32 ps hPL.out aggP ((BlkV.new _ w ps rfl).alloc _ |>.alloc _).at0 ?_))
  have hA0 : BlkV 23 (((w.alloc (.cells ps.toArray 139)).alloc (.cells Z.toArray 23)).alloc (.cells Z.toArray 23)) (w.heap.size + 1) Z := (BlkV.new _ _ Z (by simp)).alloc _
  have hB0 : BlkV 23 (((w.alloc (.cells ps.toArray 139)).alloc (.cells Z.toArray 23)).alloc (.cells Z.toArray 23)) (w.heap.size + 2) Z := BlkV.new _ _ Z (by simp)
  have hb0 : Below w.heap.size w (((w.alloc (.cells ps.toArray 139)).alloc (.cells Z.toArray 23)).alloc (.cells Z.toArray 23)) := (((Below.refl _ _).alloc (Nat.le_refl _) _).alloc (by simp) _).alloc (by simp; omega) _
  go_loopw [9] (fun i wr => ∃ k : Nat, k ≤ 32 ∧ i = .int .i64 k ∧ Hid (∀ o, o < k → valAt l o 0 ≠ 256) ∧ BlkV 23 wr (w.heap.size + 1) Z ∧ BlkI .u8 23 wr (w.heap.size + 2) (st.fillTo (fun o => valAt l o 0) 32 k) ∧ Below w.heap.size w wr) (fun i _ => 32 - (intOf i).toNat)
  case atStart => exact ⟨0, by omega, rfl, fun o ho => absurd ho (Nat.not_lt_zero o), hA0, by rw [st.fillTo_zero]; show BlkV _ _ _ zero32; rw [← HZ.out]; exact hB0, hb0⟩
  case round =>
    obtain ⟨k, hk, rfl, HN, hR, hC, hbl⟩ := hrel
    clear hA0 hB0 hb0
    by_cases h0 : k < 32
    · obtain ⟨pa, hpk, hrow0⟩ := hP.at_ k h0
      have hrow := hrow0.below hbl
      have hIX := fun w => run_indexS (P := Try.prog) w 139 26 3 32 Try.underlying139 Try.underlying26 sizeSl ps k h0 _ hpk
      obtain ⟨V, HV⟩ : ∃ V, Hid (V = valAt l k 0) := ⟨_, rfl⟩
      have hVr : 0 ≤ V ∧ V ≤ 256 := by rw [HV.out]; exact valAt_range ..
      have hev : ev (polyOf l k) 0 % 257 = V := by rw [HV.out]; exact hg.val k 0
      have hkI : (k : Int) < 32 := by omega
      have hkI0 : (0 : Int) ≤ (k : Int) := by omega
      have hpl := (hg.poly_length k).symm
      have hcell := hC.cell (i := k) (by rw [st.fillTo_length _ _ _ hk]; exact h0)
      have hfz := hC.frozen k
      have HEV := hid hev
      have HPL := hid hpl
      have HROW := hid hrow
      clear hpk hrow0 hev hpl hrow
      by_cases h1 : V = 256
      · have H1 := hid h1
        have h1' : (V == 256) = true := by simp [h1]
        have hfa := hid (fault0_of l k h0 (by rw [← HV.out]; exact h1))
        clear h1
        go_wp2_with (first | (go_at_call 92; refine (value_q _ _ _ _ _ HPL.out HROW.out (hg.poly_rng k) ⟨by decide, by decide⟩ (by omega) V HEV.out).mono ?_; rintro e w1 ⟨rfl, rfl⟩) | (refine wl_build0 rfl 23 rfl Z HBU.out ?_) | (refine wl_storeV rfl 23 _ _ rfl 23 (w.heap.size + 1) rfl Z rfl 32 aggKey HZL.out Z hR HZL.out (by rw [HZ.out]; exact ints_one _ _) ?_; intro wS hS hbS hsS))
        (try simp only [Exit.inBlock, Exit.then]); refine bodyPost_ret (results_cell2 rfl _ _ _ _ rfl Z (by rw [HZL.out]; exact aggKey) hS.at0) rfl ?_
        refine ⟨rv ?_, hbl.trans (hbS.mono (by omega))⟩
        unfold secretOf secretE
        rw [if_pos hfa.out, if_pos hfa.out, HZ.out]
        rfl
      · have H1 := hid h1
        have h1' : (V == 256) = false := by simp [h1]
        have hVw : IntKind.u8.wrap V = V := IntKind.wrap_u8' V ▸ by omega
        clear h1
        go_wp2_with (first | (go_at_call 92; refine (value_q _ _ _ _ _ HPL.out HROW.out (hg.poly_rng k) ⟨by decide, by decide⟩ (by omega) V HEV.out).mono ?_; rintro e w1 ⟨rfl, rfl⟩))
        go_roundw
        case rel => exact ⟨k + 1, by omega, by go_num, fun o ho => by
          by_cases e : o = k
          · rw [e, ← HV.out]; exact H1.out
          · exact HN.out o (by omega), hR.other (by simp) _, by rw [← st.fillTo_set _ _ _ h0, ← HV.out]; exact hC.set k V, hbl.setCell (by simp; omega) _⟩
        case measure => simp [intOf] <;> omega
    · obtain rfl : k = 32 := by omega
      rw [st.fillTo_all] at hC
      have hfa := hid (fault0_not l HN.out)
      obtain ⟨R, HR⟩ : ∃ R, Hid (R = ((List.range 32).map fun o => valAt l o 0).map (Value.int .u8)) := ⟨_, rfl⟩
      have hCv : BlkV 23 wr (w.heap.size + 2) R := by rw [HR.out]; exact BlkI.v hC
      have HRL : Hid (R.length = 32) := by show _ = _; rw [HR.out]; simp
      have hR1 : ∀ u ∈ R, u.oneCell' = true := by rw [HR.out]; exact ints_one _ _
      clear hC
      go_wp2_with (first | (refine wl_loadG (by rfl) 23 _ rfl ⟨w.heap.size + 2, 0, none⟩ rfl 32 R HRL.out aggKey hCv.at0 ?_) | (refine wl_storeV rfl 23 _ _ rfl 23 (w.heap.size + 1) rfl R rfl 32 aggKey HRL.out Z hR HZL.out hR1 ?_; intro wS hS hbS hsS))
      (try simp only [Exit.inBlock, Exit.then]); refine bodyPost_ret (results_cell2 rfl _ _ _ _ rfl R (by rw [HRL.out]; exact aggKey) hS.at0) rfl ?_
      refine ⟨rv ?_, hbl.trans (hbS.mono (by omega))⟩
      unfold secretOf secretE
      rw [if_neg (by rw [hfa.out]; decide), if_neg (by rw [hfa.out]; decide), HR.out]
      rfl

set_option maxRecDepth 100000 in
theorem lies_any (ps : List Value) (l : List Sh) (s : Sh) (w : World) (hP : PolysAt w l ps) (hg : Good l) (hn : l.length ≤ 64) (hs : s.Ok) (hx : 0 ≤ s.x ∧ s.x ≤ 256) :
    Calls Try.prog 102 #[.agg ps.toArray, .agg s.cs.toArray] w fun e w' => e = .returned (.bool (liesB l s)) ∧ Below w.heap.size w w' := by
  have hPL := hid hP.len
  have HSL : Hid (s.cs.length = 49) := hs.csl
  have hS0 : BlkV 61 ((w.alloc (.cells ps.toArray 139)).alloc (.cells s.cs.toArray 61)) (w.heap.size + 1) s.cs := BlkV.new _ _ _ (by simp)
  have hb0 : Below w.heap.size w ((w.alloc (.cells ps.toArray 139)).alloc (.cells s.cs.toArray 61)) := ((Below.refl _ _).alloc (Nat.le_refl _) _).alloc (by simp) _
  go_enter Try.func102, Try.ntmps102
  go_wp2_with (first | (refine wl_loadG (by rfl) 139 _ rfl ⟨w.heap.size, 0, none⟩ rfl 32 ps hPL.out aggP ((BlkV.new _ w ps rfl).alloc _).at0 ?_))
  go_loopw [8] (fun i wr => ∃ k : Nat, k ≤ 32 ∧ i = .int .i64 k ∧ Hid (liesTo l s k = true) ∧ BlkV 61 wr (w.heap.size + 1) s.cs ∧ Below w.heap.size w wr) (fun i _ => 32 - (intOf i).toNat)
  case atStart => exact ⟨0, by omega, rfl, rfl, hS0, hb0⟩
  case round =>
    obtain ⟨k, hk, rfl, HN, hS, hbl⟩ := hrel
    clear hS0 hb0
    by_cases h0 : k < 32
    · obtain ⟨pa, hpk, hrow0⟩ := hP.at_ k h0
      have hrow := hrow0.below hbl
      have hIX := fun w => run_indexS (P := Try.prog) w 139 26 3 32 Try.underlying139 Try.underlying26 sizeSl ps k h0 _ hpk
      obtain ⟨V, HV⟩ : ∃ V, Hid (V = valAt l k s.x) := ⟨_, rfl⟩
      have hVr : 0 ≤ V ∧ V ≤ 256 := by rw [HV.out]; exact valAt_range ..
      have hev : ev (polyOf l k) s.x % 257 = V := by rw [HV.out]; exact hg.val k s.x
      obtain ⟨yv, HYV⟩ : ∃ c, Hid (c = s.y.getD k 0) := ⟨_, rfl⟩
      have hybd : 0 ≤ yv ∧ yv ≤ 65535 := by rw [HYV.out, getD_lt' s.y 0 (by rw [hs.yl]; exact h0)]; exact hs.yb _ (List.getElem_mem _)
      have hkI : (k : Int) < 32 := by omega
      have hkI0 : (0 : Int) ≤ (k : Int) := by omega
      have hpl := (hg.poly_length k).symm
      have cX := (hS.cell 16).trans (cs_x s hs)
      have cY : wr.cell? ⟨w.heap.size + 1, 17 + k, none⟩ = some (.int .u16 yv) := by rw [HYV.out]; exact (hS.cell (17 + k)).trans (cs_yi s hs k h0)
      have HEV := hid hev
      have HPL := hid hpl
      have HROW := hid hrow
      have HLT := hid (liesTo_succ l s k)
      rw [HN.out, ← HV.out, ← HYV.out] at HLT
      clear hpk hrow0 hev hpl hrow
      go_wp2_with fail
      go_quiet ((go_at_call 92; exact Calls.quiet_of_same (value_q _ _ _ _ _ HPL.out (HROW.out.drewN _) (hg.poly_rng k) hx (by omega) V HEV.out)))
      by_cases h1 : V = yv
      · have H1 := hid h1
        have h1' : (V != yv) = false := by simp [h1]
        clear h1
        go_wp2
        go_roundw
        case rel => exact ⟨k + 1, by omega, by go_num, by show _ = _; rw [HLT.out, H1.out]; simp, hS.drewN _, bdN hbl _⟩
        case measure => simp [intOf] <;> omega
      · have H1 := hid h1
        have h1' : (V != yv) = true := by simp [h1]
        have hf := hid (liesB_false l s k h0 (by rw [← HV.out, ← HYV.out]; exact h1))
        clear h1
        go_wp2
        go_ret
        exact ⟨rv (rb hf.out.symm), bdN hbl _⟩
    · obtain rfl : k = 32 := by omega
      go_wp2
      go_ret
      exact ⟨rv (rb HN.out.symm), hbl⟩
end Go.Proofs.Ytbljihhelladbaa.shr
