/-
  Contracts of keyref2.SecretOf and Lies. Conditions: good shares of the type's form, 64 at most; a share at a place from 0 to 256.
-/
import Derived.Test.YtbljihhelladbaaShN
namespace Go.Proofs.Ytbljihhelladbaa.shr
set_option linter.unusedVariables false
open Go.RowKit Go.Proofs.Ytbljihhelladbaa.sh Go.Proofs.Ytbljihhelladbaa.Fld
set_option linter.unusedSimpArgs false
set_option pp.maxSteps 6000

set_option maxRecDepth 100000 in
theorem SecretOf_any (ao : Option Addr) (cap n : Nat) (l : List Sh) (w : World) (hn' : n = l.length) (hr : RowS w ao l) (hok : ∀ s ∈ l, s.Ok) (hg : Good l) (hn : l.length ≤ 64) :
    Calls Try.prog 35 #[.slice ao n cap] w fun e w' => e = .returned (.tuple #[.agg ((secretOf l).map (Value.int .u8)).toArray, .bool (!faultAt0 l)]) ∧ Below w.heap.size w w' := by
  subst hn'
  have HOK := hid hok
  clear hok
  obtain ⟨Z, HZ⟩ : ∃ Z, Hid (Z = zero32) := ⟨_, rfl⟩
  have HZ0 := hid zeroKey
  rw [← HZ.out] at HZ0
  have HZL : Hid (Z.length = 32) := by rw [HZ.out]; rfl
  have hbu : (Try.prog.built 23 []) = some Z.toArray := by rw [HZ.out]; kernel_rfl
  have HBU := hid hbu
  clear hbu
  go_enter Try.func35, Try.ntmps35
  go_wp2_with (first | (refine wl_alloc rfl 23 rfl Z HZ0.out ?_))
  have hA0 : BlkV 23 ((w.alloc (.cells Z.toArray 23)).alloc (.cells Z.toArray 23)) w.heap.size Z := (BlkV.new _ _ Z (by simp)).alloc _
  have hB0 : BlkV 23 ((w.alloc (.cells Z.toArray 23)).alloc (.cells Z.toArray 23)) (w.heap.size + 1) Z := BlkV.new _ _ Z (by simp)
  have hb0 : Below w.heap.size w ((w.alloc (.cells Z.toArray 23)).alloc (.cells Z.toArray 23)) := ((Below.refl _ _).alloc (Nat.le_refl _) _).alloc (by simp) _
  go_loopw [9] (fun i wr => ∃ k : Nat, k ≤ 32 ∧ i = .int .i64 k ∧ Hid (∀ o, o < k → valAt l o 0 ≠ 256) ∧ BlkV 23 wr w.heap.size Z ∧ BlkI .u8 23 wr (w.heap.size + 1) (st.fillTo (fun o => valAt l o 0) 32 k) ∧ Below w.heap.size w wr) (fun i _ => 32 - (intOf i).toNat)
  case atStart => exact ⟨0, by omega, rfl, fun o ho => absurd ho (Nat.not_lt_zero o), hA0, by rw [st.fillTo_zero]; show BlkV _ _ _ zero32; rw [← HZ.out]; exact hB0, hb0⟩
  case round =>
    obtain ⟨k, hk, rfl, HN, hR, hC, hbl⟩ := hrel
    clear hA0 hB0 hb0
    by_cases h0 : k < 32
    · obtain ⟨V, HV⟩ : ∃ V, Hid (V = valAt l k 0) := ⟨_, rfl⟩
      have hVr : 0 ≤ V ∧ V ≤ 256 := by rw [HV.out]; exact valAt_range ..
      have hkI : (k : Int) < 32 := by omega
      have hkI0 : (0 : Int) ≤ (k : Int) := by omega
      have hrw := hr.below hbl
      go_wp2_with fail
      refine (places_any _ _ _ l k wr rfl hrw HOK.out (by omega) h0).mono ?_
      rintro e w1 ⟨ax, cx, ay, cy, rfl, hcx, hcy, hX, hY, _, hb1⟩
      go_wp2_with fail
      refine (At_any ax ay cx cy l.length (xsOf l) (ysOf l k) 0 w1 (xsOf_length l).symm (row_of_owns hX) (row_of_owns hY) (by rw [ysOf_length, xsOf_length]) hg.rx (hg.ry k) ⟨by decide, by decide⟩ (by rw [xsOf_length]; omega)).mono ?_
      rw [show atR (xsOf l) (ysOf l k) 0 = V from HV.out.symm]
      rintro e w2 ⟨rfl, hb2⟩
      have hb12 : Below wr.heap.size wr w2 := hb1.trans (hb2.mono hb1.size)
      have hR2 := hR.below hb12 hR.lt
      have hC2 : BlkI .u8 23 w2 (w.heap.size + 1) (st.fillTo (fun o => valAt l o 0) 32 k) := hC.below hb12 hC.lt
      have hbl2 := hbl.trans (hb12.mono hbl.size)
      have hcell := hC2.cell (i := k) (by rw [st.fillTo_length _ _ _ hk]; exact h0)
      have hfz := hC2.frozen k
      by_cases h1 : V = 256
      · have H1 := hid h1
        have h1' : (255 : Int) < V := by omega
        have hfa := hid (fault0_of l k h0 (by rw [← HV.out]; exact h1))
        clear h1
        go_wp2_with (first | (refine wl_build0 rfl 23 rfl Z HBU.out ?_) | (refine wl_storeV rfl 23 _ _ rfl 23 w.heap.size rfl Z rfl 32 aggKey HZL.out Z hR2 HZL.out (by rw [HZ.out]; exact ints_one _ _) ?_; intro wS hS hbS hsS))
        (try simp only [Exit.inBlock, Exit.then]); refine bodyPost_ret (results_cell2 rfl _ _ _ _ rfl Z (by rw [HZL.out]; exact aggKey) hS.at0) rfl ?_
        refine ⟨rv ?_, hbl2.trans hbS⟩
        unfold secretOf
        rw [if_pos hfa.out, hfa.out, HZ.out]
        rfl
      · have H1 := hid h1
        have h1' : V ≤ (255 : Int) := by omega
        have hVw : IntKind.u8.wrap V = V := IntKind.wrap_u8' V ▸ by omega
        clear h1
        go_wp2
        go_roundw
        case rel => exact ⟨k + 1, by omega, by go_num, fun o ho => by
          by_cases e : o = k
          · rw [e, ← HV.out]; exact H1.out
          · exact HN.out o (by omega), hR2.other (by simp) _, by rw [← st.fillTo_set _ _ _ h0, ← HV.out]; exact hC2.set k V, hbl2.setCell (by simp) _⟩
        case measure => simp [intOf] <;> omega
    · obtain rfl : k = 32 := by omega
      rw [st.fillTo_all] at hC
      have hfa := hid (fault0_not l HN.out)
      obtain ⟨R, HR⟩ : ∃ R, Hid (R = ((List.range 32).map fun o => valAt l o 0).map (Value.int .u8)) := ⟨_, rfl⟩
      have hCv : BlkV 23 wr (w.heap.size + 1) R := by rw [HR.out]; exact BlkI.v hC
      have HRL : Hid (R.length = 32) := by show _ = _; rw [HR.out]; simp
      have hR1 : ∀ u ∈ R, u.oneCell' = true := by rw [HR.out]; exact ints_one _ _
      clear hC
      go_wp2_with (first | (refine wl_loadG (by rfl) 23 _ rfl ⟨w.heap.size + 1, 0, none⟩ rfl 32 R HRL.out aggKey hCv.at0 ?_) | (refine wl_storeV rfl 23 _ _ rfl 23 w.heap.size rfl R rfl 32 aggKey HRL.out Z hR HZL.out hR1 ?_; intro wS hS hbS hsS))
      (try simp only [Exit.inBlock, Exit.then]); refine bodyPost_ret (results_cell2 rfl _ _ _ _ rfl R (by rw [HRL.out]; exact aggKey) hS.at0) rfl ?_
      refine ⟨rv ?_, hbl.trans hbS⟩
      unfold secretOf
      rw [if_neg (by rw [hfa.out]; decide), hfa.out, HR.out]
      rfl

set_option maxRecDepth 100000 in
theorem Lies_any (ao : Option Addr) (cap n : Nat) (l : List Sh) (s : Sh) (w : World) (hn' : n = l.length) (hr : RowS w ao l) (hok : ∀ s ∈ l, s.Ok) (hg : Good l) (hn : l.length ≤ 64) (hs : s.Ok) (hx : 0 ≤ s.x ∧ s.x ≤ 256) :
    Calls Try.prog 36 #[.slice ao n cap, .agg s.cs.toArray] w fun e w' => e = .returned (.bool (liesB l s)) ∧ Below w.heap.size w w' := by
  subst hn'
  have HOK := hid hok
  clear hok
  have HSL : Hid (s.cs.length = 49) := hs.csl
  have hS0 : BlkV 61 (w.alloc (.cells s.cs.toArray 61)) w.heap.size s.cs := BlkV.new _ _ _ rfl
  have hb0 : Below w.heap.size w (w.alloc (.cells s.cs.toArray 61)) := (Below.refl _ _).alloc (Nat.le_refl _) _
  go_enter Try.func36, Try.ntmps36
  go_wp2
  go_loopw [8] (fun i wr => ∃ k : Nat, k ≤ 32 ∧ i = .int .i64 k ∧ Hid (liesTo l s k = true) ∧ BlkV 61 wr w.heap.size s.cs ∧ Below w.heap.size w wr) (fun i _ => 32 - (intOf i).toNat)
  case atStart => exact ⟨0, by omega, rfl, rfl, hS0, hb0⟩
  case round =>
    obtain ⟨k, hk, rfl, HN, hS, hbl⟩ := hrel
    clear hS0 hb0
    by_cases h0 : k < 32
    · obtain ⟨V, HV⟩ : ∃ V, Hid (V = valAt l k s.x) := ⟨_, rfl⟩
      have hVr : 0 ≤ V ∧ V ≤ 256 := by rw [HV.out]; exact valAt_range ..
      obtain ⟨yv, HYV⟩ : ∃ c, Hid (c = s.y.getD k 0) := ⟨_, rfl⟩
      have hybd : 0 ≤ yv ∧ yv ≤ 65535 := by rw [HYV.out, getD_lt' s.y 0 (by rw [hs.yl]; exact h0)]; exact hs.yb _ (List.getElem_mem _)
      have hkI : (k : Int) < 32 := by omega
      have hkI0 : (0 : Int) ≤ (k : Int) := by omega
      have HLT := hid (liesTo_succ l s k)
      rw [HN.out, ← HV.out, ← HYV.out] at HLT
      have hrw := hr.below hbl
      go_wp2_with fail
      refine (places_any _ _ _ l k wr rfl hrw HOK.out (by omega) h0).mono ?_
      rintro e w1 ⟨ax, cx, ay, cy, rfl, hcx, hcy, hX, hY, _, hb1⟩
      have hS1 := hS.below hb1 hS.lt
      have cX := (hS1.cell 16).trans (cs_x s hs)
      have cY : w1.cell? ⟨w.heap.size, 17 + k, none⟩ = some (.int .u16 yv) := by rw [HYV.out]; exact (hS1.cell (17 + k)).trans (cs_yi s hs k h0)
      have hbl1 := hbl.trans (hb1.mono hbl.size)
      go_wp2_with fail
      go_quiet ((go_at_call 106; exact At_q ax ay cx cy l.length (xsOf l) (ysOf l k) s.x V w1 _ (xsOf_length l).symm (row_of_owns hX) (row_of_owns hY) (by rw [ysOf_length, xsOf_length]) hg.rx (hg.ry k) hx (by rw [xsOf_length]; omega) HV.out.symm))
      by_cases h1 : V = yv
      · have H1 := hid h1
        have h1' : (V != yv) = false := by simp [h1]
        clear h1
        go_wp2
        go_roundw
        case rel => exact ⟨k + 1, by omega, by go_num, by show _ = _; rw [HLT.out, H1.out]; simp, hS1.drewN _, bdN hbl1 _⟩
        case measure => simp [intOf] <;> omega
      · have H1 := hid h1
        have h1' : (V != yv) = true := by simp [h1]
        have hf := hid (liesB_false l s k h0 (by rw [← HV.out, ← HYV.out]; exact h1))
        clear h1
        go_wp2
        go_ret
        exact ⟨rv (rb hf.out.symm), bdN hbl1 _⟩
    · obtain rfl : k = 32 := by omega
      go_wp2
      go_ret
      exact ⟨rv (rb HN.out.symm), hbl⟩
end Go.Proofs.Ytbljihhelladbaa.shr
