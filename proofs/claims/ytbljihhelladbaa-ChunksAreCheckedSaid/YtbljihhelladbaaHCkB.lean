/-
  Contracts of tree.Leaf and tree.Node: sums. Conditions: sums of 32 octets, a text of octets. Reading operations of a region that draws its order, in short words. Conditions: what each names.
-/
import Derived.Test.YtbljihhelladbaaHMem
import Derived.Test.YtbljihhelladbaaHWrH
import Derived.Test.YtbljihhelladbaaHMkZ
import Derived.Test.YtbljihhelladbaaHMkX
namespace Go.Proofs.Ytbljihhelladbaa.ck
open Go.RowKit Go.Proofs.Ytbljihhelladbaa.st Go.Proofs.Ytbljihhelladbaa.hs Go.Proofs.Ytbljihhelladbaa.shr Go.Proofs.Ytbljihhelladbaa.sh Go.Proofs.Ytbljihhelladbaa.wr
set_option linter.unusedSimpArgs false
set_option linter.unusedVariables false
set_option pp.maxSteps 6000
def nodeL (a b : List Int) : List Int := sumL 2 (a ++ b)
theorem nodeL_length (a b : List Int) : (nodeL a b).length = 32 := sumL_length _ _
theorem nodeL_octs (a b : List Int) : Octs (nodeL a b) := sumL_octs _ _
theorem oct1 : Oct 1 := ⟨by decide, by decide⟩
theorem oct2 : Oct 2 := ⟨by decide, by decide⟩
theorem grown_row (w : World) (g : Nat) (cs : Array Value) : w.grownBy (w.setRow g cs) (some g) :=
  ⟨rfl, rfl, rfl, by simp, fun i _ hi => setRow_other w g i cs (fun e => hi (by rw [e]))⟩
/-- a whole store in a region that draws its order: other blocks stay -/
theorem step_storeG {P : Program} {ops : Array Oper} {o : Oper} {a : Act} {w : World} {K : Act → World → Prop} {Q : Exit → Act → World → Prop} {E : Prop} (hgd : o.guard = none) (ty : TypeId) (x y : Operand) (ho : o.op = .store ty x y)
    (t : TypeId) (g : Nat) (hx : a.eval x = .pointer (some ⟨g, 0, none⟩)) (cs : List Value) (hy : a.eval y = .agg cs.toArray) (n : Nat) (hi : Agg P ty n) (hn : cs.length = n) (cur : List Value) (hg : BlkV t w g cur) (hc : cur.length = n) (h1 : ∀ u ∈ cs, u.oneCell' = true)
    (h : ∀ w', BlkV t w' g cs → Below g w w' → w.grownBy w' (some g) → w'.heap.size = w.heap.size → K (a.put o.dst undef) w') : if Region.wanted o (yielded ops a.tmps) = true then Oper.wp P o a w K Q else E := by
  have hw : Region.wanted o (yielded ops a.tmps) = true := by simp [Region.wanted, hgd]
  rw [if_pos hw]
  have hrun := run_store_agg (P := P) w ty t g 0 cur cs (by rw [hi.2, hn]) hg (by omega) h1
  rw [List.take_zero, List.nil_append, Nat.zero_add, List.drop_eq_nil_of_le (by omega), List.append_nil] at hrun
  unfold Oper.wp
  simp [execOp, ho, hx, hy, Instr.storeAt, Instr.sureAddr, hrun, Result.andThen]
  exact h _ (hg.setRow cs) (below_setRow' (Below.refl _ _) (Nat.le_refl _) _) (grown_row _ _ _) (by simp)
theorem infoBB : Info Try.prog 69 (.slice none 0 0) 1 24 := by unfold Info; kernel_rfl
set_option maxRecDepth 100000 in
set_option maxHeartbeats 4000000 in
theorem Node_any (a b : List Int) (ha : a.length = 32) (hb : b.length = 32) (oa : Octs a) (ob : Octs b) (w : World) :
    Calls Try.prog 206 #[.agg (a.map (Value.int .u8)).toArray, .agg (b.map (Value.int .u8)).toArray] w fun e w' => e = .returned (.agg ((nodeL a b).map (Value.int .u8)).toArray) ∧ Below w.heap.size w w' := by
  obtain ⟨B, HB⟩ : ∃ B, Hid (B = w.heap.size) := ⟨_, rfl⟩
  have hsz : w.heap.size = B := HB.out.symm
  obtain ⟨Z, HZ⟩ : ∃ Z, Hid (Z = zSum) := ⟨_, rfl⟩
  have hz := hid zeroSumZ
  rw [← HZ.out] at hz
  have hZl : Z.length = 32 := by rw [HZ.out]; simp [zSum]
  obtain ⟨L, HL⟩ : ∃ L, Hid (L = a.map (Value.int .u8)) := ⟨_, rfl⟩
  have hLl : L.length = 32 * 1 := by rw [HL.out, List.length_map, ha]
  have hL1 : ∀ u ∈ L, u.oneCell' = true := by rw [HL.out]; exact ints_one _ _
  obtain ⟨M, HM⟩ : ∃ L, Hid (L = b.map (Value.int .u8)) := ⟨_, rfl⟩
  have hMl : M.length = 32 * 1 := by rw [HM.out, List.length_map, hb]
  have hM1 : ∀ u ∈ M, u.oneCell' = true := by rw [HM.out]; exact ints_one _ _
  obtain ⟨AB, HAB⟩ : ∃ L, Hid (L = a ++ b) := ⟨_, rfl⟩
  have hABl : AB.length = 32 + 32 := by rw [HAB.out, List.length_append, ha, hb]
  have hABo : Octs AB := by rw [HAB.out]; exact octs_app oa ob
  have hLM : Hid (AB.map (Value.int .u8) = L ++ M) := hid (by rw [HAB.out, HL.out, HM.out, List.map_append])
  have hsum := fun w ao cap (HP : Pt.Ok w ⟨ao, cap, AB⟩) => hid (sumOf_in 2 oct2 ao cap (32 + 32) AB w hABl.symm HP (by decide))
  obtain ⟨S, HS⟩ : ∃ S, Hid (S = (nodeL a b).map (Value.int .u8)) := ⟨_, rfl⟩
  have hSl : S.length = 32 := by rw [HS.out, List.length_map]; exact nodeL_length _ _
  have hS1 : ∀ u ∈ S, u.oneCell' = true := by rw [HS.out]; exact ints_one _ _
  have HS2 : (sumL 2 AB).map (Value.int .u8) = S := by rw [HS.out, HAB.out]; rfl
  simp only [HS2] at hsum
  rw [← HL.out, ← HM.out, ← HS.out]
  have hal : Try.prog.arrayLen 73 = 32 := by kernel_rfl
  clear HS2 ha hb oa ob
  go_enter Try.func206, Try.ntmps206
  go_wp2_with (first | (refine wl_boxV rfl 73 _ rfl L rfl B hsz ?_; intro wa hAa hba hsa) | (refine wl_boxV rfl 73 _ rfl M rfl (B + 1) hsa ?_; intro wb hCb hbb hsb; have hAb := hAa.below hbb (by omega); have bbb := hba.trans (hbb.mono (by omega : B ≤ _))) | (refine wl_allocV rfl 73 rfl Z hz.out (B + 2) hsb ?_; intro wc hRc hbc hsc; have hAc := hAb.below hbc (by omega); have hCc := hCb.below hbc (by omega); have bbc := bbb.trans (hbc.mono (by omega : B ≤ _)); clear hAa hba hCb hbb hAb bbb hbc))
  refine wp_region_held_drew (S := (fun _ => True)) (by kernel_rfl) trivial (fun hHeld => ?_)
  obtain ⟨x0, HX0⟩ : ∃ x, Hid (x = wc.drew) := ⟨_, rfl⟩
  rw [← HX0.out]
  have hA0 : BlkV 73 x0 B L := by rw [HX0.out]; exact hAc
  have hC0 : BlkV 73 x0 (B + 1) M := by rw [HX0.out]; exact hCc
  have hR0 : BlkV 73 x0 (B + 2) Z := by rw [HX0.out]; exact hRc
  have bb0 : Below B w x0 := by rw [HX0.out]; exact bbc.drew
  have hsx0 : x0.heap.size = B + 3 := by rw [HX0.out]; exact hsc
  clear hAc hCc hRc bbc hsc
  refine take_l (i := 0) (v := ?rv1) rfl (by kernel_rfl) (by kernel_rfl) (by kernel_rfl) (fun _ _ _ h => h) (Or.inl ⟨by rfl, ?rhy1⟩) (by assumption) ?rrest1
  case rhy1 => (intro w hSw; (try dsimp only at hSw); go_simp; (try with_reducible rfl))
  try simp only [Act.put, List.setIfInBounds_toArray, List.set_cons_zero, List.set_cons_succ]
  refine take_l (i := 1) (v := ?rv2) rfl (by kernel_rfl) (by kernel_rfl) (by kernel_rfl) (fun _ _ _ h => h) (Or.inl ⟨by rfl, ?rhy2⟩) (by assumption) ?rrest2
  case rhy2 => (intro w hSw; (try dsimp only at hSw); go_simp; (try with_reducible rfl))
  try simp only [Act.put, List.setIfInBounds_toArray, List.set_cons_zero, List.set_cons_succ]
  refine wpAnyH_ready (rs := [2, 8]) (by kernel_rfl) (by simp) (cons_l rfl (fun K' hK' => ?_) (cons_l rfl (fun K' hK' => ?_) AllReadyH.nil))
  · refine step_lit rfl 82 69 2 _ rfl Try.underlying82 (.slice none 0 0) 1 24 infoBB (by decide) (by decide) [.slice (some ⟨B, 0, none⟩) 32 32, .slice (some ⟨B + 1, 0, none⟩) 32 32] (by kernel_rfl) (B + 3) (by omega) ?_
    intro x1 hD1 hbx1 hsx1
    have hA1 := hA0.below hbx1 (by omega)
    have hC1 := hC0.below hbx1 (by omega)
    have hR1 := hR0.below hbx1 (by omega)
    have bb1 := bb0.trans (hbx1.mono (by omega : B ≤ _))
    refine hK'.out _ _ trivial (fun hHeld => ?_)
    clear hK' K'
    try simp only [Act.put, List.setIfInBounds_toArray, List.set_cons_zero, List.set_cons_succ]
    refine wpAnyH_ready (rs := [3, 8]) (by kernel_rfl) (by simp) (cons_l rfl (fun K' hK' => ?_) (cons_l rfl (fun K' hK' => ?_) AllReadyH.nil))
    · rw [if_pos (by rfl)]
      go_simp
      go_at_call 181
      refine (slB.Concat_two ⟨some ⟨B, 0, none⟩, 32, 32, L⟩ ⟨some ⟨B + 1, 0, none⟩, 32, 32, M⟩ (B + 3) x1 hD1 ⟨at_row (by omega) hA1.at0, hLl, hL1, fun h => by cases h⟩ ⟨at_row (by omega) hC1.at0, hMl, hM1, fun h => by cases h⟩ (by dsimp only; omega)).mono ?_
      rintro e x2 ⟨v2, rfl, hM2, hbx2⟩
      obtain ⟨ao, cm, rfl, hcm, _⟩ := hM2.row
      rw [← hLM.out] at hM2
      have hsx2 := hbx2.size
      have hA2 := hA1.below hbx2 (by omega)
      have hC2 := hC1.below hbx2 (by omega)
      have hR2 := hR1.below hbx2 (by omega)
      have bb2 := bb1.trans (hbx2.mono (by omega : B ≤ _))
      refine hK'.out _ _ trivial (fun hHeld => ?_)
      clear hK' K'
      try simp only [Act.put, List.setIfInBounds_toArray, List.set_cons_zero, List.set_cons_succ]
      refine wpAnyH_ready (rs := [4, 8]) (by kernel_rfl) (by simp) (cons_l rfl (fun K' hK' => ?_) (cons_l rfl (fun K' hK' => ?_) AllReadyH.nil))
      · rw [if_pos (by rfl)]
        go_simp
        go_at_call 113
        refine (hsum x2 ao cm (mine_pt hM2 hABl.symm (by dsimp only; omega) hABo).1).out.mono ?_
        rintro e x3 ⟨rfl, hbx3⟩
        have hsx3 := hbx3.size
        have hA3 := hA2.below hbx3 (by omega)
        have hC3 := hC2.below hbx3 (by omega)
        have hR3 := hR2.below hbx3 (by omega)
        have bb3 := bb2.trans (hbx3.mono (by omega : B ≤ _))
        refine hK'.out _ _ trivial (fun hHeld => ?_)
        clear hK' K'
        try simp only [Act.put, List.setIfInBounds_toArray, List.set_cons_zero, List.set_cons_succ]
        refine take_l (i := 5) (v := ?rv3) rfl (by kernel_rfl) (by kernel_rfl) (by kernel_rfl) (fun _ _ _ h => h) (Or.inl ⟨by rfl, ?rhy3⟩) (by assumption) ?rrest3
        case rhy3 => (intro w hSw; (try dsimp only at hSw); go_simp; (try with_reducible rfl))
        try simp only [Act.put, List.setIfInBounds_toArray, List.set_cons_zero, List.set_cons_succ]
        refine take_l (i := 6) (v := ?rv4) rfl (by kernel_rfl) (by kernel_rfl) (by kernel_rfl) (fun _ _ _ h => h) (Or.inl ⟨by rfl, ?rhy4⟩) (by assumption) ?rrest4
        case rhy4 => (intro w hSw; (try dsimp only at hSw); go_simp; (try with_reducible rfl))
        try simp only [Act.put, List.setIfInBounds_toArray, List.set_cons_zero, List.set_cons_succ]
        refine take_l (i := 7) (v := ?rv5) rfl (by kernel_rfl) (by kernel_rfl) (by kernel_rfl) (fun _ _ _ h => h) (Or.inl ⟨by rfl, ?rhy5⟩) (by assumption) ?rrest5
        case rhy5 => (intro w hSw; (try dsimp only at hSw); go_simp; (try with_reducible rfl))
        try simp only [Act.put, List.setIfInBounds_toArray, List.set_cons_zero, List.set_cons_succ]
        refine wpAnyH_ready (rs := [8]) (by kernel_rfl) (by simp) (cons_l rfl (fun K' hK' => ?_) AllReadyH.nil)
        refine step_allocV rfl 73 rfl Z hz.out (x3.heap.size) (by rfl) ?_
        intro x4 hT4 hbx4 hsx4
        have hA4 := hA3.below hbx4 (by omega)
        have hC4 := hC3.below hbx4 (by omega)
        have hR4 := hR3.below hbx4 (by omega)
        have bb4 := bb3.trans (hbx4.mono (by omega : B ≤ _))
        refine hK'.out _ _ trivial (fun hHeld => ?_)
        clear hK' K'
        try simp only [Act.put, List.setIfInBounds_toArray, List.set_cons_zero, List.set_cons_succ]
        refine wpAnyH_ready (rs := [9]) (by kernel_rfl) (by simp) (cons_l rfl (fun K' hK' => ?_) AllReadyH.nil)
        refine step_storeV rfl 73 _ _ rfl 73 (x3.heap.size) rfl S rfl 32 aggSumT hSl Z hT4 hZl hS1 ?_
        intro x5 hT5 hbx5 hsx5
        have hgT : B + 3 ≤ x3.heap.size := by omega
        have hR5 := hR4.below hbx5 (by omega)
        have bb5 := bb4.trans (hbx5.mono (by omega : B ≤ _))
        refine hK'.out _ _ trivial (fun hHeld => ?_)
        clear hK' K'
        try simp only [Act.put, List.setIfInBounds_toArray, List.set_cons_zero, List.set_cons_succ]
        refine take_l (i := 10) (v := ?rv6) rfl (by kernel_rfl) (by kernel_rfl) (by kernel_rfl) (fun _ _ _ h => h) (Or.inl ⟨by rfl, ?rhy6⟩) (by assumption) ?rrest6
        case rhy6 => (intro w hSw; (try dsimp only at hSw); go_simp; (try with_reducible rfl))
        try simp only [Act.put, List.setIfInBounds_toArray, List.set_cons_zero, List.set_cons_succ]
        refine wpAnyH_done (by kernel_rfl) ?_ _
        clear hHeld
        go_wp2_with (first | (refine wl_storeV rfl 73 _ _ rfl 73 (B + 2) rfl S rfl 32 aggSumT hSl Z hR5 hZl hS1 ?_; intro wF hRF hbF hsF) | (refine wl_load rfl 73 _ rfl ⟨x3.heap.size, 0, none⟩ rfl S (by rw [hSl]; exact aggSumT) hT5.at0 ?_))
        (try simp only [Exit.inBlock, Exit.then]); refine bodyPost_ret (results_cell rfl _ _ _ _ rfl S (by rw [hSl]; exact aggSumT) hRF.at0) rfl ?_
        exact ⟨rfl, by first | exact bb5.trans (hbF.mono (by omega)) | (rw [hsz]; exact bb5.trans (hbF.mono (by omega)))⟩
      · refine step_allocV rfl 73 rfl Z hz.out (x2.heap.size) (by rfl) ?_
        intro x3 hT3 hbx3 hsx3
        have hA3 := hA2.below hbx3 (by omega)
        have hC3 := hC2.below hbx3 (by omega)
        have hR3 := hR2.below hbx3 (by omega)
        have bb3 := bb2.trans (hbx3.mono (by omega : B ≤ _))
        have hM3 := Mine.belowAll hM2 (hbx3)
        refine hK'.out _ _ trivial (fun hHeld => ?_)
        clear hK' K'
        try simp only [Act.put, List.setIfInBounds_toArray, List.set_cons_zero, List.set_cons_succ]
        refine wpAnyH_ready (rs := [4]) (by kernel_rfl) (by simp) (cons_l rfl (fun K' hK' => ?_) AllReadyH.nil)
        rw [if_pos (by rfl)]
        go_simp
        go_at_call 113
        refine (hsum x3 ao cm (mine_pt hM3 hABl.symm (by dsimp only; omega) hABo).1).out.mono ?_
        rintro e x4 ⟨rfl, hbx4⟩
        have hsx4 := hbx4.size
        have hA4 := hA3.below hbx4 (by omega)
        have hC4 := hC3.below hbx4 (by omega)
        have hR4 := hR3.below hbx4 (by omega)
        have hT4 := hT3.below hbx4 (by omega)
        have bb4 := bb3.trans (hbx4.mono (by omega : B ≤ _))
        refine hK'.out _ _ trivial (fun hHeld => ?_)
        clear hK' K'
        try simp only [Act.put, List.setIfInBounds_toArray, List.set_cons_zero, List.set_cons_succ]
        refine take_l (i := 5) (v := ?rv7) rfl (by kernel_rfl) (by kernel_rfl) (by kernel_rfl) (fun _ _ _ h => h) (Or.inl ⟨by rfl, ?rhy7⟩) (by assumption) ?rrest7
        case rhy7 => (intro w hSw; (try dsimp only at hSw); go_simp; (try with_reducible rfl))
        try simp only [Act.put, List.setIfInBounds_toArray, List.set_cons_zero, List.set_cons_succ]
        refine take_l (i := 6) (v := ?rv8) rfl (by kernel_rfl) (by kernel_rfl) (by kernel_rfl) (fun _ _ _ h => h) (Or.inl ⟨by rfl, ?rhy8⟩) (by assumption) ?rrest8
        case rhy8 => (intro w hSw; (try dsimp only at hSw); go_simp; (try with_reducible rfl))
        try simp only [Act.put, List.setIfInBounds_toArray, List.set_cons_zero, List.set_cons_succ]
        refine take_l (i := 7) (v := ?rv9) rfl (by kernel_rfl) (by kernel_rfl) (by kernel_rfl) (fun _ _ _ h => h) (Or.inl ⟨by rfl, ?rhy9⟩) (by assumption) ?rrest9
        case rhy9 => (intro w hSw; (try dsimp only at hSw); go_simp; (try with_reducible rfl))
        try simp only [Act.put, List.setIfInBounds_toArray, List.set_cons_zero, List.set_cons_succ]
        refine wpAnyH_ready (rs := [9]) (by kernel_rfl) (by simp) (cons_l rfl (fun K' hK' => ?_) AllReadyH.nil)
        refine step_storeV rfl 73 _ _ rfl 73 (x2.heap.size) rfl S rfl 32 aggSumT hSl Z hT4 hZl hS1 ?_
        intro x5 hT5 hbx5 hsx5
        have hgT : B + 3 ≤ x2.heap.size := by omega
        have hR5 := hR4.below hbx5 (by omega)
        have bb5 := bb4.trans (hbx5.mono (by omega : B ≤ _))
        refine hK'.out _ _ trivial (fun hHeld => ?_)
        clear hK' K'
        try simp only [Act.put, List.setIfInBounds_toArray, List.set_cons_zero, List.set_cons_succ]
        refine take_l (i := 10) (v := ?rv10) rfl (by kernel_rfl) (by kernel_rfl) (by kernel_rfl) (fun _ _ _ h => h) (Or.inl ⟨by rfl, ?rhy10⟩) (by assumption) ?rrest10
        case rhy10 => (intro w hSw; (try dsimp only at hSw); go_simp; (try with_reducible rfl))
        try simp only [Act.put, List.setIfInBounds_toArray, List.set_cons_zero, List.set_cons_succ]
        refine wpAnyH_done (by kernel_rfl) ?_ _
        clear hHeld
        go_wp2_with (first | (refine wl_storeV rfl 73 _ _ rfl 73 (B + 2) rfl S rfl 32 aggSumT hSl Z hR5 hZl hS1 ?_; intro wF hRF hbF hsF) | (refine wl_load rfl 73 _ rfl ⟨x2.heap.size, 0, none⟩ rfl S (by rw [hSl]; exact aggSumT) hT5.at0 ?_))
        (try simp only [Exit.inBlock, Exit.then]); refine bodyPost_ret (results_cell rfl _ _ _ _ rfl S (by rw [hSl]; exact aggSumT) hRF.at0) rfl ?_
        exact ⟨rfl, by first | exact bb5.trans (hbF.mono (by omega)) | (rw [hsz]; exact bb5.trans (hbF.mono (by omega)))⟩
    · refine step_allocV rfl 73 rfl Z hz.out (B + 4) (by omega) ?_
      intro x2 hT2 hbx2 hsx2
      have hA2 := hA1.below hbx2 (by omega)
      have hC2 := hC1.below hbx2 (by omega)
      have hR2 := hR1.below hbx2 (by omega)
      have bb2 := bb1.trans (hbx2.mono (by omega : B ≤ _))
      have hD2 := hD1.below hbx2 (by omega)
      refine hK'.out _ _ trivial (fun hHeld => ?_)
      clear hK' K'
      try simp only [Act.put, List.setIfInBounds_toArray, List.set_cons_zero, List.set_cons_succ]
      refine wpAnyH_ready (rs := [3]) (by kernel_rfl) (by simp) (cons_l rfl (fun K' hK' => ?_) AllReadyH.nil)
      rw [if_pos (by rfl)]
      go_simp
      go_at_call 181
      refine (slB.Concat_two ⟨some ⟨B, 0, none⟩, 32, 32, L⟩ ⟨some ⟨B + 1, 0, none⟩, 32, 32, M⟩ (B + 3) x2 hD2 ⟨at_row (by omega) hA2.at0, hLl, hL1, fun h => by cases h⟩ ⟨at_row (by omega) hC2.at0, hMl, hM1, fun h => by cases h⟩ (by dsimp only; omega)).mono ?_
      rintro e x3 ⟨v3, rfl, hM3, hbx3⟩
      obtain ⟨ao, cm, rfl, hcm, _⟩ := hM3.row
      rw [← hLM.out] at hM3
      have hsx3 := hbx3.size
      have hA3 := hA2.below hbx3 (by omega)
      have hC3 := hC2.below hbx3 (by omega)
      have hR3 := hR2.below hbx3 (by omega)
      have hT3 := hT2.below hbx3 (by omega)
      have bb3 := bb2.trans (hbx3.mono (by omega : B ≤ _))
      refine hK'.out _ _ trivial (fun hHeld => ?_)
      clear hK' K'
      try simp only [Act.put, List.setIfInBounds_toArray, List.set_cons_zero, List.set_cons_succ]
      refine wpAnyH_ready (rs := [4]) (by kernel_rfl) (by simp) (cons_l rfl (fun K' hK' => ?_) AllReadyH.nil)
      rw [if_pos (by rfl)]
      go_simp
      go_at_call 113
      refine (hsum x3 ao cm (mine_pt hM3 hABl.symm (by dsimp only; omega) hABo).1).out.mono ?_
      rintro e x4 ⟨rfl, hbx4⟩
      have hsx4 := hbx4.size
      have hA4 := hA3.below hbx4 (by omega)
      have hC4 := hC3.below hbx4 (by omega)
      have hR4 := hR3.below hbx4 (by omega)
      have hT4 := hT3.below hbx4 (by omega)
      have bb4 := bb3.trans (hbx4.mono (by omega : B ≤ _))
      refine hK'.out _ _ trivial (fun hHeld => ?_)
      clear hK' K'
      try simp only [Act.put, List.setIfInBounds_toArray, List.set_cons_zero, List.set_cons_succ]
      refine take_l (i := 5) (v := ?rv11) rfl (by kernel_rfl) (by kernel_rfl) (by kernel_rfl) (fun _ _ _ h => h) (Or.inl ⟨by rfl, ?rhy11⟩) (by assumption) ?rrest11
      case rhy11 => (intro w hSw; (try dsimp only at hSw); go_simp; (try with_reducible rfl))
      try simp only [Act.put, List.setIfInBounds_toArray, List.set_cons_zero, List.set_cons_succ]
      refine take_l (i := 6) (v := ?rv12) rfl (by kernel_rfl) (by kernel_rfl) (by kernel_rfl) (fun _ _ _ h => h) (Or.inl ⟨by rfl, ?rhy12⟩) (by assumption) ?rrest12
      case rhy12 => (intro w hSw; (try dsimp only at hSw); go_simp; (try with_reducible rfl))
      try simp only [Act.put, List.setIfInBounds_toArray, List.set_cons_zero, List.set_cons_succ]
      refine take_l (i := 7) (v := ?rv13) rfl (by kernel_rfl) (by kernel_rfl) (by kernel_rfl) (fun _ _ _ h => h) (Or.inl ⟨by rfl, ?rhy13⟩) (by assumption) ?rrest13
      case rhy13 => (intro w hSw; (try dsimp only at hSw); go_simp; (try with_reducible rfl))
      try simp only [Act.put, List.setIfInBounds_toArray, List.set_cons_zero, List.set_cons_succ]
      refine wpAnyH_ready (rs := [9]) (by kernel_rfl) (by simp) (cons_l rfl (fun K' hK' => ?_) AllReadyH.nil)
      refine step_storeV rfl 73 _ _ rfl 73 (B + 4) rfl S rfl 32 aggSumT hSl Z hT4 hZl hS1 ?_
      intro x5 hT5 hbx5 hsx5
      have hgT : B + 3 ≤ B + 4 := by omega
      have hR5 := hR4.below hbx5 (by omega)
      have bb5 := bb4.trans (hbx5.mono (by omega : B ≤ _))
      refine hK'.out _ _ trivial (fun hHeld => ?_)
      clear hK' K'
      try simp only [Act.put, List.setIfInBounds_toArray, List.set_cons_zero, List.set_cons_succ]
      refine take_l (i := 10) (v := ?rv14) rfl (by kernel_rfl) (by kernel_rfl) (by kernel_rfl) (fun _ _ _ h => h) (Or.inl ⟨by rfl, ?rhy14⟩) (by assumption) ?rrest14
      case rhy14 => (intro w hSw; (try dsimp only at hSw); go_simp; (try with_reducible rfl))
      try simp only [Act.put, List.setIfInBounds_toArray, List.set_cons_zero, List.set_cons_succ]
      refine wpAnyH_done (by kernel_rfl) ?_ _
      clear hHeld
      go_wp2_with (first | (refine wl_storeV rfl 73 _ _ rfl 73 (B + 2) rfl S rfl 32 aggSumT hSl Z hR5 hZl hS1 ?_; intro wF hRF hbF hsF) | (refine wl_load rfl 73 _ rfl ⟨B + 4, 0, none⟩ rfl S (by rw [hSl]; exact aggSumT) hT5.at0 ?_))
      (try simp only [Exit.inBlock, Exit.then]); refine bodyPost_ret (results_cell rfl _ _ _ _ rfl S (by rw [hSl]; exact aggSumT) hRF.at0) rfl ?_
      exact ⟨rfl, by first | exact bb5.trans (hbF.mono (by omega)) | (rw [hsz]; exact bb5.trans (hbF.mono (by omega)))⟩
  · refine step_allocV rfl 73 rfl Z hz.out (B + 3) (by omega) ?_
    intro x1 hT1 hbx1 hsx1
    have hA1 := hA0.below hbx1 (by omega)
    have hC1 := hC0.below hbx1 (by omega)
    have hR1 := hR0.below hbx1 (by omega)
    have bb1 := bb0.trans (hbx1.mono (by omega : B ≤ _))
    refine hK'.out _ _ trivial (fun hHeld => ?_)
    clear hK' K'
    try simp only [Act.put, List.setIfInBounds_toArray, List.set_cons_zero, List.set_cons_succ]
    refine wpAnyH_ready (rs := [2]) (by kernel_rfl) (by simp) (cons_l rfl (fun K' hK' => ?_) AllReadyH.nil)
    refine step_lit rfl 82 69 2 _ rfl Try.underlying82 (.slice none 0 0) 1 24 infoBB (by decide) (by decide) [.slice (some ⟨B, 0, none⟩) 32 32, .slice (some ⟨B + 1, 0, none⟩) 32 32] (by kernel_rfl) (B + 4) (by omega) ?_
    intro x2 hD2 hbx2 hsx2
    have hA2 := hA1.below hbx2 (by omega)
    have hC2 := hC1.below hbx2 (by omega)
    have hR2 := hR1.below hbx2 (by omega)
    have hT2 := hT1.below hbx2 (by omega)
    have bb2 := bb1.trans (hbx2.mono (by omega : B ≤ _))
    refine hK'.out _ _ trivial (fun hHeld => ?_)
    clear hK' K'
    try simp only [Act.put, List.setIfInBounds_toArray, List.set_cons_zero, List.set_cons_succ]
    refine wpAnyH_ready (rs := [3]) (by kernel_rfl) (by simp) (cons_l rfl (fun K' hK' => ?_) AllReadyH.nil)
    rw [if_pos (by rfl)]
    go_simp
    go_at_call 181
    refine (slB.Concat_two ⟨some ⟨B, 0, none⟩, 32, 32, L⟩ ⟨some ⟨B + 1, 0, none⟩, 32, 32, M⟩ (B + 4) x2 hD2 ⟨at_row (by omega) hA2.at0, hLl, hL1, fun h => by cases h⟩ ⟨at_row (by omega) hC2.at0, hMl, hM1, fun h => by cases h⟩ (by dsimp only; omega)).mono ?_
    rintro e x3 ⟨v3, rfl, hM3, hbx3⟩
    obtain ⟨ao, cm, rfl, hcm, _⟩ := hM3.row
    rw [← hLM.out] at hM3
    have hsx3 := hbx3.size
    have hA3 := hA2.below hbx3 (by omega)
    have hC3 := hC2.below hbx3 (by omega)
    have hR3 := hR2.below hbx3 (by omega)
    have hT3 := hT2.below hbx3 (by omega)
    have bb3 := bb2.trans (hbx3.mono (by omega : B ≤ _))
    refine hK'.out _ _ trivial (fun hHeld => ?_)
    clear hK' K'
    try simp only [Act.put, List.setIfInBounds_toArray, List.set_cons_zero, List.set_cons_succ]
    refine wpAnyH_ready (rs := [4]) (by kernel_rfl) (by simp) (cons_l rfl (fun K' hK' => ?_) AllReadyH.nil)
    rw [if_pos (by rfl)]
    go_simp
    go_at_call 113
    refine (hsum x3 ao cm (mine_pt hM3 hABl.symm (by dsimp only; omega) hABo).1).out.mono ?_
    rintro e x4 ⟨rfl, hbx4⟩
    have hsx4 := hbx4.size
    have hA4 := hA3.below hbx4 (by omega)
    have hC4 := hC3.below hbx4 (by omega)
    have hR4 := hR3.below hbx4 (by omega)
    have hT4 := hT3.below hbx4 (by omega)
    have bb4 := bb3.trans (hbx4.mono (by omega : B ≤ _))
    refine hK'.out _ _ trivial (fun hHeld => ?_)
    clear hK' K'
    try simp only [Act.put, List.setIfInBounds_toArray, List.set_cons_zero, List.set_cons_succ]
    refine take_l (i := 5) (v := ?rv15) rfl (by kernel_rfl) (by kernel_rfl) (by kernel_rfl) (fun _ _ _ h => h) (Or.inl ⟨by rfl, ?rhy15⟩) (by assumption) ?rrest15
    case rhy15 => (intro w hSw; (try dsimp only at hSw); go_simp; (try with_reducible rfl))
    try simp only [Act.put, List.setIfInBounds_toArray, List.set_cons_zero, List.set_cons_succ]
    refine take_l (i := 6) (v := ?rv16) rfl (by kernel_rfl) (by kernel_rfl) (by kernel_rfl) (fun _ _ _ h => h) (Or.inl ⟨by rfl, ?rhy16⟩) (by assumption) ?rrest16
    case rhy16 => (intro w hSw; (try dsimp only at hSw); go_simp; (try with_reducible rfl))
    try simp only [Act.put, List.setIfInBounds_toArray, List.set_cons_zero, List.set_cons_succ]
    refine take_l (i := 7) (v := ?rv17) rfl (by kernel_rfl) (by kernel_rfl) (by kernel_rfl) (fun _ _ _ h => h) (Or.inl ⟨by rfl, ?rhy17⟩) (by assumption) ?rrest17
    case rhy17 => (intro w hSw; (try dsimp only at hSw); go_simp; (try with_reducible rfl))
    try simp only [Act.put, List.setIfInBounds_toArray, List.set_cons_zero, List.set_cons_succ]
    refine wpAnyH_ready (rs := [9]) (by kernel_rfl) (by simp) (cons_l rfl (fun K' hK' => ?_) AllReadyH.nil)
    refine step_storeV rfl 73 _ _ rfl 73 (B + 3) rfl S rfl 32 aggSumT hSl Z hT4 hZl hS1 ?_
    intro x5 hT5 hbx5 hsx5
    have hgT : B + 3 ≤ B + 3 := by omega
    have hR5 := hR4.below hbx5 (by omega)
    have bb5 := bb4.trans (hbx5.mono (by omega : B ≤ _))
    refine hK'.out _ _ trivial (fun hHeld => ?_)
    clear hK' K'
    try simp only [Act.put, List.setIfInBounds_toArray, List.set_cons_zero, List.set_cons_succ]
    refine take_l (i := 10) (v := ?rv18) rfl (by kernel_rfl) (by kernel_rfl) (by kernel_rfl) (fun _ _ _ h => h) (Or.inl ⟨by rfl, ?rhy18⟩) (by assumption) ?rrest18
    case rhy18 => (intro w hSw; (try dsimp only at hSw); go_simp; (try with_reducible rfl))
    try simp only [Act.put, List.setIfInBounds_toArray, List.set_cons_zero, List.set_cons_succ]
    refine wpAnyH_done (by kernel_rfl) ?_ _
    clear hHeld
    go_wp2_with (first | (refine wl_storeV rfl 73 _ _ rfl 73 (B + 2) rfl S rfl 32 aggSumT hSl Z hR5 hZl hS1 ?_; intro wF hRF hbF hsF) | (refine wl_load rfl 73 _ rfl ⟨B + 3, 0, none⟩ rfl S (by rw [hSl]; exact aggSumT) hT5.at0 ?_))
    (try simp only [Exit.inBlock, Exit.then]); refine bodyPost_ret (results_cell rfl _ _ _ _ rfl S (by rw [hSl]; exact aggSumT) hRF.at0) rfl ?_
    exact ⟨rfl, by first | exact bb5.trans (hbF.mono (by omega)) | (rw [hsz]; exact bb5.trans (hbF.mono (by omega)))⟩
set_option maxRecDepth 100000 in
set_option maxHeartbeats 4000000 in
theorem Leaf_in (ao : Option Addr) (cap n : Nat) (l : List Int) (w : World) (hn : n = l.length) (HP : Pt.Ok w ⟨ao, cap, l⟩) (hm : n ≤ 1048576) :
    Calls Try.prog 64 #[.slice ao n cap] w fun e w' => e = .returned (.tuple #[.agg ((sumL 1 l).map (Value.int .u8)).toArray, .int .i64 0]) ∧ Below w.heap.size w w' := by
  obtain ⟨B, HB⟩ : ∃ B, Hid (B = w.heap.size) := ⟨_, rfl⟩
  have hsz : w.heap.size = B := HB.out.symm
  obtain ⟨Z, HZ⟩ : ∃ Z, Hid (Z = zSum) := ⟨_, rfl⟩
  have hz := hid zeroSumZ
  rw [← HZ.out] at hz
  have hZl : Z.length = 32 := by rw [HZ.out]; simp [zSum]
  have hsum := fun (y : World) (hb : Below B w y) => hid (sumOf_in 1 oct1 ao cap n l y hn (HP.below (hsz ▸ hb)) hm)
  obtain ⟨S, HS⟩ : ∃ S, Hid (S = (sumL 1 l).map (Value.int .u8)) := ⟨_, rfl⟩
  have hSl : S.length = 32 := by rw [HS.out, List.length_map]; exact sumL_length _ _
  have hS1 : ∀ u ∈ S, u.oneCell' = true := by rw [HS.out]; exact ints_one _ _
  simp only [← HS.out] at hsum
  rw [← HS.out]
  clear hn HP
  go_enter Try.func64, Try.ntmps64
  go_wp2_with (first | (refine wl_storeV rfl 73 _ _ rfl 73 B rfl S rfl 32 aggSumT hSl Z hR2 hZl hS1 ?_; intro wF hRF hbF hsF) | (go_at_call 113; refine (hsum w1 hb1).out.mono ?_; rintro e w2 ⟨rfl, hb2⟩; have hR2 := hR1.below hb2 (by omega); have bb2 := hb1.trans (hb2.mono (by omega : B ≤ _))) | (refine wl_allocV rfl 73 rfl Z hz.out B hsz ?_; intro w1 hR1 hb1 hs1))
  (try simp only [Exit.inBlock, Exit.then]); refine bodyPost_ret (results_cell2 rfl _ _ _ _ rfl S (by rw [hSl]; exact aggSumT) hRF.at0) rfl ?_
  exact ⟨rfl, by first | exact bb2.trans (hbF.mono (by omega)) | (rw [hsz]; exact bb2.trans (hbF.mono (by omega)))⟩
end Go.Proofs.Ytbljihhelladbaa.ck
namespace Go.Proofs.Ytbljihhelladbaa
set_option linter.unusedSimpArgs false
set_option linter.unusedVariables false
open Go.RowKit
section
variable {P : Program} {md : Region.Mode} {ops : Array Oper} {Q : Exit → Act → World → Prop} {S : World → Prop}
theorem tkR (i : Nat) {oi : Oper} {v : Value} {fuel : Nat} {listed : Array Bool} {a : Act} {w : World} (hi : ops.toList[i]? = some oi) (hy : YieldsIf P ops S oi v a) (hS : S w)
    (h : wpAnyH P md ops Q S fuel (listed.setIfInBounds i true) (a.put oi.dst v) w)
    (hs : Region.noSelect ops = true := by kernel_rfl) (hf : Region.free md ops listed i = true := by kernel_rfl) (hr : (Region.ready md ops listed).contains i = true := by kernel_rfl)
    (hQ : ∀ c a w, Q (.panic c) (a.put oi.dst v) w → Q (.panic c) a w := by exact fun _ _ _ h => h) : wpAnyH P md ops Q S (fuel + 1) listed a w :=
  take_l hi hs hf hr hQ hy hS h
theorem tkP (i : Nat) {oi : Oper} {fuel : Nat} {listed : Array Bool} {a : Act} {w : World} (hi : ops.toList[i]? = some oi) (hS : S w)
    (h : ∃ v, (∀ w, S w → (execOp a.eval oi).run P w = .ok (.value v) w) ∧ wpAnyH P md ops Q S fuel (listed.setIfInBounds i true) (a.put oi.dst v) w)
    (hs : Region.noSelect ops = true := by kernel_rfl) (hf : Region.free md ops listed i = true := by kernel_rfl) (hr : (Region.ready md ops listed).contains i = true := by kernel_rfl) (hw : Region.wanted oi (yielded ops a.tmps) = true := by rfl)
    (hQ : ∀ v c a w, Q (.panic c) (a.put oi.dst v) w → Q (.panic c) a w := by exact fun _ _ _ _ h => h) : wpAnyH P md ops Q S (fuel + 1) listed a w := by
  obtain ⟨v, h1, h2⟩ := h
  exact take_l hi hs hf hr (hQ v) (Or.inl ⟨hw, h1⟩) hS h2
end
theorem sArr {α : Type} (l : List α) (i : Nat) (x : α) : l.toArray.setIfInBounds i x = (l.set i x).toArray := by simp
theorem sZ {α : Type} (a x : α) (l : List α) : (a :: l).set 0 x = x :: l := rfl
theorem sS {α : Type} (a x : α) (l : List α) (n : Nat) : (a :: l).set (n + 1) x = a :: l.set n x := rfl
end Go.Proofs.Ytbljihhelladbaa
