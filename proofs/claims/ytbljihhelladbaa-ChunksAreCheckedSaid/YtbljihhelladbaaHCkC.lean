/-
  Contracts of tree.steps and tree.lead. Conditions: sizes of at most 65536; a path of as many sums as there are steps.
-/
import Derived.Test.YtbljihhelladbaaHCkB
import Derived.Laws.Slices
namespace Go.Proofs.Ytbljihhelladbaa.ck
open Go.RowKit Go.Proofs.Ytbljihhelladbaa.st Go.Proofs.Ytbljihhelladbaa.hs Go.Proofs.Ytbljihhelladbaa.shr Go.Proofs.Ytbljihhelladbaa.sh Go.Proofs.Ytbljihhelladbaa.wr
set_option linter.unusedSimpArgs false
set_option linter.unusedVariables false
set_option pp.maxSteps 6000
theorem yieldsIf_sliceH {P : Program} {ops : Array Oper} {S : World → Prop} {op : Oper} {a : Act} (hw : Region.wanted op (yielded ops a.tmps) = true) (t : TypeId) (x z : Operand) (ho : op.op = .slice t x none (some z) none)
    (ao : Option Addr) (n c h s : Nat) (hx : a.eval x = .slice ao n c) (hi : Int) (hz : a.eval z = .int .i64 hi) (hhi : hi = (h : Int)) (ht : P.underlying t = some (.slice (P.elem t))) (hs : ∀ w, (sizeOf (P.elem t)).run P w = .ok s w) (hh : h ≤ c) : YieldsIf P ops S op (.slice ao h c) a :=
  .inl ⟨hw, fun w _ => by
    subst hhi
    have hrun := run_slice_h (P := P) w t ao n c ht .i64 (h : Int) (by omega) (by omega)
    rw [hs] at hrun
    simp only [Result.andThen_ok, Int.toNat_natCast, sliced] at hrun
    have hao : (if c = 0 then ao else ao.map (·.add (0 * s))) = ao := by
      split
      · rfl
      · cases ao with
        | none => rfl
        | some a0 =>
          simp only [Option.map_some, Nat.zero_mul]
          unfold Addr.add
          rw [if_pos rfl]
    simp only [Nat.sub_zero, hao] at hrun
    unfold execOp
    simp only [ho, hx, Option.map_some, Option.map_none, hz, run_sliceAt_slice (P := P) w _ _ _ _ _ ht, hrun, Nat.sub_zero, Sem.run_bind, Result.andThen_ok, Sem.run_pure]⟩
/-- the root to which a path leads -/
def leadF : Nat → List Int → Nat → Nat → List (List Int) → List Int
  | 0, leaf, _, _, _ => leaf
  | f + 1, leaf, i, s, p => if 2 ≤ s then (if i < splitN s then nodeL (leadF f leaf i (splitN s) (p.take (p.length - 1))) (p.getD (p.length - 1) []) else nodeL (p.getD (p.length - 1) []) (leadF f leaf (i - splitN s) (s - splitN s) (p.take (p.length - 1)))) else leaf
theorem leadF_ok : ∀ (f : Nat) (leaf : List Int) (i s : Nat) (p : List (List Int)), leaf.length = 32 → Octs leaf → (leadF f leaf i s p).length = 32 ∧ Octs (leadF f leaf i s p)
  | 0, leaf, _, _, _, h, o => ⟨h, o⟩
  | f + 1, leaf, i, s, p, h, o => by
    unfold leadF
    split
    · split
      · exact ⟨nodeL_length _ _, nodeL_octs _ _⟩
      · exact ⟨nodeL_length _ _, nodeL_octs _ _⟩
    · exact ⟨h, o⟩
theorem elemS : Try.prog.underlying 70 = some (.slice (Try.prog.elem 70)) := by kernel_rfl
theorem sizeSe (w : World) : (sizeOf (Try.prog.elem 70)).run Try.prog w = .ok 32 w := by kernel_rfl
theorem RowM.takeN {w : World} {ao : Option Addr} {l : List (List Int)} (h : RowM w ao l) (k : Nat) : RowM w ao (l.take k) := by
  rcases h with h | ⟨b, off, h1, h2, h3⟩
  · exact Or.inl (by rw [h]; simp)
  · refine Or.inr ⟨b, off, h1, h2, fun i hi => ?_⟩
    rw [List.length_take] at hi
    have e : (l.take k).getD i [] = l.getD i [] := by simp [List.getD_eq_getElem?_getD, List.getElem?_take, show i < k by omega]
    rw [e]
    exact h3 i (by omega)
set_option maxRecDepth 100000 in
set_option maxHeartbeats 1000000 in
theorem steps_any (i s : Nat) (w : World) (hs : s ≤ 65536) (hi : i ≤ 65536) :
    Calls Try.prog 169 #[.int .i64 i, .int .i64 s] w fun e w' => e = .returned (.int .i64 (stepsF s i s)) ∧ w' = w := by
  have hsp := fun n w h0 h1 => hid (split_any n w h0 h1)
  obtain ⟨R, HR⟩ : ∃ R, Hid (R = stepsF s i s) := ⟨_, rfl⟩
  rw [← HR.out]
  go_enter Try.func169, Try.ntmps169
  go_wp2_with fail
  go_loopw [0, 1, 5] (fun a b c wr => ∃ (i' s' f' n' : Nat), a = .int .i64 i' ∧ b = .int .i64 s' ∧ c = .int .i64 n' ∧ Hid (n' + stepsF f' i' s' = R) ∧ s' ≤ f' ∧ n' + s' ≤ 65536 ∧ i' ≤ 65536 ∧ wr = w) (fun _ b _ _ => (intOf b).toNat)
  case atStart => exact ⟨i, s, s, 0, rfl, rfl, rfl, by show _ = _; rw [HR.out, Nat.zero_add], Nat.le_refl _, by omega, hi, rfl⟩
  case round =>
    obtain ⟨i', s', f', n', rfl, rfl, rfl, HG, hf, hns, hib, rfl⟩ := hrel
    by_cases h2 : 2 ≤ s'
    · obtain ⟨f, rfl⟩ : ∃ f, f' = f + 1 := ⟨f' - 1, by omega⟩
      have hsI : (1 : Int) < (s' : Int) := by omega
      have hc := hsp s' wr h2 (by omega)
      have hlt := splitN_lt h2 (by omega)
      have hpos := splitN_pos s'
      obtain ⟨k, Hk⟩ : ∃ k, Hid (k = splitN s') := ⟨_, rfl⟩
      have HG1 : Hid (n' + ((if i' < splitN s' then stepsF f i' (splitN s') else stepsF f (i' - splitN s') (s' - splitN s')) + 1) = R) := hid (by have h := HG.out; unfold stepsF at h; rw [if_pos h2] at h; exact h)
      rw [← Hk.out] at hc hlt hpos HG1
      clear HG
      by_cases hik : i' < k
      · have hikI : (i' : Int) < (k : Int) := by omega
        have HG2 : Hid (n' + 1 + stepsF f i' k = R) := hid (by have h := HG1.out; rw [if_pos hik] at h; omega)
        clear HG1
        go_wp2_with (go_at_call 205; refine hc.out.mono ?_; rintro e w' ⟨rfl, rfl⟩)
        go_roundw
        case rel => exact ⟨i', k, f, n' + 1, rfl, rfl, by go_num, HG2, by omega, by omega, hib, by first | rfl | trivial⟩
        case measure => simp [intOf] <;> omega
      · have hikI : ¬ (i' : Int) < (k : Int) := by omega
        have HG2 : Hid (n' + 1 + stepsF f (i' - k) (s' - k) = R) := hid (by have h := HG1.out; rw [if_neg hik] at h; omega)
        clear HG1
        have e1 : (i' : Int) - (k : Int) = ((i' - k : Nat) : Int) := by omega
        have e2 : (s' : Int) - (k : Int) = ((s' - k : Nat) : Int) := by omega
        go_wp2_with (go_at_call 205; refine hc.out.mono ?_; rintro e w' ⟨rfl, rfl⟩)
        go_roundw
        case rel => exact ⟨i' - k, s' - k, f, n' + 1, by go_num, by go_num, by go_num, HG2, by omega, by omega, by omega, by first | rfl | trivial⟩
        case measure => simp [intOf] <;> omega
    · have hsI : ¬ (1 : Int) < (s' : Int) := by omega
      have HG1 : Hid (n' = R) := hid (by have h := HG.out; rw [stepsF_one _ _ _ (by omega)] at h; omega)
      obtain rfl : n' = R := HG1.out
      go_wp2
      go_ret
      exact ⟨rfl, rfl⟩
set_option maxRecDepth 100000 in
set_option maxHeartbeats 8000000 in
theorem lead_any : ∀ (f i s : Nat) (leaf : List Int) (path : List (List Int)) (po : Option Addr) (n cap : Nat) (w : World), 1 ≤ s → s ≤ f → s ≤ 65536 → i ≤ 65536 → n = path.length → path.length = stepsF f i s → leaf.length = 32 → Octs leaf → RowM w po path → (∀ x ∈ path, SumLOk x) → n ≤ cap → cap ≤ maxLen →
    Calls Try.prog 170 #[.agg (leaf.map (Value.int .u8)).toArray, .int .i64 i, .int .i64 s, .slice po n cap] w fun e w' => e = .returned (.agg ((leadF f leaf i s path).map (Value.int .u8)).toArray) ∧ Below w.heap.size w w' := by
  intro f
  induction f with
  | zero =>
    intro i s leaf path po n cap w hs0 hf hs hi hn hst hl ol hrow hok hnc hcm
    omega
  | succ f ih =>
    intro i s leaf path po n cap w hs0 hf hs hi hn hst hl ol hrow hok hnc hcm
    by_cases h2 : 2 ≤ s
    · obtain ⟨B, HB⟩ : ∃ B, Hid (B = w.heap.size) := ⟨_, rfl⟩
      have hsz : w.heap.size = B := HB.out.symm
      have hlt := splitN_lt h2 hs
      have hpos := splitN_pos s
      have hc := fun w => hid (split_any s w h2 hs)
      obtain ⟨Z, HZ⟩ : ∃ Z, Hid (Z = zSum) := ⟨_, rfl⟩
      have hz := hid zeroSumZ
      rw [← HZ.out] at hz
      have hZl : Z.length = 32 := by rw [HZ.out]; simp [zSum]
      obtain ⟨L, HL⟩ : ∃ L, Hid (L = leaf.map (Value.int .u8)) := ⟨_, rfl⟩
      have hLl : L.length = 32 := by rw [HL.out, List.length_map, hl]
      have huS := Try.underlying73
      have hiL : (Try.prog.info? 73).map (·.size) = some L.length := by rw [hLl]; exact aggSumT.2
      obtain ⟨m, hm⟩ : ∃ m, path.length = m + 1 := ⟨path.length - 1, by unfold stepsF at hst; rw [if_pos h2] at hst; omega⟩
      have hst' : m = if i < splitN s then stepsF f i (splitN s) else stepsF f (i - splitN s) (s - splitN s) := by
        unfold stepsF at hst; rw [if_pos h2] at hst; omega
      obtain ⟨b, off, rfl, hb, hat⟩ := hrow.at (by intro e; rw [e] at hm; cases hm)
      have hatm := hat m (by omega)
      have hVok : SumLOk (path.getD m []) := hok _ (getD_memL path m (by omega))
      obtain ⟨v, Hv⟩ : ∃ v, Hid (v = path.getD m []) := ⟨_, rfl⟩
      obtain ⟨V, HV⟩ : ∃ V, Hid (V = v.map (Value.int .u8)) := ⟨_, rfl⟩
      rw [← Hv.out] at hatm hVok
      rw [← HV.out] at hatm
      have hVl : V.length = 32 := by rw [HV.out, List.length_map, hVok.1]
      have hV1 : ∀ u ∈ V, u.oneCell' = true := by rw [HV.out]; exact ints_one _ _
      have hiV : (Try.prog.info? 73).map (·.size) = some V.length := by rw [hVl]; exact aggSumT.2
      have hLF : Hid (leadF (f + 1) leaf i s path = if i < splitN s then nodeL (leadF f leaf i (splitN s) (path.take m)) v else nodeL v (leadF f leaf (i - splitN s) (s - splitN s) (path.take m))) := hid (by
        rw [leadF, if_pos h2, hm, Nat.add_sub_cancel, ← Hv.out])
      obtain ⟨k, Hk⟩ : ∃ k, Hid (k = splitN s) := ⟨_, rfl⟩
      have hrow' := RowM.takeN hrow m
      have hpl : (path.take m).length = m := by rw [List.length_take]; omega
      have hpok : ∀ x ∈ path.take m, SumLOk x := fun x hx => hok x (List.mem_of_mem_take hx)
      rw [← Hk.out] at hst' hlt hpos hc hLF
      obtain rfl : n = m + 1 := by omega
      have ihc := fun (i' s' : Nat) (y : World) (hb : Below B w y) (h0 : 1 ≤ s') (h1 : s' ≤ f) (h9 : s' ≤ 65536) (h2 : i' ≤ 65536) (h3 : m = stepsF f i' s') => hid (ih i' s' leaf (path.take m) (some ⟨b, off, none⟩) m cap y h0 h1 h9 h2 hpl.symm (by rw [hpl]; exact h3) hl ol (hrow'.below (hsz ▸ hb)) hpok (by omega) hcm)
      have hlk := fun (i' s' : Nat) => hid (leadF_ok f leaf i' s' (path.take m) hl ol)
      have h2I : ¬ (s : Int) = 1 := by omega
      have hbB : b < B := by rw [HB.out]; exact hb
      have hmI0 : (0 : Int) ≤ (m : Int) := by omega
      have hmI1 : (m : Int) < (m : Int) + 1 := by omega
      have hmm : (m : Int) + 1 - 1 = (m : Int) := by omega
      have hmN : ((m + 1 : Nat) : Int) - 1 = (m : Int) := by omega
      unfold maxLen at hcm
      have hmw : IntKind.i64.wrap (m : Int) = (m : Int) := IntWalk.i64_in _ (by omega)
      have HST := hid hst'
      obtain ⟨W, HW⟩ : ∃ W, Hid (W = (leadF (f + 1) leaf i s path).map (Value.int .u8)) := ⟨_, rfl⟩
      have hWl : W.length = 32 := by rw [HW.out, List.length_map]; exact (leadF_ok _ _ _ _ _ hl ol).1
      have hW1 : ∀ u ∈ W, u.oneCell' = true := by rw [HW.out]; exact ints_one _ _
      rw [← HL.out] at ihc ⊢
      rw [← HW.out]
      clear hst' hn hrow hat hrow' hpl hpok hm hst hok hl ol ih
      go_enter Try.func170, Try.ntmps170
      go_wp2_with (first | (refine wl_boxV rfl 73 _ rfl L rfl B hsz ?_; intro wa hAa hba hsa) | (refine wl_allocV rfl 73 rfl Z hz.out (B + 1) hsa ?_; intro wb hRb hbb hsb; have hAb := hAa.below hbb (by omega); have bbb := hba.trans (hbb.mono (by omega : B ≤ _))) | (go_at_call 205; refine (hc wb).out.mono ?_; rintro e w' ⟨rfl, rfl⟩))
      refine wp_region_held_drew (S := (fun w' => w'.rangeAt b (off + m * 32) V)) (by kernel_rfl) (at_range (at_below hatm bbb.drew hbB)) (fun hHeld => ?_)
      obtain ⟨x0, HX0⟩ : ∃ x, Hid (x = w'.drew) := ⟨_, rfl⟩
      rw [← HX0.out] at hHeld ⊢
      have hA0 : BlkV 73 x0 B L := by rw [HX0.out]; exact hAb
      have hR0 : BlkV 73 x0 (B + 1) Z := by rw [HX0.out]; exact hRb
      have bb0 : Below B w x0 := by rw [HX0.out]; exact bbb.drew
      have hsx0 : x0.heap.size = B + 2 := by rw [HX0.out]; exact hsb
      have hat0 := at_below hatm bb0 hbB
      obtain ⟨T, HT, hT1, hT2⟩ : ∃ T, Hid (T = B + 2) ∧ B + 2 ≤ T ∧ T ≤ B + 2 := ⟨_, rfl, by omega, by omega⟩
      clear hAb hRb bbb hsb hAa hba hbb
      refine tkP 0 rfl (by assumption) ⟨?_, ?_, ?_⟩
      rotate_left
      · intro w hSw; (try dsimp only at hSw); go_simp; (try with_reducible rfl)
      try simp only [Act.put, sArr, sZ, sS]
      refine tkP 1 rfl (by assumption) ⟨?_, ?_, ?_⟩
      rotate_left
      · intro w hSw; (try dsimp only at hSw); go_simp; (try with_reducible rfl)
      try simp only [Act.put, sArr, sZ, sS]
      refine tkP 2 rfl (by assumption) ⟨?_, ?_, ?_⟩
      rotate_left
      · intro w hSw; (try dsimp only at hSw); go_simp; (try with_reducible rfl)
      try simp only [Act.put, sArr, sZ, sS]
      refine tkP 3 rfl (by assumption) ⟨?_, ?_, ?_⟩
      rotate_left
      · intro w hSw; (try dsimp only at hSw); go_simp; (try with_reducible rfl)
      try simp only [Act.put, sArr, sZ, sS]
      refine tkP 4 rfl (by assumption) ⟨?_, ?_, ?_⟩
      rotate_left
      · intro w hSw; (try dsimp only at hSw); go_simp; (try with_reducible rfl)
      try simp only [Act.put, sArr, sZ, sS]
      refine tkR 5 rfl (yieldsIf_load_mid (by rfl) 73 _ rfl b (off + m * 32) rfl V _ (fun w hS => hS) huS rfl hiV) (by assumption) ?_
      try simp only [Act.put, sArr, sZ, sS]
      refine tkP 6 rfl (by assumption) ⟨?_, ?_, ?_⟩
      rotate_left
      · intro w hSw; (try dsimp only at hSw); go_simp; (try with_reducible rfl)
      try simp only [Act.put, sArr, sZ, sS]
      refine tkP 7 rfl (by assumption) ⟨?_, ?_, ?_⟩
      rotate_left
      · intro w hSw; (try dsimp only at hSw); go_simp; (try with_reducible rfl)
      try simp only [Act.put, sArr, sZ, sS]
      refine tkP 8 rfl (by assumption) ⟨?_, ?_, ?_⟩
      rotate_left
      · intro w hSw; (try dsimp only at hSw); go_simp; (try with_reducible rfl)
      try simp only [Act.put, sArr, sZ, sS]
      refine tkP 9 rfl (by assumption) ⟨?_, ?_, ?_⟩
      rotate_left
      · intro w hSw; (try dsimp only at hSw); go_simp; (try with_reducible rfl)
      try simp only [Act.put, sArr, sZ, sS]
      refine tkR 10 rfl (yieldsIf_sliceH (by rfl) 70 _ _ rfl (some ⟨b, off, none⟩) (m + 1) cap m 32 rfl _ rfl (by omega) elemS sizeSe (by omega)) (by assumption) ?_
      try simp only [Act.put, sArr, sZ, sS]
      refine wpAnyH_ready (rs := [11]) (by kernel_rfl) (by simp) (cons_l rfl (fun K' hK' => ?_) AllReadyH.nil)
      refine step_allocV rfl 73 rfl Z hz.out T (by omega) ?_
      intro x1 hT1 hbx1 hsx1
      have hA1 := hA0.below hbx1 (by omega)
      have hR1 := hR0.below hbx1 (by omega)
      have bb1 := bb0.trans (hbx1.mono (by omega : B ≤ _))
      have hat1 := at_below hat0 hbx1 (by omega)
      refine hK'.out _ _ (at_range hat1) (fun hHeld => ?_)
      clear hK' K'
      try simp only [Act.put, sArr, sZ, sS]
      refine wpAnyH_ready (rs := [12]) (by kernel_rfl) (by simp) (cons_l rfl (fun K' hK' => ?_) AllReadyH.nil)
      refine step_storeV rfl 73 _ _ rfl 73 T rfl V rfl 32 aggSumT hVl Z hT1 hZl hV1 ?_
      intro x2 hT2 hbx2 hsx2
      have hA2 := hA1.below hbx2 (by omega)
      have hR2 := hR1.below hbx2 (by omega)
      have bb2 := bb1.trans (hbx2.mono (by omega : B ≤ _))
      have hat2 := at_below hat1 hbx2 (by omega)
      refine hK'.out _ _ (at_range hat2) (fun hHeld => ?_)
      clear hK' K'
      try simp only [Act.put, sArr, sZ, sS]
      refine tkP 13 rfl (by assumption) ⟨?_, ?_, ?_⟩
      rotate_left
      · intro w hSw; (try dsimp only at hSw); go_simp; (try with_reducible rfl)
      try simp only [Act.put, sArr, sZ, sS]
      refine wpAnyH_done (by kernel_rfl) ?_ _
      clear hHeld
      by_cases hik : i < k
      · have hikI : (i : Int) < (k : Int) := by omega
        have hWe : (nodeL (leadF f leaf i k (path.take m)) v).map (Value.int .u8) = W := by rw [HW.out, hLF.out, if_pos hik]
        have hrec := fun y hb => ihc i k y hb (by omega) (by omega) (by omega) (by omega) (by rw [HST.out, if_pos hik])
        have hnd := fun y => hid (Node_any (leadF f leaf i k (path.take m)) v (hlk i k).out.1 hVok.1 (hlk i k).out.2 hVok.2 y)
        simp only [hWe, ← HV.out] at hnd
        have hgo : T ≠ B + 1 := by omega
        clear hWe ihc
        go_wp2_with fail
        refine wp_region_held_drew (S := (fun w' => BlkV 73 w' B L ∧ BlkV 73 w' T V)) (by kernel_rfl) ⟨hA2, hT2⟩ (fun hHeld => ?_)
        obtain ⟨y0, HY0⟩ : ∃ x, Hid (x = x2.drew) := ⟨_, rfl⟩
        rw [← HY0.out] at hHeld ⊢
        have hA3 : BlkV 73 y0 B L := by rw [HY0.out]; exact hA2
        have hT3 : BlkV 73 y0 T V := by rw [HY0.out]; exact hT2
        have hR3 : BlkV 73 y0 (B + 1) Z := by rw [HY0.out]; exact hR2
        have bby : Below B w y0 := by rw [HY0.out]; exact bb2.drew
        have hs3 : y0.heap.size = B + 3 := by rw [HY0.out]; show x2.heap.size = _; omega
        refine tkR 0 rfl (yieldsIf_load_mid (by rfl) 73 _ rfl B 0 rfl L _ (fun w hS => at_range hS.1.at0) huS rfl hiL) (by assumption) ?_
        try simp only [Act.put, sArr, sZ, sS]
        refine tkP 1 rfl (by assumption) ⟨?_, ?_, ?_⟩
        rotate_left
        · intro w hSw; (try dsimp only at hSw); go_simp; (try with_reducible rfl)
        try simp only [Act.put, sArr, sZ, sS]
        refine tkP 2 rfl (by assumption) ⟨?_, ?_, ?_⟩
        rotate_left
        · intro w hSw; (try dsimp only at hSw); go_simp; (try with_reducible rfl)
        try simp only [Act.put, sArr, sZ, sS]
        refine tkP 3 rfl (by assumption) ⟨?_, ?_, ?_⟩
        rotate_left
        · intro w hSw; (try dsimp only at hSw); go_simp; (try with_reducible rfl)
        try simp only [Act.put, sArr, sZ, sS]
        refine tkR 5 rfl (yieldsIf_load_mid (by rfl) 73 _ rfl T 0 rfl V _ (fun w hS => at_range hS.2.at0) huS rfl hiV) (by assumption) ?_
        try simp only [Act.put, sArr, sZ, sS]
        refine wpAnyH_ready (rs := [4]) (by kernel_rfl) (by simp) (cons_l rfl (fun K' hK' => ?_) AllReadyH.nil)
        rw [if_pos (by rfl)]
        go_simp
        go_at_call 170
        refine (hrec y0 bby).out.mono ?_
        rintro e y1 ⟨rfl, hby1⟩
        have hA4 := hA3.below hby1 hA3.lt
        have hT4 := hT3.below hby1 hT3.lt
        have hR4 := hR3.below hby1 hR3.lt
        have hs4 := hby1.size
        have bb4 := bby.trans (hby1.mono (by omega : B ≤ _))
        refine hK'.out _ _ ⟨hA4, hT4⟩ (fun hHeld => ?_)
        clear hK' K'
        try simp only [Act.put, sArr, sZ, sS]
        refine wpAnyH_ready (rs := [6]) (by kernel_rfl) (by simp) (cons_l rfl (fun K' hK' => ?_) AllReadyH.nil)
        rw [if_pos (by rfl)]
        go_simp
        go_at_call 206
        refine (hnd y1).out.mono ?_
        rintro e y2 ⟨rfl, hby2⟩
        have hA5 := hA4.below hby2 hA4.lt
        have hT5 := hT4.below hby2 hT4.lt
        have hR5 := hR4.below hby2 hR4.lt
        have hs5 := hby2.size
        have bb5 := bb4.trans (hby2.mono (by omega : B ≤ _))
        refine hK'.out _ _ ⟨hA5, hT5⟩ (fun hHeld => ?_)
        clear hK' K'
        try simp only [Act.put, sArr, sZ, sS]
        refine wpAnyH_ready (rs := [7]) (by kernel_rfl) (by simp) (cons_l rfl (fun K' hK' => ?_) AllReadyH.nil)
        refine step_storeG rfl 73 _ _ rfl 73 (B + 1) rfl W rfl 32 aggSumT hWl Z hR5 hZl hW1 ?_
        intro y3 hR6 hby3 hgy3 hsy3
        have hA6 := hA5.below hby3 (by omega)
        have hT6 := hT5.grown hgy3 (by intro e; injection e with e; exact hgo e.symm)
        have bb6 := bb5.trans (hby3.mono (by omega : B ≤ _))
        refine hK'.out _ _ ⟨hA6, hT6⟩ (fun hHeld => ?_)
        clear hK' K'
        try simp only [Act.put, sArr, sZ, sS]
        refine wpAnyH_done (by kernel_rfl) ?_ _
        clear hHeld
        go_wp2_with fail
        (try simp only [Exit.inBlock, Exit.then]); refine bodyPost_ret (results_cell rfl _ _ _ _ rfl W (by rw [hWl]; exact aggSumT) hR6.at0) rfl ?_
        exact ⟨rfl, by first | exact bb6 | (rw [hsz]; exact bb6) | (rw [← HB.out]; exact bb6)⟩
      · have hikI : ¬ (i : Int) < (k : Int) := by omega
        have e1 : (i : Int) - (k : Int) = ((i - k : Nat) : Int) := by omega
        have e2 : (s : Int) - (k : Int) = ((s - k : Nat) : Int) := by omega
        have ew1 : IntKind.i64.wrap ((i - k : Nat) : Int) = ((i - k : Nat) : Int) := IntWalk.i64_in _ (by omega)
        have ew2 : IntKind.i64.wrap ((s - k : Nat) : Int) = ((s - k : Nat) : Int) := IntWalk.i64_in _ (by omega)
        have hWe : (nodeL v (leadF f leaf (i - k) (s - k) (path.take m))).map (Value.int .u8) = W := by rw [HW.out, hLF.out, if_neg hik]
        have hrec := fun y hb => ihc (i - k) (s - k) y hb (by omega) (by omega) (by omega) (by omega) (by rw [HST.out, if_neg hik])
        have hnd := fun y => hid (Node_any v (leadF f leaf (i - k) (s - k) (path.take m)) hVok.1 (hlk (i - k) (s - k)).out.1 hVok.2 (hlk (i - k) (s - k)).out.2 y)
        simp only [hWe, ← HV.out] at hnd
        have hgo : T ≠ B + 1 := by omega
        clear hWe ihc
        go_wp2_with fail
        refine wp_region_held_drew (S := (fun w' => BlkV 73 w' B L ∧ BlkV 73 w' T V)) (by kernel_rfl) ⟨hA2, hT2⟩ (fun hHeld => ?_)
        obtain ⟨y0, HY0⟩ : ∃ x, Hid (x = x2.drew) := ⟨_, rfl⟩
        rw [← HY0.out] at hHeld ⊢
        have hA3 : BlkV 73 y0 B L := by rw [HY0.out]; exact hA2
        have hT3 : BlkV 73 y0 T V := by rw [HY0.out]; exact hT2
        have hR3 : BlkV 73 y0 (B + 1) Z := by rw [HY0.out]; exact hR2
        have bby : Below B w y0 := by rw [HY0.out]; exact bb2.drew
        have hs3 : y0.heap.size = B + 3 := by rw [HY0.out]; show x2.heap.size = _; omega
        refine tkR 0 rfl (yieldsIf_load_mid (by rfl) 73 _ rfl T 0 rfl V _ (fun w hS => at_range hS.2.at0) huS rfl hiV) (by assumption) ?_
        try simp only [Act.put, sArr, sZ, sS]
        refine tkR 1 rfl (yieldsIf_load_mid (by rfl) 73 _ rfl B 0 rfl L _ (fun w hS => at_range hS.1.at0) huS rfl hiL) (by assumption) ?_
        try simp only [Act.put, sArr, sZ, sS]
        refine tkP 2 rfl (by assumption) ⟨?_, ?_, ?_⟩
        rotate_left
        · intro w hSw; (try dsimp only at hSw); go_simp; (try with_reducible rfl)
        try simp only [Act.put, sArr, sZ, sS]
        refine tkP 3 rfl (by assumption) ⟨?_, ?_, ?_⟩
        rotate_left
        · intro w hSw; (try dsimp only at hSw); go_simp; (try with_reducible rfl)
        try simp only [Act.put, sArr, sZ, sS]
        refine tkP 4 rfl (by assumption) ⟨?_, ?_, ?_⟩
        rotate_left
        · intro w hSw; (try dsimp only at hSw); go_simp; (try with_reducible rfl)
        try simp only [Act.put, sArr, sZ, sS]
        refine tkP 5 rfl (by assumption) ⟨?_, ?_, ?_⟩
        rotate_left
        · intro w hSw; (try dsimp only at hSw); go_simp; (try with_reducible rfl)
        try simp only [Act.put, sArr, sZ, sS]
        refine tkP 6 rfl (by assumption) ⟨?_, ?_, ?_⟩
        rotate_left
        · intro w hSw; (try dsimp only at hSw); go_simp; (try with_reducible rfl)
        try simp only [Act.put, sArr, sZ, sS]
        refine tkP 7 rfl (by assumption) ⟨?_, ?_, ?_⟩
        rotate_left
        · intro w hSw; (try dsimp only at hSw); go_simp; (try with_reducible rfl)
        try simp only [Act.put, sArr, sZ, sS]
        refine tkP 8 rfl (by assumption) ⟨?_, ?_, ?_⟩
        rotate_left
        · intro w hSw; (try dsimp only at hSw); go_simp; (try with_reducible rfl)
        try simp only [Act.put, sArr, sZ, sS]
        refine wpAnyH_ready (rs := [9]) (by kernel_rfl) (by simp) (cons_l rfl (fun K' hK' => ?_) AllReadyH.nil)
        rw [if_pos (by rfl)]
        go_simp
        go_at_call 170
        refine (hrec y0 bby).out.mono ?_
        rintro e y1 ⟨rfl, hby1⟩
        have hA4 := hA3.below hby1 hA3.lt
        have hT4 := hT3.below hby1 hT3.lt
        have hR4 := hR3.below hby1 hR3.lt
        have hs4 := hby1.size
        have bb4 := bby.trans (hby1.mono (by omega : B ≤ _))
        refine hK'.out _ _ ⟨hA4, hT4⟩ (fun hHeld => ?_)
        clear hK' K'
        try simp only [Act.put, sArr, sZ, sS]
        refine wpAnyH_ready (rs := [10]) (by kernel_rfl) (by simp) (cons_l rfl (fun K' hK' => ?_) AllReadyH.nil)
        rw [if_pos (by rfl)]
        go_simp
        go_at_call 206
        refine (hnd y1).out.mono ?_
        rintro e y2 ⟨rfl, hby2⟩
        have hA5 := hA4.below hby2 hA4.lt
        have hT5 := hT4.below hby2 hT4.lt
        have hR5 := hR4.below hby2 hR4.lt
        have hs5 := hby2.size
        have bb5 := bb4.trans (hby2.mono (by omega : B ≤ _))
        refine hK'.out _ _ ⟨hA5, hT5⟩ (fun hHeld => ?_)
        clear hK' K'
        try simp only [Act.put, sArr, sZ, sS]
        refine wpAnyH_ready (rs := [11]) (by kernel_rfl) (by simp) (cons_l rfl (fun K' hK' => ?_) AllReadyH.nil)
        refine step_storeG rfl 73 _ _ rfl 73 (B + 1) rfl W rfl 32 aggSumT hWl Z hR5 hZl hW1 ?_
        intro y3 hR6 hby3 hgy3 hsy3
        have hA6 := hA5.below hby3 (by omega)
        have hT6 := hT5.grown hgy3 (by intro e; injection e with e; exact hgo e.symm)
        have bb6 := bb5.trans (hby3.mono (by omega : B ≤ _))
        refine hK'.out _ _ ⟨hA6, hT6⟩ (fun hHeld => ?_)
        clear hK' K'
        try simp only [Act.put, sArr, sZ, sS]
        refine wpAnyH_done (by kernel_rfl) ?_ _
        clear hHeld
        go_wp2_with fail
        (try simp only [Exit.inBlock, Exit.then]); refine bodyPost_ret (results_cell rfl _ _ _ _ rfl W (by rw [hWl]; exact aggSumT) hR6.at0) rfl ?_
        exact ⟨rfl, by first | exact bb6 | (rw [hsz]; exact bb6) | (rw [← HB.out]; exact bb6)⟩
    · obtain rfl : s = 1 := by omega
      obtain ⟨B, HB⟩ : ∃ B, Hid (B = w.heap.size) := ⟨_, rfl⟩
      have hsz : w.heap.size = B := HB.out.symm
      obtain ⟨Z, HZ⟩ : ∃ Z, Hid (Z = zSum) := ⟨_, rfl⟩
      have hz := hid zeroSumZ
      rw [← HZ.out] at hz
      have hZl : Z.length = 32 := by rw [HZ.out]; simp [zSum]
      have hLF : leadF (f + 1) leaf i 1 path = leaf := by rw [leadF, if_neg (by decide)]
      rw [hLF]
      obtain ⟨L, HL⟩ : ∃ L, Hid (L = leaf.map (Value.int .u8)) := ⟨_, rfl⟩
      have hLl : L.length = 32 := by rw [HL.out, List.length_map, hl]
      have hL1 : ∀ u ∈ L, u.oneCell' = true := by rw [HL.out]; exact ints_one _ _
      rw [← HL.out]
      clear hLF ih hrow hok hst hl ol hn
      go_enter Try.func170, Try.ntmps170
      go_wp2_with (first | (refine wl_boxV rfl 73 _ rfl L rfl B hsz ?_; intro wa hAa hba hsa) | (refine wl_allocV rfl 73 rfl Z hz.out (B + 1) hsa ?_; intro wb hRb hbb hsb; have hAb := hAa.below hbb (by omega); have bbb := hba.trans (hbb.mono (by omega : B ≤ _))) | (refine wl_load rfl 73 _ rfl ⟨B, 0, none⟩ rfl L (by rw [hLl]; exact aggSumT) hAb.at0 ?_) | (refine wl_storeV rfl 73 _ _ rfl 73 (B + 1) rfl L rfl 32 aggSumT hLl Z hRb hZl hL1 ?_; intro wF hRF hbF hsF))
      (try simp only [Exit.inBlock, Exit.then]); refine bodyPost_ret (results_cell rfl _ _ _ _ rfl L (by rw [hLl]; exact aggSumT) hRF.at0) rfl ?_
      exact ⟨rfl, by first | exact bbb.trans (hbF.mono (by omega)) | (rw [hsz]; exact bbb.trans (hbF.mono (by omega))) | (rw [← HB.out]; exact bbb.trans (hbF.mono (by omega)))⟩
end Go.Proofs.Ytbljihhelladbaa.ck
