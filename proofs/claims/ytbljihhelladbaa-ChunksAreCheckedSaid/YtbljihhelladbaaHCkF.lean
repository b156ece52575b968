/-
  Contracts of vault.chunks, leaves, tree.rootOf, Root, vault.RootOf at 1025 octets; keylaw2.vaults says yes. Conditions: as stated. What a law's walk owes the row's form: a call that returns true and leaves all that was there as it was meets the law's 'post'. Conditions: none but the parameters' types being readable, which is asked as a closed fact. An envelope among a law's arguments; a slice of octets likewise. Conditions: the types' forms.
-/
import Derived.Test.YtbljihhelladbaaHCkD
import Derived.Test.YtbljihhelladbaaHCkE
import Derived.Test.YtbljihhelladbaaHWrK
import Derived.Test.YtbljihhelladbaaHMem
import Derived.Test.YtbljihhelladbaaHMkZ
import Derived.Test.YtbljihhelladbaaHShBC
import Derived.ProofKit
import Derived.OpenShut
import Derived.JoinedCond
namespace Go.Proofs.Ytbljihhelladbaa.ck
open Go.RowKit Go.Proofs.Ytbljihhelladbaa.st Go.Proofs.Ytbljihhelladbaa.hs Go.Proofs.Ytbljihhelladbaa.shr Go.Proofs.Ytbljihhelladbaa.sh Go.Proofs.Ytbljihhelladbaa.wr
set_option linter.unusedSimpArgs false
set_option linter.unusedVariables false
set_option pp.maxSteps 6000
def flatS (ls : List (List Int)) : List Value := ls.flatMap fun l => l.map (Value.int .u8)
theorem flatS_snoc (ls : List (List Int)) (l : List Int) : flatS (ls ++ [l]) = flatS ls ++ l.map (Value.int .u8) := by unfold flatS; rw [List.flatMap_append]; simp
theorem flatS_get : ∀ (ls : List (List Int)) (i j : Nat), (∀ l ∈ ls, l.length = 32) → i < ls.length → j < 32 → (flatS ls)[i * 32 + j]? = ((ls.getD i []).map (Value.int .u8))[j]?
  | [], i, j, _, hi, _ => by cases hi
  | l :: r, 0, j, h, _, hj => by
    have hl := h l (List.mem_cons_self ..)
    have e : flatS (l :: r) = l.map (Value.int .u8) ++ flatS r := by unfold flatS; rw [List.flatMap_cons]
    rw [e, Nat.zero_mul, Nat.zero_add, List.getElem?_append_left (by rw [List.length_map, hl]; exact hj)]
    rfl
  | l :: r, i + 1, j, h, hi, hj => by
    have hl := h l (List.mem_cons_self ..)
    have e : flatS (l :: r) = l.map (Value.int .u8) ++ flatS r := by unfold flatS; rw [List.flatMap_cons]
    have hm : (l.map (Value.int .u8)).length = 32 := by rw [List.length_map, hl]
    rw [e, List.getElem?_append_right (by rw [hm]; omega), hm, show (i + 1) * 32 + j - 32 = i * 32 + j by omega, flatS_get r i j (fun x hx => h x (List.mem_cons_of_mem _ hx)) (by simp at hi; omega) hj]
    rfl
theorem rowM_of {w : World} {ao : Option Addr} {ls : List (List Int)} (h : RowV w ao (flatS ls)) (hl : ∀ l ∈ ls, l.length = 32) : RowM w ao ls := by
  by_cases h0 : ls = []
  · exact Or.inl h0
  · rcases h with h | ⟨b, off, h1, h2, h3⟩
    · exfalso
      cases ls with
      | nil => exact h0 rfl
      | cons l r =>
        have := flatS_get (l :: r) 0 0 hl (by simp) (by decide)
        rw [h] at this
        have hl1 := hl l (List.mem_cons_self ..)
        cases l with
        | nil => cases hl1
        | cons c t => simp at this
    · refine Or.inr ⟨b, off, h1, h2, fun i hi j u hu => ?_⟩
      have hj : j < 32 := by
        have h4 := (List.getElem?_eq_some_iff.1 hu).1
        rw [List.length_map, hl _ (getD_memL ls i hi)] at h4
        exact h4
      have := h3 (i * 32 + j) u (by rw [flatS_get ls i j hl hi hj]; exact hu)
      rw [← Nat.add_assoc] at this
      have e : (⟨b, off + i * 32, none⟩ : Addr).add j = ⟨b, off + i * 32 + j, none⟩ := by unfold Addr.add; split <;> simp_all
      rw [e]; exact this
theorem infoSum : Info Try.prog 73 (.agg zSum.toArray) 32 32 := by unfold Info; kernel_rfl
set_option maxRecDepth 100000 in
set_option maxHeartbeats 1000000 in
theorem chunks_ok (g : Nat) (w : World) (hg : g < w.heap.size) :
    Calls Try.prog 171 #[.slice (some ⟨g, 0, none⟩) 1025 1025] w fun e w' => ∃ ao c, e = .returned (.tuple #[.slice ao 2 c, .int .i64 0]) ∧ RowV w' ao [chV g (0, 1024), chV g (1024, 1)] ∧ Below w.heap.size w w' := by
  have hch := fun w => hid (Chunk_any g w)
  obtain ⟨B, HB⟩ : ∃ B, Hid (B = w.heap.size) := ⟨_, rfl⟩
  have hsz : w.heap.size = B := HB.out.symm
  have hco := fun (y : World) (h1 : B < y.heap.size) (h2 : B + 1 < y.heap.size) h3 h4 => hid (Collect_any B (B + 1) g y h1 h2 h3 h4)
  go_enter Try.func171, Try.ntmps171
  go_wp2_with (first | (go_at_call 208; refine (hch w).out.mono ?_; rintro e w1 ⟨rfl, hw1⟩; have hb1 : Below B w w1 := (by rw [hw1]; exact ((Below.refl B w).alloc (by omega) _).alloc (by simp; omega) _); have hs1 : w1.heap.size = B + 2 := (by rw [hw1]; simp; omega); have hc1 : w1.cell? ⟨B, 0, none⟩ = some (.slice (some ⟨g, 0, none⟩) 1025 1025) := (by rw [hw1]; exact ((BlkV.new _ w [_] (hsz.symm)).alloc _).cell 0); have hc2 : w1.cell? ⟨B + 1, 0, none⟩ = some (.int .i64 1024) := (by rw [hw1]; exact (BlkV.new _ (w.alloc _) [_] (by simp; omega)).cell 0); clear hw1; rw [hsz]) | (go_at_call 207; refine (hco w1 (by omega) (by omega) hc1 hc2).out.mono ?_; rintro e w2 ⟨v, rfl, ho, hb2⟩))
  go_ret2
  obtain ⟨ao, c, rfl, _, hr⟩ := Mine.row (Or.inl ho)
  exact ⟨ao, c, rfl, hr, by rw [hsz]; exact hb1.trans (hb2.mono (by omega))⟩
set_option maxRecDepth 100000 in
set_option maxHeartbeats 2000000 in
theorem leaves_any (po : Option Addr) (cap n : Nat) (ps : List Pt) (w : World) (hn : n = ps.length) (hrow : RowV w po (ps.map Pt.v)) (hps : ∀ x ∈ ps, x.Ok w ∧ x.l.length ≤ 1048576) (hm : n ≤ 1048576) :
    Calls Try.prog 173 #[.slice po n cap] w fun e w' => ∃ ao c, e = .returned (.slice ao n c) ∧ RowM w' ao (ps.map fun p => sumL 1 p.l) ∧ n ≤ c ∧ c ≤ maxLen ∧ Below w.heap.size w w' := by
  obtain ⟨B, HB⟩ : ∃ B, Hid (B = w.heap.size) := ⟨_, rfl⟩
  have hsz : w.heap.size = B := HB.out.symm
  obtain ⟨Y, HY⟩ : ∃ Z, Hid (Z = zSum) := ⟨_, rfl⟩
  have hz32 := hid zeroSumZ
  have hinf := hid infoSum
  rw [← HY.out] at hz32 hinf
  have hYl : Y.length = 32 := by rw [HY.out]; simp [zSum]
  have hYs := hid (show (Try.prog.info? 73).map (fun i => (i.zero, i.size)) = some (some (.agg Y.toArray), 32) by rw [HY.out]; kernel_rfl)
  obtain ⟨LS, HLS⟩ : ∃ L, Hid (L = ps.map fun p => sumL 1 p.l) := ⟨_, rfl⟩
  have HLl : Hid (∀ l ∈ LS, l.length = 32) := hid (fun l hl => by rw [HLS.out] at hl; obtain ⟨p, _, rfl⟩ := List.mem_map.1 hl; exact sumL_length _ _)
  have HLn : Hid (LS.length = n) := hid (by rw [HLS.out, List.length_map, hn])
  have HN := hid hn
  have HPS := hid hps
  rw [← HLS.out]
  clear hn hps hsz
  have hBs : B ≤ w.heap.size := by rw [HB.out]; exact Nat.le_refl _
  go_enter Try.func173, Try.ntmps173
  go_wp2_with fail
  go_loopw [3, 10] (fun v i wr => ∃ (j c : Nat) (ao : Option Addr), j ≤ n ∧ i = .int .i64 j ∧ v = .slice ao j c ∧ Mine wr B 73 32 (.slice ao j c) j (flatS (LS.take j)) ∧ Below B w wr) (fun _ i _ => n - (intOf i).toNat)
  case atStart => exact ⟨0, 0, none, by omega, rfl, rfl, Mine.nil _ _ _ _, Below.refl _ _⟩
  case round =>
    obtain ⟨j, c, ao, hj, rfl, rfl, hM, hb⟩ := hrel
    have hs3 : B ≤ wr.heap.size := Nat.le_trans hBs hb.size
    by_cases hjn : j < n
    · have hjI : (j : Int) < (n : Int) := by omega
      have hjI0 : (0 : Int) ≤ (j : Int) := by omega
      have hjp : j < ps.length := by have := HN.out; omega
      have hjm : j < (ps.map Pt.v).length := by rw [List.length_map]; exact hjp
      obtain ⟨b, off, rfl, hbw, hcell⟩ := hrow.resolve_left (by intro e; rw [e] at hjm; cases hjm)
      have hx := HPS.out ps[j] (List.getElem_mem hjp)
      have hc := hcell j _ (List.getElem?_eq_getElem hjm)
      rw [List.getElem_map] at hc
      obtain ⟨xa, HXA⟩ : ∃ xa, Hid (xa = (ps[j]'hjp).a) := ⟨_, rfl⟩
      obtain ⟨xc, HXC⟩ : ∃ xc, Hid (xc = (ps[j]'hjp).c) := ⟨_, rfl⟩
      obtain ⟨xl, HXL⟩ : ∃ xl : List Int, Hid (xl = (ps[j]'hjp).l) := ⟨_, rfl⟩
      obtain ⟨mx, HM⟩ : ∃ m, Hid (m = xl.length) := ⟨_, rfl⟩
      have hv : Pt.v ps[j] = .slice xa mx xc := by rw [HM.out, HXA.out, HXC.out, HXL.out]; rfl
      rw [hv] at hc
      have hcw : wr.cell? ⟨b, off + j, none⟩ = some (.slice xa mx xc) := by rw [hb.cell (p := ⟨b, off + j, none⟩) (by rw [HB.out]; exact hbw)]; exact hc
      have hPx : Pt.Ok wr ⟨xa, xc, xl⟩ := by rw [HXA.out, HXL.out, HXC.out]; exact hx.1.below (by rw [← HB.out]; exact hb)
      have hlf := hid (Leaf_in xa xc mx xl wr HM.out hPx (by rw [HM.out, HXL.out]; exact hx.2))
      obtain ⟨V, HV⟩ : ∃ V, Hid (V = (sumL 1 xl).map (Value.int .u8)) := ⟨_, rfl⟩
      have hVl : V.length = 32 := by rw [HV.out, List.length_map]; exact sumL_length _ _
      have hV1 : ∀ u ∈ V, u.oneCell' = true := by rw [HV.out]; exact ints_one _ _
      rw [← HV.out] at hlf
      have hjL : j < LS.length := by rw [HLn.out]; exact hjn
      have HS : Hid (flatS (LS.take (j + 1)) = flatS (LS.take j) ++ V) := hid (by
        have e : LS[j]'hjL = sumL 1 xl := by
          have e : LS[j]? = some (sumL 1 xl) := by rw [HLS.out, List.getElem?_map, List.getElem?_eq_getElem hjp, HXL.out]; rfl
          rw [List.getElem?_eq_getElem hjL] at e; exact Option.some.inj e
        rw [List.take_add_one, List.getElem?_eq_getElem hjL, Option.toList_some, flatS_snoc, e, HV.out])
      clear hx hc hv hcell hjm hjL hPx
      go_wp2_with (first | (at_builtin; refine wl_appendS rfl _ _ 70 rfl 73 (.agg Y.toArray) 32 32 Try.underlying70 hinf.out (by simp [Value.cells, hYl]) (by decide) B (.slice ao j c) j _ rfl (Mine.belowAll hM b6) (some ⟨w5.heap.size, 0, none⟩) 1 1 rfl (fun h => by cases h) V (by rw [hVl]) (at_row hG6.lt hG6.at0) hV1 (by unfold maxLen; omega) (by omega) (by have := b6.size; omega) (j + 1) rfl ?_; intro ao7 c7 w7 row7 hc7 hM7 hv7 hg7 hr7) | (refine wl_slice1 rfl 70 73 _ rfl Try.underlying70 32 Y hYs.out hYl (by decide) (by decide) V rfl hVl w5.heap.size rfl ?_; intro w6 hG6 hb6 hs6; have b6 : Below wr.heap.size wr w6 := b5.trans (hb6.mono b5.size)) | (refine wl_load rfl 73 _ rfl ⟨w3.heap.size, 0, none⟩ rfl V (by rw [hVl]; exact aggSumT) hT5.at0 ?_) | (refine wl_storeV rfl 73 _ _ rfl 73 w3.heap.size rfl V rfl 32 aggSumT hVl Y hT4 hYl hV1 ?_; intro w5 hT5 hb5 hs5; have b5 : Below wr.heap.size wr w5 := b4.trans (hb5.mono b3.size)) | (refine wl_allocV rfl 73 rfl Y hz32.out w3.heap.size rfl ?_; intro w4 hT4 hb4 hs4; have b4 : Below wr.heap.size wr w4 := b3.trans (hb4.mono b3.size)) | (go_at_call 64; refine hlf.out.mono ?_; rintro e w3 ⟨rfl, b3⟩))
      go_roundw
      case rel => exact ⟨j + 1, c7, ao7, by omega, by go_num, rfl, by rw [HS.out]; exact hM7, (hb.trans (b6.mono hs3)).grown hg7 (by have := b6.size; omega) (fun k hk => (hr7 k hk).1)⟩
      case measure => simp [intOf] <;> omega
    · obtain rfl : j = n := by omega
      have hE2 : LS.take j = LS := List.take_of_length_le (by rw [HLn.out]; exact Nat.le_refl _)
      rw [hE2] at hM
      clear hE2
      go_wp2_with fail
      go_ret
      obtain ⟨ao2, c2, e2, h2, h3⟩ := hM.row
      cases e2
      refine ⟨_, _, rfl, rowM_of h3 HLl.out, h2, ?_, by rw [← HB.out]; exact hb⟩
      rcases hM with hM | ⟨_, _, _, e⟩
      · rcases hM.2 with ⟨e, _⟩ | ⟨g, cp, cur, e, _, _, _, h5, _⟩
        · cases e; decide
        · cases e; exact h5
      · cases e; decide
set_option maxRecDepth 100000 in
set_option maxHeartbeats 4000000 in
theorem rootOf_one (a : List Int) (ha : a.length = 32) (po : Option Addr) (cap : Nat) (w : World) (hrow : RowM w po [a]) :
    Calls Try.prog 210 #[.slice po 1 cap] w fun e w' => e = .returned (.agg (a.map (Value.int .u8)).toArray) ∧ Below w.heap.size w w' := by
  obtain ⟨B, HB⟩ : ∃ B, Hid (B = w.heap.size) := ⟨_, rfl⟩
  have hsz : w.heap.size = B := HB.out.symm
  obtain ⟨Z, HZ⟩ : ∃ Z, Hid (Z = zSum) := ⟨_, rfl⟩
  have hz := hid zeroSumZ
  rw [← HZ.out] at hz
  have hZl : Z.length = 32 := by rw [HZ.out]; simp [zSum]
  obtain ⟨V, HV⟩ : ∃ L, Hid (L = a.map (Value.int .u8)) := ⟨_, rfl⟩
  have hVl : V.length = 32 := by rw [HV.out, List.length_map, ha]
  have hV1 : ∀ u ∈ V, u.oneCell' = true := by rw [HV.out]; exact ints_one _ _
  obtain ⟨b, off, rfl, hb, hat⟩ := hrow.at (by intro e; cases e)
  have hat0 : At w ⟨b, off, none⟩ V := by rw [HV.out]; exact hat 0 (by simp)
  have hbB : b < B := by rw [HB.out]; exact hb
  rw [← HV.out]
  clear hrow hat ha
  go_enter Try.func210, Try.ntmps210
  go_wp2_with (first | (refine wl_allocV rfl 73 rfl Z hz.out B hsz ?_; intro w1 hR1 hb1 hs1; have hat1 := at_below hat0 hb1 hbB) | (refine wl_load rfl 73 _ rfl ⟨b, off, none⟩ rfl V (by rw [hVl]; exact aggSumT) hat1 ?_) | (refine wl_storeV rfl 73 _ _ rfl 73 B rfl V rfl 32 aggSumT hVl Z hR1 hZl hV1 ?_; intro wF hRF hbF hsF))
  (try simp only [Exit.inBlock, Exit.then]); refine bodyPost_ret (results_cell rfl _ _ _ _ rfl V (by rw [hVl]; exact aggSumT) hRF.at0) rfl ?_
  exact ⟨rfl, by first | exact hb1.trans (hbF.mono (by omega)) | (rw [hsz]; exact hb1.trans (hbF.mono (by omega)))⟩
theorem yieldsIf_sliceL {P : Program} {ops : Array Oper} {S : World → Prop} {op : Oper} {a : Act} (hw : Region.wanted op (yielded ops a.tmps) = true) (t : TypeId) (x z : Operand) (ho : op.op = .slice t x (some z) none none)
    (b off n c l s N C : Nat) (hx : a.eval x = .slice (some ⟨b, off, none⟩) n c) (hi : Int) (hz : a.eval z = .int .i64 hi) (hhi : hi = (l : Int)) (ht : P.underlying t = some (.slice (P.elem t))) (hs : ∀ w, (sizeOf (P.elem t)).run P w = .ok s w) (hl : l ≤ n) (hc : l < c) (hN : N = n - l) (hC : C = c - l) : YieldsIf P ops S op (.slice (some ⟨b, off + l * s, none⟩) N C) a :=
  .inl ⟨hw, fun w _ => by
    subst hhi hN hC
    have hrun := run_slice_l (P := P) w t (some ⟨b, off, none⟩) n c ht .i64 (l : Int) (by omega) (by omega)
    rw [hs] at hrun
    simp only [Result.andThen_ok, Int.toNat_natCast, sliced] at hrun
    have hao : (if c = l then (some ⟨b, off, none⟩ : Option Addr) else (some ⟨b, off, none⟩ : Option Addr).map (·.add (l * s))) = some ⟨b, off + l * s, none⟩ := by
      rw [if_neg (by omega), Option.map_some]
      congr 1
      unfold Addr.add; split <;> simp_all
    rw [hao] at hrun
    unfold execOp
    simp only [ho, hx, Option.map_some, Option.map_none, hz, run_sliceAt_slice (P := P) w _ _ _ _ _ ht, hrun, Sem.run_bind, Result.andThen_ok, Sem.run_pure]⟩
theorem split2 : splitN 2 = 1 := by decide
set_option maxRecDepth 100000 in
set_option maxHeartbeats 4000000 in
theorem rootOf_two (a b : List Int) (ha : SumLOk a) (hb : SumLOk b) (po : Option Addr) (cap : Nat) (w : World) (hrow : RowM w po [a, b]) (hcap : 2 ≤ cap) :
    Calls Try.prog 210 #[.slice po 2 cap] w fun e w' => e = .returned (.agg ((nodeL a b).map (Value.int .u8)).toArray) ∧ Below w.heap.size w w' := by
  obtain ⟨B, HB⟩ : ∃ B, Hid (B = w.heap.size) := ⟨_, rfl⟩
  have hsz : w.heap.size = B := HB.out.symm
  obtain ⟨Z, HZ⟩ : ∃ Z, Hid (Z = zSum) := ⟨_, rfl⟩
  have hz := hid zeroSumZ
  rw [← HZ.out] at hz
  have hZl : Z.length = 32 := by rw [HZ.out]; simp [zSum]
  obtain ⟨V, HV⟩ : ∃ L, Hid (L = (nodeL a b).map (Value.int .u8)) := ⟨_, rfl⟩
  have hVl : V.length = 32 := by rw [HV.out, List.length_map]; exact nodeL_length _ _
  have hV1 : ∀ u ∈ V, u.oneCell' = true := by rw [HV.out]; exact ints_one _ _
  obtain ⟨q, off, rfl, hq, hat⟩ := hrow.at (by intro e; cases e)
  have hr1 : RowM w (some ⟨q, off, none⟩) [a] := Or.inr ⟨q, off, rfl, hq, fun i hi => by
    have : i = 0 := by simp at hi; omega
    subst this; exact hat 0 (by simp)⟩
  have hr2 : RowM w (some ⟨q, off + 1 * 32, none⟩) [b] := Or.inr ⟨q, off + 1 * 32, rfl, hq, fun i hi => by
    have : i = 0 := by simp at hi; omega
    subst this
    have h := hat 1 (by simp)
    rw [Nat.zero_mul, Nat.add_zero]
    exact h⟩
  have h1 := fun y (hb : Below B w y) => hid (rootOf_one a ha.1 (some ⟨q, off, none⟩) cap y (hr1.below (hsz ▸ hb)))
  have h2 := fun y (hc : Below B w y) => hid (rootOf_one b hb.1 (some ⟨q, off + 1 * 32, none⟩) (cap - 1) y (hr2.below (hsz ▸ hc)))
  have hnd := fun y => hid (Node_any a b ha.1 hb.1 ha.2 hb.2 y)
  have hsp := fun y => hid (split_any 2 y (by decide) (by decide))
  rw [split2] at hsp
  simp only [← HV.out] at hnd
  rw [← HV.out]
  clear hrow hat ha hb hr1 hr2
  go_enter Try.func210, Try.ntmps210
  go_wp2_with (first | (refine wl_allocV rfl 73 rfl Z hz.out B hsz ?_; intro w1 hRa hba hsa) | (go_at_call 205; refine (hsp w1).out.mono ?_; rintro e w' ⟨rfl, rfl⟩))
  refine wp_region_held_drew (S := (fun _ => True)) (by kernel_rfl) trivial (fun hHeld => ?_)
  obtain ⟨x0, HX0⟩ : ∃ x, Hid (x = w'.drew) := ⟨_, rfl⟩
  rw [← HX0.out]
  have hR0 : BlkV 73 x0 B Z := by rw [HX0.out]; exact hRa
  have bb0 : Below B w x0 := by rw [HX0.out]; exact hba.drew
  have hs0 : x0.heap.size = B + 1 := by rw [HX0.out]; exact hsa
  clear hRa hba hsa
  refine tkP 0 rfl (by assumption) ⟨?_, ?_, ?_⟩
  rotate_left
  · intro w hSw; (try dsimp only at hSw); go_simp; (try with_reducible rfl)
  try simp only [Act.put, sArr, sZ, sS]
  refine tkP 1 rfl (by assumption) ⟨?_, ?_, ?_⟩
  rotate_left
  · intro w hSw; (try dsimp only at hSw); go_simp; (try with_reducible rfl)
  try simp only [Act.put, sArr, sZ, sS]
  refine tkR 2 rfl (yieldsIf_sliceH (by rfl) 70 _ _ rfl (some ⟨q, off, none⟩) 2 cap 1 32 rfl _ rfl rfl elemS sizeSe (by omega)) (by assumption) ?_
  try simp only [Act.put, sArr, sZ, sS]
  refine tkP 4 rfl (by assumption) ⟨?_, ?_, ?_⟩
  rotate_left
  · intro w hSw; (try dsimp only at hSw); go_simp; (try with_reducible rfl)
  try simp only [Act.put, sArr, sZ, sS]
  refine tkP 5 rfl (by assumption) ⟨?_, ?_, ?_⟩
  rotate_left
  · intro w hSw; (try dsimp only at hSw); go_simp; (try with_reducible rfl)
  try simp only [Act.put, sArr, sZ, sS]
  refine tkR 6 rfl (yieldsIf_sliceL (by rfl) 70 _ _ rfl q off 2 cap 1 32 1 (cap - 1) rfl _ rfl rfl elemS sizeSe (by omega) (by omega) rfl rfl) (by assumption) ?_
  try simp only [Act.put, sArr, sZ, sS]
  refine wpAnyH_ready (rs := [3]) (by kernel_rfl) (by simp) (cons_l rfl (fun K' hK' => ?_) AllReadyH.nil)
  rw [if_pos (by rfl)]
  go_simp
  go_at_call 210
  refine (h1 x0 bb0).out.mono ?_
  rintro e x1 ⟨rfl, hbx1⟩
  have hR1 := hR0.below hbx1 hR0.lt
  have hs1 := hbx1.size
  have bb1 := bb0.trans (hbx1.mono (by omega : B ≤ _))
  refine hK'.out _ _ trivial (fun hHeld => ?_)
  clear hK' K'
  try simp only [Act.put, sArr, sZ, sS]
  refine wpAnyH_ready (rs := [7]) (by kernel_rfl) (by simp) (cons_l rfl (fun K' hK' => ?_) AllReadyH.nil)
  rw [if_pos (by rfl)]
  go_simp
  go_at_call 210
  refine (h2 x1 bb1).out.mono ?_
  rintro e x2 ⟨rfl, hbx2⟩
  have hR2 := hR1.below hbx2 hR1.lt
  have hs2 := hbx2.size
  have bb2 := bb1.trans (hbx2.mono (by omega : B ≤ _))
  refine hK'.out _ _ trivial (fun hHeld => ?_)
  clear hK' K'
  try simp only [Act.put, sArr, sZ, sS]
  refine wpAnyH_ready (rs := [8]) (by kernel_rfl) (by simp) (cons_l rfl (fun K' hK' => ?_) AllReadyH.nil)
  rw [if_pos (by rfl)]
  go_simp
  go_at_call 206
  refine (hnd x2).out.mono ?_
  rintro e x3 ⟨rfl, hbx3⟩
  have hR3 := hR2.below hbx3 hR2.lt
  have hs3 := hbx3.size
  have bb3 := bb2.trans (hbx3.mono (by omega : B ≤ _))
  refine hK'.out _ _ trivial (fun hHeld => ?_)
  clear hK' K'
  try simp only [Act.put, sArr, sZ, sS]
  refine wpAnyH_ready (rs := [9]) (by kernel_rfl) (by simp) (cons_l rfl (fun K' hK' => ?_) AllReadyH.nil)
  refine step_storeV rfl 73 _ _ rfl 73 B rfl V rfl 32 aggSumT hVl Z hR3 hZl hV1 ?_
  intro x4 hR4 hbx4 hsx4
  have bb4 := bb3.trans hbx4
  refine hK'.out _ _ trivial (fun hHeld => ?_)
  clear hK' K'
  try simp only [Act.put, sArr, sZ, sS]
  refine wpAnyH_done (by kernel_rfl) ?_ _
  clear hHeld
  go_wp2_with fail
  (try simp only [Exit.inBlock, Exit.then]); refine bodyPost_ret (results_cell rfl _ _ _ _ rfl V (by rw [hVl]; exact aggSumT) hR4.at0) rfl ?_
  exact ⟨rfl, by first | exact bb4 | (rw [hsz]; exact bb4)⟩
set_option maxRecDepth 100000 in
set_option maxHeartbeats 4000000 in
theorem listFault_two (po : Option Addr) (cap : Nat) (w : World) :
    Calls Try.prog 209 #[.slice po 2 cap] w fun e w' => e = .returned (.int .i64 0) ∧ w' = w := by
  go_enter Try.func209, Try.ntmps209
  go_wp2
  go_ret
  exact ⟨rfl, rfl⟩
set_option maxRecDepth 100000 in
set_option maxHeartbeats 4000000 in
theorem Root_two (a b : List Int) (ha : SumLOk a) (hb : SumLOk b) (po : Option Addr) (cap : Nat) (w : World) (hrow : RowM w po [a, b]) (hcap : 2 ≤ cap) :
    Calls Try.prog 172 #[.slice po 2 cap] w fun e w' => e = .returned (.tuple #[.agg ((nodeL a b).map (Value.int .u8)).toArray, .int .i64 0]) ∧ Below w.heap.size w w' := by
  obtain ⟨B, HB⟩ : ∃ B, Hid (B = w.heap.size) := ⟨_, rfl⟩
  have hsz : w.heap.size = B := HB.out.symm
  obtain ⟨Z, HZ⟩ : ∃ Z, Hid (Z = zSum) := ⟨_, rfl⟩
  have hz := hid zeroSumZ
  rw [← HZ.out] at hz
  have hZl : Z.length = 32 := by rw [HZ.out]; simp [zSum]
  obtain ⟨V, HV⟩ : ∃ L, Hid (L = (nodeL a b).map (Value.int .u8)) := ⟨_, rfl⟩
  have hVl : V.length = 32 := by rw [HV.out, List.length_map]; exact nodeL_length _ _
  have hV1 : ∀ u ∈ V, u.oneCell' = true := by rw [HV.out]; exact ints_one _ _
  have hlf := fun y => hid (listFault_two po cap y)
  have hro := fun y (hc : Below B w y) => hid (rootOf_two a b ha hb po cap y (hrow.below (hsz ▸ hc)) hcap)
  simp only [← HV.out] at hro
  rw [← HV.out]
  clear hrow ha hb
  go_enter Try.func172, Try.ntmps172
  go_wp2_with (first | (refine wl_allocV rfl 73 rfl Z hz.out B hsz ?_; intro w1 hR1 hb1 hs1) | (go_at_call 209; refine (hlf w1).out.mono ?_; rintro e w' ⟨rfl, rfl⟩) | (go_at_call 210; refine (hro _ hb1).out.mono ?_; rintro e w2 ⟨rfl, hb2⟩; have hR2 := hR1.below hb2 hR1.lt; have bb2 := hb1.trans (hb2.mono (by omega : B ≤ _))) | (refine wl_storeV rfl 73 _ _ rfl 73 B rfl V rfl 32 aggSumT hVl Z hR2 hZl hV1 ?_; intro wF hRF hbF hsF))
  (try simp only [Exit.inBlock, Exit.then]); refine bodyPost_ret (results_cell2 rfl _ _ _ _ rfl V (by rw [hVl]; exact aggSumT) hRF.at0) rfl ?_
  exact ⟨rfl, by first | exact bb2.trans hbF | (rw [hsz]; exact bb2.trans hbF)⟩
set_option maxRecDepth 100000 in
set_option maxHeartbeats 4000000 in
theorem RootOf_ok (g : Nat) (l : List Int) (w : World) (hl : l.length = 1025) (HP : Pt.Ok w ⟨some ⟨g, 0, none⟩, 1025, l⟩) :
    Calls Try.prog 124 #[.slice (some ⟨g, 0, none⟩) 1025 1025] w fun e w' => ∃ V : List Value, V.length = 32 ∧ (∀ u ∈ V, u.oneCell' = true) ∧ e = .returned (.tuple #[.agg V.toArray, .int .i64 2, .int .i64 0]) ∧ Below w.heap.size w w' := by
  obtain ⟨B, HB⟩ : ∃ B, Hid (B = w.heap.size) := ⟨_, rfl⟩
  have hsz : w.heap.size = B := HB.out.symm
  have hgB : g < B := by rw [HB.out]; exact HP.lt _ rfl
  obtain ⟨Z, HZ⟩ : ∃ Z, Hid (Z = zSum) := ⟨_, rfl⟩
  have hz := hid zeroSumZ
  rw [← HZ.out] at hz
  have hZl : Z.length = 32 := by rw [HZ.out]; simp [zSum]
  obtain ⟨p1, hp1⟩ : ∃ p : Pt, p = ⟨some ⟨g, 0, none⟩, 1024, l.take 1024⟩ := ⟨_, rfl⟩
  obtain ⟨p2, hp2⟩ : ∃ p : Pt, p = ⟨some ⟨g, 1024, none⟩, 1, l.drop 1024⟩ := ⟨_, rfl⟩
  have hv1 : p1.v = chV g (0, 1024) := by rw [hp1]; unfold Pt.v chV; simp [hl]
  have hv2 : p2.v = chV g (1024, 1) := by rw [hp2]; unfold Pt.v chV; simp [hl]
  have ho1 : p1.Ok w := by
    rw [hp1]
    have h := ptCut HP 0 1024 1024 (by omega) (by show 1024 ≤ l.length; omega) (by omega) (by omega)
    simpa [Addr.add] using h
  have ho2 : p2.Ok w := by
    rw [hp2]
    have h := ptCut HP 1024 1025 1025 (by omega) (by show 1025 ≤ l.length; omega) (by omega) (by omega)
    have e : (l.drop 1024).take (1025 - 1024) = l.drop 1024 := List.take_of_length_le (by rw [List.length_drop]; omega)
    (try dsimp only at h)
    rw [e] at h
    simpa [Addr.add] using h
  have hl1 : p1.l.length ≤ 1048576 := by rw [hp1]; show (l.take 1024).length ≤ _; rw [List.length_take]; omega
  have hl2 : p2.l.length ≤ 1048576 := by rw [hp2]; show (l.drop 1024).length ≤ _; rw [List.length_drop]; omega
  obtain ⟨s1, HS1⟩ : ∃ s, Hid (s = sumL 1 p1.l) := ⟨_, rfl⟩
  obtain ⟨s2, HS2⟩ : ∃ s, Hid (s = sumL 1 p2.l) := ⟨_, rfl⟩
  have hk1 : SumLOk s1 := by rw [HS1.out]; exact ⟨sumL_length _ _, sumL_octs _ _⟩
  have hk2 : SumLOk s2 := by rw [HS2.out]; exact ⟨sumL_length _ _, sumL_octs _ _⟩
  have hch := fun y (hb : Below B w y) => hid (chunks_ok g y (by have := hb.size; omega))
  have hle := fun (y : World) (hb : Below B w y) (ao : Option Addr) (c : Nat) (hr : RowV y ao [chV g (0, 1024), chV g (1024, 1)]) => hid (leaves_any ao c 2 [p1, p2] y rfl (by simpa [hv1, hv2] using hr) (fun x hx => by
    simp only [List.mem_cons, List.not_mem_nil, or_false] at hx
    rcases hx with rfl | rfl
    · exact ⟨ho1.below (hsz ▸ hb), hl1⟩
    · exact ⟨ho2.below (hsz ▸ hb), hl2⟩) (by decide))
  simp only [List.map_cons, List.map_nil, ← HS1.out, ← HS2.out] at hle
  have hro := fun (y : World) (ao : Option Addr) (c : Nat) (hr : RowM y ao [s1, s2]) (hc : 2 ≤ c) => hid (Root_two s1 s2 hk1 hk2 ao c y hr hc)
  obtain ⟨V, HV⟩ : ∃ V, Hid (V = (nodeL s1 s2).map (Value.int .u8)) := ⟨_, rfl⟩
  have hVl : V.length = 32 := by rw [HV.out, List.length_map]; exact nodeL_length _ _
  have hV1 : ∀ u ∈ V, u.oneCell' = true := by rw [HV.out]; exact ints_one _ _
  simp only [← HV.out] at hro
  clear hl HP hp1 hp2 hv1 hv2 ho1 ho2 hl1 hl2 hk1 hk2
  go_enter Try.func124, Try.ntmps124
  go_wp2_with (first | (refine wl_storeV rfl 73 _ _ rfl 73 B rfl V rfl 32 aggSumT hVl Z hR6 hZl hV1 ?_; intro wF hRF hbF hsF) | (refine wl_load rfl 73 _ rfl ⟨w4.heap.size, 0, none⟩ rfl V (by rw [hVl]; exact aggSumT) hT6.at0 ?_) | (refine wl_storeV rfl 73 _ _ rfl 73 w4.heap.size rfl V rfl 32 aggSumT hVl Z hT5 hZl hV1 ?_; intro w6 hT6 hb6 hs6; have hR6 := hR5.below hb6 (by omega); have bb6 := bb5.trans (hb6.mono (by omega : B ≤ _))) | (refine wl_allocV rfl 73 rfl Z hz.out w4.heap.size rfl ?_; intro w5 hT5 hb5 hs5; have hR5 := hR4.below hb5 hR4.lt; have bb5 := bb4.trans (hb5.mono (by omega : B ≤ _))) | (go_at_call 172; refine (hro w3 ao3 c3 hr3 hc3).out.mono ?_; rintro e w4 ⟨rfl, hb4⟩; have hR4 := hR3.below hb4 hR3.lt; have bb4 := bb3.trans (hb4.mono (by omega : B ≤ _)); have hs4 := hb4.size) | (go_at_call 173; refine (hle w2 bb2 ao2 c2 hr2).out.mono ?_; rintro e w3 ⟨ao3, c3, rfl, hr3, hc3, _, hb3⟩; have hR3 := hR2.below hb3 hR2.lt; have bb3 := bb2.trans (hb3.mono (by omega : B ≤ _)); have hs3 := hb3.size) | (go_at_call 171; refine (hch w1 hb1).out.mono ?_; rintro e w2 ⟨ao2, c2, rfl, hr2, hb2⟩; have hR2 := hR1.below hb2 hR1.lt; have bb2 := hb1.trans (hb2.mono (by omega : B ≤ _)); have hs2 := hb2.size) | (refine wl_allocV rfl 73 rfl Z hz.out B hsz ?_; intro w1 hR1 hb1 hs1))
  (try simp only [Exit.inBlock, Exit.then]); refine bodyPost_ret (results_cell3 rfl _ _ _ _ rfl V (by rw [hVl]; exact aggSumT) hRF.at0) rfl ?_
  exact ⟨V, hVl, hV1, rfl, by first | exact bb6.trans hbF | (rw [hsz]; exact bb6.trans hbF)⟩
set_option maxRecDepth 100000 in
set_option maxHeartbeats 4000000 in
theorem vaults_any (w : World) :
    Calls Try.prog 66 #[] w fun e w' => e = .returned (.bool true) ∧ Below w.heap.size w w' := by
  obtain ⟨B, HB⟩ : ∃ B, Hid (B = w.heap.size) := ⟨_, rfl⟩
  have hsz : w.heap.size = B := HB.out.symm
  obtain ⟨Z, HZ⟩ : ∃ Z, Hid (Z = zSum) := ⟨_, rfl⟩
  have hz := hid zeroSumZ
  rw [← HZ.out] at hz
  have hZl : Z.length = 32 := by rw [HZ.out]; simp [zSum]
  obtain ⟨O, HO⟩ : ∃ O, Hid (O = List.replicate 1025 (0 : Int)) := ⟨_, rfl⟩
  have hOl : O.length = 1025 := by rw [HO.out]; simp
  have hOo : Octs O := fun c hc => by rw [HO.out] at hc; rw [(List.mem_replicate.1 hc).2]; exact ⟨by decide, by decide⟩
  have hro := fun (y : World) (HP : Pt.Ok y ⟨some ⟨B, 0, none⟩, 1025, O⟩) => hid (RootOf_ok B O y hOl HP)
  go_enter Try.func66, Try.ntmps66
  go_wp2_with (first | ((refine wl_makeO rfl _ _ rfl 1025 (by decide) rfl rfl B hsz ?_; intro w1 hI hb1 hs1; rw [← HO.out] at hI; have hP1 : Pt.Ok w1 ⟨some ⟨B, 0, none⟩, 1025, O⟩ := ⟨(at_row hI.v.lt hI.v.at0).i, (by show O.length ≤ 1025; omega), (by show 1025 ≤ maxLen; decide), hOo, (fun b e => by cases e; exact hI.v.lt)⟩)) | (go_at_call 124; refine (hro w1 hP1).out.mono ?_; rintro e w2 ⟨V, hVl, hV1, rfl, hb2⟩; have bb2 := hb1.trans (hb2.mono (by omega : B ≤ _)); have hs2 := hb2.size) | (refine wl_allocV rfl 73 rfl Z hz.out w2.heap.size rfl ?_; intro w3 hT3 hb3 hs3; have bb3 := bb2.trans (hb3.mono (by omega : B ≤ _))) | (refine wl_storeV rfl 73 _ _ rfl 73 w2.heap.size rfl V rfl 32 aggSumT hVl Z hT3 hZl hV1 ?_; intro w4 hT4 hb4 hs4; have bb4 := bb3.trans (hb4.mono (by omega : B ≤ _))))
  go_ret
  exact ⟨rfl, by first | exact bb4 | (rw [hsz]; exact bb4)⟩
end Go.Proofs.Ytbljihhelladbaa.ck
namespace Go.Proofs.Ytbljihhelladbaa.law
set_option linter.unusedSimpArgs false
set_option linter.unusedVariables false
open Go.ChangeShapes Go.WideShapes Go.ChangeAt Go.RowKit
/-- types that can be read, and whose rows there are -/
def Readable (P : Program) : List TypeId → Prop
  | [] => True
  | t :: ts => P.readableRec t = true ∧ t < P.types.size ∧ Readable P ts
theorem readable_nil {P : Program} : Readable P [] := trivial
theorem readable_cons {P : Program} {t : TypeId} {ts : List TypeId} (h : P.readableRec t = true) (k : t < P.types.size) (r : Readable P ts) : Readable P (t :: ts) := ⟨h, k, r⟩
theorem stays {H : Type} {enc : TypeId × Value → H} {P : Program} (hl : laidOutB P = true) {W W' : World} (hb : Below W.heap.size W W') :
    ∀ (ts : List TypeId) (vs : List Value) (ds : List (DataW H)) (ps : List MemPlace), Readable P ts → DataW.TrodAll enc P W 0 (fun _ => true) true ts vs ds ps → (∀ x ∈ ps, x.block < W.heap.size) →
      DataW.TrodAll enc P W' 0 (fun b => decide (b < W.heap.size)) true ts vs ds ps
  | [], vs, ds, ps, _, h, _ => by
    obtain ⟨rfl, rfl, rfl⟩ := trodAll_nil h
    exact trodAll_mk0
  | t :: ts, vs, ds, ps, hr, h, hlt => by
    obtain ⟨v, vs1, d, ds1, a, b, rfl, rfl, rfl, h1, h2⟩ := trodAll_cons h
    exact trodAll_cons_mk (Below.trod hl hr.1 hr.2.1 h1 hb (fun x hx => hlt x (List.mem_append_left _ hx))) (stays hl hb ts vs1 ds1 b hr.2.2 h2 (fun x hx => hlt x (List.mem_append_right _ hx)))
theorem post {H : Type} {enc : TypeId × Value → H} {P : Program} (hl : laidOutB P = true) {f : Func} {s : ChangeSpec} {W W' : World} {args : Array Value} {ds gs : List (DataW H)} {before : List MemPlace} {tb : TypeId}
    (hW : DataW.Whole enc P f.params.toList s.vars false W args.toList ds gs before) (hvars : s.vars = []) (hp : Readable P f.params.toList) (hr : f.resultTypes = #[tb]) (hu : P.underlying tb = some .bool)
    (hfn : (s.fn H ds) = { results := [.lit (.bool true)], args := ds }) (hb : Below W.heap.size W W') :
    s.post enc P f false true false false W args (.bool true) W' := by
  have hW' := hW
  obtain ⟨p, q, hA, hV, rfl, hfz, hnd⟩ := hW
  rw [hvars] at hV
  obtain ⟨rfl, rfl⟩ := trodVars_none hV
  refine ⟨ds, [], p ++ [], [], p, [], hW', ?_, ?_, ?_, hb.frame _, fun h => by cases h⟩
  · rw [hr, List.append_nil, hfn]
    exact trodAll_cons_mk (shut_bool hu true) trodAll_mk0
  · rw [List.append_nil, hfn]
    exact stays hl hb _ _ _ _ hp hA fun x hx => hA.lt x hx
  · rw [hvars, List.append_nil, hfn]
    exact rfl
theorem laidOut : laidOutB Try.prog = true := by kernel_rfl
theorem own : ownKnob Try.prog.godebug = none := by kernel_rfl
end Go.Proofs.Ytbljihhelladbaa.law
namespace Go.Proofs.Ytbljihhelladbaa.wr
open Go.ChangeShapes Go.WideShapes Go.ChangeAt Go.RowKit
open Go.Proofs.Ytbljihhelladbaa.st Go.Proofs.Ytbljihhelladbaa.hs Go.Proofs.Ytbljihhelladbaa.shr
set_option linter.unusedSimpArgs false
set_option linter.unusedVariables false
theorem intsCap {H : Type} {enc : TypeId × Value → H} {P : Program} {W : World} {base : Nat} {held : Bool} {t e : TypeId} {k : IntKind} {ao : Option Addr} {len cap : Nat} {d : DataW H} {ps : List MemPlace}
    (ht : P.underlying t = some (.slice e)) (he : P.underlying e = some (.int k)) (hc : P.cellsOf e = 1) (hd : DataW.Trod enc P W base (fun _ => true) held t (.slice ao len cap) d ps) : cap ≤ maxLen := by
  obtain ⟨fuel, hf⟩ := hd
  rcases open_ints ht he hc hf with ⟨h1, _⟩ | ⟨ad, ln, cp, zs, h1, h2, h3, h4, _⟩
  · simp [Value.cells] at h1
    rw [h1.2.2]; decide
  · simp [Value.cells] at h1
    obtain ⟨_, _, rfl⟩ := h1
    exact h4
theorem cut_step {α : Type} {cs X : List α} {k n : Nat} (h : (cs.drop k).take n = X) : cs.drop k = X ++ cs.drop (k + n) := by
  rw [← h, ← List.drop_drop]
  exact (List.take_append_drop n (cs.drop k)).symm
end Go.Proofs.Ytbljihhelladbaa.wr
