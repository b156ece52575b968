/-
  Contracts of tree.RootBy, tree.Proved and vault.CheckChunk: what a proof says. Conditions: sums of 32 octets, a proof of the type's form.
-/
import Derived.Test.YtbljihhelladbaaHCkC
import Derived.Test.YtbljihhelladbaaHMkX
namespace Go.Proofs.Ytbljihhelladbaa.ck
open Go.RowKit Go.Proofs.Ytbljihhelladbaa.st Go.Proofs.Ytbljihhelladbaa.hs Go.Proofs.Ytbljihhelladbaa.shr Go.Proofs.Ytbljihhelladbaa.sh Go.Proofs.Ytbljihhelladbaa.wr
set_option linter.unusedSimpArgs false
set_option linter.unusedVariables false
set_option pp.maxSteps 6000
/-- a proof: a place, a size, a path -/
structure Prf where
  i : Int
  s : Int
  p : List (List Int)
  a : Option Addr
  c : Nat
def Prf.cs (x : Prf) : List Value := [.int .i64 x.i, .int .i64 x.s, .slice x.a x.p.length x.c]
structure Prf.Ok (w : World) (x : Prf) : Prop where
  row : RowM w x.a x.p
  ok : ∀ t ∈ x.p, SumLOk t
  le : x.p.length ≤ x.c
  cap : x.c ≤ maxLen
theorem Prf.Ok.below {w w' : World} {x : Prf} (h : x.Ok w) (hb : Below w.heap.size w w') : x.Ok w' := ⟨h.row.below hb, h.ok, h.le, h.cap⟩
def rootE (x : Prf) : Int := if x.s < 1 ∨ 65536 < x.s then 4 else if x.i < 0 ∨ x.s ≤ x.i then 7 else if x.p.length ≠ stepsF x.s.toNat x.i.toNat x.s.toNat then 12 else 0
def zL : List Int := List.replicate 32 0
def rootL (leaf : List Int) (x : Prf) : List Int := if rootE x = 0 then leadF x.s.toNat leaf x.i.toNat x.s.toNat x.p else zL
theorem rootL_ok (leaf : List Int) (x : Prf) (h : leaf.length = 32) (o : Octs leaf) : (rootL leaf x).length = 32 ∧ Octs (rootL leaf x) := by
  unfold rootL
  split
  · exact leadF_ok _ _ _ _ _ h o
  · refine ⟨by simp [zL], fun c hc => ?_⟩
    unfold zL at hc
    rw [(List.mem_replicate.1 hc).2]; exact ⟨by decide, by decide⟩
def rootV (leaf : List Int) (x : Prf) : Value := .tuple #[.agg ((rootL leaf x).map (Value.int .u8)).toArray, .int .i64 (rootE x)]
def provedE (root leaf : List Int) (x : Prf) : Int := if rootE x = 0 then (if rootL leaf x = root then 0 else 12) else rootE x
def checkE (root chunk : List Int) (x : Prf) : Int := if 1 ≤ chunk.length ∧ chunk.length ≤ 1024 then provedE root (sumL 1 chunk) x else 2
theorem aggPr : Agg Try.prog 100 3 := Agg.str Try.underlying100 (by kernel_rfl)
theorem Prf.c0 (x : Prf) : x.cs[0]? = some (.int .i64 x.i) := rfl
theorem Prf.c1 (x : Prf) : x.cs[1]? = some (.int .i64 x.s) := rfl
theorem Prf.c2 (x : Prf) : x.cs[2]? = some (.slice x.a x.p.length x.c) := rfl
set_option maxRecDepth 100000 in
set_option maxHeartbeats 4000000 in
theorem RootBy_low (leaf : List Int) (x : Prf) (w : World) (hl : leaf.length = 32) (ol : Octs leaf) (hx : x.Ok w) (h1 : x.s < 1) (h2 : True) (h3 : True) :
    Calls Try.prog 123 #[.agg (leaf.map (Value.int .u8)).toArray, .agg x.cs.toArray] w fun e w' => e = .returned (rootV leaf x) ∧ Below w.heap.size w w' := by
  obtain ⟨B, HB⟩ : ∃ B, Hid (B = w.heap.size) := ⟨_, rfl⟩
  have hsz : w.heap.size = B := HB.out.symm
  obtain ⟨Z, HZ⟩ : ∃ Z, Hid (Z = zSum) := ⟨_, rfl⟩
  have hz := hid zeroSumZ
  have hb0S := hid built0
  rw [← HZ.out] at hz hb0S
  have hZl : Z.length = 32 := by rw [HZ.out]; simp [zSum]
  have hZ1 : ∀ u ∈ Z, u.oneCell' = true := by rw [HZ.out]; unfold zSum; exact ints_one _ _
  obtain ⟨L, HL⟩ : ∃ L, Hid (L = leaf.map (Value.int .u8)) := ⟨_, rfl⟩
  have hLl : L.length = 32 := by rw [HL.out, List.length_map, hl]
  obtain ⟨CS, HCS⟩ : ∃ C, Hid (C = x.cs) := ⟨_, rfl⟩
  have hCl : CS.length = 3 := by rw [HCS.out]; rfl
  have hE : rootE x = 4 := by
    unfold rootE; rw [if_pos (Or.inl h1)]
  have HV : Hid (rootV leaf x = .tuple #[.agg Z.toArray, .int .i64 4]) := hid (by unfold rootV rootL; rw [hE, if_neg (by decide), HZ.out]; rfl)
  obtain ⟨I, hI⟩ : ∃ I, I = x.i := ⟨_, rfl⟩
  obtain ⟨S, hS⟩ : ∃ I, I = x.s := ⟨_, rfl⟩
  have hc0 := hid x.c0
  have hc1 := hid x.c1
  have hc2 := hid x.c2
  obtain ⟨pa, HPA⟩ : ∃ a, Hid (a = x.a) := ⟨_, rfl⟩
  obtain ⟨pn, HPN⟩ : ∃ a, Hid (a = x.p.length) := ⟨_, rfl⟩
  obtain ⟨pc, HPC⟩ : ∃ a, Hid (a = x.c) := ⟨_, rfl⟩
  rw [← hI, ← HCS.out] at hc0
  rw [← hS, ← HCS.out] at hc1
  rw [← HPA.out, ← HPN.out, ← HPC.out, ← HCS.out] at hc2
  rw [HV.out, ← HL.out, ← HCS.out]
  (try rw [← hI] at h1); (try rw [← hI] at h2); (try rw [← hI] at h3)
  (try rw [← hS] at h1); (try rw [← hS] at h2); (try rw [← hS] at h3)
  (try obtain ⟨h1, h1'⟩ := h1)
  clear hI hS hE hl ol hx
  go_enter Try.func123, Try.ntmps123
  go_wp2_with (first | (refine wl_boxV rfl 73 _ rfl L rfl B hsz ?_; intro wa hAa hba hsa) | (refine wl_boxV rfl 100 _ rfl CS rfl (B + 1) hsa ?_; intro wb hPb hbb hsb; have hAb := hAa.below hbb (by omega); have bbb := hba.trans (hbb.mono (by omega : B ≤ _)); clear hAa hba hbb) | (refine wl_allocV rfl 73 rfl Z hz.out (B + 2) hsb ?_; intro wc hRc hbc hsc; have hAc := hAb.below hbc (by omega); have hPc := hPb.below hbc (by omega); have bbc := bbb.trans (hbc.mono (by omega : B ≤ _)); have c0 := (hPc.cell 0).trans hc0.out; have c1 := (hPc.cell 1).trans hc1.out; have c2 := (hPc.cell 2).trans hc2.out; clear hAb hPb bbb hbc) | (refine wl_build0 rfl 73 rfl Z hb0S.out ?_) | (refine wl_storeV rfl 73 _ _ rfl 73 (B + 2) rfl Z rfl 32 aggSumT hZl Z hRc hZl hZ1 ?_; intro wF hRF hbF hsF))
  (try simp only [Exit.inBlock, Exit.then]); refine bodyPost_ret (results_cell2 rfl _ _ _ _ rfl Z (by rw [hZl]; exact aggSumT) hRF.at0) rfl ?_
  exact ⟨rfl, by first | exact bbc.trans (hbF.mono (by omega)) | (rw [hsz]; exact bbc.trans (hbF.mono (by omega))) | (rw [← HB.out]; exact bbc.trans (hbF.mono (by omega)))⟩
set_option maxRecDepth 100000 in
set_option maxHeartbeats 4000000 in
theorem RootBy_high (leaf : List Int) (x : Prf) (w : World) (hl : leaf.length = 32) (ol : Octs leaf) (hx : x.Ok w) (h1 : ¬ x.s < 1) (h2 : 65536 < x.s) (h3 : True) :
    Calls Try.prog 123 #[.agg (leaf.map (Value.int .u8)).toArray, .agg x.cs.toArray] w fun e w' => e = .returned (rootV leaf x) ∧ Below w.heap.size w w' := by
  obtain ⟨B, HB⟩ : ∃ B, Hid (B = w.heap.size) := ⟨_, rfl⟩
  have hsz : w.heap.size = B := HB.out.symm
  obtain ⟨Z, HZ⟩ : ∃ Z, Hid (Z = zSum) := ⟨_, rfl⟩
  have hz := hid zeroSumZ
  have hb0S := hid built0
  rw [← HZ.out] at hz hb0S
  have hZl : Z.length = 32 := by rw [HZ.out]; simp [zSum]
  have hZ1 : ∀ u ∈ Z, u.oneCell' = true := by rw [HZ.out]; unfold zSum; exact ints_one _ _
  obtain ⟨L, HL⟩ : ∃ L, Hid (L = leaf.map (Value.int .u8)) := ⟨_, rfl⟩
  have hLl : L.length = 32 := by rw [HL.out, List.length_map, hl]
  obtain ⟨CS, HCS⟩ : ∃ C, Hid (C = x.cs) := ⟨_, rfl⟩
  have hCl : CS.length = 3 := by rw [HCS.out]; rfl
  have hE : rootE x = 4 := by
    unfold rootE; rw [if_pos (Or.inr h2)]
  have HV : Hid (rootV leaf x = .tuple #[.agg Z.toArray, .int .i64 4]) := hid (by unfold rootV rootL; rw [hE, if_neg (by decide), HZ.out]; rfl)
  obtain ⟨I, hI⟩ : ∃ I, I = x.i := ⟨_, rfl⟩
  obtain ⟨S, hS⟩ : ∃ I, I = x.s := ⟨_, rfl⟩
  have hc0 := hid x.c0
  have hc1 := hid x.c1
  have hc2 := hid x.c2
  obtain ⟨pa, HPA⟩ : ∃ a, Hid (a = x.a) := ⟨_, rfl⟩
  obtain ⟨pn, HPN⟩ : ∃ a, Hid (a = x.p.length) := ⟨_, rfl⟩
  obtain ⟨pc, HPC⟩ : ∃ a, Hid (a = x.c) := ⟨_, rfl⟩
  rw [← hI, ← HCS.out] at hc0
  rw [← hS, ← HCS.out] at hc1
  rw [← HPA.out, ← HPN.out, ← HPC.out, ← HCS.out] at hc2
  rw [HV.out, ← HL.out, ← HCS.out]
  (try rw [← hI] at h1); (try rw [← hI] at h2); (try rw [← hI] at h3)
  (try rw [← hS] at h1); (try rw [← hS] at h2); (try rw [← hS] at h3)
  (try obtain ⟨h1, h1'⟩ := h1)
  clear hI hS hE hl ol hx
  go_enter Try.func123, Try.ntmps123
  go_wp2_with (first | (refine wl_boxV rfl 73 _ rfl L rfl B hsz ?_; intro wa hAa hba hsa) | (refine wl_boxV rfl 100 _ rfl CS rfl (B + 1) hsa ?_; intro wb hPb hbb hsb; have hAb := hAa.below hbb (by omega); have bbb := hba.trans (hbb.mono (by omega : B ≤ _)); clear hAa hba hbb) | (refine wl_allocV rfl 73 rfl Z hz.out (B + 2) hsb ?_; intro wc hRc hbc hsc; have hAc := hAb.below hbc (by omega); have hPc := hPb.below hbc (by omega); have bbc := bbb.trans (hbc.mono (by omega : B ≤ _)); have c0 := (hPc.cell 0).trans hc0.out; have c1 := (hPc.cell 1).trans hc1.out; have c2 := (hPc.cell 2).trans hc2.out; clear hAb hPb bbb hbc) | (refine wl_build0 rfl 73 rfl Z hb0S.out ?_) | (refine wl_storeV rfl 73 _ _ rfl 73 (B + 2) rfl Z rfl 32 aggSumT hZl Z hRc hZl hZ1 ?_; intro wF hRF hbF hsF))
  (try simp only [Exit.inBlock, Exit.then]); refine bodyPost_ret (results_cell2 rfl _ _ _ _ rfl Z (by rw [hZl]; exact aggSumT) hRF.at0) rfl ?_
  exact ⟨rfl, by first | exact bbc.trans (hbF.mono (by omega)) | (rw [hsz]; exact bbc.trans (hbF.mono (by omega))) | (rw [← HB.out]; exact bbc.trans (hbF.mono (by omega)))⟩
set_option maxRecDepth 100000 in
set_option maxHeartbeats 4000000 in
theorem RootBy_neg (leaf : List Int) (x : Prf) (w : World) (hl : leaf.length = 32) (ol : Octs leaf) (hx : x.Ok w) (h1 : ¬ x.s < 1 ∧ ¬ 65536 < x.s) (h2 : x.i < 0) (h3 : True) :
    Calls Try.prog 123 #[.agg (leaf.map (Value.int .u8)).toArray, .agg x.cs.toArray] w fun e w' => e = .returned (rootV leaf x) ∧ Below w.heap.size w w' := by
  obtain ⟨B, HB⟩ : ∃ B, Hid (B = w.heap.size) := ⟨_, rfl⟩
  have hsz : w.heap.size = B := HB.out.symm
  obtain ⟨Z, HZ⟩ : ∃ Z, Hid (Z = zSum) := ⟨_, rfl⟩
  have hz := hid zeroSumZ
  have hb0S := hid built0
  rw [← HZ.out] at hz hb0S
  have hZl : Z.length = 32 := by rw [HZ.out]; simp [zSum]
  have hZ1 : ∀ u ∈ Z, u.oneCell' = true := by rw [HZ.out]; unfold zSum; exact ints_one _ _
  obtain ⟨L, HL⟩ : ∃ L, Hid (L = leaf.map (Value.int .u8)) := ⟨_, rfl⟩
  have hLl : L.length = 32 := by rw [HL.out, List.length_map, hl]
  obtain ⟨CS, HCS⟩ : ∃ C, Hid (C = x.cs) := ⟨_, rfl⟩
  have hCl : CS.length = 3 := by rw [HCS.out]; rfl
  have hE : rootE x = 7 := by
    unfold rootE; rw [if_neg (by omega), if_pos (Or.inl h2)]
  have HV : Hid (rootV leaf x = .tuple #[.agg Z.toArray, .int .i64 7]) := hid (by unfold rootV rootL; rw [hE, if_neg (by decide), HZ.out]; rfl)
  obtain ⟨I, hI⟩ : ∃ I, I = x.i := ⟨_, rfl⟩
  obtain ⟨S, hS⟩ : ∃ I, I = x.s := ⟨_, rfl⟩
  have hc0 := hid x.c0
  have hc1 := hid x.c1
  have hc2 := hid x.c2
  obtain ⟨pa, HPA⟩ : ∃ a, Hid (a = x.a) := ⟨_, rfl⟩
  obtain ⟨pn, HPN⟩ : ∃ a, Hid (a = x.p.length) := ⟨_, rfl⟩
  obtain ⟨pc, HPC⟩ : ∃ a, Hid (a = x.c) := ⟨_, rfl⟩
  rw [← hI, ← HCS.out] at hc0
  rw [← hS, ← HCS.out] at hc1
  rw [← HPA.out, ← HPN.out, ← HPC.out, ← HCS.out] at hc2
  rw [HV.out, ← HL.out, ← HCS.out]
  (try rw [← hI] at h1); (try rw [← hI] at h2); (try rw [← hI] at h3)
  (try rw [← hS] at h1); (try rw [← hS] at h2); (try rw [← hS] at h3)
  (try obtain ⟨h1, h1'⟩ := h1)
  clear hI hS hE hl ol hx
  go_enter Try.func123, Try.ntmps123
  go_wp2_with (first | (refine wl_boxV rfl 73 _ rfl L rfl B hsz ?_; intro wa hAa hba hsa) | (refine wl_boxV rfl 100 _ rfl CS rfl (B + 1) hsa ?_; intro wb hPb hbb hsb; have hAb := hAa.below hbb (by omega); have bbb := hba.trans (hbb.mono (by omega : B ≤ _)); clear hAa hba hbb) | (refine wl_allocV rfl 73 rfl Z hz.out (B + 2) hsb ?_; intro wc hRc hbc hsc; have hAc := hAb.below hbc (by omega); have hPc := hPb.below hbc (by omega); have bbc := bbb.trans (hbc.mono (by omega : B ≤ _)); have c0 := (hPc.cell 0).trans hc0.out; have c1 := (hPc.cell 1).trans hc1.out; have c2 := (hPc.cell 2).trans hc2.out; clear hAb hPb bbb hbc) | (refine wl_build0 rfl 73 rfl Z hb0S.out ?_) | (refine wl_storeV rfl 73 _ _ rfl 73 (B + 2) rfl Z rfl 32 aggSumT hZl Z hRc hZl hZ1 ?_; intro wF hRF hbF hsF))
  (try simp only [Exit.inBlock, Exit.then]); refine bodyPost_ret (results_cell2 rfl _ _ _ _ rfl Z (by rw [hZl]; exact aggSumT) hRF.at0) rfl ?_
  exact ⟨rfl, by first | exact bbc.trans (hbF.mono (by omega)) | (rw [hsz]; exact bbc.trans (hbF.mono (by omega))) | (rw [← HB.out]; exact bbc.trans (hbF.mono (by omega)))⟩
set_option maxRecDepth 100000 in
set_option maxHeartbeats 4000000 in
theorem RootBy_far (leaf : List Int) (x : Prf) (w : World) (hl : leaf.length = 32) (ol : Octs leaf) (hx : x.Ok w) (h1 : ¬ x.s < 1 ∧ ¬ 65536 < x.s) (h2 : ¬ x.i < 0) (h3 : x.s ≤ x.i) :
    Calls Try.prog 123 #[.agg (leaf.map (Value.int .u8)).toArray, .agg x.cs.toArray] w fun e w' => e = .returned (rootV leaf x) ∧ Below w.heap.size w w' := by
  obtain ⟨B, HB⟩ : ∃ B, Hid (B = w.heap.size) := ⟨_, rfl⟩
  have hsz : w.heap.size = B := HB.out.symm
  obtain ⟨Z, HZ⟩ : ∃ Z, Hid (Z = zSum) := ⟨_, rfl⟩
  have hz := hid zeroSumZ
  have hb0S := hid built0
  rw [← HZ.out] at hz hb0S
  have hZl : Z.length = 32 := by rw [HZ.out]; simp [zSum]
  have hZ1 : ∀ u ∈ Z, u.oneCell' = true := by rw [HZ.out]; unfold zSum; exact ints_one _ _
  obtain ⟨L, HL⟩ : ∃ L, Hid (L = leaf.map (Value.int .u8)) := ⟨_, rfl⟩
  have hLl : L.length = 32 := by rw [HL.out, List.length_map, hl]
  obtain ⟨CS, HCS⟩ : ∃ C, Hid (C = x.cs) := ⟨_, rfl⟩
  have hCl : CS.length = 3 := by rw [HCS.out]; rfl
  have hE : rootE x = 7 := by
    unfold rootE; rw [if_neg (by omega), if_pos (Or.inr h3)]
  have HV : Hid (rootV leaf x = .tuple #[.agg Z.toArray, .int .i64 7]) := hid (by unfold rootV rootL; rw [hE, if_neg (by decide), HZ.out]; rfl)
  obtain ⟨I, hI⟩ : ∃ I, I = x.i := ⟨_, rfl⟩
  obtain ⟨S, hS⟩ : ∃ I, I = x.s := ⟨_, rfl⟩
  have hc0 := hid x.c0
  have hc1 := hid x.c1
  have hc2 := hid x.c2
  obtain ⟨pa, HPA⟩ : ∃ a, Hid (a = x.a) := ⟨_, rfl⟩
  obtain ⟨pn, HPN⟩ : ∃ a, Hid (a = x.p.length) := ⟨_, rfl⟩
  obtain ⟨pc, HPC⟩ : ∃ a, Hid (a = x.c) := ⟨_, rfl⟩
  rw [← hI, ← HCS.out] at hc0
  rw [← hS, ← HCS.out] at hc1
  rw [← HPA.out, ← HPN.out, ← HPC.out, ← HCS.out] at hc2
  rw [HV.out, ← HL.out, ← HCS.out]
  (try rw [← hI] at h1); (try rw [← hI] at h2); (try rw [← hI] at h3)
  (try rw [← hS] at h1); (try rw [← hS] at h2); (try rw [← hS] at h3)
  (try obtain ⟨h1, h1'⟩ := h1)
  clear hI hS hE hl ol hx
  go_enter Try.func123, Try.ntmps123
  go_wp2_with (first | (refine wl_boxV rfl 73 _ rfl L rfl B hsz ?_; intro wa hAa hba hsa) | (refine wl_boxV rfl 100 _ rfl CS rfl (B + 1) hsa ?_; intro wb hPb hbb hsb; have hAb := hAa.below hbb (by omega); have bbb := hba.trans (hbb.mono (by omega : B ≤ _)); clear hAa hba hbb) | (refine wl_allocV rfl 73 rfl Z hz.out (B + 2) hsb ?_; intro wc hRc hbc hsc; have hAc := hAb.below hbc (by omega); have hPc := hPb.below hbc (by omega); have bbc := bbb.trans (hbc.mono (by omega : B ≤ _)); have c0 := (hPc.cell 0).trans hc0.out; have c1 := (hPc.cell 1).trans hc1.out; have c2 := (hPc.cell 2).trans hc2.out; clear hAb hPb bbb hbc) | (refine wl_build0 rfl 73 rfl Z hb0S.out ?_) | (refine wl_storeV rfl 73 _ _ rfl 73 (B + 2) rfl Z rfl 32 aggSumT hZl Z hRc hZl hZ1 ?_; intro wF hRF hbF hsF))
  (try simp only [Exit.inBlock, Exit.then]); refine bodyPost_ret (results_cell2 rfl _ _ _ _ rfl Z (by rw [hZl]; exact aggSumT) hRF.at0) rfl ?_
  exact ⟨rfl, by first | exact bbc.trans (hbF.mono (by omega)) | (rw [hsz]; exact bbc.trans (hbF.mono (by omega))) | (rw [← HB.out]; exact bbc.trans (hbF.mono (by omega)))⟩
set_option maxRecDepth 100000 in
set_option maxHeartbeats 4000000 in
theorem RootBy_steps (leaf : List Int) (x : Prf) (w : World) (hl : leaf.length = 32) (ol : Octs leaf) (hx : x.Ok w) (h1 : 1 ≤ x.s ∧ x.s ≤ 65536) (h2 : 0 ≤ x.i ∧ x.i < x.s) (h3 : ¬ x.p.length = stepsF x.s.toNat x.i.toNat x.s.toNat) :
    Calls Try.prog 123 #[.agg (leaf.map (Value.int .u8)).toArray, .agg x.cs.toArray] w fun e w' => e = .returned (rootV leaf x) ∧ Below w.heap.size w w' := by
  obtain ⟨B, HB⟩ : ∃ B, Hid (B = w.heap.size) := ⟨_, rfl⟩
  have hsz : w.heap.size = B := HB.out.symm
  obtain ⟨Z, HZ⟩ : ∃ Z, Hid (Z = zSum) := ⟨_, rfl⟩
  have hz := hid zeroSumZ
  have hb0S := hid built0
  rw [← HZ.out] at hz hb0S
  have hZl : Z.length = 32 := by rw [HZ.out]; simp [zSum]
  have hZ1 : ∀ u ∈ Z, u.oneCell' = true := by rw [HZ.out]; unfold zSum; exact ints_one _ _
  obtain ⟨L, HL⟩ : ∃ L, Hid (L = leaf.map (Value.int .u8)) := ⟨_, rfl⟩
  have hLl : L.length = 32 := by rw [HL.out, List.length_map, hl]
  obtain ⟨CS, HCS⟩ : ∃ C, Hid (C = x.cs) := ⟨_, rfl⟩
  have hCl : CS.length = 3 := by rw [HCS.out]; rfl
  have hE : rootE x = 12 := by unfold rootE; rw [if_neg (by omega), if_neg (by omega), if_pos h3]
  obtain ⟨I, hI⟩ : ∃ I : Nat, x.i = (I : Int) := ⟨x.i.toNat, by omega⟩
  obtain ⟨S, hS⟩ : ∃ I : Nat, x.s = (I : Int) := ⟨x.s.toNat, by omega⟩
  have hI2 : x.i.toNat = I := by omega
  have hS2 : x.s.toNat = S := by omega
  rw [hI2, hS2] at h3
  obtain ⟨n, Hn⟩ : ∃ n, Hid (n = x.p.length) := ⟨_, rfl⟩
  obtain ⟨pa, HPA⟩ : ∃ a, Hid (a = x.a) := ⟨_, rfl⟩
  obtain ⟨pc, HPC⟩ : ∃ a, Hid (a = x.c) := ⟨_, rfl⟩
  have hc0 := hid x.c0
  have hc1 := hid x.c1
  have hc2 := hid x.c2
  rw [hI, ← HCS.out] at hc0
  rw [hS, ← HCS.out] at hc1
  rw [← HPA.out, ← Hn.out, ← HPC.out, ← HCS.out] at hc2
  rw [← Hn.out] at h3
  obtain ⟨q, Hq⟩ : ∃ q, Hid (q = stepsF S I S) := ⟨_, rfl⟩
  have hst := fun w => hid (steps_any I S w (by omega) (by omega))
  rw [← Hq.out] at hst h3
  have hql : q ≤ 65536 := by rw [Hq.out]; have := stepsF_le S I S (by omega); omega
  have hs1 : ¬ (S : Int) < 1 := by omega
  have hs2 : ¬ (65536 : Int) < (S : Int) := by omega
  have hi1 : ¬ (I : Int) < 0 := by omega
  have hi2 : ¬ (S : Int) ≤ (I : Int) := by omega
  have HV : Hid (rootV leaf x = .tuple #[.agg Z.toArray, .int .i64 12]) := hid (by unfold rootV rootL; rw [hE, if_neg (by decide), HZ.out]; rfl)
  have h3I : ¬ (n : Int) = (q : Int) := by omega
  rw [HV.out, ← HL.out, ← HCS.out]
  clear hI2 hS2 hE h1 h2 hl ol hx hI hS h3
  go_enter Try.func123, Try.ntmps123
  go_wp2_with (first | (refine wl_boxV rfl 73 _ rfl L rfl B hsz ?_; intro wa hAa hba hsa) | (refine wl_boxV rfl 100 _ rfl CS rfl (B + 1) hsa ?_; intro wb hPb hbb hsb; have hAb := hAa.below hbb (by omega); have bbb := hba.trans (hbb.mono (by omega : B ≤ _)); clear hAa hba hbb) | (refine wl_allocV rfl 73 rfl Z hz.out (B + 2) hsb ?_; intro wc hRc hbc hsc; have hAc := hAb.below hbc (by omega); have hPc := hPb.below hbc (by omega); have bbc := bbb.trans (hbc.mono (by omega : B ≤ _)); have c0 := (hPc.cell 0).trans hc0.out; have c1 := (hPc.cell 1).trans hc1.out; have c2 := (hPc.cell 2).trans hc2.out; clear hAb hPb bbb hbc))
  refine wp_region_held_drew (S := (fun w' => w'.cell? ⟨B + 1, 0, none⟩ = some (.int .i64 (I : Int)) ∧ w'.cell? ⟨B + 1, 1, none⟩ = some (.int .i64 (S : Int)) ∧ w'.cell? ⟨B + 1, 2, none⟩ = some (.slice pa n pc))) (by kernel_rfl) ⟨c0, c1, c2⟩ (fun hHeld => ?_)
  obtain ⟨x0, HX0⟩ : ∃ x, Hid (x = wc.drew) := ⟨_, rfl⟩
  rw [← HX0.out] at hHeld ⊢
  have hA0 : BlkV 73 x0 B L := by rw [HX0.out]; exact hAc
  have hP0 : BlkV 100 x0 (B + 1) CS := by rw [HX0.out]; exact hPc
  have hR0 : BlkV 73 x0 (B + 2) Z := by rw [HX0.out]; exact hRc
  have bb0 : Below B w x0 := by rw [HX0.out]; exact bbc.drew
  have hsx0 : x0.heap.size = B + 3 := by rw [HX0.out]; exact hsc
  clear hAc hPc hRc bbc c0 c1 c2
  have c0 := (hP0.cell 0).trans hc0.out
  have c1 := (hP0.cell 1).trans hc1.out
  have c2 := (hP0.cell 2).trans hc2.out
  refine take_l (i := 0) (v := ?rv1) rfl (by kernel_rfl) (by kernel_rfl) (by kernel_rfl) (fun _ _ _ h => h) (Or.inl ⟨by rfl, ?rhy1⟩) (by assumption) ?rrest1
  case rhy1 => (intro w hSw; (try dsimp only at hSw); go_simp; (try with_reducible rfl))
  try simp only [Act.put, List.setIfInBounds_toArray, List.set_cons_zero, List.set_cons_succ]
  refine take_l (i := 1) (v := ?rv2) rfl (by kernel_rfl) (by kernel_rfl) (by kernel_rfl) (fun _ _ _ h => h) (Or.inl ⟨by rfl, ?rhy2⟩) (by assumption) ?rrest2
  case rhy2 => (intro w hSw; (try dsimp only at hSw); go_simp; (try with_reducible rfl))
  try simp only [Act.put, List.setIfInBounds_toArray, List.set_cons_zero, List.set_cons_succ]
  refine take_l (i := 2) (v := ?rv3) rfl (by kernel_rfl) (by kernel_rfl) (by kernel_rfl) (fun _ _ _ h => h) (Or.inl ⟨by rfl, ?rhy3⟩) (by assumption) ?rrest3
  case rhy3 => (intro w hSw; (try dsimp only at hSw); go_simp; (try with_reducible rfl))
  try simp only [Act.put, List.setIfInBounds_toArray, List.set_cons_zero, List.set_cons_succ]
  refine take_l (i := 3) (v := ?rv4) rfl (by kernel_rfl) (by kernel_rfl) (by kernel_rfl) (fun _ _ _ h => h) (Or.inl ⟨by rfl, ?rhy4⟩) (by assumption) ?rrest4
  case rhy4 => (intro w hSw; (try dsimp only at hSw); go_simp; (try with_reducible rfl))
  try simp only [Act.put, List.setIfInBounds_toArray, List.set_cons_zero, List.set_cons_succ]
  refine take_l (i := 4) (v := ?rv5) rfl (by kernel_rfl) (by kernel_rfl) (by kernel_rfl) (fun _ _ _ h => h) (Or.inl ⟨by rfl, ?rhy5⟩) (by assumption) ?rrest5
  case rhy5 => (intro w hSw; (try dsimp only at hSw); go_simp; (try with_reducible rfl))
  try simp only [Act.put, List.setIfInBounds_toArray, List.set_cons_zero, List.set_cons_succ]
  refine take_l (i := 5) (v := ?rv6) rfl (by kernel_rfl) (by kernel_rfl) (by kernel_rfl) (fun _ _ _ h => h) (Or.inl ⟨by rfl, ?rhy6⟩) (by assumption) ?rrest6
  case rhy6 => (intro w hSw; (try dsimp only at hSw); go_simp; (try with_reducible rfl))
  try simp only [Act.put, List.setIfInBounds_toArray, List.set_cons_zero, List.set_cons_succ]
  refine take_l (i := 6) (v := ?rv7) rfl (by kernel_rfl) (by kernel_rfl) (by kernel_rfl) (fun _ _ _ h => h) (Or.inl ⟨by rfl, ?rhy7⟩) (by assumption) ?rrest7
  case rhy7 => (intro w hSw; (try dsimp only at hSw); go_simp; (try with_reducible rfl))
  try simp only [Act.put, List.setIfInBounds_toArray, List.set_cons_zero, List.set_cons_succ]
  refine wpAnyH_ready (rs := [7]) (by kernel_rfl) (by simp) (cons_l rfl (fun K' hK' => ?_) AllReadyH.nil)
  rw [if_pos (by rfl)]
  go_simp
  go_at_call 169
  refine (hst x0).out.mono ?_
  rintro e x1 ⟨rfl, rfl⟩
  refine hK'.out _ _ ⟨c0, c1, c2⟩ (fun hHeld => ?_)
  clear hK' K'
  try simp only [Act.put, List.setIfInBounds_toArray, List.set_cons_zero, List.set_cons_succ]
  refine take_l (i := 8) (v := ?rv8) rfl (by kernel_rfl) (by kernel_rfl) (by kernel_rfl) (fun _ _ _ h => h) (Or.inl ⟨by rfl, ?rhy8⟩) (by assumption) ?rrest8
  case rhy8 => (intro w hSw; (try dsimp only at hSw); go_simp; (try with_reducible rfl))
  try simp only [Act.put, List.setIfInBounds_toArray, List.set_cons_zero, List.set_cons_succ]
  refine take_l (i := 9) (v := ?rv9) rfl (by kernel_rfl) (by kernel_rfl) (by kernel_rfl) (fun _ _ _ h => h) (Or.inl ⟨by rfl, ?rhy9⟩) (by assumption) ?rrest9
  case rhy9 => (intro w hSw; (try dsimp only at hSw); go_simp; (try with_reducible rfl))
  try simp only [Act.put, List.setIfInBounds_toArray, List.set_cons_zero, List.set_cons_succ]
  refine wpAnyH_done (by kernel_rfl) ?_ _
  clear hHeld
  go_wp2_with (first | (refine wl_build0 rfl 73 rfl Z hb0S.out ?_) | (refine wl_storeV rfl 73 _ _ rfl 73 (B + 2) rfl Z rfl 32 aggSumT hZl Z hR0 hZl hZ1 ?_; intro wF hRF hbF hsF))
  (try simp only [Exit.inBlock, Exit.then]); refine bodyPost_ret (results_cell2 rfl _ _ _ _ rfl Z (by rw [hZl]; exact aggSumT) hRF.at0) rfl ?_
  exact ⟨rfl, by first | exact bb0.trans (hbF.mono (by omega)) | (rw [hsz]; exact bb0.trans (hbF.mono (by omega))) | (rw [← HB.out]; exact bb0.trans (hbF.mono (by omega)))⟩
set_option maxRecDepth 100000 in
set_option maxHeartbeats 4000000 in
theorem RootBy_ok (leaf : List Int) (x : Prf) (w : World) (hl : leaf.length = 32) (ol : Octs leaf) (hx : x.Ok w) (h1 : 1 ≤ x.s ∧ x.s ≤ 65536) (h2 : 0 ≤ x.i ∧ x.i < x.s) (h3 :  x.p.length = stepsF x.s.toNat x.i.toNat x.s.toNat) :
    Calls Try.prog 123 #[.agg (leaf.map (Value.int .u8)).toArray, .agg x.cs.toArray] w fun e w' => e = .returned (rootV leaf x) ∧ Below w.heap.size w w' := by
  obtain ⟨B, HB⟩ : ∃ B, Hid (B = w.heap.size) := ⟨_, rfl⟩
  have hsz : w.heap.size = B := HB.out.symm
  obtain ⟨Z, HZ⟩ : ∃ Z, Hid (Z = zSum) := ⟨_, rfl⟩
  have hz := hid zeroSumZ
  have hb0S := hid built0
  rw [← HZ.out] at hz hb0S
  have hZl : Z.length = 32 := by rw [HZ.out]; simp [zSum]
  have hZ1 : ∀ u ∈ Z, u.oneCell' = true := by rw [HZ.out]; unfold zSum; exact ints_one _ _
  obtain ⟨L, HL⟩ : ∃ L, Hid (L = leaf.map (Value.int .u8)) := ⟨_, rfl⟩
  have hLl : L.length = 32 := by rw [HL.out, List.length_map, hl]
  obtain ⟨CS, HCS⟩ : ∃ C, Hid (C = x.cs) := ⟨_, rfl⟩
  have hCl : CS.length = 3 := by rw [HCS.out]; rfl
  have hE : rootE x = 0 := by unfold rootE; rw [if_neg (by omega), if_neg (by omega), if_neg (fun g => g h3)]
  obtain ⟨I, hI⟩ : ∃ I : Nat, x.i = (I : Int) := ⟨x.i.toNat, by omega⟩
  obtain ⟨S, hS⟩ : ∃ I : Nat, x.s = (I : Int) := ⟨x.s.toNat, by omega⟩
  have hI2 : x.i.toNat = I := by omega
  have hS2 : x.s.toNat = S := by omega
  rw [hI2, hS2] at h3
  obtain ⟨n, Hn⟩ : ∃ n, Hid (n = x.p.length) := ⟨_, rfl⟩
  obtain ⟨pa, HPA⟩ : ∃ a, Hid (a = x.a) := ⟨_, rfl⟩
  obtain ⟨pc, HPC⟩ : ∃ a, Hid (a = x.c) := ⟨_, rfl⟩
  have hc0 := hid x.c0
  have hc1 := hid x.c1
  have hc2 := hid x.c2
  rw [hI, ← HCS.out] at hc0
  rw [hS, ← HCS.out] at hc1
  rw [← HPA.out, ← Hn.out, ← HPC.out, ← HCS.out] at hc2
  rw [← Hn.out] at h3
  obtain ⟨q, Hq⟩ : ∃ q, Hid (q = stepsF S I S) := ⟨_, rfl⟩
  have hst := fun w => hid (steps_any I S w (by omega) (by omega))
  rw [← Hq.out] at hst h3
  have hql : q ≤ 65536 := by rw [Hq.out]; have := stepsF_le S I S (by omega); omega
  have hs1 : ¬ (S : Int) < 1 := by omega
  have hs2 : ¬ (65536 : Int) < (S : Int) := by omega
  have hi1 : ¬ (I : Int) < 0 := by omega
  have hi2 : ¬ (S : Int) ≤ (I : Int) := by omega
  obtain rfl : n = q := h3
  obtain ⟨W, HW⟩ : ∃ W, Hid (W = (leadF S leaf I S x.p).map (Value.int .u8)) := ⟨_, rfl⟩
  have HV : Hid (rootV leaf x = .tuple #[.agg W.toArray, .int .i64 0]) := hid (by unfold rootV rootL; rw [hE, if_pos rfl, hI2, hS2, HW.out])
  have hWl : W.length = 32 := by rw [HW.out, List.length_map]; exact (leadF_ok _ _ _ _ _ hl ol).1
  have hW1 : ∀ u ∈ W, u.oneCell' = true := by rw [HW.out]; exact ints_one _ _
  have hle := fun y (hb : Below B w y) => hid (lead_any S I S leaf x.p x.a x.p.length x.c y (by omega) (Nat.le_refl _) (by omega) (by omega) rfl (by rw [← Hn.out]; exact Hq.out) hl ol (hx.row.below (hsz ▸ hb)) hx.ok hx.le hx.cap)
  rw [← HPA.out, ← Hn.out, ← HPC.out, ← HW.out, ← HL.out] at hle
  rw [HV.out, ← HL.out, ← HCS.out]
  clear hI2 hS2 hE h1 h2 hl ol hx hI hS
  go_enter Try.func123, Try.ntmps123
  go_wp2_with (first | (refine wl_boxV rfl 73 _ rfl L rfl B hsz ?_; intro wa hAa hba hsa) | (refine wl_boxV rfl 100 _ rfl CS rfl (B + 1) hsa ?_; intro wb hPb hbb hsb; have hAb := hAa.below hbb (by omega); have bbb := hba.trans (hbb.mono (by omega : B ≤ _)); clear hAa hba hbb) | (refine wl_allocV rfl 73 rfl Z hz.out (B + 2) hsb ?_; intro wc hRc hbc hsc; have hAc := hAb.below hbc (by omega); have hPc := hPb.below hbc (by omega); have bbc := bbb.trans (hbc.mono (by omega : B ≤ _)); have c0 := (hPc.cell 0).trans hc0.out; have c1 := (hPc.cell 1).trans hc1.out; have c2 := (hPc.cell 2).trans hc2.out; clear hAb hPb bbb hbc))
  refine wp_region_held_drew (S := (fun w' => w'.cell? ⟨B + 1, 0, none⟩ = some (.int .i64 (I : Int)) ∧ w'.cell? ⟨B + 1, 1, none⟩ = some (.int .i64 (S : Int)) ∧ w'.cell? ⟨B + 1, 2, none⟩ = some (.slice pa n pc))) (by kernel_rfl) ⟨c0, c1, c2⟩ (fun hHeld => ?_)
  obtain ⟨x0, HX0⟩ : ∃ x, Hid (x = wc.drew) := ⟨_, rfl⟩
  rw [← HX0.out] at hHeld ⊢
  have hA0 : BlkV 73 x0 B L := by rw [HX0.out]; exact hAc
  have hP0 : BlkV 100 x0 (B + 1) CS := by rw [HX0.out]; exact hPc
  have hR0 : BlkV 73 x0 (B + 2) Z := by rw [HX0.out]; exact hRc
  have bb0 : Below B w x0 := by rw [HX0.out]; exact bbc.drew
  have hsx0 : x0.heap.size = B + 3 := by rw [HX0.out]; exact hsc
  clear hAc hPc hRc bbc c0 c1 c2
  have c0 := (hP0.cell 0).trans hc0.out
  have c1 := (hP0.cell 1).trans hc1.out
  have c2 := (hP0.cell 2).trans hc2.out
  refine take_l (i := 0) (v := ?rv10) rfl (by kernel_rfl) (by kernel_rfl) (by kernel_rfl) (fun _ _ _ h => h) (Or.inl ⟨by rfl, ?rhy10⟩) (by assumption) ?rrest10
  case rhy10 => (intro w hSw; (try dsimp only at hSw); go_simp; (try with_reducible rfl))
  try simp only [Act.put, List.setIfInBounds_toArray, List.set_cons_zero, List.set_cons_succ]
  refine take_l (i := 1) (v := ?rv11) rfl (by kernel_rfl) (by kernel_rfl) (by kernel_rfl) (fun _ _ _ h => h) (Or.inl ⟨by rfl, ?rhy11⟩) (by assumption) ?rrest11
  case rhy11 => (intro w hSw; (try dsimp only at hSw); go_simp; (try with_reducible rfl))
  try simp only [Act.put, List.setIfInBounds_toArray, List.set_cons_zero, List.set_cons_succ]
  refine take_l (i := 2) (v := ?rv12) rfl (by kernel_rfl) (by kernel_rfl) (by kernel_rfl) (fun _ _ _ h => h) (Or.inl ⟨by rfl, ?rhy12⟩) (by assumption) ?rrest12
  case rhy12 => (intro w hSw; (try dsimp only at hSw); go_simp; (try with_reducible rfl))
  try simp only [Act.put, List.setIfInBounds_toArray, List.set_cons_zero, List.set_cons_succ]
  refine take_l (i := 3) (v := ?rv13) rfl (by kernel_rfl) (by kernel_rfl) (by kernel_rfl) (fun _ _ _ h => h) (Or.inl ⟨by rfl, ?rhy13⟩) (by assumption) ?rrest13
  case rhy13 => (intro w hSw; (try dsimp only at hSw); go_simp; (try with_reducible rfl))
  try simp only [Act.put, List.setIfInBounds_toArray, List.set_cons_zero, List.set_cons_succ]
  refine take_l (i := 4) (v := ?rv14) rfl (by kernel_rfl) (by kernel_rfl) (by kernel_rfl) (fun _ _ _ h => h) (Or.inl ⟨by rfl, ?rhy14⟩) (by assumption) ?rrest14
  case rhy14 => (intro w hSw; (try dsimp only at hSw); go_simp; (try with_reducible rfl))
  try simp only [Act.put, List.setIfInBounds_toArray, List.set_cons_zero, List.set_cons_succ]
  refine take_l (i := 5) (v := ?rv15) rfl (by kernel_rfl) (by kernel_rfl) (by kernel_rfl) (fun _ _ _ h => h) (Or.inl ⟨by rfl, ?rhy15⟩) (by assumption) ?rrest15
  case rhy15 => (intro w hSw; (try dsimp only at hSw); go_simp; (try with_reducible rfl))
  try simp only [Act.put, List.setIfInBounds_toArray, List.set_cons_zero, List.set_cons_succ]
  refine take_l (i := 6) (v := ?rv16) rfl (by kernel_rfl) (by kernel_rfl) (by kernel_rfl) (fun _ _ _ h => h) (Or.inl ⟨by rfl, ?rhy16⟩) (by assumption) ?rrest16
  case rhy16 => (intro w hSw; (try dsimp only at hSw); go_simp; (try with_reducible rfl))
  try simp only [Act.put, List.setIfInBounds_toArray, List.set_cons_zero, List.set_cons_succ]
  refine wpAnyH_ready (rs := [7]) (by kernel_rfl) (by simp) (cons_l rfl (fun K' hK' => ?_) AllReadyH.nil)
  rw [if_pos (by rfl)]
  go_simp
  go_at_call 169
  refine (hst x0).out.mono ?_
  rintro e x1 ⟨rfl, rfl⟩
  refine hK'.out _ _ ⟨c0, c1, c2⟩ (fun hHeld => ?_)
  clear hK' K'
  try simp only [Act.put, List.setIfInBounds_toArray, List.set_cons_zero, List.set_cons_succ]
  refine take_l (i := 8) (v := ?rv17) rfl (by kernel_rfl) (by kernel_rfl) (by kernel_rfl) (fun _ _ _ h => h) (Or.inl ⟨by rfl, ?rhy17⟩) (by assumption) ?rrest17
  case rhy17 => (intro w hSw; (try dsimp only at hSw); go_simp; (try with_reducible rfl))
  try simp only [Act.put, List.setIfInBounds_toArray, List.set_cons_zero, List.set_cons_succ]
  refine take_l (i := 9) (v := ?rv18) rfl (by kernel_rfl) (by kernel_rfl) (by kernel_rfl) (fun _ _ _ h => h) (Or.inl ⟨by rfl, ?rhy18⟩) (by assumption) ?rrest18
  case rhy18 => (intro w hSw; (try dsimp only at hSw); go_simp; (try with_reducible rfl))
  try simp only [Act.put, List.setIfInBounds_toArray, List.set_cons_zero, List.set_cons_succ]
  refine wpAnyH_done (by kernel_rfl) ?_ _
  clear hHeld
  go_wp2_with (first | (refine wl_load rfl 73 _ rfl ⟨B, 0, none⟩ rfl L (by rw [hLl]; exact aggSumT) hA0.at0 ?_) | (go_at_call 170; refine (hle _ bb0).out.mono ?_; rintro e x2 ⟨rfl, hbx⟩; have hR2 := hR0.below hbx hR0.lt; have bb2 := bb0.trans (hbx.mono (by omega : B ≤ _))) | (refine wl_storeV rfl 73 _ _ rfl 73 (B + 2) rfl W rfl 32 aggSumT hWl Z hR2 hZl hW1 ?_; intro wF hRF hbF hsF))
  (try simp only [Exit.inBlock, Exit.then]); refine bodyPost_ret (results_cell2 rfl _ _ _ _ rfl W (by rw [hWl]; exact aggSumT) hRF.at0) rfl ?_
  exact ⟨rfl, by first | exact bb2.trans (hbF.mono (by omega)) | (rw [hsz]; exact bb2.trans (hbF.mono (by omega))) | (rw [← HB.out]; exact bb2.trans (hbF.mono (by omega)))⟩
theorem RootBy_any (leaf : List Int) (x : Prf) (w : World) (hl : leaf.length = 32) (ol : Octs leaf) (hx : x.Ok w) :
    Calls Try.prog 123 #[.agg (leaf.map (Value.int .u8)).toArray, .agg x.cs.toArray] w fun e w' => e = .returned (rootV leaf x) ∧ Below w.heap.size w w' := by
  by_cases h1 : x.s < 1
  · exact RootBy_low leaf x w hl ol hx h1 trivial trivial
  · by_cases h2 : 65536 < x.s
    · exact RootBy_high leaf x w hl ol hx h1 h2 trivial
    · by_cases h3 : x.i < 0
      · exact RootBy_neg leaf x w hl ol hx ⟨by omega, by omega⟩ h3 trivial
      · by_cases h4 : x.s ≤ x.i
        · exact RootBy_far leaf x w hl ol hx ⟨by omega, by omega⟩ h3 h4
        · by_cases h5 : x.p.length = stepsF x.s.toNat x.i.toNat x.s.toNat
          · exact RootBy_ok leaf x w hl ol hx ⟨by omega, by omega⟩ ⟨by omega, by omega⟩ h5
          · exact RootBy_steps leaf x w hl ol hx ⟨by omega, by omega⟩ ⟨by omega, by omega⟩ h5
set_option maxRecDepth 100000 in
set_option maxHeartbeats 4000000 in
theorem Proved_bad (root : List Int) (hr : root.length = 32) (leaf : List Int) (x : Prf) (w : World) (hl : leaf.length = 32) (ol : Octs leaf) (hx : x.Ok w) (h : rootE x ≠ 0) :
    Calls Try.prog 65 #[.agg (root.map (Value.int .u8)).toArray, .agg (leaf.map (Value.int .u8)).toArray, .agg x.cs.toArray] w fun e w' => e = .returned (.int .i64 (provedE root leaf x)) ∧ Below w.heap.size w w' := by
  obtain ⟨B, HB⟩ : ∃ B, Hid (B = w.heap.size) := ⟨_, rfl⟩
  have hsz : w.heap.size = B := HB.out.symm
  obtain ⟨Z, HZ⟩ : ∃ Z, Hid (Z = zSum) := ⟨_, rfl⟩
  have hz := hid zeroSumZ
  rw [← HZ.out] at hz
  have hZl : Z.length = 32 := by rw [HZ.out]; simp [zSum]
  obtain ⟨R, HR⟩ : ∃ L, Hid (L = root.map (Value.int .u8)) := ⟨_, rfl⟩
  have hRl : R.length = 32 := by rw [HR.out, List.length_map, hr]
  obtain ⟨L, HL⟩ : ∃ L, Hid (L = leaf.map (Value.int .u8)) := ⟨_, rfl⟩
  have hLl : L.length = 32 := by rw [HL.out, List.length_map, hl]
  obtain ⟨CS, HCS⟩ : ∃ C, Hid (C = x.cs) := ⟨_, rfl⟩
  have hCl : CS.length = 3 := by rw [HCS.out]; rfl
  obtain ⟨V, HV⟩ : ∃ V, Hid (V = (rootL leaf x).map (Value.int .u8)) := ⟨_, rfl⟩
  have hVl : V.length = 32 := by rw [HV.out, List.length_map]; exact (rootL_ok leaf x hl ol).1
  have hV1 : ∀ u ∈ V, u.oneCell' = true := by rw [HV.out]; exact ints_one _ _
  have hrb := fun y (hb : Below B w y) => hid (RootBy_any leaf x y hl ol (hx.below (hsz ▸ hb)))
  unfold rootV at hrb
  have HE : Hid (provedE root leaf x = rootE x) := hid (by unfold provedE; rw [if_neg h])
  rw [HE.out]
  obtain ⟨E, HE2⟩ : ∃ E, Hid (E = rootE x) := ⟨_, rfl⟩
  rw [← HE2.out] at hrb h ⊢
  have hE0 : (E == 0) = false := by simpa using h
  simp only [← HV.out, ← HL.out, ← HCS.out] at hrb
  rw [← HR.out, ← HL.out, ← HCS.out]
  clear hr hl ol hx h
  go_enter Try.func65, Try.ntmps65
  go_wp2_with (first | (refine wl_storeV rfl 73 _ _ rfl 73 wd.heap.size rfl V rfl 32 aggSumT hVl Z hTe hZl hV1 ?_; intro wf hTf hbf hsf; have hAf := hAe.below hbf (by omega); have bbf := bbe.trans (hbf.mono (by omega : B ≤ _)); clear hTe hAe bbe hbf) | (refine wl_allocV rfl 73 rfl Z hz.out wd.heap.size rfl ?_; intro we hTe hbe hse; have hAe := hAd.below hbe hAd.lt; have bbe := bbd.trans (hbe.mono (by omega : B ≤ _)); clear hAd bbd hbe) | (go_at_call 123; refine (hrb wc bbc).out.mono ?_; rintro e wd ⟨rfl, hbd⟩; have hAd := hAc.below hbd hAc.lt; have bbd := bbc.trans (hbd.mono (by omega : B ≤ _)); have hsd := hbd.size; clear hAc hLc hPc bbc hbd) | (refine wl_load rfl 100 _ rfl ⟨B + 2, 0, none⟩ rfl CS (by rw [hCl]; exact aggPr) hPc.at0 ?_) | (refine wl_load rfl 73 _ rfl ⟨B + 1, 0, none⟩ rfl L (by rw [hLl]; exact aggSumT) hLc.at0 ?_) | (refine wl_boxV rfl 100 _ rfl CS rfl (B + 2) hsb ?_; intro wc hPc hbc hsc; have hAc := hAb.below hbc (by omega); have hLc := hLb.below hbc (by omega); have bbc := bbb.trans (hbc.mono (by omega : B ≤ _)); clear hAb hLb bbb hbc) | (refine wl_boxV rfl 73 _ rfl L rfl (B + 1) hsa ?_; intro wb hLb hbb hsb; have hAb := hAa.below hbb (by omega); have bbb := hba.trans (hbb.mono (by omega : B ≤ _)); clear hAa hba hbb) | (refine wl_boxV rfl 73 _ rfl R rfl B hsz ?_; intro wa hAa hba hsa))
  go_ret
  exact ⟨rfl, by first | exact bbf | (rw [hsz]; exact bbf) | (rw [← HB.out]; exact bbf)⟩
set_option maxRecDepth 100000 in
set_option maxHeartbeats 4000000 in
theorem Proved_ne (root : List Int) (hr : root.length = 32) (leaf : List Int) (x : Prf) (w : World) (hl : leaf.length = 32) (ol : Octs leaf) (hx : x.Ok w) (h : rootE x = 0) (hq : ¬ rootL leaf x = root) :
    Calls Try.prog 65 #[.agg (root.map (Value.int .u8)).toArray, .agg (leaf.map (Value.int .u8)).toArray, .agg x.cs.toArray] w fun e w' => e = .returned (.int .i64 (provedE root leaf x)) ∧ Below w.heap.size w w' := by
  obtain ⟨B, HB⟩ : ∃ B, Hid (B = w.heap.size) := ⟨_, rfl⟩
  have hsz : w.heap.size = B := HB.out.symm
  obtain ⟨Z, HZ⟩ : ∃ Z, Hid (Z = zSum) := ⟨_, rfl⟩
  have hz := hid zeroSumZ
  rw [← HZ.out] at hz
  have hZl : Z.length = 32 := by rw [HZ.out]; simp [zSum]
  obtain ⟨R, HR⟩ : ∃ L, Hid (L = root.map (Value.int .u8)) := ⟨_, rfl⟩
  have hRl : R.length = 32 := by rw [HR.out, List.length_map, hr]
  obtain ⟨L, HL⟩ : ∃ L, Hid (L = leaf.map (Value.int .u8)) := ⟨_, rfl⟩
  have hLl : L.length = 32 := by rw [HL.out, List.length_map, hl]
  obtain ⟨CS, HCS⟩ : ∃ C, Hid (C = x.cs) := ⟨_, rfl⟩
  have hCl : CS.length = 3 := by rw [HCS.out]; rfl
  obtain ⟨V, HV⟩ : ∃ V, Hid (V = (rootL leaf x).map (Value.int .u8)) := ⟨_, rfl⟩
  have hVl : V.length = 32 := by rw [HV.out, List.length_map]; exact (rootL_ok leaf x hl ol).1
  have hV1 : ∀ u ∈ V, u.oneCell' = true := by rw [HV.out]; exact ints_one _ _
  have hrb := fun y (hb : Below B w y) => hid (RootBy_any leaf x y hl ol (hx.below (hsz ▸ hb)))
  unfold rootV at hrb
  have HE : Hid (provedE root leaf x = 12) := hid (by unfold provedE; rw [if_pos h, if_neg hq])
  have hqq := fun w => hid (run_eq_sum w (rootL leaf x) root (rootL_ok leaf x hl ol).1 hr)
  rw [show (rootL leaf x == root) = false by simpa using hq, ← HV.out, ← HR.out] at hqq
  rw [HE.out]
  rw [h] at hrb
  have HEG := hid (by kernel_rfl : Try.prog.eqGuardType Try.prog.depth 73 = false)
  simp only [← HV.out, ← HL.out, ← HCS.out] at hrb
  rw [← HR.out, ← HL.out, ← HCS.out]
  clear hr hl ol hx h hq
  go_enter Try.func65, Try.ntmps65
  go_wp2_with (first | (refine wl_neM 20 rfl (by rfl) 73 _ _ _ rfl V.toArray R.toArray rfl rfl false (hqq wf).out HEG.out ?_) | (refine wl_loadD 19 rfl (by rfl) 73 _ rfl ⟨B, 0, none⟩ rfl 32 R hRl aggSumT hAf.at0 ?_) | (refine wl_loadD 18 rfl (by rfl) 73 _ rfl ⟨wd.heap.size, 0, none⟩ rfl 32 V hVl aggSumT hTf.at0 ?_) | (refine wl_storeV rfl 73 _ _ rfl 73 wd.heap.size rfl V rfl 32 aggSumT hVl Z hTe hZl hV1 ?_; intro wf hTf hbf hsf; have hAf := hAe.below hbf (by omega); have bbf := bbe.trans (hbf.mono (by omega : B ≤ _)); clear hTe hAe bbe hbf) | (refine wl_allocV rfl 73 rfl Z hz.out wd.heap.size rfl ?_; intro we hTe hbe hse; have hAe := hAd.below hbe hAd.lt; have bbe := bbd.trans (hbe.mono (by omega : B ≤ _)); clear hAd bbd hbe) | (go_at_call 123; refine (hrb wc bbc).out.mono ?_; rintro e wd ⟨rfl, hbd⟩; have hAd := hAc.below hbd hAc.lt; have bbd := bbc.trans (hbd.mono (by omega : B ≤ _)); have hsd := hbd.size; clear hAc hLc hPc bbc hbd) | (refine wl_load rfl 100 _ rfl ⟨B + 2, 0, none⟩ rfl CS (by rw [hCl]; exact aggPr) hPc.at0 ?_) | (refine wl_load rfl 73 _ rfl ⟨B + 1, 0, none⟩ rfl L (by rw [hLl]; exact aggSumT) hLc.at0 ?_) | (refine wl_boxV rfl 100 _ rfl CS rfl (B + 2) hsb ?_; intro wc hPc hbc hsc; have hAc := hAb.below hbc (by omega); have hLc := hLb.below hbc (by omega); have bbc := bbb.trans (hbc.mono (by omega : B ≤ _)); clear hAb hLb bbb hbc) | (refine wl_boxV rfl 73 _ rfl L rfl (B + 1) hsa ?_; intro wb hLb hbb hsb; have hAb := hAa.below hbb (by omega); have bbb := hba.trans (hbb.mono (by omega : B ≤ _)); clear hAa hba hbb) | (refine wl_boxV rfl 73 _ rfl R rfl B hsz ?_; intro wa hAa hba hsa))
  go_ret
  exact ⟨rfl, by first | exact bbf | (rw [hsz]; exact bbf) | (rw [← HB.out]; exact bbf)⟩
set_option maxRecDepth 100000 in
set_option maxHeartbeats 4000000 in
theorem Proved_eq (root : List Int) (hr : root.length = 32) (leaf : List Int) (x : Prf) (w : World) (hl : leaf.length = 32) (ol : Octs leaf) (hx : x.Ok w) (h : rootE x = 0) (hq : rootL leaf x = root) :
    Calls Try.prog 65 #[.agg (root.map (Value.int .u8)).toArray, .agg (leaf.map (Value.int .u8)).toArray, .agg x.cs.toArray] w fun e w' => e = .returned (.int .i64 (provedE root leaf x)) ∧ Below w.heap.size w w' := by
  obtain ⟨B, HB⟩ : ∃ B, Hid (B = w.heap.size) := ⟨_, rfl⟩
  have hsz : w.heap.size = B := HB.out.symm
  obtain ⟨Z, HZ⟩ : ∃ Z, Hid (Z = zSum) := ⟨_, rfl⟩
  have hz := hid zeroSumZ
  rw [← HZ.out] at hz
  have hZl : Z.length = 32 := by rw [HZ.out]; simp [zSum]
  obtain ⟨R, HR⟩ : ∃ L, Hid (L = root.map (Value.int .u8)) := ⟨_, rfl⟩
  have hRl : R.length = 32 := by rw [HR.out, List.length_map, hr]
  obtain ⟨L, HL⟩ : ∃ L, Hid (L = leaf.map (Value.int .u8)) := ⟨_, rfl⟩
  have hLl : L.length = 32 := by rw [HL.out, List.length_map, hl]
  obtain ⟨CS, HCS⟩ : ∃ C, Hid (C = x.cs) := ⟨_, rfl⟩
  have hCl : CS.length = 3 := by rw [HCS.out]; rfl
  obtain ⟨V, HV⟩ : ∃ V, Hid (V = (rootL leaf x).map (Value.int .u8)) := ⟨_, rfl⟩
  have hVl : V.length = 32 := by rw [HV.out, List.length_map]; exact (rootL_ok leaf x hl ol).1
  have hV1 : ∀ u ∈ V, u.oneCell' = true := by rw [HV.out]; exact ints_one _ _
  have hrb := fun y (hb : Below B w y) => hid (RootBy_any leaf x y hl ol (hx.below (hsz ▸ hb)))
  unfold rootV at hrb
  have HE : Hid (provedE root leaf x = 0) := hid (by unfold provedE; rw [if_pos h, if_pos hq])
  have hqq := fun w => hid (run_eq_sum w (rootL leaf x) root (rootL_ok leaf x hl ol).1 hr)
  rw [show (rootL leaf x == root) = true by simpa using hq, ← HV.out, ← HR.out] at hqq
  rw [HE.out]
  rw [h] at hrb
  have HEG := hid (by kernel_rfl : Try.prog.eqGuardType Try.prog.depth 73 = false)
  simp only [← HV.out, ← HL.out, ← HCS.out] at hrb
  rw [← HR.out, ← HL.out, ← HCS.out]
  clear hr hl ol hx h hq
  go_enter Try.func65, Try.ntmps65
  go_wp2_with (first | (refine wl_neM 20 rfl (by rfl) 73 _ _ _ rfl V.toArray R.toArray rfl rfl true (hqq wf).out HEG.out ?_) | (refine wl_loadD 19 rfl (by rfl) 73 _ rfl ⟨B, 0, none⟩ rfl 32 R hRl aggSumT hAf.at0 ?_) | (refine wl_loadD 18 rfl (by rfl) 73 _ rfl ⟨wd.heap.size, 0, none⟩ rfl 32 V hVl aggSumT hTf.at0 ?_) | (refine wl_storeV rfl 73 _ _ rfl 73 wd.heap.size rfl V rfl 32 aggSumT hVl Z hTe hZl hV1 ?_; intro wf hTf hbf hsf; have hAf := hAe.below hbf (by omega); have bbf := bbe.trans (hbf.mono (by omega : B ≤ _)); clear hTe hAe bbe hbf) | (refine wl_allocV rfl 73 rfl Z hz.out wd.heap.size rfl ?_; intro we hTe hbe hse; have hAe := hAd.below hbe hAd.lt; have bbe := bbd.trans (hbe.mono (by omega : B ≤ _)); clear hAd bbd hbe) | (go_at_call 123; refine (hrb wc bbc).out.mono ?_; rintro e wd ⟨rfl, hbd⟩; have hAd := hAc.below hbd hAc.lt; have bbd := bbc.trans (hbd.mono (by omega : B ≤ _)); have hsd := hbd.size; clear hAc hLc hPc bbc hbd) | (refine wl_load rfl 100 _ rfl ⟨B + 2, 0, none⟩ rfl CS (by rw [hCl]; exact aggPr) hPc.at0 ?_) | (refine wl_load rfl 73 _ rfl ⟨B + 1, 0, none⟩ rfl L (by rw [hLl]; exact aggSumT) hLc.at0 ?_) | (refine wl_boxV rfl 100 _ rfl CS rfl (B + 2) hsb ?_; intro wc hPc hbc hsc; have hAc := hAb.below hbc (by omega); have hLc := hLb.below hbc (by omega); have bbc := bbb.trans (hbc.mono (by omega : B ≤ _)); clear hAb hLb bbb hbc) | (refine wl_boxV rfl 73 _ rfl L rfl (B + 1) hsa ?_; intro wb hLb hbb hsb; have hAb := hAa.below hbb (by omega); have bbb := hba.trans (hbb.mono (by omega : B ≤ _)); clear hAa hba hbb) | (refine wl_boxV rfl 73 _ rfl R rfl B hsz ?_; intro wa hAa hba hsa))
  go_ret
  exact ⟨rfl, by first | exact bbf | (rw [hsz]; exact bbf) | (rw [← HB.out]; exact bbf)⟩
theorem Proved_any (root : List Int) (hr : root.length = 32) (leaf : List Int) (x : Prf) (w : World) (hl : leaf.length = 32) (ol : Octs leaf) (hx : x.Ok w) :
    Calls Try.prog 65 #[.agg (root.map (Value.int .u8)).toArray, .agg (leaf.map (Value.int .u8)).toArray, .agg x.cs.toArray] w fun e w' => e = .returned (.int .i64 (provedE root leaf x)) ∧ Below w.heap.size w w' := by
  by_cases h : rootE x = 0
  · by_cases hq : rootL leaf x = root
    · exact Proved_eq root hr leaf x w hl ol hx h hq
    · exact Proved_ne root hr leaf x w hl ol hx h hq
  · exact Proved_bad root hr leaf x w hl ol hx h
set_option maxRecDepth 100000 in
set_option maxHeartbeats 4000000 in
theorem Check_short (root c : List Int) (x : Prf) (ao : Option Addr) (cap n : Nat) (w : World) (hr : root.length = 32) (hn : n = c.length) (HP : Pt.Ok w ⟨ao, cap, c⟩) (hx : x.Ok w) (h : n < 1) :
    Calls Try.prog 67 #[.agg (root.map (Value.int .u8)).toArray, .slice ao n cap, .agg x.cs.toArray] w fun e w' => e = .returned (.int .i64 (checkE root c x)) ∧ Below w.heap.size w w' := by
  obtain ⟨B, HB⟩ : ∃ B, Hid (B = w.heap.size) := ⟨_, rfl⟩
  have hsz : w.heap.size = B := HB.out.symm
  obtain ⟨R, HR⟩ : ∃ L, Hid (L = root.map (Value.int .u8)) := ⟨_, rfl⟩
  have hRl : R.length = 32 := by rw [HR.out, List.length_map, hr]
  obtain ⟨CS, HCS⟩ : ∃ C, Hid (C = x.cs) := ⟨_, rfl⟩
  have hCl : CS.length = 3 := by rw [HCS.out]; rfl
  have HE : Hid (checkE root c x = 2) := hid (by unfold checkE; rw [if_neg (by omega)])
  rw [HE.out, ← HR.out, ← HCS.out]
  have hI : (n : Int) < 1 := by omega
  have hI2 : (n : Int) < 1 := by omega
  clear hr hx HP hn
  go_enter Try.func67, Try.ntmps67
  go_wp2_with (first | (refine wl_boxV rfl 100 _ rfl CS rfl (B + 1) hsa ?_; intro wb hPb hbb hsb; have hAb := hAa.below hbb (by omega); have bbb := hba.trans (hbb.mono (by omega : B ≤ _)); clear hAa hba hbb) | (refine wl_boxV rfl 73 _ rfl R rfl B hsz ?_; intro wa hAa hba hsa))
  go_ret
  exact ⟨rfl, by first | exact bbb | (rw [hsz]; exact bbb) | (rw [← HB.out]; exact bbb)⟩
set_option maxRecDepth 100000 in
set_option maxHeartbeats 4000000 in
theorem Check_long (root c : List Int) (x : Prf) (ao : Option Addr) (cap n : Nat) (w : World) (hr : root.length = 32) (hn : n = c.length) (HP : Pt.Ok w ⟨ao, cap, c⟩) (hx : x.Ok w) (h : 1024 < n) :
    Calls Try.prog 67 #[.agg (root.map (Value.int .u8)).toArray, .slice ao n cap, .agg x.cs.toArray] w fun e w' => e = .returned (.int .i64 (checkE root c x)) ∧ Below w.heap.size w w' := by
  obtain ⟨B, HB⟩ : ∃ B, Hid (B = w.heap.size) := ⟨_, rfl⟩
  have hsz : w.heap.size = B := HB.out.symm
  obtain ⟨R, HR⟩ : ∃ L, Hid (L = root.map (Value.int .u8)) := ⟨_, rfl⟩
  have hRl : R.length = 32 := by rw [HR.out, List.length_map, hr]
  obtain ⟨CS, HCS⟩ : ∃ C, Hid (C = x.cs) := ⟨_, rfl⟩
  have hCl : CS.length = 3 := by rw [HCS.out]; rfl
  have HE : Hid (checkE root c x = 2) := hid (by unfold checkE; rw [if_neg (by omega)])
  rw [HE.out, ← HR.out, ← HCS.out]
  have hI : ¬ (n : Int) < 1 := by omega
  have hI2 : (1024 : Int) < (n : Int) := by omega
  clear hr hx HP hn
  go_enter Try.func67, Try.ntmps67
  go_wp2_with (first | (refine wl_boxV rfl 100 _ rfl CS rfl (B + 1) hsa ?_; intro wb hPb hbb hsb; have hAb := hAa.below hbb (by omega); have bbb := hba.trans (hbb.mono (by omega : B ≤ _)); clear hAa hba hbb) | (refine wl_boxV rfl 73 _ rfl R rfl B hsz ?_; intro wa hAa hba hsa))
  go_ret
  exact ⟨rfl, by first | exact bbb | (rw [hsz]; exact bbb) | (rw [← HB.out]; exact bbb)⟩
set_option maxRecDepth 100000 in
set_option maxHeartbeats 4000000 in
theorem Check_ok (root c : List Int) (x : Prf) (ao : Option Addr) (cap n : Nat) (w : World) (hr : root.length = 32) (hn : n = c.length) (HP : Pt.Ok w ⟨ao, cap, c⟩) (hx : x.Ok w) (h1 : 1 ≤ n) (h2 : n ≤ 1024) :
    Calls Try.prog 67 #[.agg (root.map (Value.int .u8)).toArray, .slice ao n cap, .agg x.cs.toArray] w fun e w' => e = .returned (.int .i64 (checkE root c x)) ∧ Below w.heap.size w w' := by
  obtain ⟨B, HB⟩ : ∃ B, Hid (B = w.heap.size) := ⟨_, rfl⟩
  have hsz : w.heap.size = B := HB.out.symm
  obtain ⟨R, HR⟩ : ∃ L, Hid (L = root.map (Value.int .u8)) := ⟨_, rfl⟩
  have hRl : R.length = 32 := by rw [HR.out, List.length_map, hr]
  obtain ⟨CS, HCS⟩ : ∃ C, Hid (C = x.cs) := ⟨_, rfl⟩
  have hCl : CS.length = 3 := by rw [HCS.out]; rfl
  have HE : Hid (checkE root c x = provedE root (sumL 1 c) x) := hid (by unfold checkE; rw [if_pos (by omega)])
  obtain ⟨Z, HZ⟩ : ∃ Z, Hid (Z = zSum) := ⟨_, rfl⟩
  have hz := hid zeroSumZ
  rw [← HZ.out] at hz
  have hZl : Z.length = 32 := by rw [HZ.out]; simp [zSum]
  obtain ⟨V, HV⟩ : ∃ V, Hid (V = (sumL 1 c).map (Value.int .u8)) := ⟨_, rfl⟩
  have hVl : V.length = 32 := by rw [HV.out, List.length_map]; exact sumL_length _ _
  have hV1 : ∀ u ∈ V, u.oneCell' = true := by rw [HV.out]; exact ints_one _ _
  have hlf := fun y (hb : Below B w y) => hid (Leaf_in ao cap n c y hn (HP.below (hsz ▸ hb)) (by omega))
  have hpr := fun y (hb : Below B w y) => hid (Proved_any root hr (sumL 1 c) x y (sumL_length _ _) (sumL_octs _ _) (hx.below (hsz ▸ hb)))
  obtain ⟨E, HE2⟩ : ∃ E, Hid (E = provedE root (sumL 1 c) x) := ⟨_, rfl⟩
  simp only [← HV.out] at hlf hpr
  simp only [← HE2.out, ← HR.out, ← HCS.out] at hpr
  rw [HE.out, ← HE2.out, ← HR.out, ← HCS.out]
  have hI : ¬ (n : Int) < 1 := by omega
  have hI2 : ¬ (1024 : Int) < (n : Int) := by omega
  clear hr hx HP hn
  go_enter Try.func67, Try.ntmps67
  go_wp2_with (first | (go_at_call 65; refine (hpr we bbe).out.mono ?_; rintro e wf ⟨rfl, hbf⟩; have bbf := bbe.trans (hbf.mono (by omega : B ≤ _))) | (refine wl_load rfl 100 _ rfl ⟨B + 1, 0, none⟩ rfl CS (by rw [hCl]; exact aggPr) hPe.at0 ?_) | (refine wl_load rfl 73 _ rfl ⟨wc.heap.size, 0, none⟩ rfl V (by rw [hVl]; exact aggSumT) hTe.at0 ?_) | (refine wl_load rfl 73 _ rfl ⟨B, 0, none⟩ rfl R (by rw [hRl]; exact aggSumT) hAe.at0 ?_) | (refine wl_storeV rfl 73 _ _ rfl 73 wc.heap.size rfl V rfl 32 aggSumT hVl Z hTd hZl hV1 ?_; intro we hTe hbe hse; have hAe := hAd.below hbe (by omega); have hPe := hPd.below hbe (by omega); have bbe := bbd.trans (hbe.mono (by omega : B ≤ _)); clear hTd hAd hPd bbd hbe) | (refine wl_allocV rfl 73 rfl Z hz.out wc.heap.size rfl ?_; intro wd hTd hbd hsd; have hAd := hAc.below hbd hAc.lt; have hPd := hPc.below hbd hPc.lt; have bbd := bbc.trans (hbd.mono (by omega : B ≤ _)); clear hAc hPc bbc hbd) | (go_at_call 64; refine (hlf wb bbb).out.mono ?_; rintro e wc ⟨rfl, hbc⟩; have hAc := hAb.below hbc hAb.lt; have hPc := hPb.below hbc hPb.lt; have bbc := bbb.trans (hbc.mono (by omega : B ≤ _)); have hsc := hbc.size; clear hAb hPb bbb hbc) | (refine wl_boxV rfl 100 _ rfl CS rfl (B + 1) hsa ?_; intro wb hPb hbb hsb; have hAb := hAa.below hbb (by omega); have bbb := hba.trans (hbb.mono (by omega : B ≤ _)); clear hAa hba hbb) | (refine wl_boxV rfl 73 _ rfl R rfl B hsz ?_; intro wa hAa hba hsa))
  go_ret
  exact ⟨rfl, by first | exact bbf | (rw [hsz]; exact bbf) | (rw [← HB.out]; exact bbf)⟩
theorem Check_any (root c : List Int) (x : Prf) (ao : Option Addr) (cap n : Nat) (w : World) (hr : root.length = 32) (hn : n = c.length) (HP : Pt.Ok w ⟨ao, cap, c⟩) (hx : x.Ok w) :
    Calls Try.prog 67 #[.agg (root.map (Value.int .u8)).toArray, .slice ao n cap, .agg x.cs.toArray] w fun e w' => e = .returned (.int .i64 (checkE root c x)) ∧ Below w.heap.size w w' := by
  by_cases h1 : n < 1
  · exact Check_short root c x ao cap n w hr hn HP hx h1
  · by_cases h2 : 1024 < n
    · exact Check_long root c x ao cap n w hr hn HP hx h2
    · exact Check_ok root c x ao cap n w hr hn HP hx (by omega) (by omega)
end Go.Proofs.Ytbljihhelladbaa.ck
