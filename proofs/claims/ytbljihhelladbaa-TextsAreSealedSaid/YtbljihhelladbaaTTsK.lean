/-
  Contracts of wrap.lookWith, wrap.Blocks, wrap.Block and wrap.OpenText. Conditions: a key of octets, octets that lie in memory.
-/
import Derived.Test.YtbljihhelladbaaTTsJ
namespace Go.Proofs.Ytbljihhelladbaa.wr
open Go.RowKit Go.Proofs.Ytbljihhelladbaa.st Go.Proofs.Ytbljihhelladbaa.hs Go.Proofs.Ytbljihhelladbaa.shr Go.Proofs.Ytbljihhelladbaa.sh
set_option linter.unusedSimpArgs false
set_option linter.unusedVariables false
set_option pp.maxSteps 6000
def lookWE (h b : List Int) : Int := if 4096 < h.length then 5 else lookE b
def seW (h : List Int) (bo : Option Addr) (n bc : Nat) (b : List Int) : List Value := if 4096 < h.length then se0 else seC bo n bc b
theorem seC_len (bo : Option Addr) (n bc : Nat) (b : List Int) : (seC bo n bc b).length = 3 := by unfold seC; split <;> rfl
theorem seC_one (bo : Option Addr) (n bc : Nat) (b : List Int) : ∀ u ∈ seC bo n bc b, u.oneCell' = true := by
  intro u hu
  unfold seC se0 at hu
  split at hu
  · simp only [List.mem_cons, List.not_mem_nil, or_false] at hu; rcases hu with rfl | rfl | rfl <;> rfl
  · simp only [List.mem_cons, List.not_mem_nil, or_false] at hu; rcases hu with rfl | rfl | rfl <;> rfl
theorem seW_len (h : List Int) (bo : Option Addr) (n bc : Nat) (b : List Int) : (seW h bo n bc b).length = 3 := by unfold seW; split; rfl; exact seC_len _ _ _ _
theorem seW_one (h : List Int) (bo : Option Addr) (n bc : Nat) (b : List Int) : ∀ u ∈ seW h bo n bc b, u.oneCell' = true := by
  intro u hu
  unfold seW at hu
  split at hu
  · unfold se0 at hu; simp only [List.mem_cons, List.not_mem_nil, or_false] at hu; rcases hu with rfl | rfl | rfl <;> rfl
  · exact seC_one _ _ _ _ u hu
theorem seW_zero {h b : List Int} (hE : lookWE h b = 0) (ho : Octs b) (bo : Option Addr) (n bc : Nat) : ¬ 4096 < h.length ∧ lookE b = 0 ∧ seW h bo n bc b = [.slice bo n bc, .int .i64 (kN b : Int), .int .i64 (sN b : Int)] := by
  unfold lookWE at hE
  by_cases hh : 4096 < h.length
  · rw [if_pos hh] at hE; cases hE
  rw [if_neg hh] at hE
  obtain ⟨e1, e2, _⟩ := look_nums ho hE
  exact ⟨hh, hE, by unfold seW seC; rw [if_neg hh, if_pos hE, e1, e2]⟩
theorem blockE_look {k h b : List Int} {i : Int} (hE : lookWE h b ≠ 0) : blockE k h b i = lookWE h b := by
  unfold lookWE at hE ⊢
  unfold blockE
  by_cases hh : 4096 < h.length
  · rw [if_pos hh, if_pos hh]
  · rw [if_neg hh] at hE ⊢
    rw [if_neg hh, if_pos hE]
/-- the first fault among the first blocks; what they give together -/
def errT (k h b : List Int) : Nat → Int
  | 0 => 0
  | m + 1 => if errT k h b m ≠ 0 then errT k h b m else openE' k h b m
def textT (k b : List Int) (m : Nat) : List Int := (List.range m).flatMap (openL k b)
theorem textT_succ (k b : List Int) (m : Nat) : textT k b (m + 1) = textT k b m ++ openL k b m := by unfold textT; rw [List.range_succ, List.flatMap_append]; simp
theorem errT_keep {k h b : List Int} {j : Nat} (h0 : errT k h b j ≠ 0) : ∀ m, j ≤ m → errT k h b m = errT k h b j
  | 0, hm => by rw [Nat.le_zero.1 hm]
  | m + 1, hm => by
    by_cases e : j = m + 1
    · rw [e]
    · have ih := errT_keep h0 m (by omega)
      show (if errT k h b m ≠ 0 then errT k h b m else openE' k h b m) = _
      rw [if_pos (by rw [ih]; exact h0), ih]
theorem textT_octs (k : List Int) {b : List Int} (ho : Octs b) (m : Nat) : Octs (textT k b m) := by
  intro c hc
  unfold textT at hc
  obtain ⟨j, _, hj⟩ := List.mem_flatMap.1 hc
  exact coverL_octs _ _ (covO_octs ho j) c hj
def openTE (k h b : List Int) : Int := if lookWE h b ≠ 0 then lookWE h b else errT k h b (mN b)
def openTR (k h b : List Int) : List Int := if openTE k h b = 0 then textT k b (mN b) else []
theorem opnB_any (k h l : List Int) (bo : Option Addr) (bc n : Nat) (ha : Option Addr) (hp hn : Nat) (j : Nat) (w : World) (hk : k.length = 32) (ok : Octs k) (hln : n = l.length) (HL : Pt.Ok w ⟨bo, bc, l⟩) (hhn : hn = h.length) (HH : Pt.Ok w ⟨ha, hp, h⟩) (h0 : ha = none → hp = 0) (hh : ¬ 4096 < h.length) (hE : lookE l = 0) (hj : j < mN l) :
    Calls Try.prog 190 #[.agg [.slice bo n bc, .int .i64 (kN l : Int), .int .i64 (sN l : Int)].toArray, .agg (k.map (Value.int .u8)).toArray, .slice ha hn hp, .int .i64 j] w (OpenPost k h l j w) := by
  obtain ⟨e1, e2, _, _, _, hlen⟩ := look_nums (show Octs l from HL.oct) hE
  obtain ⟨b, off, hao, _, _⟩ := HL.row.at (i := 0) (by show 0 < l.length; omega)
  cases hao
  rw [← e1, ← e2]
  by_cases heq : tagB k h (l.take 32) (j : Int) (covO l j) = tagO l j
  · exact open_good k h l b off bc n ha hp hn j w hk ok hln HL hhn HH h0 (by omega) hE hj heq
  · exact open_bad k h l b off bc n ha hp hn j w hk ok hln HL hhn HH h0 (by omega) hE hj heq
set_option maxRecDepth 100000 in
set_option maxHeartbeats 4000000 in
theorem lookWith_any (h l : List Int) (bo : Option Addr) (bc n : Nat) (ha : Option Addr) (hp hn : Nat) (w : World) (hln : n = l.length) (HL : Pt.Ok w ⟨bo, bc, l⟩) (hhn : hn = h.length) :
    Calls Try.prog 189 #[.slice ha hn hp, .slice bo n bc] w fun e w' => e = .returned (.tuple #[.agg (seW h bo n bc l).toArray, .int .i64 (lookWE h l)]) ∧ Below w.heap.size w w' := by
  obtain ⟨B, HB⟩ : ∃ B, Hid (B = w.heap.size) := ⟨_, rfl⟩
  have hsz : w.heap.size = B := HB.out.symm
  obtain ⟨Z, HZ⟩ : ∃ Z, Hid (Z = se0) := ⟨_, rfl⟩
  have hz := hid zeroSe
  have hbu := hid builtSe
  rw [← HZ.out] at hz hbu
  have hZl : Z.length = 3 := by rw [HZ.out]; rfl
  have hZ1 : ∀ u ∈ Z, u.oneCell' = true := by rw [HZ.out]; intro u hu; simp [se0] at hu; rcases hu with rfl | rfl <;> rfl
  by_cases hh : 4096 < h.length
  · have hI : (4096 : Int) < (hn : Int) := by omega
    have e1 : seW h bo n bc l = Z := by unfold seW; rw [if_pos hh, HZ.out]
    have e2 : lookWE h l = 5 := by unfold lookWE; rw [if_pos hh]
    rw [e1, e2]
    clear e1 e2 hln HL hhn hh
    go_enter Try.func189, Try.ntmps189
    go_wp2_with (first | (refine wl_allocV rfl 227 rfl Z hz.out B hsz ?_; intro w1 hR1 hb1 hs1) | (refine wl_build0 rfl 227 rfl Z hbu.out ?_) | (refine wl_storeV rfl 227 _ _ rfl 227 B rfl Z rfl 3 aggSe hZl Z hR1 hZl hZ1 ?_; intro wF hRF hbF hsF))
    (try simp only [Exit.inBlock, Exit.then]); refine bodyPost_ret (results_cell2 rfl _ _ _ _ rfl Z (by rw [hZl]; exact aggSe) hRF.at0) rfl ?_
    exact ⟨rfl, by first | exact hb1.trans hbF | (rw [hsz]; exact hb1.trans hbF)⟩
  · have hI : ¬ (4096 : Int) < (hn : Int) := by omega
    have e1 : seW h bo n bc l = seC bo n bc l := by unfold seW; rw [if_neg hh]
    have e2 : lookWE h l = lookE l := by unfold lookWE; rw [if_neg hh]
    have hlk := fun (y : World) (hb : Below B w y) => hid (look_any bo bc n l y hln (HL.below (hsz ▸ hb)))
    unfold lookV at hlk
    obtain ⟨C, HC⟩ : ∃ C, Hid (C = seC bo n bc l) := ⟨_, rfl⟩
    have hCl : C.length = 3 := by rw [HC.out]; exact seC_len _ _ _ _
    have hC1 : ∀ u ∈ C, u.oneCell' = true := by rw [HC.out]; exact seC_one _ _ _ _
    obtain ⟨E, HE⟩ : ∃ E, Hid (E = lookE l) := ⟨_, rfl⟩
    rw [e1, e2, ← HC.out, ← HE.out]
    simp only [← HC.out, ← HE.out] at hlk
    clear e1 e2 hln HL hhn hh
    go_enter Try.func189, Try.ntmps189
    go_wp2_with (first | (refine wl_allocV rfl 227 rfl Z hz.out B hsz ?_; intro w1 hR1 hb1 hs1) | (go_at_call 187; refine (hlk w1 hb1).out.mono ?_; rintro e w2 ⟨rfl, hb2⟩; have hR2 := hR1.below hb2 hR1.lt; have bb2 := hb1.trans (hb2.mono (by omega : B ≤ _))) | (refine wl_storeV rfl 227 _ _ rfl 227 B rfl C rfl 3 aggSe hCl Z hR2 hZl hC1 ?_; intro wF hRF hbF hsF))
    (try simp only [Exit.inBlock, Exit.then]); refine bodyPost_ret (results_cell2 rfl _ _ _ _ rfl C (by rw [hCl]; exact aggSe) hRF.at0) rfl ?_
    exact ⟨rfl, by first | exact bb2.trans hbF | (rw [hsz]; exact bb2.trans hbF)⟩
set_option maxRecDepth 100000 in
set_option maxHeartbeats 4000000 in
theorem Blocks_any (bo : Option Addr) (bc n : Nat) (l : List Int) (w : World) (hn : n = l.length) (HP : Pt.Ok w ⟨bo, bc, l⟩) :
    Calls Try.prog 141 #[.slice bo n bc] w fun e w' => e = .returned (blocksV l) ∧ Below w.heap.size w w' := by
  obtain ⟨B, HB⟩ : ∃ B, Hid (B = w.heap.size) := ⟨_, rfl⟩
  have hsz : w.heap.size = B := HB.out.symm
  obtain ⟨Z, HZ⟩ : ∃ Z, Hid (Z = se0) := ⟨_, rfl⟩
  have hz := hid zeroSe
  rw [← HZ.out] at hz
  have hZl : Z.length = 3 := by rw [HZ.out]; rfl
  have hlk0 := look_any bo bc n l w hn HP
  unfold lookV at hlk0
  obtain ⟨C, HC⟩ : ∃ C, Hid (C = seC bo n bc l) := ⟨_, rfl⟩
  have hCl : C.length = 3 := by rw [HC.out]; exact seC_len _ _ _ _
  have hC1 : ∀ u ∈ C, u.oneCell' = true := by rw [HC.out]; exact seC_one _ _ _ _
  by_cases hE : lookE l = 0
  · obtain ⟨e1, e2, hk1, hk2, hs1, _⟩ := look_nums (show Octs l from HP.oct) hE
    have HV : Hid (blocksV l = .tuple #[.int .i64 (kN l : Int), .int .i64 (mN l : Int), .int .i64 0]) := hid (by unfold blocksV bkN mnN; rw [hE, if_pos rfl, if_pos rfl, e1]; rfl)
    have HCE : C = [.slice bo n bc, .int .i64 (kN l : Int), .int .i64 (sN l : Int)] := by rw [HC.out]; unfold seC; rw [if_pos hE, e1, e2]
    have hc1 : Hid (C[1]? = some (.int .i64 (kN l : Int))) := hid (by rw [HCE]; rfl)
    have hma := fun y => hid (many_any bo n bc (sN l) (kN l) y (by omega) (by omega) (by omega))
    rw [← HCE] at hma
    obtain ⟨kk, Hkk⟩ : ∃ k, Hid (k = kN l) := ⟨_, rfl⟩
    obtain ⟨m, Hm⟩ : ∃ m, Hid (m = mN l) := ⟨_, rfl⟩
    have hmm : manyT (sN l) (kN l) = m := Hm.out.symm
    rw [hmm] at hma
    rw [← Hm.out, ← Hkk.out] at HV
    rw [← Hkk.out] at hc1
    rw [← HC.out, hE] at hlk0
    have hlk := fun (_ : World) => hid hlk0
    have huS := Try.underlying227
    obtain ⟨dS, huS', hrS⟩ : ∃ d, Try.prog.underlying 227 = some d ∧ d.isRow = true := ⟨_, huS, rfl⟩
    have hiS : (Try.prog.info? 227).map (·.size) = some C.length := by rw [hCl]; exact aggSe.2
    clear HCE e1 e2 hk1 hk2 hs1 hmm hE hn HP hlk0
    go_enter Try.func141, Try.ntmps141
    go_wp2_with (first | (refine wl_storeV rfl 227 _ _ rfl 227 g rfl C rfl 3 aggSe hCl Z hT2 hZl hC1 ?_; intro w3 hT3 hb3 hs3; have bb3 := bb2.trans (hb3.mono hgB)) | (refine wl_allocV rfl 227 rfl Z hz.out g Hg.out ?_; intro w2 hT2 hb2 hs2; have bb2 := (hsz ▸ hb1 : Below B w w1).trans (hb2.mono hgB)) | (go_at_call 187; refine (hlk w).out.mono ?_; rintro e w1 ⟨rfl, hb1⟩; obtain ⟨g, Hg⟩ : ∃ g, Hid (w1.heap.size = g) := ⟨_, rfl⟩; have hgB : B ≤ g := (by rw [← Hg.out, HB.out]; exact hb1.size)))
    refine wp_region_held_drew (S := (fun w' => BlkV 227 w' g C ∧ w'.cell? ⟨g, 1, none⟩ = some (.int .i64 (kk : Int)))) (by kernel_rfl) ⟨hT3, (hT3.cell 1).trans hc1.out⟩ (fun hHeld => ?_)
    obtain ⟨x0, HX0⟩ : ∃ x, Hid (x = w3.drew) := ⟨_, rfl⟩
    rw [← HX0.out] at hHeld ⊢
    have hT0 : BlkV 227 x0 g C := by rw [HX0.out]; exact hT3
    have bb0 : Below B w x0 := by rw [HX0.out]; exact bb3.drew
    have hB0 : B ≤ x0.heap.size := by have := hT0.lt; omega
    refine tkP 0 rfl (by assumption) ⟨?_, ?_, ?_⟩
    rotate_left
    · intro w hSw; (try dsimp only at hSw); go_simp; (try with_reducible rfl)
    try simp only [Act.put, sArr, sZ, sS]
    refine tkP 1 rfl (by assumption) ⟨?_, ?_, ?_⟩
    rotate_left
    · intro w hSw; (try dsimp only at hSw); go_simp; (try with_reducible rfl)
    try simp only [Act.put, sArr, sZ, sS]
    refine tkR 2 rfl (yieldsIf_load_mid (by rfl) 227 _ rfl g 0 rfl C _ (fun w hS => at_range hS.1.at0) huS rfl hiS) (by assumption) ?_
    try simp only [Act.put, sArr, sZ, sS]
    refine wpAnyH_ready (rs := [3]) (by kernel_rfl) (by simp) (cons_l rfl (fun K' hK' => ?_) AllReadyH.nil)
    rw [if_pos (by rfl)]
    go_simp
    go_at_call 188
    refine ((hma x0).out).mono ?_
    rintro e x1 ⟨rfl, hbx1⟩
    have hT1 := hT0.below hbx1 hT0.lt
    have bb1 := bb0.trans (hbx1.mono hB0)
    refine hK'.out _ _ ⟨hT1, (hT1.cell 1).trans hc1.out⟩ (fun hHeld => ?_)
    clear hK' K'
    try simp only [Act.put, sArr, sZ, sS]
    refine tkP 4 rfl (by assumption) ⟨?_, ?_, ?_⟩
    rotate_left
    · intro w hSw; (try dsimp only at hSw); go_simp; (try with_reducible rfl)
    try simp only [Act.put, sArr, sZ, sS]
    refine tkP 5 rfl (by assumption) ⟨?_, ?_, ?_⟩
    rotate_left
    · intro w hSw; (try dsimp only at hSw); go_simp; (try with_reducible rfl)
    try simp only [Act.put, sArr, sZ, sS]
    refine tkP 6 rfl (by assumption) ⟨?_, ?_, ?_⟩
    rotate_left
    · intro w hSw; (try dsimp only at hSw); go_simp; (try with_reducible rfl)
    try simp only [Act.put, sArr, sZ, sS]
    refine wpAnyH_done (by kernel_rfl) ?_ _
    clear hHeld
    go_wp2_with fail
    (try simp only [Exit.inBlock, Exit.then]); refine bodyPost_ret (results_tmp3 rfl _ _ _) rfl ?_
    exact ⟨by rw [HV.out]; rfl, by first | exact bb1 | (rw [hsz]; exact bb1)⟩
  · rw [blocksV_bad (e := lookE l) rfl hE]
    obtain ⟨E, HE⟩ : ∃ E, Hid (E = lookE l) := ⟨_, rfl⟩
    rw [← HC.out, ← HE.out] at hlk0
    have hE0 : ¬ E = 0 := by rw [HE.out]; exact hE
    have hlk := fun (_ : World) => hid hlk0
    rw [← HE.out]
    clear hE hn HP hlk0
    go_enter Try.func141, Try.ntmps141
    go_wp2_with (first | (refine wl_storeV rfl 227 _ _ rfl 227 g rfl C rfl 3 aggSe hCl Z hT2 hZl hC1 ?_; intro w3 hT3 hb3 hs3; have bb3 := bb2.trans (hb3.mono hgB)) | (refine wl_allocV rfl 227 rfl Z hz.out g Hg.out ?_; intro w2 hT2 hb2 hs2; have bb2 := (hsz ▸ hb1 : Below B w w1).trans (hb2.mono hgB)) | (go_at_call 187; refine (hlk w).out.mono ?_; rintro e w1 ⟨rfl, hb1⟩; obtain ⟨g, Hg⟩ : ∃ g, Hid (w1.heap.size = g) := ⟨_, rfl⟩; have hgB : B ≤ g := (by rw [← Hg.out, HB.out]; exact hb1.size)))
    (try simp only [Exit.inBlock, Exit.then]); refine bodyPost_ret (results_tmp3 rfl _ _ _) rfl ?_
    exact ⟨rfl, by first | exact bb3 | (rw [hsz]; exact bb3)⟩
set_option maxRecDepth 100000 in
set_option maxHeartbeats 4000000 in
theorem Block_look (k h l : List Int) (bo : Option Addr) (bc n : Nat) (ha : Option Addr) (hp hn : Nat) (i : Int) (w : World) (hk : k.length = 32) (ok : Octs k) (hln : n = l.length) (HL : Pt.Ok w ⟨bo, bc, l⟩) (hhn : hn = h.length) (HH : Pt.Ok w ⟨ha, hp, h⟩) (h0 : ha = none → hp = 0) (hE : lookWE h l ≠ 0) :
    Calls Try.prog 143 #[.agg (k.map (Value.int .u8)).toArray, .slice ha hn hp, .slice bo n bc, .int .i64 i] w (BlockPost k h l i w) := by
  obtain ⟨B, HB⟩ : ∃ B, Hid (B = w.heap.size) := ⟨_, rfl⟩
  have hsz : w.heap.size = B := HB.out.symm
  obtain ⟨K, HK⟩ : ∃ K, Hid (K = k.map (Value.int .u8)) := ⟨_, rfl⟩
  have hKl : K.length = 32 := by rw [HK.out, List.length_map, hk]
  obtain ⟨Z, HZ⟩ : ∃ Z, Hid (Z = se0) := ⟨_, rfl⟩
  have hz := hid zeroSe
  rw [← HZ.out] at hz
  have hZl : Z.length = 3 := by rw [HZ.out]; rfl
  have hlw := fun (y : World) (hb : Below B w y) => hid (lookWith_any h l bo bc n ha hp hn y hln (HL.below (hsz ▸ hb)) hhn)
  obtain ⟨C, HC⟩ : ∃ C, Hid (C = seW h bo n bc l) := ⟨_, rfl⟩
  have hCl : C.length = 3 := by rw [HC.out]; exact seW_len _ _ _ _ _
  have hC1 : ∀ u ∈ C, u.oneCell' = true := by rw [HC.out]; exact seW_one _ _ _ _ _
  simp only [← HC.out] at hlw
  have hEE := hid (blockE_look (k := k) (i := i) hE)
  obtain ⟨E, HE⟩ : ∃ E, Hid (E = lookWE h l) := ⟨_, rfl⟩
  rw [← HE.out] at hEE hE
  simp only [← HE.out] at hlw
  have hE0 : ¬ E = 0 := hE
  have hE9 := hid hE
  rw [← HK.out]
  clear hk hln HL hhn HH h0 hE
  go_enter Try.func143, Try.ntmps143
  go_wp2_with (first | (refine wl_storeV rfl 227 _ _ rfl 227 g rfl C rfl 3 aggSe hCl Z hT2 hZl hC1 ?_; intro w3 hT3 hb3 hs3; have hK3 := hK2.below hb3 (by omega); have bb3 := bb2.trans (hb3.mono (by omega : B ≤ _)); have hsg : B ≤ w3.heap.size := (by have := hT3.lt; omega)) | (refine wl_allocV rfl 227 rfl Z hz.out g Hg.out ?_; intro w2 hT2 hb2 hs2; have hK2 := hK1.below hb2 (by omega); have bb2 := bb1.trans (hb2.mono (by omega : B ≤ _))) | (go_at_call 189; refine (hlw wb hbb).out.mono ?_; rintro e w1 ⟨rfl, hb1⟩; have hK1 := hKb.below hb1 hKb.lt; have bb1 := hbb.trans (hb1.mono (by omega : B ≤ _)); obtain ⟨g, Hg⟩ : ∃ g, Hid (w1.heap.size = g) := ⟨_, rfl⟩; have hgB : B + 1 ≤ g := (by rw [← Hg.out]; have := hb1.size; omega)) | (refine wl_boxV rfl 23 _ rfl K rfl B hsz ?_; intro wb hKb hbb hsb))
  go_ret2
  exact blockPost_bad (by first | exact bb3 | (rw [← HB.out]; exact bb3)) hEE.out hE9.out
set_option maxRecDepth 100000 in
set_option maxHeartbeats 4000000 in
theorem Block_neg (k h l : List Int) (bo : Option Addr) (bc n : Nat) (ha : Option Addr) (hp hn : Nat) (i : Int) (w : World) (hk : k.length = 32) (ok : Octs k) (hln : n = l.length) (HL : Pt.Ok w ⟨bo, bc, l⟩) (hhn : hn = h.length) (HH : Pt.Ok w ⟨ha, hp, h⟩) (h0 : ha = none → hp = 0) (hE : lookWE h l = 0) (hi : i < 0) :
    Calls Try.prog 143 #[.agg (k.map (Value.int .u8)).toArray, .slice ha hn hp, .slice bo n bc, .int .i64 i] w (BlockPost k h l i w) := by
  obtain ⟨B, HB⟩ : ∃ B, Hid (B = w.heap.size) := ⟨_, rfl⟩
  have hsz : w.heap.size = B := HB.out.symm
  obtain ⟨K, HK⟩ : ∃ K, Hid (K = k.map (Value.int .u8)) := ⟨_, rfl⟩
  have hKl : K.length = 32 := by rw [HK.out, List.length_map, hk]
  obtain ⟨Z, HZ⟩ : ∃ Z, Hid (Z = se0) := ⟨_, rfl⟩
  have hz := hid zeroSe
  rw [← HZ.out] at hz
  have hZl : Z.length = 3 := by rw [HZ.out]; rfl
  have hlw := fun (y : World) (hb : Below B w y) => hid (lookWith_any h l bo bc n ha hp hn y hln (HL.below (hsz ▸ hb)) hhn)
  obtain ⟨C, HC⟩ : ∃ C, Hid (C = seW h bo n bc l) := ⟨_, rfl⟩
  have hCl : C.length = 3 := by rw [HC.out]; exact seW_len _ _ _ _ _
  have hC1 : ∀ u ∈ C, u.oneCell' = true := by rw [HC.out]; exact seW_one _ _ _ _ _
  simp only [← HC.out] at hlw
  obtain ⟨hh, hL, hSW⟩ := seW_zero hE (show Octs l from HL.oct) bo n bc
  obtain ⟨_, _, hk1, hk2, hs1, _⟩ := look_nums (show Octs l from HL.oct) hL
  simp only [hE] at hlw
  have hCE : C = [.slice bo n bc, .int .i64 (kN l : Int), .int .i64 (sN l : Int)] := by rw [HC.out, hSW]
  have hma := fun y => hid (many_any bo n bc (sN l) (kN l) y (by omega) (by omega) (by omega))
  simp only [← hCE] at hma
  obtain ⟨m, Hm⟩ : ∃ m, Hid (m = mN l) := ⟨_, rfl⟩
  have hmm : manyT (sN l) (kN l) = m := Hm.out.symm
  rw [hmm] at hma
  have hEE : Hid (blockE k h l i = 4) := hid (by unfold blockE; rw [if_neg hh, if_neg (fun g => g hL), if_pos (Or.inl hi)])
  rw [← HK.out]
  clear hk hln HL hhn HH h0 hE hh hL hSW hCE hk1 hk2 hs1 hmm
  go_enter Try.func143, Try.ntmps143
  go_wp2_with (first | (refine wl_storeV rfl 227 _ _ rfl 227 g rfl C rfl 3 aggSe hCl Z hT2 hZl hC1 ?_; intro w3 hT3 hb3 hs3; have hK3 := hK2.below hb3 (by omega); have bb3 := bb2.trans (hb3.mono (by omega : B ≤ _)); have hsg : B ≤ w3.heap.size := (by have := hT3.lt; omega)) | (refine wl_allocV rfl 227 rfl Z hz.out g Hg.out ?_; intro w2 hT2 hb2 hs2; have hK2 := hK1.below hb2 (by omega); have bb2 := bb1.trans (hb2.mono (by omega : B ≤ _))) | (go_at_call 189; refine (hlw wb hbb).out.mono ?_; rintro e w1 ⟨rfl, hb1⟩; have hK1 := hKb.below hb1 hKb.lt; have bb1 := hbb.trans (hb1.mono (by omega : B ≤ _)); obtain ⟨g, Hg⟩ : ∃ g, Hid (w1.heap.size = g) := ⟨_, rfl⟩; have hgB : B + 1 ≤ g := (by rw [← Hg.out]; have := hb1.size; omega)) | (refine wl_boxV rfl 23 _ rfl K rfl B hsz ?_; intro wb hKb hbb hsb))
  go_ret2
  exact blockPost_bad (by first | exact bb3 | (rw [← HB.out]; exact bb3)) hEE.out (by decide)
set_option maxRecDepth 100000 in
set_option maxHeartbeats 4000000 in
theorem Block_far (k h l : List Int) (bo : Option Addr) (bc n : Nat) (ha : Option Addr) (hp hn : Nat) (i : Int) (w : World) (hk : k.length = 32) (ok : Octs k) (hln : n = l.length) (HL : Pt.Ok w ⟨bo, bc, l⟩) (hhn : hn = h.length) (HH : Pt.Ok w ⟨ha, hp, h⟩) (h0 : ha = none → hp = 0) (hE : lookWE h l = 0) (hi0 : ¬ i < 0) (hi : (mN l : Int) ≤ i) :
    Calls Try.prog 143 #[.agg (k.map (Value.int .u8)).toArray, .slice ha hn hp, .slice bo n bc, .int .i64 i] w (BlockPost k h l i w) := by
  obtain ⟨B, HB⟩ : ∃ B, Hid (B = w.heap.size) := ⟨_, rfl⟩
  have hsz : w.heap.size = B := HB.out.symm
  obtain ⟨K, HK⟩ : ∃ K, Hid (K = k.map (Value.int .u8)) := ⟨_, rfl⟩
  have hKl : K.length = 32 := by rw [HK.out, List.length_map, hk]
  obtain ⟨Z, HZ⟩ : ∃ Z, Hid (Z = se0) := ⟨_, rfl⟩
  have hz := hid zeroSe
  rw [← HZ.out] at hz
  have hZl : Z.length = 3 := by rw [HZ.out]; rfl
  have hlw := fun (y : World) (hb : Below B w y) => hid (lookWith_any h l bo bc n ha hp hn y hln (HL.below (hsz ▸ hb)) hhn)
  obtain ⟨C, HC⟩ : ∃ C, Hid (C = seW h bo n bc l) := ⟨_, rfl⟩
  have hCl : C.length = 3 := by rw [HC.out]; exact seW_len _ _ _ _ _
  have hC1 : ∀ u ∈ C, u.oneCell' = true := by rw [HC.out]; exact seW_one _ _ _ _ _
  simp only [← HC.out] at hlw
  obtain ⟨hh, hL, hSW⟩ := seW_zero hE (show Octs l from HL.oct) bo n bc
  obtain ⟨_, _, hk1, hk2, hs1, _⟩ := look_nums (show Octs l from HL.oct) hL
  simp only [hE] at hlw
  have hCE : C = [.slice bo n bc, .int .i64 (kN l : Int), .int .i64 (sN l : Int)] := by rw [HC.out, hSW]
  have hma := fun y => hid (many_any bo n bc (sN l) (kN l) y (by omega) (by omega) (by omega))
  simp only [← hCE] at hma
  obtain ⟨m, Hm⟩ : ∃ m, Hid (m = mN l) := ⟨_, rfl⟩
  have hmm : manyT (sN l) (kN l) = m := Hm.out.symm
  rw [hmm] at hma
  have hEE : Hid (blockE k h l i = 4) := hid (by unfold blockE; rw [if_neg hh, if_neg (fun g => g hL), if_pos (Or.inr hi)])
  rw [← Hm.out] at hi
  have hI2 : (m : Int) ≤ i := hi
  have hdi : decide (i < 0) = false := decide_eq_false hi0
  rw [← HK.out]
  clear hk hln HL hhn HH h0 hE hh hL hSW hCE hk1 hk2 hs1 hmm
  go_enter Try.func143, Try.ntmps143
  go_wp2_with (first | (go_at_call 188; refine (hma w3).out.mono ?_; rintro e w4 ⟨rfl, hb4⟩; have hK4 := hK3.below hb4 hK3.lt; have hT4 := hT3.below hb4 hT3.lt; have bb4 := bb3.trans (hb4.mono hsg); have hsg4 := Nat.le_trans hsg hb4.size) | (refine wl_loadG (by rfl) 227 _ rfl ⟨g, 0, none⟩ rfl 3 C hCl aggSe hT3.at0 ?_) | (refine wl_storeV rfl 227 _ _ rfl 227 g rfl C rfl 3 aggSe hCl Z hT2 hZl hC1 ?_; intro w3 hT3 hb3 hs3; have hK3 := hK2.below hb3 (by omega); have bb3 := bb2.trans (hb3.mono (by omega : B ≤ _)); have hsg : B ≤ w3.heap.size := (by have := hT3.lt; omega)) | (refine wl_allocV rfl 227 rfl Z hz.out g Hg.out ?_; intro w2 hT2 hb2 hs2; have hK2 := hK1.below hb2 (by omega); have bb2 := bb1.trans (hb2.mono (by omega : B ≤ _))) | (go_at_call 189; refine (hlw wb hbb).out.mono ?_; rintro e w1 ⟨rfl, hb1⟩; have hK1 := hKb.below hb1 hKb.lt; have bb1 := hbb.trans (hb1.mono (by omega : B ≤ _)); obtain ⟨g, Hg⟩ : ∃ g, Hid (w1.heap.size = g) := ⟨_, rfl⟩; have hgB : B + 1 ≤ g := (by rw [← Hg.out]; have := hb1.size; omega)) | (refine wl_boxV rfl 23 _ rfl K rfl B hsz ?_; intro wb hKb hbb hsb))
  go_ret2
  exact blockPost_bad (by first | exact bb4 | (rw [← HB.out]; exact bb4)) hEE.out (by decide)
set_option maxRecDepth 100000 in
set_option maxHeartbeats 4000000 in
theorem Block_ok (k h l : List Int) (bo : Option Addr) (bc n : Nat) (ha : Option Addr) (hp hn : Nat) (i : Int) (w : World) (hk : k.length = 32) (ok : Octs k) (hln : n = l.length) (HL : Pt.Ok w ⟨bo, bc, l⟩) (hhn : hn = h.length) (HH : Pt.Ok w ⟨ha, hp, h⟩) (h0 : ha = none → hp = 0) (hE : lookWE h l = 0) (j : Nat) (hij : i = (j : Int)) (hj : j < mN l) :
    Calls Try.prog 143 #[.agg (k.map (Value.int .u8)).toArray, .slice ha hn hp, .slice bo n bc, .int .i64 i] w (BlockPost k h l i w) := by
  obtain ⟨B, HB⟩ : ∃ B, Hid (B = w.heap.size) := ⟨_, rfl⟩
  have hsz : w.heap.size = B := HB.out.symm
  obtain ⟨K, HK⟩ : ∃ K, Hid (K = k.map (Value.int .u8)) := ⟨_, rfl⟩
  have hKl : K.length = 32 := by rw [HK.out, List.length_map, hk]
  obtain ⟨Z, HZ⟩ : ∃ Z, Hid (Z = se0) := ⟨_, rfl⟩
  have hz := hid zeroSe
  rw [← HZ.out] at hz
  have hZl : Z.length = 3 := by rw [HZ.out]; rfl
  have hlw := fun (y : World) (hb : Below B w y) => hid (lookWith_any h l bo bc n ha hp hn y hln (HL.below (hsz ▸ hb)) hhn)
  obtain ⟨C, HC⟩ : ∃ C, Hid (C = seW h bo n bc l) := ⟨_, rfl⟩
  have hCl : C.length = 3 := by rw [HC.out]; exact seW_len _ _ _ _ _
  have hC1 : ∀ u ∈ C, u.oneCell' = true := by rw [HC.out]; exact seW_one _ _ _ _ _
  simp only [← HC.out] at hlw
  obtain ⟨hh, hL, hSW⟩ := seW_zero hE (show Octs l from HL.oct) bo n bc
  obtain ⟨_, _, hk1, hk2, hs1, _⟩ := look_nums (show Octs l from HL.oct) hL
  simp only [hE] at hlw
  have hCE : C = [.slice bo n bc, .int .i64 (kN l : Int), .int .i64 (sN l : Int)] := by rw [HC.out, hSW]
  have hma := fun y => hid (many_any bo n bc (sN l) (kN l) y (by omega) (by omega) (by omega))
  simp only [← hCE] at hma
  obtain ⟨m, Hm⟩ : ∃ m, Hid (m = mN l) := ⟨_, rfl⟩
  have hmm : manyT (sN l) (kN l) = m := Hm.out.symm
  rw [hmm] at hma
  have hop := fun (y : World) (hb : Below B w y) => hid (opnB_any k h l bo bc n ha hp hn j y hk ok hln (HL.below (hsz ▸ hb)) hhn (HH.below (hsz ▸ hb)) h0 hh hL hj)
  rw [← hCE] at hop
  have HPO := hid (fun (e : Ending) (w' : World) (hp : OpenPost k h l j w e w') => blockPost_open hij hh hL hj hp)
  subst hij
  have hI1 : ¬ (j : Int) < 0 := by omega
  have hI2 : ¬ (m : Int) ≤ (j : Int) := by have := Hm.out; omega
  rw [← HK.out]
  simp only [← HK.out] at hop
  unfold OpenPost at hop
  obtain ⟨E, HE⟩ : ∃ E, Hid (E = openE' k h l j) := ⟨_, rfl⟩
  simp only [← HE.out] at hop
  clear hk hln HL hhn HH h0 hE hh hL hSW hCE hk1 hk2 hs1 hmm
  go_enter Try.func143, Try.ntmps143
  go_wp2_with (first | (go_at_call 190; refine (hop w4 bb4).out.mono ?_; rintro e w5 ⟨hb5, ao, n5, c5, rfl, hn5, hP5, hno5⟩; have bb5 := bb4.trans (hb5.mono hsg4)) | (refine wl_loadG (by rfl) 23 _ rfl ⟨B, 0, none⟩ rfl 32 K hKl aggKey hK4.at0 ?_) | (refine wl_loadG (by rfl) 227 _ rfl ⟨g, 0, none⟩ rfl 3 C hCl aggSe hT4.at0 ?_) | (go_at_call 188; refine (hma w3).out.mono ?_; rintro e w4 ⟨rfl, hb4⟩; have hK4 := hK3.below hb4 hK3.lt; have hT4 := hT3.below hb4 hT3.lt; have bb4 := bb3.trans (hb4.mono hsg); have hsg4 := Nat.le_trans hsg hb4.size) | (refine wl_loadG (by rfl) 227 _ rfl ⟨g, 0, none⟩ rfl 3 C hCl aggSe hT3.at0 ?_) | (refine wl_storeV rfl 227 _ _ rfl 227 g rfl C rfl 3 aggSe hCl Z hT2 hZl hC1 ?_; intro w3 hT3 hb3 hs3; have hK3 := hK2.below hb3 (by omega); have bb3 := bb2.trans (hb3.mono (by omega : B ≤ _)); have hsg : B ≤ w3.heap.size := (by have := hT3.lt; omega)) | (refine wl_allocV rfl 227 rfl Z hz.out g Hg.out ?_; intro w2 hT2 hb2 hs2; have hK2 := hK1.below hb2 (by omega); have bb2 := bb1.trans (hb2.mono (by omega : B ≤ _))) | (go_at_call 189; refine (hlw wb hbb).out.mono ?_; rintro e w1 ⟨rfl, hb1⟩; have hK1 := hKb.below hb1 hKb.lt; have bb1 := hbb.trans (hb1.mono (by omega : B ≤ _)); obtain ⟨g, Hg⟩ : ∃ g, Hid (w1.heap.size = g) := ⟨_, rfl⟩; have hgB : B + 1 ≤ g := (by rw [← Hg.out]; have := hb1.size; omega)) | (refine wl_boxV rfl 23 _ rfl K rfl B hsz ?_; intro wb hKb hbb hsb))
  go_ret2
  exact HPO.out _ _ ⟨by first | exact bb5 | (rw [← HB.out]; exact bb5), ao, n5, c5, by rw [← HE.out]; rfl, hn5, hP5, hno5⟩
theorem Block_any (k h l : List Int) (bo : Option Addr) (bc n : Nat) (ha : Option Addr) (hp hn : Nat) (i : Int) (w : World) (hk : k.length = 32) (ok : Octs k) (hln : n = l.length) (HL : Pt.Ok w ⟨bo, bc, l⟩) (hhn : hn = h.length) (HH : Pt.Ok w ⟨ha, hp, h⟩) (h0 : ha = none → hp = 0) :
    Calls Try.prog 143 #[.agg (k.map (Value.int .u8)).toArray, .slice ha hn hp, .slice bo n bc, .int .i64 i] w (BlockPost k h l i w) := by
  by_cases hE : lookWE h l = 0
  · by_cases hi0 : i < 0
    · exact Block_neg k h l bo bc n ha hp hn i w hk ok hln HL hhn HH h0 hE hi0
    · by_cases hi : (mN l : Int) ≤ i
      · exact Block_far k h l bo bc n ha hp hn i w hk ok hln HL hhn HH h0 hE hi0 hi
      · exact Block_ok k h l bo bc n ha hp hn i w hk ok hln HL hhn HH h0 hE i.toNat (by omega) (by omega)
  · exact Block_look k h l bo bc n ha hp hn i w hk ok hln HL hhn HH h0 hE
end Go.Proofs.Ytbljihhelladbaa.wr
