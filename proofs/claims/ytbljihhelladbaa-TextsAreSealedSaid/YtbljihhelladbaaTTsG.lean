/-
  Contracts of wrap.look, wrap.lookWith and wrap.Blocks. Conditions: octets that lie in memory.
-/
import Derived.Test.YtbljihhelladbaaTTsC
import Derived.Test.YtbljihhelladbaaTEqA
namespace Go.Proofs.Ytbljihhelladbaa.wr
open Go.RowKit Go.Proofs.Ytbljihhelladbaa.st Go.Proofs.Ytbljihhelladbaa.hs Go.Proofs.Ytbljihhelladbaa.shr Go.Proofs.Ytbljihhelladbaa.sh
set_option linter.unusedSimpArgs false
set_option linter.unusedVariables false
set_option pp.maxSteps 6000
/-- what look gives -/
def se0 : List Value := [.slice none 0 0, .int .i64 0, .int .i64 0]
def seC (bo : Option Addr) (n bc : Nat) (b : List Int) : List Value := if lookE b = 0 then [.slice bo n bc, .int .i64 (blkN b), .int .i64 (sizN b)] else se0
def lookV (bo : Option Addr) (n bc : Nat) (b : List Int) : Value := .tuple #[.agg (seC bo n bc b).toArray, .int .i64 (lookE b)]
theorem aggSe : Agg Try.prog 227 3 := Agg.str Try.underlying227 (by kernel_rfl)
theorem zeroSe : (Try.prog.info? 227).map (·.zero) = some (some (.agg se0.toArray)) := by kernel_rfl
theorem builtSe : Try.prog.built 227 [] = some se0.toArray := by kernel_rfl
theorem builtSe3 (bo : Option Addr) (n bc : Nat) (x y : Int) : Try.prog.built 227 [(0, .slice bo n bc), (1, .int .i64 x), (2, .int .i64 y)] = some [.slice bo n bc, .int .i64 x, .int .i64 y].toArray := by kernel_rfl
theorem wl_build3 {P : Program} {w : World} {ops : Array Oper} {rest : List Oper} {o : Oper} {a : Act} {Q : Exit → Act → World → Prop} (hgd : o.guard = none) (t : TypeId) (i j k : Nat) (x y z : Operand) (ho : o.op = .build t #[(i, x), (j, y), (k, z)])
    (u v r : Value) (hx : a.eval x = u) (hy : a.eval y = v) (hz : a.eval z = r) (cs : List Value) (hb : P.built t [(i, u), (j, v), (k, r)] = some cs.toArray) (h : wpList P ops Q rest (a.put o.dst (.agg cs.toArray)) w) : wpList P ops Q (o :: rest) a w :=
  wl_build hgd t _ ho cs (by simp [hx, hy, hz]; exact hb) h
theorem lookE_bad {b : List Int} {e : Int} (h : lookE b = e) (h0 : e ≠ 0) (bo : Option Addr) (n bc : Nat) : lookV bo n bc b = .tuple #[.agg se0.toArray, .int .i64 e] := by unfold lookV seC; rw [h, if_neg h0]
theorem lookE_zero {b : List Int} (h : lookE b = 0) : 32 ≤ b.length ∧ b.take 4 = kwt ∧ 16 ≤ blkN b ∧ blkN b ≤ 65536 ∧ highN b = 0 ∧ sizN b ≤ 262144 ∧ b.length = wholeN b := by
  unfold lookE at h
  by_cases h1 : b.length < 32
  · rw [if_pos h1] at h; cases h
  rw [if_neg h1] at h
  by_cases h2n : ¬ b.take 4 = kwt
  · rw [if_pos h2n] at h; cases h
  rw [if_neg h2n] at h
  have h2 := Decidable.not_not.1 h2n
  by_cases h3 : blkN b < 16 ∨ 65536 < blkN b
  · rw [if_pos h3] at h; cases h
  rw [if_neg h3] at h
  by_cases h4 : highN b ≠ 0 ∨ 262144 < sizN b
  · rw [if_pos h4] at h; cases h
  rw [if_neg h4] at h
  by_cases h5 : b.length < wholeN b
  · rw [if_pos h5] at h; cases h
  rw [if_neg h5] at h
  by_cases h6 : wholeN b < b.length
  · rw [if_pos h6] at h; cases h
  refine ⟨by omega, h2, by omega, by omega, ?_, by omega, by omega⟩
  by_cases h0 : highN b = 0
  · exact h0
  · exact absurd (Or.inl h0) h4
set_option maxRecDepth 100000 in
set_option maxHeartbeats 4000000 in
theorem look_short (bo : Option Addr) (bc n : Nat) (l : List Int) (w : World) (hn : n = l.length) (HP : Pt.Ok w ⟨bo, bc, l⟩) (h0 : n < 32) :
    Calls Try.prog 187 #[.slice bo n bc] w fun e w' => e = .returned (lookV bo n bc l) ∧ Below w.heap.size w w' := by
  obtain ⟨B, HB⟩ : ∃ B, Hid (B = w.heap.size) := ⟨_, rfl⟩
  have hsz : w.heap.size = B := HB.out.symm
  obtain ⟨Z, HZ⟩ : ∃ Z, Hid (Z = se0) := ⟨_, rfl⟩
  have hz := hid zeroSe
  have hbu := hid builtSe
  rw [← HZ.out] at hz hbu
  have hZl : Z.length = 3 := by rw [HZ.out]; rfl
  have hZ1 : ∀ u ∈ Z, u.oneCell' = true := by rw [HZ.out]; intro u hu; simp [se0] at hu; rcases hu with rfl | rfl <;> rfl
  have hE : lookE l = 1 := by unfold lookE; rw [if_pos (by omega)]
  have HV : Hid (lookV bo n bc l = .tuple #[.agg Z.toArray, .int .i64 1]) := hid (by rw [lookE_bad hE (by decide), HZ.out])
  have hI : (n : Int) < 32 := by omega
  rw [HV.out]
  clear hE hn HP
  go_enter Try.func187, Try.ntmps187
  go_wp2_with (first | (refine wl_storeV rfl 227 _ _ rfl 227 B rfl Z rfl 3 aggSe hZl Z hR1 hZl hZ1 ?_; intro wF hRF hbF hsF) | (refine wl_build0 rfl 227 rfl Z hbu.out ?_) | (refine wl_allocV rfl 227 rfl Z hz.out B hsz ?_; intro w1 hR1 hb1 hs1))
  (try simp only [Exit.inBlock, Exit.then]); refine bodyPost_ret (results_cell2 rfl _ _ _ _ rfl Z (by rw [hZl]; exact aggSe) hRF.at0) rfl ?_
  exact ⟨rfl, by first | exact hb1.trans hbF | (rw [hsz]; exact hb1.trans hbF)⟩
set_option maxRecDepth 100000 in
set_option maxHeartbeats 4000000 in
theorem look_form (bo : Option Addr) (bc n : Nat) (l : List Int) (w : World) (hn : n = l.length) (HP : Pt.Ok w ⟨bo, bc, l⟩) (h0 : 32 ≤ n) (h1 : ¬ l.take 4 = kwt) :
    Calls Try.prog 187 #[.slice bo n bc] w fun e w' => e = .returned (lookV bo n bc l) ∧ Below w.heap.size w w' := by
  obtain ⟨B, HB⟩ : ∃ B, Hid (B = w.heap.size) := ⟨_, rfl⟩
  have hsz : w.heap.size = B := HB.out.symm
  obtain ⟨Z, HZ⟩ : ∃ Z, Hid (Z = se0) := ⟨_, rfl⟩
  have hz := hid zeroSe
  have hbu := hid builtSe
  rw [← HZ.out] at hz hbu
  have hZl : Z.length = 3 := by rw [HZ.out]; rfl
  have hZ1 : ∀ u ∈ Z, u.oneCell' = true := by rw [HZ.out]; intro u hu; simp [se0] at hu; rcases hu with rfl | rfl <;> rfl
  have hE : lookE l = 2 := by unfold lookE; rw [if_neg (by omega), if_pos h1]
  have HV : Hid (lookV bo n bc l = .tuple #[.agg Z.toArray, .int .i64 2]) := hid (by rw [lookE_bad hE (by decide), HZ.out])
  obtain ⟨b, off, rfl, hbw, hc⟩ := HP.row.at (i := 0) (by show 0 < l.length; omega)
  have hI : ¬ (n : Int) < 32 := by omega
  have hcap : n ≤ bc := by rw [hn]; exact HP.len
  have h4I : (4 : Int) ≤ (bc : Int) := by omega
  have hmaxI : bc ≤ maxLen := HP.cap
  unfold maxLen at hmaxI
  have ho4 : Octs (l.take 4) := fun c hc => HP.oct c (List.mem_of_mem_take hc)
  obtain ⟨S, HS⟩ : ∃ S, Hid (S = strOfNums (l.take 4)) := ⟨_, rfl⟩
  have hkS := fun (y : World) (hb : Below B w y) => hid (run_convStr y (some ⟨b, off, none⟩) 4 bc (l.take 4) (by rw [List.length_take]; omega) (RowI.takeS (HP.below (hsz ▸ hb)).row 4))
  simp only [← HS.out] at hkS
  have hne : ¬ S = strOfNums kwt := fun e => h1 (str_inj ho4 kwt_octs (by rw [← HS.out]; exact e))
  have hne' : ¬ S.toList = [75, 87, 84, 49] := by
    intro e
    have h1 := str_ne hne
    rw [beq_eq_false_iff_ne] at h1
    exact h1 (e.trans (by rw [toList_eq]; rfl))
  have hne2 : (S.toList == [75, 87, 84, 49]) = false := by simpa using hne'
  rw [HV.out]
  clear hE hn HP hc ho4 h1 hne hne'
  go_enter Try.func187, Try.ntmps187
  go_wp2_with (first | (refine wl_storeV rfl 227 _ _ rfl 227 B rfl Z rfl 3 aggSe hZl Z hR1 hZl hZ1 ?_; intro wF hRF hbF hsF) | (refine wl_build0 rfl 227 rfl Z hbu.out ?_) | (refine wl_allocV rfl 227 rfl Z hz.out B hsz ?_; intro w1 hR1 hb1 hs1; have hkS1 := (hkS w1 hb1).out))
  (try simp only [Exit.inBlock, Exit.then]); refine bodyPost_ret (results_cell2 rfl _ _ _ _ rfl Z (by rw [hZl]; exact aggSe) hRF.at0) rfl ?_
  exact ⟨rfl, by first | exact hb1.trans hbF | (rw [hsz]; exact hb1.trans hbF)⟩
set_option maxRecDepth 100000 in
set_option maxHeartbeats 4000000 in
theorem look_low (bo : Option Addr) (bc n : Nat) (l : List Int) (w : World) (hn : n = l.length) (HP : Pt.Ok w ⟨bo, bc, l⟩) (h0 : 32 ≤ n) (h1 : l.take 4 = kwt) (h2 : blkN l < 16) :
    Calls Try.prog 187 #[.slice bo n bc] w fun e w' => e = .returned (lookV bo n bc l) ∧ Below w.heap.size w w' := by
  obtain ⟨B, HB⟩ : ∃ B, Hid (B = w.heap.size) := ⟨_, rfl⟩
  have hsz : w.heap.size = B := HB.out.symm
  obtain ⟨Z, HZ⟩ : ∃ Z, Hid (Z = se0) := ⟨_, rfl⟩
  have hz := hid zeroSe
  have hbu := hid builtSe
  rw [← HZ.out] at hz hbu
  have hZl : Z.length = 3 := by rw [HZ.out]; rfl
  have hZ1 : ∀ u ∈ Z, u.oneCell' = true := by rw [HZ.out]; intro u hu; simp [se0] at hu; rcases hu with rfl | rfl <;> rfl
  have hE : lookE l = 4 := by unfold lookE; rw [if_neg (by omega), if_neg (fun g => g h1), if_pos (Or.inl h2)]
  have HV : Hid (lookV bo n bc l = .tuple #[.agg Z.toArray, .int .i64 4]) := hid (by rw [lookE_bad hE (by decide), HZ.out])
  obtain ⟨b, off, rfl, hbw, hc⟩ := HP.row.at (i := 0) (by show 0 < l.length; omega)
  have hI : ¬ (n : Int) < 32 := by omega
  have hcap : n ≤ bc := by rw [hn]; exact HP.len
  have h4I : (4 : Int) ≤ (bc : Int) := by omega
  have hmaxI : bc ≤ maxLen := HP.cap
  unfold maxLen at hmaxI
  have ho4 : Octs (l.take 4) := fun c hc => HP.oct c (List.mem_of_mem_take hc)
  obtain ⟨S, HS⟩ : ∃ S, Hid (S = strOfNums (l.take 4)) := ⟨_, rfl⟩
  have hkS := fun (y : World) (hb : Below B w y) => hid (run_convStr y (some ⟨b, off, none⟩) 4 bc (l.take 4) (by rw [List.length_take]; omega) (RowI.takeS (HP.below (hsz ▸ hb)).row 4))
  simp only [← HS.out] at hkS
  have heq : S.toList = [75, 87, 84, 49] := by rw [HS.out, h1, toList_eq]; rfl
  have heq2 : (S.toList == [75, 87, 84, 49]) = true := by simpa using heq
  have hkb : 0 ≤ numL (seg l 20 4) ∧ numL (seg l 20 4) ≤ 4294967295 := numL4_b HP.oct 20
  obtain ⟨k, hk⟩ : ∃ k : Nat, blkN l = (k : Int) := ⟨(blkN l).toNat, by unfold blkN; omega⟩
  have hk32 : k ≤ 4294967295 := by unfold blkN at hk; omega
  have hnu := fun (y : World) (hb : Below B w y) => hid (Number_ok b off bc n 20 l y hn (HP.below (hsz ▸ hb)) (by omega))
  have hk' : numL (seg l 20 4) = (k : Int) := hk
  simp only [hk'] at hnu
  rw [hk] at h2
  have hkI : (k : Int) < 16 := h2
  rw [HV.out]
  clear hE hn HP hc ho4 h1 heq hk' hk
  go_enter Try.func187, Try.ntmps187
  go_wp2_with (first | (refine wl_storeV rfl 227 _ _ rfl 227 B rfl Z rfl 3 aggSe hZl Z hR2 hZl hZ1 ?_; intro wF hRF hbF hsF) | (refine wl_build0 rfl 227 rfl Z hbu.out ?_) | (go_at_call 128; refine (hnu w1 hb1).out.mono ?_; rintro e w2 ⟨rfl, hb2⟩; have hR2 := hR1.below hb2 hR1.lt; have bb2 := hb1.trans (hb2.mono (by omega : B ≤ _)); have hs2 := hb2.size) | (refine wl_allocV rfl 227 rfl Z hz.out B hsz ?_; intro w1 hR1 hb1 hs1; have hkS1 := (hkS w1 hb1).out))
  (try simp only [Exit.inBlock, Exit.then]); refine bodyPost_ret (results_cell2 rfl _ _ _ _ rfl Z (by rw [hZl]; exact aggSe) hRF.at0) rfl ?_
  exact ⟨rfl, by first | exact bb2.trans hbF | (rw [hsz]; exact bb2.trans hbF)⟩
set_option maxRecDepth 100000 in
set_option maxHeartbeats 4000000 in
theorem look_high (bo : Option Addr) (bc n : Nat) (l : List Int) (w : World) (hn : n = l.length) (HP : Pt.Ok w ⟨bo, bc, l⟩) (h0 : 32 ≤ n) (h1 : l.take 4 = kwt) (h2 : ¬ blkN l < 16) (h3 : 65536 < blkN l) :
    Calls Try.prog 187 #[.slice bo n bc] w fun e w' => e = .returned (lookV bo n bc l) ∧ Below w.heap.size w w' := by
  obtain ⟨B, HB⟩ : ∃ B, Hid (B = w.heap.size) := ⟨_, rfl⟩
  have hsz : w.heap.size = B := HB.out.symm
  obtain ⟨Z, HZ⟩ : ∃ Z, Hid (Z = se0) := ⟨_, rfl⟩
  have hz := hid zeroSe
  have hbu := hid builtSe
  rw [← HZ.out] at hz hbu
  have hZl : Z.length = 3 := by rw [HZ.out]; rfl
  have hZ1 : ∀ u ∈ Z, u.oneCell' = true := by rw [HZ.out]; intro u hu; simp [se0] at hu; rcases hu with rfl | rfl <;> rfl
  have hE : lookE l = 4 := by unfold lookE; rw [if_neg (by omega), if_neg (fun g => g h1), if_pos (Or.inr h3)]
  have HV : Hid (lookV bo n bc l = .tuple #[.agg Z.toArray, .int .i64 4]) := hid (by rw [lookE_bad hE (by decide), HZ.out])
  obtain ⟨b, off, rfl, hbw, hc⟩ := HP.row.at (i := 0) (by show 0 < l.length; omega)
  have hI : ¬ (n : Int) < 32 := by omega
  have hcap : n ≤ bc := by rw [hn]; exact HP.len
  have h4I : (4 : Int) ≤ (bc : Int) := by omega
  have hmaxI : bc ≤ maxLen := HP.cap
  unfold maxLen at hmaxI
  have ho4 : Octs (l.take 4) := fun c hc => HP.oct c (List.mem_of_mem_take hc)
  obtain ⟨S, HS⟩ : ∃ S, Hid (S = strOfNums (l.take 4)) := ⟨_, rfl⟩
  have hkS := fun (y : World) (hb : Below B w y) => hid (run_convStr y (some ⟨b, off, none⟩) 4 bc (l.take 4) (by rw [List.length_take]; omega) (RowI.takeS (HP.below (hsz ▸ hb)).row 4))
  simp only [← HS.out] at hkS
  have heq : S.toList = [75, 87, 84, 49] := by rw [HS.out, h1, toList_eq]; rfl
  have heq2 : (S.toList == [75, 87, 84, 49]) = true := by simpa using heq
  have hkb : 0 ≤ numL (seg l 20 4) ∧ numL (seg l 20 4) ≤ 4294967295 := numL4_b HP.oct 20
  obtain ⟨k, hk⟩ : ∃ k : Nat, blkN l = (k : Int) := ⟨(blkN l).toNat, by unfold blkN; omega⟩
  have hk32 : k ≤ 4294967295 := by unfold blkN at hk; omega
  have hnu := fun (y : World) (hb : Below B w y) => hid (Number_ok b off bc n 20 l y hn (HP.below (hsz ▸ hb)) (by omega))
  have hk' : numL (seg l 20 4) = (k : Int) := hk
  simp only [hk'] at hnu
  rw [hk] at h2
  rw [hk] at h3
  have hkI1 : ¬ (k : Int) < 16 := h2
  have hkI2 : (65536 : Int) < (k : Int) := h3
  rw [HV.out]
  clear hE hn HP hc ho4 h1 heq hk' hk
  go_enter Try.func187, Try.ntmps187
  go_wp2_with (first | (refine wl_storeV rfl 227 _ _ rfl 227 B rfl Z rfl 3 aggSe hZl Z hR2 hZl hZ1 ?_; intro wF hRF hbF hsF) | (refine wl_build0 rfl 227 rfl Z hbu.out ?_) | (go_at_call 128; refine (hnu w1 hb1).out.mono ?_; rintro e w2 ⟨rfl, hb2⟩; have hR2 := hR1.below hb2 hR1.lt; have bb2 := hb1.trans (hb2.mono (by omega : B ≤ _)); have hs2 := hb2.size) | (refine wl_allocV rfl 227 rfl Z hz.out B hsz ?_; intro w1 hR1 hb1 hs1; have hkS1 := (hkS w1 hb1).out))
  (try simp only [Exit.inBlock, Exit.then]); refine bodyPost_ret (results_cell2 rfl _ _ _ _ rfl Z (by rw [hZl]; exact aggSe) hRF.at0) rfl ?_
  exact ⟨rfl, by first | exact bb2.trans hbF | (rw [hsz]; exact bb2.trans hbF)⟩
set_option maxRecDepth 100000 in
set_option maxHeartbeats 4000000 in
theorem look_long (bo : Option Addr) (bc n : Nat) (l : List Int) (w : World) (hn : n = l.length) (HP : Pt.Ok w ⟨bo, bc, l⟩) (h0 : 32 ≤ n) (h1 : l.take 4 = kwt) (h2 : 16 ≤ blkN l ∧ blkN l ≤ 65536) (h3 : ¬ longE l = 0) :
    Calls Try.prog 187 #[.slice bo n bc] w fun e w' => e = .returned (lookV bo n bc l) ∧ Below w.heap.size w w' := by
  obtain ⟨B, HB⟩ : ∃ B, Hid (B = w.heap.size) := ⟨_, rfl⟩
  have hsz : w.heap.size = B := HB.out.symm
  obtain ⟨Z, HZ⟩ : ∃ Z, Hid (Z = se0) := ⟨_, rfl⟩
  have hz := hid zeroSe
  have hbu := hid builtSe
  rw [← HZ.out] at hz hbu
  have hZl : Z.length = 3 := by rw [HZ.out]; rfl
  have hZ1 : ∀ u ∈ Z, u.oneCell' = true := by rw [HZ.out]; intro u hu; simp [se0] at hu; rcases hu with rfl | rfl <;> rfl
  have hE : lookE l = 5 := by unfold lookE; rw [if_neg (by omega), if_neg (fun g => g h1), if_neg (by omega), if_pos ((longE_eq HP.oct).1 (Or.inl h3))]
  have HV : Hid (lookV bo n bc l = .tuple #[.agg Z.toArray, .int .i64 5]) := hid (by rw [lookE_bad hE (by decide), HZ.out])
  obtain ⟨b, off, rfl, hbw, hc⟩ := HP.row.at (i := 0) (by show 0 < l.length; omega)
  have hI : ¬ (n : Int) < 32 := by omega
  have hcap : n ≤ bc := by rw [hn]; exact HP.len
  have h4I : (4 : Int) ≤ (bc : Int) := by omega
  have hmaxI : bc ≤ maxLen := HP.cap
  unfold maxLen at hmaxI
  have ho4 : Octs (l.take 4) := fun c hc => HP.oct c (List.mem_of_mem_take hc)
  obtain ⟨S, HS⟩ : ∃ S, Hid (S = strOfNums (l.take 4)) := ⟨_, rfl⟩
  have hkS := fun (y : World) (hb : Below B w y) => hid (run_convStr y (some ⟨b, off, none⟩) 4 bc (l.take 4) (by rw [List.length_take]; omega) (RowI.takeS (HP.below (hsz ▸ hb)).row 4))
  simp only [← HS.out] at hkS
  have heq : S.toList = [75, 87, 84, 49] := by rw [HS.out, h1, toList_eq]; rfl
  have heq2 : (S.toList == [75, 87, 84, 49]) = true := by simpa using heq
  have hkb : 0 ≤ numL (seg l 20 4) ∧ numL (seg l 20 4) ≤ 4294967295 := numL4_b HP.oct 20
  obtain ⟨k, hk⟩ : ∃ k : Nat, blkN l = (k : Int) := ⟨(blkN l).toNat, by unfold blkN; omega⟩
  have hk32 : k ≤ 4294967295 := by unfold blkN at hk; omega
  have hnu := fun (y : World) (hb : Below B w y) => hid (Number_ok b off bc n 20 l y hn (HP.below (hsz ▸ hb)) (by omega))
  have hk' : numL (seg l 20 4) = (k : Int) := hk
  simp only [hk'] at hnu
  rw [hk] at h2
  have hkI1 : ¬ (k : Int) < 16 := by omega
  have hkI2 : ¬ (65536 : Int) < (k : Int) := by omega
  have hlo := fun (y : World) (hb : Below B w y) => hid (Long_24 b off bc n l y hn (HP.below (hsz ▸ hb)) h0)
  obtain ⟨x, Hx⟩ : ∃ x, Hid (x = (if longE l = 0 then longN l else 0)) := ⟨_, rfl⟩
  obtain ⟨q, Hq⟩ : ∃ x, Hid (x = longE l) := ⟨_, rfl⟩
  simp only [← Hx.out] at hlo
  simp only [← Hq.out] at hlo
  rw [← Hq.out] at h3
  have hq0 : ¬ q = 0 := h3
  rw [HV.out]
  clear hE hn HP hc ho4 h1 heq hk' hk
  go_enter Try.func187, Try.ntmps187
  go_wp2_with (first | (refine wl_storeV rfl 227 _ _ rfl 227 B rfl Z rfl 3 aggSe hZl Z hR3 hZl hZ1 ?_; intro wF hRF hbF hsF) | (refine wl_build0 rfl 227 rfl Z hbu.out ?_) | (go_at_call 215; refine (hlo w2 bb2).out.mono ?_; rintro e w3 ⟨rfl, hb3⟩; have hR3 := hR2.below hb3 hR2.lt; have bb3 := bb2.trans (hb3.mono (by omega : B ≤ _)); have hs3 := hb3.size) | (go_at_call 128; refine (hnu w1 hb1).out.mono ?_; rintro e w2 ⟨rfl, hb2⟩; have hR2 := hR1.below hb2 hR1.lt; have bb2 := hb1.trans (hb2.mono (by omega : B ≤ _)); have hs2 := hb2.size) | (refine wl_allocV rfl 227 rfl Z hz.out B hsz ?_; intro w1 hR1 hb1 hs1; have hkS1 := (hkS w1 hb1).out))
  (try simp only [Exit.inBlock, Exit.then]); refine bodyPost_ret (results_cell2 rfl _ _ _ _ rfl Z (by rw [hZl]; exact aggSe) hRF.at0) rfl ?_
  exact ⟨rfl, by first | exact bb3.trans hbF | (rw [hsz]; exact bb3.trans hbF)⟩
set_option maxRecDepth 100000 in
set_option maxHeartbeats 4000000 in
theorem look_size (bo : Option Addr) (bc n : Nat) (l : List Int) (w : World) (hn : n = l.length) (HP : Pt.Ok w ⟨bo, bc, l⟩) (h0 : 32 ≤ n) (h1 : l.take 4 = kwt) (h2 : 16 ≤ blkN l ∧ blkN l ≤ 65536) (h3 : longE l = 0) (h4 : 262144 < longN l) :
    Calls Try.prog 187 #[.slice bo n bc] w fun e w' => e = .returned (lookV bo n bc l) ∧ Below w.heap.size w w' := by
  obtain ⟨B, HB⟩ : ∃ B, Hid (B = w.heap.size) := ⟨_, rfl⟩
  have hsz : w.heap.size = B := HB.out.symm
  obtain ⟨Z, HZ⟩ : ∃ Z, Hid (Z = se0) := ⟨_, rfl⟩
  have hz := hid zeroSe
  have hbu := hid builtSe
  rw [← HZ.out] at hz hbu
  have hZl : Z.length = 3 := by rw [HZ.out]; rfl
  have hZ1 : ∀ u ∈ Z, u.oneCell' = true := by rw [HZ.out]; intro u hu; simp [se0] at hu; rcases hu with rfl | rfl <;> rfl
  have hE : lookE l = 5 := by unfold lookE; rw [if_neg (by omega), if_neg (fun g => g h1), if_neg (by omega), if_pos ((longE_eq HP.oct).1 (Or.inr h4))]
  have HV : Hid (lookV bo n bc l = .tuple #[.agg Z.toArray, .int .i64 5]) := hid (by rw [lookE_bad hE (by decide), HZ.out])
  obtain ⟨b, off, rfl, hbw, hc⟩ := HP.row.at (i := 0) (by show 0 < l.length; omega)
  have hI : ¬ (n : Int) < 32 := by omega
  have hcap : n ≤ bc := by rw [hn]; exact HP.len
  have h4I : (4 : Int) ≤ (bc : Int) := by omega
  have hmaxI : bc ≤ maxLen := HP.cap
  unfold maxLen at hmaxI
  have ho4 : Octs (l.take 4) := fun c hc => HP.oct c (List.mem_of_mem_take hc)
  obtain ⟨S, HS⟩ : ∃ S, Hid (S = strOfNums (l.take 4)) := ⟨_, rfl⟩
  have hkS := fun (y : World) (hb : Below B w y) => hid (run_convStr y (some ⟨b, off, none⟩) 4 bc (l.take 4) (by rw [List.length_take]; omega) (RowI.takeS (HP.below (hsz ▸ hb)).row 4))
  simp only [← HS.out] at hkS
  have heq : S.toList = [75, 87, 84, 49] := by rw [HS.out, h1, toList_eq]; rfl
  have heq2 : (S.toList == [75, 87, 84, 49]) = true := by simpa using heq
  have hkb : 0 ≤ numL (seg l 20 4) ∧ numL (seg l 20 4) ≤ 4294967295 := numL4_b HP.oct 20
  obtain ⟨k, hk⟩ : ∃ k : Nat, blkN l = (k : Int) := ⟨(blkN l).toNat, by unfold blkN; omega⟩
  have hk32 : k ≤ 4294967295 := by unfold blkN at hk; omega
  have hnu := fun (y : World) (hb : Below B w y) => hid (Number_ok b off bc n 20 l y hn (HP.below (hsz ▸ hb)) (by omega))
  have hk' : numL (seg l 20 4) = (k : Int) := hk
  simp only [hk'] at hnu
  rw [hk] at h2
  have hkI1 : ¬ (k : Int) < 16 := by omega
  have hkI2 : ¬ (65536 : Int) < (k : Int) := by omega
  have hlo := fun (y : World) (hb : Below B w y) => hid (Long_24 b off bc n l y hn (HP.below (hsz ▸ hb)) h0)
  obtain ⟨x, Hx⟩ : ∃ x, Hid (x = longN l) := ⟨_, rfl⟩
  rw [h3, if_pos rfl] at hlo
  simp only [← Hx.out] at hlo
  rw [← Hx.out] at h4
  rw [HV.out]
  clear hE hn HP hc ho4 h1 heq hk' hk h3
  go_enter Try.func187, Try.ntmps187
  go_wp2_with (first | (refine wl_storeV rfl 227 _ _ rfl 227 B rfl Z rfl 3 aggSe hZl Z hR3 hZl hZ1 ?_; intro wF hRF hbF hsF) | (refine wl_build0 rfl 227 rfl Z hbu.out ?_) | (go_at_call 215; refine (hlo w2 bb2).out.mono ?_; rintro e w3 ⟨rfl, hb3⟩; have hR3 := hR2.below hb3 hR2.lt; have bb3 := bb2.trans (hb3.mono (by omega : B ≤ _)); have hs3 := hb3.size) | (go_at_call 128; refine (hnu w1 hb1).out.mono ?_; rintro e w2 ⟨rfl, hb2⟩; have hR2 := hR1.below hb2 hR1.lt; have bb2 := hb1.trans (hb2.mono (by omega : B ≤ _)); have hs2 := hb2.size) | (refine wl_allocV rfl 227 rfl Z hz.out B hsz ?_; intro w1 hR1 hb1 hs1; have hkS1 := (hkS w1 hb1).out))
  (try simp only [Exit.inBlock, Exit.then]); refine bodyPost_ret (results_cell2 rfl _ _ _ _ rfl Z (by rw [hZl]; exact aggSe) hRF.at0) rfl ?_
  exact ⟨rfl, by first | exact bb3.trans hbF | (rw [hsz]; exact bb3.trans hbF)⟩
set_option maxRecDepth 100000 in
set_option maxHeartbeats 4000000 in
theorem look_few (bo : Option Addr) (bc n : Nat) (l : List Int) (w : World) (hn : n = l.length) (HP : Pt.Ok w ⟨bo, bc, l⟩) (h0 : 32 ≤ n) (h1 : l.take 4 = kwt) (h2 : 16 ≤ blkN l ∧ blkN l ≤ 65536) (h3 : highN l = 0) (h4 : sizN l ≤ 262144) (h5 : l.length < wholeN l) :
    Calls Try.prog 187 #[.slice bo n bc] w fun e w' => e = .returned (lookV bo n bc l) ∧ Below w.heap.size w w' := by
  obtain ⟨B, HB⟩ : ∃ B, Hid (B = w.heap.size) := ⟨_, rfl⟩
  have hsz : w.heap.size = B := HB.out.symm
  obtain ⟨Z, HZ⟩ : ∃ Z, Hid (Z = se0) := ⟨_, rfl⟩
  have hz := hid zeroSe
  have hbu := hid builtSe
  rw [← HZ.out] at hz hbu
  have hZl : Z.length = 3 := by rw [HZ.out]; rfl
  have hZ1 : ∀ u ∈ Z, u.oneCell' = true := by rw [HZ.out]; intro u hu; simp [se0] at hu; rcases hu with rfl | rfl <;> rfl
  have hE : lookE l = 1 := by unfold lookE; rw [if_neg (by omega), if_neg (fun g => g h1), if_neg (by omega), if_neg (by omega), if_pos h5]
  have HV : Hid (lookV bo n bc l = .tuple #[.agg Z.toArray, .int .i64 1]) := hid (by rw [lookE_bad hE (by decide), HZ.out])
  obtain ⟨b, off, rfl, hbw, hc⟩ := HP.row.at (i := 0) (by show 0 < l.length; omega)
  have hI : ¬ (n : Int) < 32 := by omega
  have hcap : n ≤ bc := by rw [hn]; exact HP.len
  have h4I : (4 : Int) ≤ (bc : Int) := by omega
  have hmaxI : bc ≤ maxLen := HP.cap
  unfold maxLen at hmaxI
  have ho4 : Octs (l.take 4) := fun c hc => HP.oct c (List.mem_of_mem_take hc)
  obtain ⟨S, HS⟩ : ∃ S, Hid (S = strOfNums (l.take 4)) := ⟨_, rfl⟩
  have hkS := fun (y : World) (hb : Below B w y) => hid (run_convStr y (some ⟨b, off, none⟩) 4 bc (l.take 4) (by rw [List.length_take]; omega) (RowI.takeS (HP.below (hsz ▸ hb)).row 4))
  simp only [← HS.out] at hkS
  have heq : S.toList = [75, 87, 84, 49] := by rw [HS.out, h1, toList_eq]; rfl
  have heq2 : (S.toList == [75, 87, 84, 49]) = true := by simpa using heq
  have hkb : 0 ≤ numL (seg l 20 4) ∧ numL (seg l 20 4) ≤ 4294967295 := numL4_b HP.oct 20
  obtain ⟨k, hk⟩ : ∃ k : Nat, blkN l = (k : Int) := ⟨(blkN l).toNat, by unfold blkN; omega⟩
  have hk32 : k ≤ 4294967295 := by unfold blkN at hk; omega
  have hnu := fun (y : World) (hb : Below B w y) => hid (Number_ok b off bc n 20 l y hn (HP.below (hsz ▸ hb)) (by omega))
  have hk' : numL (seg l 20 4) = (k : Int) := hk
  simp only [hk'] at hnu
  rw [hk] at h2
  have hkI1 : ¬ (k : Int) < 16 := by omega
  have hkI2 : ¬ (65536 : Int) < (k : Int) := by omega
  have hlo := fun (y : World) (hb : Below B w y) => hid (Long_24 b off bc n l y hn (HP.below (hsz ▸ hb)) h0)
  have hsb : 0 ≤ numL (seg l 28 4) ∧ numL (seg l 28 4) ≤ 4294967295 := numL4_b HP.oct 28
  obtain ⟨s, hs⟩ : ∃ s : Nat, sizN l = (s : Int) := ⟨(sizN l).toNat, by unfold sizN; omega⟩
  have hle : longN l = (s : Int) := by unfold longN; rw [h3, hs]; omega
  have hle0 : longE l = 0 := by unfold longE; rw [if_neg (by omega)]
  rw [hle0, if_pos rfl] at hlo
  simp only [hle] at hlo
  rw [hs] at h4
  have hs1I : ¬ (262144 : Int) < (s : Int) := by omega
  obtain ⟨m, Hm⟩ : ∃ m, Hid (m = manyT s k) := ⟨_, rfl⟩
  have hmb : m ≤ 16385 := by rw [Hm.out]; exact many_le (by omega) (by omega)
  have hwh : wholeN l = 32 + s + 16 * m := by unfold wholeN; rw [hs, hk, Hm.out]; rfl
  rw [hwh, ← hn] at h5
  have hma := fun y => hid (many_any (some ⟨b, off, none⟩) n bc s k y (by omega) (by omega) (by omega))
  simp only [← Hm.out] at hma
  obtain ⟨CS, HCS⟩ : ∃ C : List Value, Hid (C = [.slice (some ⟨b, off, none⟩) n bc, .int .i64 k, .int .i64 s]) := ⟨_, rfl⟩
  have hCl : CS.length = 3 := by rw [HCS.out]; rfl
  have hC1 : ∀ u ∈ CS, u.oneCell' = true := by rw [HCS.out]; intro u hu; simp at hu; rcases hu with rfl | rfl | rfl <;> rfl
  simp only [← HCS.out] at hma
  have hb3' := hid (builtSe3 (some ⟨b, off, none⟩) n bc (k : Int) (s : Int))
  rw [← HCS.out] at hb3'
  have hwk : IntKind.i64.wrap (k : Int) = (k : Int) := IntWalk.i64_in _ (by omega)
  have hI5 : (n : Int) < 32 + (s : Int) + 16 * (m : Int) := by omega
  rw [HV.out]
  clear hE hn HP hc ho4 h1 heq hk' hk hs hle hle0 hwh h5 h3
  go_enter Try.func187, Try.ntmps187
  go_wp2_with (first | (refine wl_storeV rfl 227 _ _ rfl 227 B rfl Z rfl 3 aggSe hZl Z hR6 hZl hZ1 ?_; intro wF hRF hbF hsF) | (refine wl_build0 rfl 227 rfl Z hbu.out ?_) | (refine wl_load rfl 227 _ rfl ⟨w3.heap.size, 0, none⟩ rfl CS (by rw [hCl]; exact aggSe) hT6.at0 ?_) | (go_at_call 188; refine (hma w5).out.mono ?_; rintro e w6 ⟨rfl, hb6⟩; have hR6 := hR5.below hb6 hR5.lt; have hT6 := hT5.below hb6 hT5.lt; have bb6 := bb5.trans (hb6.mono (by omega : B ≤ _))) | (refine wl_load rfl 227 _ rfl ⟨w3.heap.size, 0, none⟩ rfl CS (by rw [hCl]; exact aggSe) hT5.at0 ?_) | (refine wl_storeV rfl 227 _ _ rfl 227 w3.heap.size rfl CS rfl 3 aggSe hCl Z hT4 hZl hC1 ?_; intro w5 hT5 hb5 hs5; have hR5 := hR4.below hb5 (by omega); have bb5 := bb4.trans (hb5.mono (by omega : B ≤ _))) | (refine wl_allocV rfl 227 rfl Z hz.out w3.heap.size rfl ?_; intro w4 hT4 hb4 hs4; have hR4 := hR3.below hb4 hR3.lt; have bb4 := bb3.trans (hb4.mono (by omega : B ≤ _))) | (refine wl_build3 rfl 227 0 1 2 _ _ _ rfl (.slice (some ⟨b, off, none⟩) n bc) (.int .i64 k) (.int .i64 s) rfl rfl rfl CS hb3'.out ?_) | (go_at_call 215; refine (hlo w2 bb2).out.mono ?_; rintro e w3 ⟨rfl, hb3⟩; have hR3 := hR2.below hb3 hR2.lt; have bb3 := bb2.trans (hb3.mono (by omega : B ≤ _)); have hs3 := hb3.size) | (go_at_call 128; refine (hnu w1 hb1).out.mono ?_; rintro e w2 ⟨rfl, hb2⟩; have hR2 := hR1.below hb2 hR1.lt; have bb2 := hb1.trans (hb2.mono (by omega : B ≤ _)); have hs2 := hb2.size) | (refine wl_allocV rfl 227 rfl Z hz.out B hsz ?_; intro w1 hR1 hb1 hs1; have hkS1 := (hkS w1 hb1).out))
  (try simp only [Exit.inBlock, Exit.then]); refine bodyPost_ret (results_cell2 rfl _ _ _ _ rfl Z (by rw [hZl]; exact aggSe) hRF.at0) rfl ?_
  exact ⟨rfl, by first | exact bb6.trans hbF | (rw [hsz]; exact bb6.trans hbF)⟩
set_option maxRecDepth 100000 in
set_option maxHeartbeats 4000000 in
theorem look_more (bo : Option Addr) (bc n : Nat) (l : List Int) (w : World) (hn : n = l.length) (HP : Pt.Ok w ⟨bo, bc, l⟩) (h0 : 32 ≤ n) (h1 : l.take 4 = kwt) (h2 : 16 ≤ blkN l ∧ blkN l ≤ 65536) (h3 : highN l = 0) (h4 : sizN l ≤ 262144) (h5 : wholeN l < l.length) :
    Calls Try.prog 187 #[.slice bo n bc] w fun e w' => e = .returned (lookV bo n bc l) ∧ Below w.heap.size w w' := by
  obtain ⟨B, HB⟩ : ∃ B, Hid (B = w.heap.size) := ⟨_, rfl⟩
  have hsz : w.heap.size = B := HB.out.symm
  obtain ⟨Z, HZ⟩ : ∃ Z, Hid (Z = se0) := ⟨_, rfl⟩
  have hz := hid zeroSe
  have hbu := hid builtSe
  rw [← HZ.out] at hz hbu
  have hZl : Z.length = 3 := by rw [HZ.out]; rfl
  have hZ1 : ∀ u ∈ Z, u.oneCell' = true := by rw [HZ.out]; intro u hu; simp [se0] at hu; rcases hu with rfl | rfl <;> rfl
  have hE : lookE l = 2 := by unfold lookE; rw [if_neg (by omega), if_neg (fun g => g h1), if_neg (by omega), if_neg (by omega), if_neg (by omega), if_pos h5]
  have HV : Hid (lookV bo n bc l = .tuple #[.agg Z.toArray, .int .i64 2]) := hid (by rw [lookE_bad hE (by decide), HZ.out])
  obtain ⟨b, off, rfl, hbw, hc⟩ := HP.row.at (i := 0) (by show 0 < l.length; omega)
  have hI : ¬ (n : Int) < 32 := by omega
  have hcap : n ≤ bc := by rw [hn]; exact HP.len
  have h4I : (4 : Int) ≤ (bc : Int) := by omega
  have hmaxI : bc ≤ maxLen := HP.cap
  unfold maxLen at hmaxI
  have ho4 : Octs (l.take 4) := fun c hc => HP.oct c (List.mem_of_mem_take hc)
  obtain ⟨S, HS⟩ : ∃ S, Hid (S = strOfNums (l.take 4)) := ⟨_, rfl⟩
  have hkS := fun (y : World) (hb : Below B w y) => hid (run_convStr y (some ⟨b, off, none⟩) 4 bc (l.take 4) (by rw [List.length_take]; omega) (RowI.takeS (HP.below (hsz ▸ hb)).row 4))
  simp only [← HS.out] at hkS
  have heq : S.toList = [75, 87, 84, 49] := by rw [HS.out, h1, toList_eq]; rfl
  have heq2 : (S.toList == [75, 87, 84, 49]) = true := by simpa using heq
  have hkb : 0 ≤ numL (seg l 20 4) ∧ numL (seg l 20 4) ≤ 4294967295 := numL4_b HP.oct 20
  obtain ⟨k, hk⟩ : ∃ k : Nat, blkN l = (k : Int) := ⟨(blkN l).toNat, by unfold blkN; omega⟩
  have hk32 : k ≤ 4294967295 := by unfold blkN at hk; omega
  have hnu := fun (y : World) (hb : Below B w y) => hid (Number_ok b off bc n 20 l y hn (HP.below (hsz ▸ hb)) (by omega))
  have hk' : numL (seg l 20 4) = (k : Int) := hk
  simp only [hk'] at hnu
  rw [hk] at h2
  have hkI1 : ¬ (k : Int) < 16 := by omega
  have hkI2 : ¬ (65536 : Int) < (k : Int) := by omega
  have hlo := fun (y : World) (hb : Below B w y) => hid (Long_24 b off bc n l y hn (HP.below (hsz ▸ hb)) h0)
  have hsb : 0 ≤ numL (seg l 28 4) ∧ numL (seg l 28 4) ≤ 4294967295 := numL4_b HP.oct 28
  obtain ⟨s, hs⟩ : ∃ s : Nat, sizN l = (s : Int) := ⟨(sizN l).toNat, by unfold sizN; omega⟩
  have hle : longN l = (s : Int) := by unfold longN; rw [h3, hs]; omega
  have hle0 : longE l = 0 := by unfold longE; rw [if_neg (by omega)]
  rw [hle0, if_pos rfl] at hlo
  simp only [hle] at hlo
  rw [hs] at h4
  have hs1I : ¬ (262144 : Int) < (s : Int) := by omega
  obtain ⟨m, Hm⟩ : ∃ m, Hid (m = manyT s k) := ⟨_, rfl⟩
  have hmb : m ≤ 16385 := by rw [Hm.out]; exact many_le (by omega) (by omega)
  have hwh : wholeN l = 32 + s + 16 * m := by unfold wholeN; rw [hs, hk, Hm.out]; rfl
  rw [hwh, ← hn] at h5
  have hma := fun y => hid (many_any (some ⟨b, off, none⟩) n bc s k y (by omega) (by omega) (by omega))
  simp only [← Hm.out] at hma
  obtain ⟨CS, HCS⟩ : ∃ C : List Value, Hid (C = [.slice (some ⟨b, off, none⟩) n bc, .int .i64 k, .int .i64 s]) := ⟨_, rfl⟩
  have hCl : CS.length = 3 := by rw [HCS.out]; rfl
  have hC1 : ∀ u ∈ CS, u.oneCell' = true := by rw [HCS.out]; intro u hu; simp at hu; rcases hu with rfl | rfl | rfl <;> rfl
  simp only [← HCS.out] at hma
  have hb3' := hid (builtSe3 (some ⟨b, off, none⟩) n bc (k : Int) (s : Int))
  rw [← HCS.out] at hb3'
  have hwk : IntKind.i64.wrap (k : Int) = (k : Int) := IntWalk.i64_in _ (by omega)
  have hI5 : ¬ (n : Int) < 32 + (s : Int) + 16 * (m : Int) := by omega
  have hI6 : 32 + (s : Int) + 16 * (m : Int) < (n : Int) := by omega
  rw [HV.out]
  clear hE hn HP hc ho4 h1 heq hk' hk hs hle hle0 hwh h5 h3
  go_enter Try.func187, Try.ntmps187
  go_wp2_with (first | (refine wl_storeV rfl 227 _ _ rfl 227 B rfl Z rfl 3 aggSe hZl Z hR6 hZl hZ1 ?_; intro wF hRF hbF hsF) | (refine wl_build0 rfl 227 rfl Z hbu.out ?_) | (refine wl_load rfl 227 _ rfl ⟨w3.heap.size, 0, none⟩ rfl CS (by rw [hCl]; exact aggSe) hT6.at0 ?_) | (go_at_call 188; refine (hma w5).out.mono ?_; rintro e w6 ⟨rfl, hb6⟩; have hR6 := hR5.below hb6 hR5.lt; have hT6 := hT5.below hb6 hT5.lt; have bb6 := bb5.trans (hb6.mono (by omega : B ≤ _))) | (refine wl_load rfl 227 _ rfl ⟨w3.heap.size, 0, none⟩ rfl CS (by rw [hCl]; exact aggSe) hT5.at0 ?_) | (refine wl_storeV rfl 227 _ _ rfl 227 w3.heap.size rfl CS rfl 3 aggSe hCl Z hT4 hZl hC1 ?_; intro w5 hT5 hb5 hs5; have hR5 := hR4.below hb5 (by omega); have bb5 := bb4.trans (hb5.mono (by omega : B ≤ _))) | (refine wl_allocV rfl 227 rfl Z hz.out w3.heap.size rfl ?_; intro w4 hT4 hb4 hs4; have hR4 := hR3.below hb4 hR3.lt; have bb4 := bb3.trans (hb4.mono (by omega : B ≤ _))) | (refine wl_build3 rfl 227 0 1 2 _ _ _ rfl (.slice (some ⟨b, off, none⟩) n bc) (.int .i64 k) (.int .i64 s) rfl rfl rfl CS hb3'.out ?_) | (go_at_call 215; refine (hlo w2 bb2).out.mono ?_; rintro e w3 ⟨rfl, hb3⟩; have hR3 := hR2.below hb3 hR2.lt; have bb3 := bb2.trans (hb3.mono (by omega : B ≤ _)); have hs3 := hb3.size) | (go_at_call 128; refine (hnu w1 hb1).out.mono ?_; rintro e w2 ⟨rfl, hb2⟩; have hR2 := hR1.below hb2 hR1.lt; have bb2 := hb1.trans (hb2.mono (by omega : B ≤ _)); have hs2 := hb2.size) | (refine wl_allocV rfl 227 rfl Z hz.out B hsz ?_; intro w1 hR1 hb1 hs1; have hkS1 := (hkS w1 hb1).out))
  (try simp only [Exit.inBlock, Exit.then]); refine bodyPost_ret (results_cell2 rfl _ _ _ _ rfl Z (by rw [hZl]; exact aggSe) hRF.at0) rfl ?_
  exact ⟨rfl, by first | exact bb6.trans hbF | (rw [hsz]; exact bb6.trans hbF)⟩
set_option maxRecDepth 100000 in
set_option maxHeartbeats 4000000 in
theorem look_ok (bo : Option Addr) (bc n : Nat) (l : List Int) (w : World) (hn : n = l.length) (HP : Pt.Ok w ⟨bo, bc, l⟩) (h0 : 32 ≤ n) (h1 : l.take 4 = kwt) (h2 : 16 ≤ blkN l ∧ blkN l ≤ 65536) (h3 : highN l = 0) (h4 : sizN l ≤ 262144) (h5 : l.length = wholeN l) :
    Calls Try.prog 187 #[.slice bo n bc] w fun e w' => e = .returned (lookV bo n bc l) ∧ Below w.heap.size w w' := by
  obtain ⟨B, HB⟩ : ∃ B, Hid (B = w.heap.size) := ⟨_, rfl⟩
  have hsz : w.heap.size = B := HB.out.symm
  obtain ⟨Z, HZ⟩ : ∃ Z, Hid (Z = se0) := ⟨_, rfl⟩
  have hz := hid zeroSe
  have hbu := hid builtSe
  rw [← HZ.out] at hz hbu
  have hZl : Z.length = 3 := by rw [HZ.out]; rfl
  have hZ1 : ∀ u ∈ Z, u.oneCell' = true := by rw [HZ.out]; intro u hu; simp [se0] at hu; rcases hu with rfl | rfl <;> rfl
  have hE : lookE l = 0 := by unfold lookE; rw [if_neg (by omega), if_neg (fun g => g h1), if_neg (by omega), if_neg (by omega), if_neg (by omega), if_neg (by omega)]
  obtain ⟨b, off, rfl, hbw, hc⟩ := HP.row.at (i := 0) (by show 0 < l.length; omega)
  have hI : ¬ (n : Int) < 32 := by omega
  have hcap : n ≤ bc := by rw [hn]; exact HP.len
  have h4I : (4 : Int) ≤ (bc : Int) := by omega
  have hmaxI : bc ≤ maxLen := HP.cap
  unfold maxLen at hmaxI
  have ho4 : Octs (l.take 4) := fun c hc => HP.oct c (List.mem_of_mem_take hc)
  obtain ⟨S, HS⟩ : ∃ S, Hid (S = strOfNums (l.take 4)) := ⟨_, rfl⟩
  have hkS := fun (y : World) (hb : Below B w y) => hid (run_convStr y (some ⟨b, off, none⟩) 4 bc (l.take 4) (by rw [List.length_take]; omega) (RowI.takeS (HP.below (hsz ▸ hb)).row 4))
  simp only [← HS.out] at hkS
  have heq : S.toList = [75, 87, 84, 49] := by rw [HS.out, h1, toList_eq]; rfl
  have heq2 : (S.toList == [75, 87, 84, 49]) = true := by simpa using heq
  have hkb : 0 ≤ numL (seg l 20 4) ∧ numL (seg l 20 4) ≤ 4294967295 := numL4_b HP.oct 20
  obtain ⟨k, hk⟩ : ∃ k : Nat, blkN l = (k : Int) := ⟨(blkN l).toNat, by unfold blkN; omega⟩
  have hk32 : k ≤ 4294967295 := by unfold blkN at hk; omega
  have hnu := fun (y : World) (hb : Below B w y) => hid (Number_ok b off bc n 20 l y hn (HP.below (hsz ▸ hb)) (by omega))
  have hk' : numL (seg l 20 4) = (k : Int) := hk
  simp only [hk'] at hnu
  rw [hk] at h2
  have hkI1 : ¬ (k : Int) < 16 := by omega
  have hkI2 : ¬ (65536 : Int) < (k : Int) := by omega
  have hlo := fun (y : World) (hb : Below B w y) => hid (Long_24 b off bc n l y hn (HP.below (hsz ▸ hb)) h0)
  have hsb : 0 ≤ numL (seg l 28 4) ∧ numL (seg l 28 4) ≤ 4294967295 := numL4_b HP.oct 28
  obtain ⟨s, hs⟩ : ∃ s : Nat, sizN l = (s : Int) := ⟨(sizN l).toNat, by unfold sizN; omega⟩
  have hle : longN l = (s : Int) := by unfold longN; rw [h3, hs]; omega
  have hle0 : longE l = 0 := by unfold longE; rw [if_neg (by omega)]
  rw [hle0, if_pos rfl] at hlo
  simp only [hle] at hlo
  rw [hs] at h4
  have hs1I : ¬ (262144 : Int) < (s : Int) := by omega
  obtain ⟨m, Hm⟩ : ∃ m, Hid (m = manyT s k) := ⟨_, rfl⟩
  have hmb : m ≤ 16385 := by rw [Hm.out]; exact many_le (by omega) (by omega)
  have hwh : wholeN l = 32 + s + 16 * m := by unfold wholeN; rw [hs, hk, Hm.out]; rfl
  rw [hwh, ← hn] at h5
  have hma := fun y => hid (many_any (some ⟨b, off, none⟩) n bc s k y (by omega) (by omega) (by omega))
  simp only [← Hm.out] at hma
  obtain ⟨CS, HCS⟩ : ∃ C : List Value, Hid (C = [.slice (some ⟨b, off, none⟩) n bc, .int .i64 k, .int .i64 s]) := ⟨_, rfl⟩
  have hCl : CS.length = 3 := by rw [HCS.out]; rfl
  have hC1 : ∀ u ∈ CS, u.oneCell' = true := by rw [HCS.out]; intro u hu; simp at hu; rcases hu with rfl | rfl | rfl <;> rfl
  simp only [← HCS.out] at hma
  have hb3' := hid (builtSe3 (some ⟨b, off, none⟩) n bc (k : Int) (s : Int))
  rw [← HCS.out] at hb3'
  have hwk : IntKind.i64.wrap (k : Int) = (k : Int) := IntWalk.i64_in _ (by omega)
  have hI5 : ¬ (n : Int) < 32 + (s : Int) + 16 * (m : Int) := by omega
  have hI6 : ¬ 32 + (s : Int) + 16 * (m : Int) < (n : Int) := by omega
  have HV : Hid (lookV (some ⟨b, off, none⟩) n bc l = .tuple #[.agg CS.toArray, .int .i64 0]) := hid (by unfold lookV seC; rw [hE, if_pos rfl, hk, hs, HCS.out])
  rw [HV.out]
  clear hE hn HP hc ho4 h1 heq hk' hk hs hle hle0 hwh h5 h3
  go_enter Try.func187, Try.ntmps187
  go_wp2_with (first | (refine wl_storeV rfl 227 _ _ rfl 227 B rfl CS rfl 3 aggSe hCl Z hR6 hZl hC1 ?_; intro wF hRF hbF hsF) | (refine wl_load rfl 227 _ rfl ⟨w3.heap.size, 0, none⟩ rfl CS (by rw [hCl]; exact aggSe) hT6.at0 ?_) | (go_at_call 188; refine (hma w5).out.mono ?_; rintro e w6 ⟨rfl, hb6⟩; have hR6 := hR5.below hb6 hR5.lt; have hT6 := hT5.below hb6 hT5.lt; have bb6 := bb5.trans (hb6.mono (by omega : B ≤ _))) | (refine wl_load rfl 227 _ rfl ⟨w3.heap.size, 0, none⟩ rfl CS (by rw [hCl]; exact aggSe) hT5.at0 ?_) | (refine wl_storeV rfl 227 _ _ rfl 227 w3.heap.size rfl CS rfl 3 aggSe hCl Z hT4 hZl hC1 ?_; intro w5 hT5 hb5 hs5; have hR5 := hR4.below hb5 (by omega); have bb5 := bb4.trans (hb5.mono (by omega : B ≤ _))) | (refine wl_allocV rfl 227 rfl Z hz.out w3.heap.size rfl ?_; intro w4 hT4 hb4 hs4; have hR4 := hR3.below hb4 hR3.lt; have bb4 := bb3.trans (hb4.mono (by omega : B ≤ _))) | (refine wl_build3 rfl 227 0 1 2 _ _ _ rfl (.slice (some ⟨b, off, none⟩) n bc) (.int .i64 k) (.int .i64 s) rfl rfl rfl CS hb3'.out ?_) | (go_at_call 215; refine (hlo w2 bb2).out.mono ?_; rintro e w3 ⟨rfl, hb3⟩; have hR3 := hR2.below hb3 hR2.lt; have bb3 := bb2.trans (hb3.mono (by omega : B ≤ _)); have hs3 := hb3.size) | (go_at_call 128; refine (hnu w1 hb1).out.mono ?_; rintro e w2 ⟨rfl, hb2⟩; have hR2 := hR1.below hb2 hR1.lt; have bb2 := hb1.trans (hb2.mono (by omega : B ≤ _)); have hs2 := hb2.size) | (refine wl_allocV rfl 227 rfl Z hz.out B hsz ?_; intro w1 hR1 hb1 hs1; have hkS1 := (hkS w1 hb1).out))
  (try simp only [Exit.inBlock, Exit.then]); refine bodyPost_ret (results_cell2 rfl _ _ _ _ rfl CS (by rw [hCl]; exact aggSe) hRF.at0) rfl ?_
  exact ⟨rfl, by first | exact bb6.trans hbF | (rw [hsz]; exact bb6.trans hbF)⟩
theorem look_any (bo : Option Addr) (bc n : Nat) (l : List Int) (w : World) (hn : n = l.length) (HP : Pt.Ok w ⟨bo, bc, l⟩) :
    Calls Try.prog 187 #[.slice bo n bc] w fun e w' => e = .returned (lookV bo n bc l) ∧ Below w.heap.size w w' := by
  by_cases h0 : n < 32
  · exact look_short bo bc n l w hn HP h0
  by_cases h1n : ¬ l.take 4 = kwt
  · exact look_form bo bc n l w hn HP (by omega) h1n
  have h1 := Decidable.not_not.1 h1n
  by_cases h2 : blkN l < 16
  · exact look_low bo bc n l w hn HP (by omega) h1 h2
  by_cases h3 : 65536 < blkN l
  · exact look_high bo bc n l w hn HP (by omega) h1 h2 h3
  by_cases h4n : ¬ longE l = 0
  · exact look_long bo bc n l w hn HP (by omega) h1 ⟨by omega, by omega⟩ h4n
  have h4 := Decidable.not_not.1 h4n
  by_cases h5 : 262144 < longN l
  · exact look_size bo bc n l w hn HP (by omega) h1 ⟨by omega, by omega⟩ h4 h5
  have h6 : ¬ (highN l ≠ 0 ∨ 262144 < sizN l) := fun h => by
    rcases (longE_eq HP.oct).2 h with h | h
    · exact h h4
    · exact h5 h
  have h7 : highN l = 0 := by
    by_cases h0 : highN l = 0
    · exact h0
    · exact absurd (Or.inl h0) h6
  by_cases h8 : l.length < wholeN l
  · exact look_few bo bc n l w hn HP (by omega) h1 ⟨by omega, by omega⟩ h7 (by omega) h8
  by_cases h9 : wholeN l < l.length
  · exact look_more bo bc n l w hn HP (by omega) h1 ⟨by omega, by omega⟩ h7 (by omega) h9
  · exact look_ok bo bc n l w hn HP (by omega) h1 ⟨by omega, by omega⟩ h7 (by omega) (by omega)
end Go.Proofs.Ytbljihhelladbaa.wr
