/-
  Contract of keyref2.BlocksOf. Conditions: octets that lie in memory.
-/
import Derived.Test.YtbljihhelladbaaTTsG
namespace Go.Proofs.Ytbljihhelladbaa.wr
open Go.RowKit Go.Proofs.Ytbljihhelladbaa.st Go.Proofs.Ytbljihhelladbaa.hs Go.Proofs.Ytbljihhelladbaa.shr Go.Proofs.Ytbljihhelladbaa.sh
set_option linter.unusedSimpArgs false
set_option linter.unusedVariables false
set_option pp.maxSteps 6000
/-- what BlocksOf gives -/
def bkN (b : List Int) : Int := if lookE b = 0 then blkN b else 0
def mnN (b : List Int) : Int := if lookE b = 0 then (manyT (sizN b).toNat (blkN b).toNat : Nat) else 0
def blocksV (b : List Int) : Value := .tuple #[.int .i64 (bkN b), .int .i64 (mnN b), .int .i64 (lookE b)]
theorem blocksV_bad {b : List Int} {e : Int} (h : lookE b = e) (h0 : e ≠ 0) : blocksV b = .tuple #[.int .i64 0, .int .i64 0, .int .i64 e] := by unfold blocksV bkN mnN; rw [h, if_neg h0, if_neg h0]
theorem four_zero {a b c d : Int} (ha : Oct a) (hb : Oct b) (hc : Oct c) (hd : Oct d) : numL [a, b, c, d] = 0 ↔ a = 0 ∧ b = 0 ∧ c = 0 ∧ d = 0 := by
  have e : numL [a, b, c, d] = a * 16777216 + b * 65536 + c * 256 + d := by simp [numL]; omega
  rw [e]
  unfold Oct at ha hb hc hd
  omega
theorem high_zero {l : List Int} (ho : Octs l) (h : 32 ≤ l.length) : highN l = 0 ↔ ∀ i, i < 4 → l.getD (24 + i) 0 = 0 := by
  unfold highN
  rw [seg_four (by omega), four_zero (ho.getD _) (ho.getD _) (ho.getD _) (ho.getD _)]
  constructor
  · rintro ⟨h0, h1, h2, h3⟩ i hi
    match i, hi with
    | 0, _ => exact h0
    | 1, _ => exact h1
    | 2, _ => exact h2
    | 3, _ => exact h3
    | i + 4, hi => exact absurd hi (by omega)
  · intro h
    exact ⟨h 0 (by decide), h 1 (by decide), h 2 (by decide), h 3 (by decide)⟩
theorem results_tmp3 {fn : Func} {a b c : Tmp} (h : fn.results = #[.tmp a, .tmp b, .tmp c]) (tmps : Array Value) (P : Program) (w : World) :
    (results fn tmps).run P w = .ok (.tuple #[tmps.getD a undef, tmps.getD b undef, tmps.getD c undef]) w := by
  simp [results, h]
set_option maxRecDepth 100000 in
set_option maxHeartbeats 4000000 in
theorem BlocksOf_short (bo : Option Addr) (bc n : Nat) (l : List Int) (w : World) (hn : n = l.length) (HP : Pt.Ok w ⟨bo, bc, l⟩) (h0 : n < 32) :
    Calls Try.prog 142 #[.slice bo n bc] w fun e w' => e = .returned (blocksV l) ∧ w' = w := by
  have hE : lookE l = 1 := by unfold lookE; rw [if_pos (by omega)]
  rw [blocksV_bad hE (by decide)]
  have hI : (n : Int) < 32 := by omega
  clear hE hn HP
  go_enter Try.func142, Try.ntmps142
  go_wp2_with fail
  (try simp only [Exit.inBlock, Exit.then]); refine bodyPost_ret (results_tmp3 rfl _ _ _) rfl ?_
  exact ⟨rfl, rfl⟩
set_option maxRecDepth 100000 in
set_option maxHeartbeats 4000000 in
theorem BlocksOf_form (bo : Option Addr) (bc n : Nat) (l : List Int) (w : World) (hn : n = l.length) (HP : Pt.Ok w ⟨bo, bc, l⟩) (h0 : 32 ≤ n) (h1 : ¬ l.take 4 = kwt) :
    Calls Try.prog 142 #[.slice bo n bc] w fun e w' => e = .returned (blocksV l) ∧ w' = w := by
  have hE : lookE l = 2 := by unfold lookE; rw [if_neg (by omega), if_pos h1]
  rw [blocksV_bad hE (by decide)]
  obtain ⟨b, off, rfl, hbw, hc⟩ := HP.row.at (i := 0) (by show 0 < l.length; omega)
  have hI : ¬ (n : Int) < 32 := by omega
  have hcap : n ≤ bc := by rw [hn]; exact HP.len
  have hmaxI : bc ≤ maxLen := HP.cap
  unfold maxLen at hmaxI
  have ho4 : Octs (l.take 4) := fun c hc => HP.oct c (List.mem_of_mem_take hc)
  obtain ⟨S, HS⟩ : ∃ S, Hid (S = strOfNums (l.take 4)) := ⟨_, rfl⟩
  have hkS := run_convStr w (some ⟨b, off, none⟩) 4 bc (l.take 4) (by rw [List.length_take]; omega) (RowI.takeS HP.row 4)
  rw [← HS.out] at hkS
  have h4I : (4 : Int) ≤ (bc : Int) := by omega
  have hne : ¬ S = strOfNums kwt := fun e => h1 (str_inj ho4 kwt_octs (by rw [← HS.out]; exact e))
  have hne' : ¬ S.toList = [75, 87, 84, 49] := by
    intro e
    have h1 := str_ne hne
    rw [beq_eq_false_iff_ne] at h1
    exact h1 (e.trans (by rw [toList_eq]; rfl))
  have hne2 : (S.toList == [75, 87, 84, 49]) = false := by simpa using hne'
  clear hE hn HP hc ho4 h1 hne hne'
  go_enter Try.func142, Try.ntmps142
  go_wp2_with fail
  (try simp only [Exit.inBlock, Exit.then]); refine bodyPost_ret (results_tmp3 rfl _ _ _) rfl ?_
  exact ⟨rfl, rfl⟩
set_option maxRecDepth 100000 in
set_option maxHeartbeats 4000000 in
theorem BlocksOf_range (bo : Option Addr) (bc n : Nat) (l : List Int) (w : World) (hn : n = l.length) (HP : Pt.Ok w ⟨bo, bc, l⟩) (h0 : 32 ≤ n) (h1 : l.take 4 = kwt) (h2 : blkN l < 16 ∨ 65536 < blkN l) :
    Calls Try.prog 142 #[.slice bo n bc] w fun e w' => e = .returned (blocksV l) ∧ w' = w := by
  have hE : lookE l = 4 := by unfold lookE; rw [if_neg (by omega), if_neg (fun g => g h1), if_pos h2]
  rw [blocksV_bad hE (by decide)]
  obtain ⟨b, off, rfl, hbw, hc⟩ := HP.row.at (i := 0) (by show 0 < l.length; omega)
  have hI : ¬ (n : Int) < 32 := by omega
  have hcap : n ≤ bc := by rw [hn]; exact HP.len
  have hmaxI : bc ≤ maxLen := HP.cap
  unfold maxLen at hmaxI
  have ho4 : Octs (l.take 4) := fun c hc => HP.oct c (List.mem_of_mem_take hc)
  obtain ⟨S, HS⟩ : ∃ S, Hid (S = strOfNums (l.take 4)) := ⟨_, rfl⟩
  have hkS := run_convStr w (some ⟨b, off, none⟩) 4 bc (l.take 4) (by rw [List.length_take]; omega) (RowI.takeS HP.row 4)
  rw [← HS.out] at hkS
  have h4I : (4 : Int) ≤ (bc : Int) := by omega
  have heq : S.toList = [75, 87, 84, 49] := by rw [HS.out, h1, toList_eq]; rfl
  have heq2 : (S.toList == [75, 87, 84, 49]) = true := by simpa using heq
  have hkb : 0 ≤ numL (seg l 20 4) ∧ numL (seg l 20 4) ≤ 4294967295 := numL4_b HP.oct 20
  obtain ⟨k, hk⟩ : ∃ k : Nat, blkN l = (k : Int) := ⟨(blkN l).toNat, by unfold blkN; omega⟩
  have hk32 : k ≤ 4294967295 := by unfold blkN at hk; omega
  have hk' : numL (seg l 20 4) = (k : Int) := hk
  have hcn20 : ¬ bc = 20 := by omega
  have hcn24 : ¬ bc = 24 := by omega
  have hcn28 : ¬ bc = 28 := by omega
  have hc24 : (24 : Int) ≤ (bc : Int) := by omega
  have hc28 : (28 : Int) ≤ (bc : Int) := by omega
  have hc32 : (32 : Int) ≤ (bc : Int) := by omega
  have hat20 := seg_at (l := l) hc (k := 20) (n := 4) (by omega)
  have hat28 := seg_at (l := l) hc (k := 28) (n := 4) (by omega)
  have hn20 := hid (NumberOf_any (some ⟨b, off + 20, none⟩) (bc - 20) 4 (seg l 20 4) w (seg_length (by omega)).symm (at_rowI hbw hat20) (seg_octs HP.oct _ _) (by decide))
  have hn28 := hid (NumberOf_any (some ⟨b, off + 28, none⟩) (bc - 28) 4 (seg l 28 4) w (seg_length (by omega)).symm (at_rowI hbw hat28) (seg_octs HP.oct _ _) (by decide))
  rw [hk'] at hn20
  have hin := hid (In_b (k : Int) 16 65536 w)
  have hib : inB (k : Int) 16 65536 = false := by unfold inB; rw [hk] at h2; simp; omega
  rw [hib] at hin
  clear hE hn HP hc ho4 h1 heq hk hk' hib h2
  go_enter Try.func142, Try.ntmps142
  go_wp2_with (first | (go_at_call 16; refine hin.out.mono ?_; rintro e w2 ⟨rfl, hw2⟩; subst hw2) | (go_at_call 90; refine hn20.out.mono ?_; rintro e w1 ⟨rfl, hw1⟩; subst hw1))
  (try simp only [Exit.inBlock, Exit.then]); refine bodyPost_ret (results_tmp3 rfl _ _ _) rfl ?_
  exact ⟨rfl, rfl⟩
set_option maxRecDepth 100000 in
set_option maxHeartbeats 4000000 in
theorem BlocksOf_main (bo : Option Addr) (bc n : Nat) (l : List Int) (w : World) (hn : n = l.length) (HP : Pt.Ok w ⟨bo, bc, l⟩) (h0 : 32 ≤ n) (h1 : l.take 4 = kwt) (h2 : 16 ≤ blkN l ∧ blkN l ≤ 65536) :
    Calls Try.prog 142 #[.slice bo n bc] w fun e w' => e = .returned (blocksV l) ∧ w' = w := by
  obtain ⟨b, off, rfl, hbw, hc⟩ := HP.row.at (i := 0) (by show 0 < l.length; omega)
  have hI : ¬ (n : Int) < 32 := by omega
  have hcap : n ≤ bc := by rw [hn]; exact HP.len
  have hmaxI : bc ≤ maxLen := HP.cap
  unfold maxLen at hmaxI
  have ho4 : Octs (l.take 4) := fun c hc => HP.oct c (List.mem_of_mem_take hc)
  obtain ⟨S, HS⟩ : ∃ S, Hid (S = strOfNums (l.take 4)) := ⟨_, rfl⟩
  have hkS := run_convStr w (some ⟨b, off, none⟩) 4 bc (l.take 4) (by rw [List.length_take]; omega) (RowI.takeS HP.row 4)
  rw [← HS.out] at hkS
  have h4I : (4 : Int) ≤ (bc : Int) := by omega
  have heq : S.toList = [75, 87, 84, 49] := by rw [HS.out, h1, toList_eq]; rfl
  have heq2 : (S.toList == [75, 87, 84, 49]) = true := by simpa using heq
  have hkb : 0 ≤ numL (seg l 20 4) ∧ numL (seg l 20 4) ≤ 4294967295 := numL4_b HP.oct 20
  obtain ⟨k, hk⟩ : ∃ k : Nat, blkN l = (k : Int) := ⟨(blkN l).toNat, by unfold blkN; omega⟩
  have hk32 : k ≤ 4294967295 := by unfold blkN at hk; omega
  have hk' : numL (seg l 20 4) = (k : Int) := hk
  have hcn20 : ¬ bc = 20 := by omega
  have hcn24 : ¬ bc = 24 := by omega
  have hcn28 : ¬ bc = 28 := by omega
  have hc24 : (24 : Int) ≤ (bc : Int) := by omega
  have hc28 : (28 : Int) ≤ (bc : Int) := by omega
  have hc32 : (32 : Int) ≤ (bc : Int) := by omega
  have hat20 := seg_at (l := l) hc (k := 20) (n := 4) (by omega)
  have hat28 := seg_at (l := l) hc (k := 28) (n := 4) (by omega)
  have hn20 := hid (NumberOf_any (some ⟨b, off + 20, none⟩) (bc - 20) 4 (seg l 20 4) w (seg_length (by omega)).symm (at_rowI hbw hat20) (seg_octs HP.oct _ _) (by decide))
  have hn28 := hid (NumberOf_any (some ⟨b, off + 28, none⟩) (bc - 28) 4 (seg l 28 4) w (seg_length (by omega)).symm (at_rowI hbw hat28) (seg_octs HP.oct _ _) (by decide))
  rw [hk'] at hn20
  have hin := hid (In_b (k : Int) 16 65536 w)
  rw [hk] at h2
  have hib : inB (k : Int) 16 65536 = true := by unfold inB; simp; omega
  rw [hib] at hin
  have hsb : 0 ≤ numL (seg l 28 4) ∧ numL (seg l 28 4) ≤ 4294967295 := numL4_b HP.oct 28
  obtain ⟨s, hs⟩ : ∃ s : Nat, sizN l = (s : Int) := ⟨(sizN l).toNat, by unfold sizN; omega⟩
  have hs32 : s ≤ 4294967295 := by unfold sizN at hs; omega
  have hs' : numL (seg l 28 4) = (s : Int) := hs
  rw [hs'] at hn28
  have HZ := hid (high_zero HP.oct (l := l) (by omega))
  have hoc := HP.oct
  have HE1 := hid (fun (h : highN l ≠ 0 ∨ 262144 < sizN l) => (by unfold lookE; rw [if_neg (by omega), if_neg (fun g => g h1), if_neg (by rw [hk]; omega), if_pos h] : lookE l = 5))
  have HE2 := hid (fun (h : ¬ (highN l ≠ 0 ∨ 262144 < sizN l)) => (by unfold lookE; rw [if_neg (by omega), if_neg (fun g => g h1), if_neg (by rw [hk]; omega), if_neg h] : lookE l = if l.length < wholeN l then 1 else if wholeN l < l.length then 2 else 0))
  obtain ⟨V, HV⟩ : ∃ V, Hid (V = blocksV l) := ⟨_, rfl⟩
  have HWH : Hid (wholeN l = 32 + s + 16 * manyT s k) := hid (by unfold wholeN; rw [hs, hk]; rfl)
  have HSK := hid (And.intro hs hk)
  have HNL := hid hn
  rw [← HV.out]
  clear hib heq ho4 hk' hs' hn HP h1 hs hk
  have HCC := hid hc
  clear hc
  go_enter Try.func142, Try.ntmps142
  go_wp2_with (first | (go_at_call 16; refine hin.out.mono ?_; rintro e w2 ⟨rfl, hw2⟩; subst hw2) | (go_at_call 90; refine hn20.out.mono ?_; rintro e w1 ⟨rfl, hw1⟩; subst hw1))
  go_loopw [27] (fun i wr => ∃ j : Nat, j ≤ 4 ∧ i = .int .i64 j ∧ Hid (∀ i, i < j → l.getD (24 + i) 0 = 0) ∧ wr = w) (fun i _ => 5 - (intOf i).toNat)
  case atStart => exact ⟨0, by omega, rfl, (fun i hi => by omega), rfl⟩
  case round =>
    obtain ⟨j, hj, rfl, HA, rfl⟩ := hrel
    by_cases hj4 : j < 4
    · have hjI : (j : Int) < 4 := by omega
      have hjI0 : (0 : Int) ≤ (j : Int) := by omega
      have hcj := HCC.out (24 + j) (by show 24 + j < l.length; have := HNL.out; omega)
      (try dsimp only at hcj)
      rw [← Nat.add_assoc] at hcj
      obtain ⟨x, Hx⟩ : ∃ x, Hid (x = l.getD (24 + j) 0) := ⟨_, rfl⟩
      rw [← Hx.out] at hcj
      by_cases hx : x = 0
      · subst hx
        have hjn := hid (fun i (hi : i < j + 1) => (by
          by_cases e : i = j
          · rw [e]; exact Hx.out.symm
          · exact HA.out i (by omega) : l.getD (24 + i) 0 = 0))
        go_wp2
        go_roundw
        case rel => exact ⟨j + 1, by omega, by go_num, hjn.out, by first | rfl | trivial⟩
        case measure => simp [intOf] <;> omega
      · have hh : highN l ≠ 0 := fun h => hx (by rw [Hx.out]; exact HZ.out.1 h j hj4)
        have hVe : V = .tuple #[.int .i64 0, .int .i64 0, .int .i64 5] := by rw [HV.out]; exact blocksV_bad (HE1.out (Or.inl hh)) (by decide)
        replace hVe := hid hVe
        clear hh 
        go_wp2
        (try simp only [Exit.inBlock, Exit.then]); refine bodyPost_ret (results_tmp3 rfl _ _ _) rfl ?_
        exact ⟨by rw [hVe.out]; rfl, by first | rfl | trivial⟩
    · obtain rfl : j = 4 := by omega
      have hh : highN l = 0 := HZ.out.2 HA.out
      have HH := hid hh
      clear hh HA
      by_cases hs1 : 262144 < s
      · have hsI : (262144 : Int) < (s : Int) := by omega
        have hVe : V = .tuple #[.int .i64 0, .int .i64 0, .int .i64 5] := by rw [HV.out]; exact blocksV_bad (HE1.out (Or.inr (by rw [HSK.out.1]; exact hsI))) (by decide)
        replace hVe := hid hVe
        go_wp2_with (go_at_call 90; refine hn28.out.mono ?_; rintro e w1 ⟨rfl, hw1⟩; subst hw1)
        (try simp only [Exit.inBlock, Exit.then]); refine bodyPost_ret (results_tmp3 rfl _ _ _) rfl ?_
        exact ⟨by rw [hVe.out]; rfl, by first | rfl | trivial⟩
      · have hsI : ¬ (262144 : Int) < (s : Int) := by omega
        have hEE := HE2.out (fun h => by
          rcases h with h | h
          · exact h HH.out
          · rw [HSK.out.1] at h; exact hsI h)
        obtain ⟨d, Hd⟩ : ∃ d : Nat, Hid (d = s + k - 1) := ⟨_, rfl⟩
        have hd : (s : Int) + (k : Int) - 1 = (d : Int) := by rw [Hd.out]; omega
        have hk0 : ¬ (k : Int) = 0 := by omega
        have hdb : d ≤ 2000000 := by rw [Hd.out]; omega
        obtain ⟨m, Hm⟩ : ∃ m, Hid (m = manyT s k) := ⟨_, rfl⟩
        have hmb : m ≤ 16385 := by rw [Hm.out]; exact many_le (by omega) (by omega)
        have hwh : wholeN l = 32 + s + 16 * m := by rw [HWH.out, Hm.out]
        rw [hwh, ← HNL.out] at hEE
        have hq2 : (d : Int) / (k : Int) = (m : Int) := by rw [Hm.out]; unfold manyT; rw [← Hd.out, Int.natCast_ediv]
        have hq : (d : Int).tdiv (k : Int) = (m : Int) := by rw [Int.tdiv_eq_ediv_of_nonneg (by omega)]; exact hq2
        clear hwh
        by_cases h5 : n < 32 + s + 16 * m
        · have hI5 : (n : Int) < 32 + (s : Int) + 16 * (m : Int) := by omega
          have hVe : V = .tuple #[.int .i64 0, .int .i64 0, .int .i64 1] := by rw [HV.out]; exact blocksV_bad (by rw [hEE, if_pos h5]) (by decide)
          replace hVe := hid hVe
          clear hEE
          go_wp2_with (go_at_call 90; refine hn28.out.mono ?_; rintro e w1 ⟨rfl, hw1⟩; subst hw1)
          (try simp only [Exit.inBlock, Exit.then]); refine bodyPost_ret (results_tmp3 rfl _ _ _) rfl ?_
          exact ⟨by rw [hVe.out]; rfl, by first | rfl | trivial⟩
        · have hI5 : ¬ (n : Int) < 32 + (s : Int) + 16 * (m : Int) := by omega
          by_cases h6 : 32 + s + 16 * m < n
          · have hI6 : 32 + (s : Int) + 16 * (m : Int) < (n : Int) := by omega
            have hVe : V = .tuple #[.int .i64 0, .int .i64 0, .int .i64 2] := by rw [HV.out]; exact blocksV_bad (by rw [hEE, if_neg h5, if_pos h6]) (by decide)
            replace hVe := hid hVe
            clear hEE
            go_wp2_with (go_at_call 90; refine hn28.out.mono ?_; rintro e w1 ⟨rfl, hw1⟩; subst hw1)
            (try simp only [Exit.inBlock, Exit.then]); refine bodyPost_ret (results_tmp3 rfl _ _ _) rfl ?_
            exact ⟨by rw [hVe.out]; rfl, by first | rfl | trivial⟩
          · have hI6 : ¬ 32 + (s : Int) + 16 * (m : Int) < (n : Int) := by omega
            have hVe : V = .tuple #[.int .i64 k, .int .i64 m, .int .i64 0] := by
              have e0 : lookE l = 0 := by rw [hEE, if_neg h5, if_neg h6]
              rw [HV.out]; unfold blocksV bkN mnN; rw [e0, if_pos rfl, if_pos rfl, HSK.out.1, HSK.out.2, Hm.out]; rfl
            replace hVe := hid hVe
            clear hEE
            go_wp2_with (go_at_call 90; refine hn28.out.mono ?_; rintro e w1 ⟨rfl, hw1⟩; subst hw1)
            (try simp only [Exit.inBlock, Exit.then]); refine bodyPost_ret (results_tmp3 rfl _ _ _) rfl ?_
            exact ⟨by rw [hVe.out]; rfl, by first | rfl | trivial⟩
theorem BlocksOf_any (bo : Option Addr) (bc n : Nat) (l : List Int) (w : World) (hn : n = l.length) (HP : Pt.Ok w ⟨bo, bc, l⟩) :
    Calls Try.prog 142 #[.slice bo n bc] w fun e w' => e = .returned (blocksV l) ∧ w' = w := by
  by_cases h0 : n < 32
  · exact BlocksOf_short bo bc n l w hn HP h0
  by_cases h1n : ¬ l.take 4 = kwt
  · exact BlocksOf_form bo bc n l w hn HP (by omega) h1n
  have h1 := Decidable.not_not.1 h1n
  by_cases h2 : blkN l < 16 ∨ 65536 < blkN l
  · exact BlocksOf_range bo bc n l w hn HP (by omega) h1 h2
  · exact BlocksOf_main bo bc n l w hn HP (by omega) h1 ⟨by omega, by omega⟩
end Go.Proofs.Ytbljihhelladbaa.wr
