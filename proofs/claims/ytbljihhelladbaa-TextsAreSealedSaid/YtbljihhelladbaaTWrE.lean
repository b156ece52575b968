/-
  Contract of mix.Stream from 0 on. Conditions: a key and a nonce of octets, at most 2^20 octets. Envelopes: the form, its cells, its octets; laws of the walk for arrays held against each other. Conditions: as each theorem says. Contracts of package slices at []byte. Conditions: the bounds that append asks.
-/
import Derived.Test.YtbljihhelladbaaTWrD
import Derived.Test.YtbljihhelladbaaTMem
import Derived.Lib.SliceRun
import Derived.Lib.AppendZeros
namespace Go.Proofs.Ytbljihhelladbaa.wr
open Go.RowKit Go.Proofs.Ytbljihhelladbaa.st Go.Proofs.Ytbljihhelladbaa.hs Go.Proofs.Ytbljihhelladbaa.shr
set_option linter.unusedSimpArgs false
set_option linter.unusedVariables false
set_option pp.maxSteps 6000
/-- the first q blocks of a stream; its first m octets -/
def blks (k n : List Int) : Nat → List Int
  | 0 => []
  | q + 1 => blks k n q ++ blk k n q
theorem blks_length (k n : List Int) : ∀ q, (blks k n q).length = 64 * q
  | 0 => rfl
  | q + 1 => by show (blks k n q ++ blk k n q).length = _; rw [List.length_append, blks_length, blk_length]; omega
def strmL (k n : List Int) (m : Nat) : List Int := (blks k n (m / 64 + 1)).take m
theorem strmL_length (k n : List Int) (m : Nat) : (strmL k n m).length = m := by unfold strmL; rw [List.length_take, blks_length]; omega
theorem strmL_part (k n : List Int) (m q d : Nat) (h : 64 * q + d = m) (hd : d ≤ 64) : strmL k n m = blks k n q ++ (blk k n q).take d := by
  unfold strmL
  have key : ∀ j, q + 1 ≤ j → (blks k n j).take m = blks k n q ++ (blk k n q).take d := by
    intro j hj
    induction j with
    | zero => omega
    | succ j ih =>
      by_cases e : q = j
      · subst e
        show (blks k n q ++ blk k n q).take m = _
        rw [List.take_append, blks_length, List.take_of_length_le (by rw [blks_length]; omega), show m - 64 * q = d by omega]
      · show (blks k n j ++ blk k n j).take m = _
        rw [List.take_append_of_le_length (by rw [blks_length]; omega), ih (by omega)]
  by_cases e : d = 64
  · subst e
    have h1 : m / 64 = q + 1 := by omega
    rw [h1]
    exact key _ (by omega)
  · have h1 : m / 64 = q := by omega
    rw [h1]
    exact key _ (by omega)
theorem strmL_whole (k n : List Int) (m q : Nat) (h : 64 * q = m) : strmL k n m = blks k n q := by
  have := strmL_part k n m q 0 (by omega) (by omega)
  rw [this]; simp
theorem blk_octs (k n : List Int) (q : Nat) : Octs (blk k n q) := stirL_octs' _
theorem blks_octs (k n : List Int) : ∀ q, Octs (blks k n q)
  | 0 => fun c h => by cases h
  | q + 1 => fun c h => by
    rcases List.mem_append.1 h with h | h
    · exact blks_octs k n q c h
    · exact blk_octs k n q c h
theorem strmL_octs (k n : List Int) (m : Nat) : Octs (strmL k n m) := fun c h => blks_octs k n _ c (List.mem_of_mem_take h)
theorem rowTake {t : TypeId} {w : World} {g : Nat} {cs : List Value} (h : BlkV t w g cs) (d : Nat) : RowV w (some ⟨g, 0, none⟩) (cs.take d) :=
  Or.inr ⟨g, 0, rfl, h.lt, fun j u hu => by
    rw [Nat.zero_add, h.cell]
    rw [List.getElem?_take] at hu
    split at hu
    · exact hu
    · cases hu⟩
set_option maxRecDepth 100000 in
set_option maxHeartbeats 2000000 in
theorem Stream_any (k n : List Int) (m : Nat) (w : World) (hk : k.length = 32) (hn : n.length = 16) (ok : Octs k) (on : Octs n) (hm : m ≤ 1048576) :
    Calls Try.prog 150 #[.agg (k.map (Value.int .u8)).toArray, .agg (n.map (Value.int .u8)).toArray, .int .i64 0, .int .i64 m] w fun e w' => ∃ ao cap, e = .returned (.tuple #[.slice ao m cap, .int .i64 0]) ∧ Mine w' w.heap.size 5 1 (.slice ao m cap) m ((strmL k n m).map (Value.int .u8)) ∧ Below w.heap.size w w' := by
  obtain ⟨B, HB⟩ : ∃ B, Hid (B = w.heap.size) := ⟨_, rfl⟩
  have hsz : w.heap.size = B := HB.out.symm
  obtain ⟨K, HK⟩ : ∃ K, Hid (K = k.map (Value.int .u8)) := ⟨_, rfl⟩
  obtain ⟨N, HN⟩ : ∃ N, Hid (N = n.map (Value.int .u8)) := ⟨_, rfl⟩
  have hKl : K.length = 32 := by rw [HK.out, List.length_map, hk]
  have hNl : N.length = 16 := by rw [HN.out, List.length_map, hn]
  have hsb := fun (q : Nat) (hq : q ≤ 20000) w => hid (streamBlock k n q w hk hn ok on (by omega))
  rw [← HK.out, ← HN.out] at hsb ⊢
  obtain ⟨Z, HZ⟩ : ∃ Z, Hid (Z = (List.replicate 64 (0 : Int)).map (Value.int .u8)) := ⟨_, rfl⟩
  have hz64 := hid zeroA64
  rw [← HZ.out] at hz64
  have hZl : Z.length = 64 := by rw [HZ.out]; simp
  have hal : Try.prog.arrayLen 152 = 64 := by kernel_rfl
  obtain ⟨i8, hi8, hz8, hs8, hy8⟩ := (info8 : Info Try.prog 5 (.int .u8 0) 1 1).parts
  have HI8 := hid hi8
  have HZ8 := hid hz8
  have HS8 := hid hs8
  have HY8 := hid hy8
  have hd0 : (0 : Int).tdiv 64 = 0 := rfl
  have hm0 : (0 : Int).tmod 64 = 0 := rfl
  clear hi8 hz8 hs8 hy8 hk hn
  rw [← HB.out]
  go_enter Try.func150, Try.ntmps150
  go_wp2_with (first | (refine wl_boxV rfl 23 _ rfl K rfl B hsz ?_; intro w0 hB0 hb0 hs0) | (refine wl_boxV rfl 25 _ rfl N rfl (B + 1) hs0 ?_; intro w1 hN1 hb1 hs1; have hB1 := hB0.below hb1 (by omega); have bb1 := hb0.trans (hb1.mono (by omega : B ≤ _)); clear hB0 hb0 hb1) | (refine wpList_make_own _ rfl _ _ 69 rfl (B + 2) 5 i8 (.int .u8 0) 1 Try.underlying69 HI8.out HZ8.out HS8.out .i64 .i64 m m rfl rfl rfl (by rw [HY8.out]; omega) (by unfold maxLen; omega) (by omega) ?_; intro w2 hM hg2))
  have hB2 := hB1.grown hg2 (by simp)
  have hN2 := hN1.grown hg2 (by simp)
  have bb2 : Below B w w2 := bb1.grown hg2 (by omega) (by simp)
  have hs2 : B + 2 ≤ w2.heap.size := by have := hg2.size; omega
  have hst : hs1 = hs1 := rfl
  clear hst hB1 hN1 bb1 hg2
  have e1 : w1.heap.size = B + 1 + 1 := hs1
  try rw [e1] at hM
  go_loopw [10, 11] (fun o i wr => ∃ (q len : Nat) (ao : Option Addr) (c : Nat) (xs : List Int), o = .slice ao len c ∧ wr.ownsRow (B + 2) 5 1 o len (xs.map (Value.int .u8)) ∧ BlkV 23 wr B K ∧ BlkV 25 wr (B + 1) N ∧ Below B w wr ∧ B + 2 ≤ wr.heap.size ∧ ((64 * q = len ∧ len ≤ m ∧ i = .int .i64 q ∧ xs = blks k n q) ∨ (len = m ∧ xs = strmL k n m))) (fun o _ _ => m - slLen o)
  case atStart => exact ⟨0, 0, _, m, [], rfl, hM, hB2, hN2, bb2, hs2, Or.inl ⟨rfl, Nat.zero_le _, rfl, rfl⟩⟩
  case round =>
    clear hM hB2 hN2 bb2
    obtain ⟨q, len, ao, c, xs, rfl, hM, hB, hN, hb, hsr, hcase⟩ := hrel
    by_cases h0 : len < m
    · obtain ⟨hq, _, rfl, rfl⟩ := hcase.resolve_right (by intro h; omega)
      have hlI : (len : Int) < (m : Int) := by omega
      have hl2 : ¬ (m : Int) ≤ (len : Int) := by omega
      have hqb : q ≤ 20000 := by omega
      have hqI : (0 : Int) ≤ (q : Int) := by omega
      obtain ⟨BB, HBB⟩ : ∃ BB, Hid (BB = (blk k n q).map (Value.int .u8)) := ⟨_, rfl⟩
      have hBBl : BB.length = 64 := by rw [HBB.out, List.length_map, blk_length]
      have hBB1 : ∀ u ∈ BB, u.oneCell' = true := by rw [HBB.out]; exact ints_one _ _
      have hsbq : ∀ w, Hid (Calls Try.prog 195 #[.agg K.toArray, .agg N.toArray, .int .u64 (q : Int)] w fun e w' => e = .returned (.agg BB.toArray) ∧ Below w.heap.size w w') := by
        intro w
        rw [HBB.out]
        exact hsb q hqb w
      have HLQ := hid hq
      clear hq hcase
      obtain ⟨D, HD⟩ : ∃ D : Nat, Hid (D = m - len) := ⟨_, rfl⟩
      have hDI : (m : Int) - (len : Int) = (D : Int) := by rw [HD.out]; omega
      have hDw : IntKind.i64.wrap (D : Int) = (D : Int) := IntWalk.i64_in _ (by have := HD.out; omega)
      by_cases hq0 : (q : Int) = 0
      · by_cases hD : (D : Int) < 64
        · try simp only [hq0] at hsbq
          go_wp2_with (first | (refine wl_load rfl 23 _ rfl ⟨B, 0, none⟩ rfl K (by rw [hKl]; exact aggKey) hB.at0 ?_) | (refine wl_load rfl 25 _ rfl ⟨B + 1, 0, none⟩ rfl N (by rw [hNl]; exact aggNo) hN.at0 ?_) | (go_at_call 195; refine (hsbq wr).out.mono ?_; rintro e w3 ⟨rfl, hb3⟩; have hB3 := hB.below hb3 (by omega); have hN3 := hN.below hb3 (by omega); have hM3 := owns_up hM hb3; have bb3 := hb.trans (hb3.mono (by omega : B ≤ _)); have hs3 := hb3.size; clear hB hN hM hb hb3) | (refine wl_allocV rfl 152 rfl Z hz64.out w3.heap.size rfl ?_; intro w4 hE4 hb4 hs4) | (refine wl_storeV rfl 152 _ _ rfl 152 w3.heap.size rfl BB rfl 64 agg64' hBBl Z hE4 hZl hBB1 ?_; intro w5 hE5 hb5 hs5; have hb35 := hb4.trans hb5; have hB5 := hB3.below hb35 (by omega); have hN5 := hN3.below hb35 (by omega); have hM5 := owns_up hM3 hb35; have bb5 := bb3.trans (hb35.mono (by omega : B ≤ _)); clear hB3 hN3 hM3 bb3 hb4 hb5 hb35 hE4) | (at_builtin; refine wl_appendS rfl _ _ 69 rfl 5 (.int .u8 0) 1 1 Try.underlying69 info8 rfl (by decide) (B + 2) _ len _ rfl (Or.inl hM5) (some ⟨w3.heap.size, 0, none⟩) D 64 rfl (fun h => by cases h) (BB.take D) (by rw [List.length_take, hBBl]; have := HD.out; omega) (rowTake hE5 _) (fun u hu => hBB1 u (List.mem_of_mem_take hu)) (by unfold maxLen; have := HD.out; omega) (by have := HD.out; omega) (by omega) m (by have := HD.out; omega) ?_; intro ao6 c6 w6 row6 hc6 hM6 hv6 hg6 hrow6; have hlt := hM6; have hB6 := blk_grown hB5 hg6 (fun k hk => (hrow6 k hk).1) (by omega); have hN6 := blk_grown hN5 hg6 (fun k hk => (hrow6 k hk).1) (by omega); have bb6 := bb5.grown hg6 (by omega) (fun k hk => by have := (hrow6 k hk).1; omega); have hs6 : B + 2 ≤ w6.heap.size := (by have := hg6.size; omega); clear hB5 hN5 bb5 hM5 hE5))
          go_roundw
          case measure => simp only [slLen]; have := HD.out; omega
          refine ⟨q, m, ao6, c6, strmL k n m, rfl, mine_own ?_ (by omega), hB6, hN6, bb6, hs6, Or.inr ⟨rfl, rfl⟩⟩
          rw [strmL_part k n m q D (by have := HLQ.out; omega) (by omega), List.map_append, List.map_take, ← HBB.out]
          exact hM6
        · try simp only [hq0] at hsbq
          go_wp2_with (first | (refine wl_load rfl 23 _ rfl ⟨B, 0, none⟩ rfl K (by rw [hKl]; exact aggKey) hB.at0 ?_) | (refine wl_load rfl 25 _ rfl ⟨B + 1, 0, none⟩ rfl N (by rw [hNl]; exact aggNo) hN.at0 ?_) | (go_at_call 195; refine (hsbq wr).out.mono ?_; rintro e w3 ⟨rfl, hb3⟩; have hB3 := hB.below hb3 (by omega); have hN3 := hN.below hb3 (by omega); have hM3 := owns_up hM hb3; have bb3 := hb.trans (hb3.mono (by omega : B ≤ _)); have hs3 := hb3.size; clear hB hN hM hb hb3) | (refine wl_allocV rfl 152 rfl Z hz64.out w3.heap.size rfl ?_; intro w4 hE4 hb4 hs4) | (refine wl_storeV rfl 152 _ _ rfl 152 w3.heap.size rfl BB rfl 64 agg64' hBBl Z hE4 hZl hBB1 ?_; intro w5 hE5 hb5 hs5; have hb35 := hb4.trans hb5; have hB5 := hB3.below hb35 (by omega); have hN5 := hN3.below hb35 (by omega); have hM5 := owns_up hM3 hb35; have bb5 := bb3.trans (hb35.mono (by omega : B ≤ _)); clear hB3 hN3 hM3 bb3 hb4 hb5 hb35 hE4) | (at_builtin; refine wl_appendS rfl _ _ 69 rfl 5 (.int .u8 0) 1 1 Try.underlying69 info8 rfl (by decide) (B + 2) _ len _ rfl (Or.inl hM5) (some ⟨w3.heap.size, 0, none⟩) 64 64 rfl (fun h => by cases h) (BB.take 64) (by rw [List.length_take, hBBl]; have := HD.out; omega) (rowTake hE5 _) (fun u hu => hBB1 u (List.mem_of_mem_take hu)) (by unfold maxLen; have := HD.out; omega) (by have := HD.out; omega) (by omega) (len + 64) (by have := HD.out; omega) ?_; intro ao6 c6 w6 row6 hc6 hM6 hv6 hg6 hrow6; have hlt := hM6; have hB6 := blk_grown hB5 hg6 (fun k hk => (hrow6 k hk).1) (by omega); have hN6 := blk_grown hN5 hg6 (fun k hk => (hrow6 k hk).1) (by omega); have bb6 := bb5.grown hg6 (by omega) (fun k hk => by have := (hrow6 k hk).1; omega); have hs6 : B + 2 ≤ w6.heap.size := (by have := hg6.size; omega); clear hB5 hN5 bb5 hM5 hE5))
          go_roundw
          case measure => simp only [slLen]; have := HD.out; omega
          refine ⟨q + 1, len + 64, ao6, c6, blks k n (q + 1), rfl, mine_own ?_ (by omega), hB6, hN6, bb6, hs6, Or.inl ⟨by have := HLQ.out; omega, by have := HD.out; omega, by first | (push_cast; rfl) | (congr 1; push_cast; omega), rfl⟩⟩
          rw [show blks k n (q + 1) = blks k n q ++ blk k n q from rfl, List.map_append, ← HBB.out]
          rw [List.take_of_length_le (by omega)] at hM6
          exact hM6
      · by_cases hD : (D : Int) < 64
        · go_wp2_with (first | (refine wl_load rfl 23 _ rfl ⟨B, 0, none⟩ rfl K (by rw [hKl]; exact aggKey) hB.at0 ?_) | (refine wl_load rfl 25 _ rfl ⟨B + 1, 0, none⟩ rfl N (by rw [hNl]; exact aggNo) hN.at0 ?_) | (go_at_call 195; refine (hsbq wr).out.mono ?_; rintro e w3 ⟨rfl, hb3⟩; have hB3 := hB.below hb3 (by omega); have hN3 := hN.below hb3 (by omega); have hM3 := owns_up hM hb3; have bb3 := hb.trans (hb3.mono (by omega : B ≤ _)); have hs3 := hb3.size; clear hB hN hM hb hb3) | (refine wl_allocV rfl 152 rfl Z hz64.out w3.heap.size rfl ?_; intro w4 hE4 hb4 hs4) | (refine wl_storeV rfl 152 _ _ rfl 152 w3.heap.size rfl BB rfl 64 agg64' hBBl Z hE4 hZl hBB1 ?_; intro w5 hE5 hb5 hs5; have hb35 := hb4.trans hb5; have hB5 := hB3.below hb35 (by omega); have hN5 := hN3.below hb35 (by omega); have hM5 := owns_up hM3 hb35; have bb5 := bb3.trans (hb35.mono (by omega : B ≤ _)); clear hB3 hN3 hM3 bb3 hb4 hb5 hb35 hE4) | (at_builtin; refine wl_appendS rfl _ _ 69 rfl 5 (.int .u8 0) 1 1 Try.underlying69 info8 rfl (by decide) (B + 2) _ len _ rfl (Or.inl hM5) (some ⟨w3.heap.size, 0, none⟩) D 64 rfl (fun h => by cases h) (BB.take D) (by rw [List.length_take, hBBl]; have := HD.out; omega) (rowTake hE5 _) (fun u hu => hBB1 u (List.mem_of_mem_take hu)) (by unfold maxLen; have := HD.out; omega) (by have := HD.out; omega) (by omega) m (by have := HD.out; omega) ?_; intro ao6 c6 w6 row6 hc6 hM6 hv6 hg6 hrow6; have hlt := hM6; have hB6 := blk_grown hB5 hg6 (fun k hk => (hrow6 k hk).1) (by omega); have hN6 := blk_grown hN5 hg6 (fun k hk => (hrow6 k hk).1) (by omega); have bb6 := bb5.grown hg6 (by omega) (fun k hk => by have := (hrow6 k hk).1; omega); have hs6 : B + 2 ≤ w6.heap.size := (by have := hg6.size; omega); clear hB5 hN5 bb5 hM5 hE5))
          go_roundw
          case measure => simp only [slLen]; have := HD.out; omega
          refine ⟨q, m, ao6, c6, strmL k n m, rfl, mine_own ?_ (by omega), hB6, hN6, bb6, hs6, Or.inr ⟨rfl, rfl⟩⟩
          rw [strmL_part k n m q D (by have := HLQ.out; omega) (by omega), List.map_append, List.map_take, ← HBB.out]
          exact hM6
        · go_wp2_with (first | (refine wl_load rfl 23 _ rfl ⟨B, 0, none⟩ rfl K (by rw [hKl]; exact aggKey) hB.at0 ?_) | (refine wl_load rfl 25 _ rfl ⟨B + 1, 0, none⟩ rfl N (by rw [hNl]; exact aggNo) hN.at0 ?_) | (go_at_call 195; refine (hsbq wr).out.mono ?_; rintro e w3 ⟨rfl, hb3⟩; have hB3 := hB.below hb3 (by omega); have hN3 := hN.below hb3 (by omega); have hM3 := owns_up hM hb3; have bb3 := hb.trans (hb3.mono (by omega : B ≤ _)); have hs3 := hb3.size; clear hB hN hM hb hb3) | (refine wl_allocV rfl 152 rfl Z hz64.out w3.heap.size rfl ?_; intro w4 hE4 hb4 hs4) | (refine wl_storeV rfl 152 _ _ rfl 152 w3.heap.size rfl BB rfl 64 agg64' hBBl Z hE4 hZl hBB1 ?_; intro w5 hE5 hb5 hs5; have hb35 := hb4.trans hb5; have hB5 := hB3.below hb35 (by omega); have hN5 := hN3.below hb35 (by omega); have hM5 := owns_up hM3 hb35; have bb5 := bb3.trans (hb35.mono (by omega : B ≤ _)); clear hB3 hN3 hM3 bb3 hb4 hb5 hb35 hE4) | (at_builtin; refine wl_appendS rfl _ _ 69 rfl 5 (.int .u8 0) 1 1 Try.underlying69 info8 rfl (by decide) (B + 2) _ len _ rfl (Or.inl hM5) (some ⟨w3.heap.size, 0, none⟩) 64 64 rfl (fun h => by cases h) (BB.take 64) (by rw [List.length_take, hBBl]; have := HD.out; omega) (rowTake hE5 _) (fun u hu => hBB1 u (List.mem_of_mem_take hu)) (by unfold maxLen; have := HD.out; omega) (by have := HD.out; omega) (by omega) (len + 64) (by have := HD.out; omega) ?_; intro ao6 c6 w6 row6 hc6 hM6 hv6 hg6 hrow6; have hlt := hM6; have hB6 := blk_grown hB5 hg6 (fun k hk => (hrow6 k hk).1) (by omega); have hN6 := blk_grown hN5 hg6 (fun k hk => (hrow6 k hk).1) (by omega); have bb6 := bb5.grown hg6 (by omega) (fun k hk => by have := (hrow6 k hk).1; omega); have hs6 : B + 2 ≤ w6.heap.size := (by have := hg6.size; omega); clear hB5 hN5 bb5 hM5 hE5))
          go_roundw
          case measure => simp only [slLen]; have := HD.out; omega
          refine ⟨q + 1, len + 64, ao6, c6, blks k n (q + 1), rfl, mine_own ?_ (by omega), hB6, hN6, bb6, hs6, Or.inl ⟨by have := HLQ.out; omega, by have := HD.out; omega, by first | (push_cast; rfl) | (congr 1; push_cast; omega), rfl⟩⟩
          rw [show blks k n (q + 1) = blks k n q ++ blk k n q from rfl, List.map_append, ← HBB.out]
          rw [List.take_of_length_le (by omega)] at hM6
          exact hM6
    · have hlm : len = m := by rcases hcase with ⟨_, h, _⟩ | ⟨h, _⟩ <;> omega
      have hxs : xs = strmL k n m := by
        rcases hcase with ⟨h, _, _, h2⟩ | ⟨_, h2⟩
        · rw [h2, strmL_whole k n m q (by omega)]
        · exact h2
      subst hlm
      have hl3 : ¬ (len : Int) < (len : Int) := by omega
      rw [hxs] at hM
      clear hcase hxs
      go_wp2
      go_ret2
      exact ⟨_, _, rfl, Mine.mono (Or.inl hM) (by omega), hb⟩
end Go.Proofs.Ytbljihhelladbaa.wr
namespace Go.Proofs.Ytbljihhelladbaa.wr
open Go.RowKit Go.Proofs.Ytbljihhelladbaa.st Go.Proofs.Ytbljihhelladbaa.hs Go.Proofs.Ytbljihhelladbaa.shr Go.Proofs.Ytbljihhelladbaa.sh
set_option linter.unusedSimpArgs false
set_option linter.unusedVariables false
set_option pp.maxSteps 6000
/-- an envelope -/
structure Env where
  v : Int
  e : Int
  b : List Int
  o : List Int
  n : List Int
  c : List Int
  g : List Int
  t : List Int
structure Env.Ok (x : Env) : Prop where
  vb : -9223372036854775808 ≤ x.v ∧ x.v ≤ 9223372036854775807
  eb : -9223372036854775808 ≤ x.e ∧ x.e ≤ 9223372036854775807
  bl : x.b.length = 16
  ol : x.o.length = 16
  nl : x.n.length = 16
  cl : x.c.length = 32
  gl : x.g.length = 32
  tl : x.t.length = 16
  bo : Octs x.b
  oo : Octs x.o
  no : Octs x.n
  co : Octs x.c
  go : Octs x.g
  tt : Octs x.t
def Env.cs (x : Env) : List Value := (.int .i64 x.v :: .int .i64 x.e :: (x.b ++ x.o ++ x.n ++ x.c ++ x.g ++ x.t).map (Value.int .u8))
def Env.octs (x : Env) : List Int := x.b ++ x.o ++ x.n ++ x.c ++ x.g ++ x.t
theorem Env.cs_eq (x : Env) : x.cs = .int .i64 x.v :: .int .i64 x.e :: x.octs.map (Value.int .u8) := rfl
theorem Env.Ok.ol' {x : Env} (h : x.Ok) : x.octs.length = 128 := by
  unfold Env.octs
  simp only [List.length_append, h.bl, h.ol, h.nl, h.cl, h.gl, h.tl]
theorem Env.Ok.csl {x : Env} (h : x.Ok) : x.cs.length = 130 := by rw [Env.cs_eq]; simp [h.ol']
theorem Env.cs_one (x : Env) : ∀ u ∈ x.cs, u.oneCell' = true := by
  intro u hu
  rw [Env.cs_eq] at hu
  rcases List.mem_cons.1 hu with rfl | hu
  · rfl
  rcases List.mem_cons.1 hu with rfl | hu
  · rfl
  exact ints_one _ _ u hu
theorem Env.cv (x : Env) : x.cs[0]? = some (.int .i64 x.v) := rfl
theorem Env.ce (x : Env) : x.cs[1]? = some (.int .i64 x.e) := rfl
/-- a part of the cells lies where its octets lie -/
theorem env_at {x : Env} {w : World} {t : TypeId} {p : Nat} (h : BlkV t w p x.cs) (k : Nat) (ds r : List Int) (hk : x.octs.drop k = ds ++ r) : At w ⟨p, k + 2, none⟩ (ds.map (Value.int .u8)) := by
  refine h.at (k + 2) _ fun j u hu => ?_
  have hj : j < ds.length := by have := (List.getElem?_eq_some_iff.1 hu).1; simpa using this
  have e1 : x.cs[k + 2 + j]? = (x.octs.map (Value.int .u8))[k + j]? := by rw [Env.cs_eq, show k + 2 + j = (k + j) + 1 + 1 by omega]; rfl
  have e2 : x.octs[k + j]? = ds[j]? := by
    have := congrArg (fun l : List Int => l[j]?) hk
    simp only [List.getElem?_drop] at this
    rw [this, List.getElem?_append_left hj]
  rw [e1, ← hu, List.getElem?_map, List.getElem?_map, e2]
section
variable {x : Env} (hx : x.Ok) {w : World} {t : TypeId} {p : Nat} (h : BlkV t w p x.cs)
include h in
theorem env_b : At w ⟨p, 2, none⟩ (x.b.map (Value.int .u8)) := env_at h 0 x.b (x.o ++ x.n ++ x.c ++ x.g ++ x.t) (by simp [Env.octs])
include hx h
theorem env_o : At w ⟨p, 18, none⟩ (x.o.map (Value.int .u8)) := env_at h 16 x.o (x.n ++ x.c ++ x.g ++ x.t) (by unfold Env.octs; simp only [List.append_assoc]; rw [List.drop_append_of_le_length (by rw [hx.bl]; omega), List.drop_of_length_le (by rw [hx.bl]; omega), List.nil_append])
theorem env_n : At w ⟨p, 34, none⟩ (x.n.map (Value.int .u8)) := env_at h 32 x.n (x.c ++ x.g ++ x.t) (by
  have e : x.octs = (x.b ++ x.o) ++ (x.n ++ (x.c ++ x.g ++ x.t)) := by unfold Env.octs; simp
  rw [e, List.drop_append_of_le_length (by simp [hx.bl, hx.ol]), List.drop_of_length_le (by simp [hx.bl, hx.ol]), List.nil_append])
theorem env_c : At w ⟨p, 50, none⟩ (x.c.map (Value.int .u8)) := env_at h 48 x.c (x.g ++ x.t) (by
  have e : x.octs = (x.b ++ x.o ++ x.n) ++ (x.c ++ (x.g ++ x.t)) := by unfold Env.octs; simp
  rw [e, List.drop_append_of_le_length (by simp [hx.bl, hx.ol, hx.nl]), List.drop_of_length_le (by simp [hx.bl, hx.ol, hx.nl]), List.nil_append])
theorem env_g : At w ⟨p, 82, none⟩ (x.g.map (Value.int .u8)) := env_at h 80 x.g x.t (by
  have e : x.octs = (x.b ++ x.o ++ x.n ++ x.c) ++ (x.g ++ x.t) := by unfold Env.octs; simp
  rw [e, List.drop_append_of_le_length (by simp [hx.bl, hx.ol, hx.nl, hx.cl]), List.drop_of_length_le (by simp [hx.bl, hx.ol, hx.nl, hx.cl]), List.nil_append])
theorem env_t : At w ⟨p, 114, none⟩ (x.t.map (Value.int .u8)) := env_at h 112 x.t [] (by
  have e : x.octs = (x.b ++ x.o ++ x.n ++ x.c ++ x.g) ++ (x.t ++ []) := by unfold Env.octs; simp
  rw [e, List.drop_append_of_le_length (by simp [hx.bl, hx.ol, hx.nl, hx.cl, hx.gl]), List.drop_of_length_le (by simp [hx.bl, hx.ol, hx.nl, hx.cl, hx.gl]), List.nil_append])
end
/-- a part that lies in a block is a row -/
theorem at_row {w : World} {p off : Nat} {cs : List Value} (hl : p < w.heap.size) (h : At w ⟨p, off, none⟩ cs) : RowV w (some ⟨p, off, none⟩) cs :=
  Or.inr ⟨p, off, rfl, hl, fun j u hu => by
    have := h j u hu
    rwa [addr_add] at this⟩
/-- the octets of an envelope -/
def twoL (x : Env) (l : List Int) : List Int := if x.v = 2 then l else []
def aheadL (x : Env) : List Int := [75, 87, 87] ++ [x.v] ++ o4 x.e ++ x.b ++ twoL x x.o ++ x.n ++ twoL x x.c ++ x.g
def envL (x : Env) : List Int := aheadL x ++ x.t
def errV (x : Env) : Int := if ¬ (x.v = 1 ∨ x.v = 2) then 19 else if ¬ (0 ≤ x.e ∧ x.e ≤ 4294967295) then 4 else if x.v = 1 ∧ ¬ (x.o = List.replicate 16 0 ∧ x.c = List.replicate 32 0) then 2 else 0
def sizeV (x : Env) : Nat := if x.v = 2 then 136 else 88
theorem o4_length (n : Int) : (o4 n).length = 4 := rfl
theorem aheadL_length {x : Env} (h : x.Ok) : (aheadL x).length + 16 = sizeV x := by
  unfold aheadL sizeV twoL
  split <;> simp only [List.length_append, o4_length, h.bl, h.ol, h.nl, h.cl, h.gl, List.length_cons, List.length_nil]
theorem o4_octs (n : Int) : Octs (o4 n) := by
  intro c hc
  simp only [o4, List.mem_cons, List.not_mem_nil, or_false] at hc
  rcases hc with rfl | rfl | rfl | rfl <;> exact ⟨by omega, by omega⟩
theorem octs_app {l m : List Int} (h : Octs l) (h2 : Octs m) : Octs (l ++ m) := fun c hc => by
  rcases List.mem_append.1 hc with hc | hc
  · exact h c hc
  · exact h2 c hc
theorem octs_two (x : Env) {l : List Int} (h : Octs l) : Octs (twoL x l) := by
  unfold twoL; split
  · exact h
  · intro c hc; cases hc
theorem aheadL_octs {x : Env} (h : x.Ok) (hv : x.v = 1 ∨ x.v = 2) : Octs (aheadL x) := by
  unfold aheadL
  refine octs_app (octs_app (octs_app (octs_app (octs_app (octs_app (octs_app ?_ ?_) (o4_octs _)) h.bo) (octs_two x h.oo)) h.no) (octs_two x h.co)) h.go
  · intro c hc
    simp only [List.mem_cons, List.not_mem_nil, or_false] at hc
    rcases hc with rfl | rfl | rfl <;> exact ⟨by decide, by decide⟩
  · intro c hc
    simp only [List.mem_cons, List.not_mem_nil, or_false] at hc
    subst hc
    rcases hv with h | h <;> rw [h] <;> exact ⟨by decide, by decide⟩
/-- the conversion of a constant's octets, the world behind it a letter -/
theorem wl_convC {w0 : World} {ops : Array Oper} {rest : List Oper} {o : Oper} {a : Act} {Q : Exit → Act → World → Prop} (hgd : o.guard = none) (x : Operand) (ho : o.op = .convert 69 69 x) (C : List Value) (n c : Nat)
    (hx : a.eval x = .slice (some ⟨w0.heap.size, 0, none⟩) n c) (N : Nat) (hN : w0.heap.size = N)
    (h : ∀ w', At w' ⟨N, 0, none⟩ C → Below N w0 w' → w'.heap.size = N + 1 → wpList Try.prog ops Q rest (a.put o.dst (.slice (some ⟨N, 0, none⟩) n c)) w') : wpList Try.prog ops Q (o :: rest) a (w0.alloc (.cells C.toArray 5)) := by
  subst hN
  refine wpList_plain hgd fun K hK' => ?_
  unfold Oper.wp
  simp only [execOp, ho, hx, Lib.run_convert_bytes_const (P := Try.prog) w0 69 5 C.toArray n c Try.underlying69 Try.underlying5, Sem.run_bind, Result.andThen_ok, Sem.run_pure]
  exact hK' _ _ (h _ (at_marked C) ((Below.refl _ _).alloc (Nat.le_refl _) _) (by simp))
/-- arrays held to be unlike, in a guarded step -/
theorem wl_neM {P : Program} {w : World} {ops : Array Oper} {rest : List Oper} {o : Oper} {a : Act} {Q : Exit → Act → World → Prop} (d : Nat) (hd : o.dst = some d) (hgd : Region.wanted o (yielded ops a.tmps) = true) (ty ty2 : TypeId) (x y : Operand) (ho : o.op = .binOp .neq ty x y ty2)
    (A B : Array Value) (hx : a.eval x = .agg A) (hy : a.eval y = .agg B) (b : Bool) (he : (Op.equalIn 10000 ty (.agg A) (.agg B)).run P w = .ok b w) (hm : P.eqGuardType P.depth ty = false) (h : wpList P ops Q rest (a.put o.dst (.bool !b)) w) : wpList P ops Q (o :: rest) a w := by
  refine wpList_step fun K hK' => ?_
  rw [if_pos hgd]
  unfold Oper.wp
  simp [execOp, ho, hx, hy, run_eqGuard_agg, run_neq_struct, hm, he, Result.andThen]
  exact hK' _ _ h
theorem run_eq_id (w : World) (s t : List Int) (hs : s.length = 16) (ht : t.length = 16) : (Op.equalIn 10000 57 (.agg (s.map (Value.int .u8)).toArray) (.agg (t.map (Value.int .u8)).toArray)).run Try.prog w = .ok (s == t) w :=
  run_equalIn_ints w 9998 57 5 16 .u8 Try.underlying57 Try.underlying5 size5' s t hs ht
theorem agg32 : Agg Try.prog 22 32 := Agg.arr Try.underlying22 (by kernel_rfl)
theorem aggEnv : Agg Try.prog 107 130 := Agg.str Try.underlying107 (by kernel_rfl)
def env0 : Env := ⟨0, 0, List.replicate 16 0, List.replicate 16 0, List.replicate 16 0, List.replicate 32 0, List.replicate 32 0, List.replicate 16 0⟩
theorem env0_ok : env0.Ok := ⟨by decide, by decide, rfl, rfl, rfl, rfl, rfl, rfl, zeros_octs 16, zeros_octs 16, zeros_octs 16, zeros_octs 32, zeros_octs 32, zeros_octs 16⟩
theorem zeroEnv : (Try.prog.info? 107).map (·.zero) = some (some (.agg env0.cs.toArray)) := by kernel_rfl
theorem built_id0 : Try.prog.built 57 [] = some ((List.replicate 16 (0 : Int)).map (Value.int .u8)).toArray := by kernel_rfl
theorem built_sum0 : Try.prog.built 73 [] = some ((List.replicate 32 (0 : Int)).map (Value.int .u8)).toArray := by kernel_rfl
end Go.Proofs.Ytbljihhelladbaa.wr
namespace Go.Proofs.Ytbljihhelladbaa.slB
open Go.RowKit
set_option linter.unusedSimpArgs false
set_option linter.unusedVariables false
theorem info : Info Try.prog 5 (.int .u8 0) 1 1 := by unfold Info; kernel_rfl
theorem bel2 {w w1 w2 : World} {row : Option Nat} (h : Below w.heap.size w w1) (hg : w1.grownBy w2 row) (hr : ∀ k, row = some k → w.heap.size ≤ k) : Below w.heap.size w w2 := h.grown hg h.size hr
set_option maxRecDepth 100000 in
theorem Grow_nil (n : Nat) (w : World) (hn : n * 1 ≤ 140737488355328) :
    Calls Try.prog 212 #[.slice none 0 0, .int .i64 n] w fun e w' => ∃ v, e = .returned v ∧ Mine w' w.heap.size 5 1 v 0 [] ∧ Below w.heap.size w w' := by
  obtain ⟨i, hi, hz, hs, hb⟩ := info.parts
  by_cases h0 : 0 < n
  · have happ := fun w => Lib.run_append_nil_zeros (P := Try.prog) w 69 3 69 5 i (.int .u8 0) .i64 .i64 Try.underlying69 Try.underlying3 hi hz n h0 (by rw [hs]; decide) (by omega) (by rw [hb]; omega)
    have hge := grownCap_ge w n 0 5
    have hle := grownCap_le_maxLen w n 0 5 (by unfold maxLen; omega)
    obtain ⟨C, HC⟩ : ∃ C, Hid (C = grownCap w n 0 5) := ⟨_, rfl⟩
    have happ0 := happ w
    rw [← HC.out] at happ0 hge hle
    have HLE := hid hle
    have HAPP := hid happ0
    clear happ hle happ0 hi hz hs hb
    go_enter Try.func212, Try.ntmps212
    go_wp2_with (at_builtin; refine Lib.wpList_append_run _ rfl _ _ _ _ rfl _ _ rfl rfl _ _ HAPP.out ?_)
    go_ret
    refine ⟨_, rfl, Or.inl ⟨by simp, Or.inr ⟨w.heap.size, C, _, rfl, Nat.le_refl _, heap_alloc_new w.drew _, Nat.zero_le _, HLE.out, ?_, by simp⟩⟩, ((Below.refl _ _).drew).alloc (by simp) _⟩
    simp [Builtin.zeroCells, Value.cells]
    omega
  · obtain rfl : n = 0 := by omega
    go_enter Try.func212, Try.ntmps212
    go_wp2
    go_ret
    exact ⟨_, rfl, Mine.nil _ _ _ _, Below.refl _ _⟩
/-- a part of Concat: a slice and its cells -/
structure Part where
  ao : Option Addr
  n : Nat
  cap : Nat
  cells : List Value
def Part.val (p : Part) : Value := .slice p.ao p.n p.cap
def Part.ok (w : World) (p : Part) : Prop := RowV w p.ao p.cells ∧ p.cells.length = p.n * 1 ∧ (∀ u ∈ p.cells, u.oneCell' = true) ∧ (p.ao = none → p.cap = 0)
def noPart : Part := ⟨none, 0, 0, []⟩
def sumN : List Part → Nat
  | [] => 0
  | p :: l => p.n + sumN l
def flat : List Part → List Value
  | [] => []
  | p :: l => p.cells ++ flat l
theorem sumN_append (l m : List Part) : sumN (l ++ m) = sumN l + sumN m := by
  induction l with
  | nil => simp [sumN]
  | cons p l ih => simp [sumN, ih]; omega
theorem flat_append (l m : List Part) : flat (l ++ m) = flat l ++ flat m := by
  induction l with
  | nil => rfl
  | cons p l ih => simp [flat, ih]
theorem sumN_take (l : List Part) (k : Nat) (hk : k < l.length) : sumN (l.take (k + 1)) = sumN (l.take k) + (l.getD k noPart).n := by
  rw [List.take_succ_eq_append_getElem hk, sumN_append, getD_lt' l noPart hk]; simp [sumN]
theorem flat_take (l : List Part) (k : Nat) (hk : k < l.length) : flat (l.take (k + 1)) = flat (l.take k) ++ (l.getD k noPart).cells := by
  rw [List.take_succ_eq_append_getElem hk, flat_append, getD_lt' l noPart hk]; simp [flat]
theorem sumN_le (l : List Part) (k : Nat) : sumN (l.take k) ≤ sumN l := by
  conv => rhs; rw [← List.take_append_drop k l]
  rw [sumN_append]; omega
/-- where the parts lie -/
def Parts (w : World) (ps : List Part) (po : Addr) : Prop := po.spot = none ∧ po.block < w.heap.size ∧ ∀ k, k < ps.length → w.cell? ⟨po.block, po.off + k, none⟩ = some (ps.getD k noPart).val
theorem Parts.below {w w' : World} {ps : List Part} {po : Addr} (h : Parts w ps po) (hb : Below w.heap.size w w') : Parts w' ps po :=
  ⟨h.1, Nat.lt_of_lt_of_le h.2.1 hb.size, fun k hk => by rw [hb.cell (p := ⟨po.block, po.off + k, none⟩) h.2.1]; exact h.2.2 k hk⟩
set_option maxHeartbeats 1000000 in
theorem Concat_any (ps : List Part) (pb po pc : Nat) (w : World) (hp : Parts w ps ⟨pb, po, none⟩) (hok : ∀ p ∈ ps, p.ok w) (hb : sumN ps * 1 ≤ 140737488355328) (hn : ps.length ≤ 1000000) :
    Calls Try.prog 181 #[.slice (some ⟨pb, po, none⟩) ps.length pc] w fun e w' => ∃ v, e = .returned v ∧ Mine w' w.heap.size 5 1 v (sumN ps) (flat ps) ∧ Below w.heap.size w w' := by
  go_enter Try.func181, Try.ntmps181
  go_wp2
  go_loop [3, 11] (fun s i => ∃ k z : Nat, k ≤ ps.length ∧ i = .int .i64 k ∧ s = .int .i64 z ∧ Hid (z = sumN (ps.take k))) (fun _ i => ps.length - (intOf i).toNat)
  case atStart => exact ⟨0, 0, Nat.zero_le _, rfl, rfl, rfl⟩
  case round =>
    obtain ⟨k, z, hk, rfl, rfl, HZ⟩ := hrel
    have hz := sumN_le ps k
    rw [← HZ.out] at hz
    by_cases h0 : k < ps.length
    · obtain ⟨p, HP⟩ : ∃ p, Hid (p = ps.getD k noPart) := ⟨_, rfl⟩
      have hc := hp.2.2 k h0
      rw [← HP.out] at hc
      unfold Part.val at hc
      have hz1 := sumN_le ps (k + 1)
      rw [sumN_take ps k h0, ← HP.out, ← HZ.out] at hz1
      go_wp2
      go_round
      case rel => exact ⟨k + 1, z + p.n, by omega, by go_num, by go_num, by show z + p.n = _; rw [sumN_take ps k h0, ← HP.out, HZ.out]⟩
      case measure => simp [intOf] <;> omega
    · have HE : Hid (sumN ps = z) := by show sumN ps = z; rw [HZ.out, List.take_of_length_le (by omega)]
      go_wp2_with fail
      refine (Grow_nil z w (by omega)).mono ?_
      rintro e w1 ⟨v, rfl, hM, hbl⟩
      go_wp2_with fail
      go_loopw [6, 27] (fun s i wr => ∃ k : Nat, k ≤ ps.length ∧ i = .int .i64 k ∧ Mine wr w.heap.size 5 1 s (sumN (ps.take k)) (flat (ps.take k)) ∧ Below w.heap.size w wr) (fun _ i _ => ps.length - (intOf i).toNat)
      case atStart => exact ⟨0, Nat.zero_le _, rfl, hM, hbl⟩
      case round =>
        rename_i sv _
        obtain ⟨j, hj, rfl, hMj, hbj⟩ := hrel
        by_cases h1 : j < ps.length
        · obtain ⟨p, HP⟩ : ∃ p, Hid (p = ps.getD j noPart) := ⟨_, rfl⟩
          have hc := (hp.below hbj).2.2 j h1
          rw [← HP.out] at hc
          unfold Part.val at hc
          have hpo := hok p (by rw [HP.out, getD_lt' ps noPart h1]; exact List.getElem_mem h1)
          obtain ⟨q1, q2, q3, q4⟩ := hpo
          have Q2 := hid q2
          have hz1 := sumN_le ps (j + 1)
          rw [sumN_take ps j h1, ← HP.out] at hz1
          have hrow := q1.below hbj
          have HT : Hid (sumN (ps.take (j + 1)) = sumN (ps.take j) + p.n ∧ flat (ps.take (j + 1)) = flat (ps.take j) ++ p.cells) := ⟨by rw [sumN_take ps j h1, HP.out], by rw [flat_take ps j h1, HP.out]⟩
          obtain ⟨sn, SN⟩ : ∃ sn, Hid (sn = sumN (ps.take j)) := ⟨_, rfl⟩
          rw [← SN.out] at hMj hz1 HT
          have hsz := hbj.size
          clear q1 q2
          go_wp2_with (at_builtin; refine wl_append rfl _ _ 69 rfl 5 (.int .u8 0) 1 1 Try.underlying69 info rfl (by decide) w.heap.size _ sn _ rfl hMj p.ao p.n p.cap rfl q4 p.cells Q2.out hrow q3 (by unfold maxLen; omega) (by omega) hsz ?_; intro v' w' row hM' hg' hrow')
          go_roundw
          case rel => exact ⟨j + 1, by omega, by go_num, by rw [HT.out.1, HT.out.2]; exact hM', bel2 hbj hg' fun k hk => (hrow' k hk).1⟩
          case measure => simp [intOf] <;> omega
        · have HE2 : Hid (ps.take j = ps) := List.take_of_length_le (by omega)
          go_wp2
          go_ret
          rw [HE2.out] at hMj
          exact ⟨_, rfl, hMj, hbj⟩
/-- two parts -/
theorem Concat_two (p q : Part) (g : Nat) (w : World) (hg : w.heap[g]? = some (.cells #[p.val, q.val] 69 (0, 0))) (hp : p.ok w) (hq : q.ok w) (hb : (p.n + q.n) * 1 ≤ 140737488355328) :
    Calls Try.prog 181 #[.slice (some ⟨g, 0, none⟩) 2 2] w fun e w' => ∃ v, e = .returned v ∧ Mine w' w.heap.size 5 1 v (p.n + q.n) (p.cells ++ q.cells) ∧ Below w.heap.size w w' := by
  have h := Concat_any [p, q] g 0 2 w ⟨rfl, lt_of_block hg, fun k hk => ?_⟩ ?_ ?_ (by simp)
  · simpa [sumN, flat] using h
  · simp only [List.length_cons, List.length_nil] at hk
    rw [Nat.zero_add, cell_of_row w g k _ _ _ hg]
    match k, hk with
    | 0, _ => rfl
    | 1, _ => rfl
  · intro r hr
    simp at hr
    rcases hr with rfl | rfl
    · exact hp
    · exact hq
  · simpa [sumN] using hb
end Go.Proofs.Ytbljihhelladbaa.slB
