/-
  keylaw2.openPack returns true. Conditions: a key of octets, texts of octets that lie in memory, a pack of at most 2^40 octets.
-/
import Derived.Test.YtbljihhelladbaaPWsT
import Derived.Test.YtbljihhelladbaaPWsK
import Derived.Test.YtbljihhelladbaaPWsJ
namespace Go.Proofs.Ytbljihhelladbaa.wr
open Go.RowKit Go.Proofs.Ytbljihhelladbaa.st Go.Proofs.Ytbljihhelladbaa.hs Go.Proofs.Ytbljihhelladbaa.shr Go.Proofs.Ytbljihhelladbaa.sh
set_option linter.unusedSimpArgs false
set_option linter.unusedVariables false
set_option pp.maxSteps 6000
theorem run_eq_key (w : World) (s t : List Int) (hs : s.length = 32) (ht : t.length = 32) : (Op.equalIn 10000 23 (.agg (s.map (Value.int .u8)).toArray) (.agg (t.map (Value.int .u8)).toArray)).run Try.prog w = .ok (s == t) w :=
  run_equalIn_ints w 9998 23 5 32 .u8 Try.underlying23 Try.underlying5 size5' s t hs ht
theorem findH_hit (k : List Int) : ∀ (ls : List (List Int)) (s i : Nat), findH k ls s = some i → s ≤ i ∧ i < s + ls.length ∧ hitB k (ls.getD (i - s) []) = true
  | [], s, i, h => by cases h
  | l :: r, s, i, h => by
    unfold findH at h
    split at h
    · rename_i hh
      cases h
      exact ⟨Nat.le_refl _, by simp, by rw [Nat.sub_self]; simpa using hh⟩
    · obtain ⟨h1, h2, h3⟩ := findH_hit k r (s + 1) i h
      refine ⟨by omega, by simp only [List.length_cons]; omega, ?_⟩
      obtain ⟨d, hd⟩ : ∃ d, i - s = d + 1 := ⟨i - s - 1, by omega⟩
      rw [hd, List.getD_cons_succ, show d = i - (s + 1) by omega]
      exact h3
theorem findH_miss (k : List Int) : ∀ (ls : List (List Int)) (s : Nat), findH k ls s = none → ∀ l ∈ ls, hitB k l = false
  | [], _, _, l, hl => by cases hl
  | x :: r, s, h, l, hl => by
    unfold findH at h
    split at h
    · cases h
    · rename_i hh
      rcases List.mem_cons.1 hl with e | e
      · rw [e]; simpa using hh
      · exact findH_miss k r (s + 1) h l e
/-- of parts with keys of their own at most one is by a key -/
theorem hit_one {k : List Int} {ls : List (List Int)} (hn : (ls.map fun l => (readX l).b).Nodup) {i j : Nat} (hi : i < ls.length) (hj : j < ls.length) (h1 : hitB k (ls.getD i []) = true) (h2 : hitB k (ls.getD j []) = true) : i = j := by
  unfold hitB at h1 h2
  have e1 : (readX (ls.getD i [])).b = nameL k := by simpa using h1
  have e2 : (readX (ls.getD j [])).b = nameL k := by simpa using h2
  rw [getD_lt' ls [] hi] at e1
  rw [getD_lt' ls [] hj] at e2
  have hp := List.pairwise_iff_getElem.1 hn
  rcases Nat.lt_trichotomy i j with h | h | h
  · exact absurd (by rw [List.getElem_map, List.getElem_map, e1, e2]) (hp i j (by rw [List.length_map]; exact hi) (by rw [List.length_map]; exact hj) h)
  · exact h
  · exact absurd (by rw [List.getElem_map, List.getElem_map, e1, e2]) (hp j i (by rw [List.length_map]; exact hj) (by rw [List.length_map]; exact hi) h)
theorem When_e (b : Bool) (n t : Int) (w : World) (h : whenE b n = t) : Calls Try.prog 21 #[.bool b, .int .i64 n] w fun e w' => e = .returned (.int .i64 t) ∧ w = w' := by
  subst h; exact When_any b n w
theorem First_e (x y t : Int) (w w0 : World) (hw : w0 = w.alloc (.cells #[.int .i64 x, .int .i64 y] 27)) (h : firstE2 x y = t) :
    Calls Try.prog 23 #[.slice (some ⟨w.heap.size, 0, none⟩) 2 2] w0 fun e w' => e = .returned (.int .i64 t) ∧ w0 = w' := by
  subst h; exact First_two x y w w0 hw
/-- the last hit among the first j parts, as the law keeps it -/
def lastV (r : Option Nat) (j : Nat) : Int := match r with
  | none => -1
  | some i => if i < j then (i : Int) else -1
theorem lastV_zero (r : Option Nat) : lastV r 0 = -1 := by cases r <;> rfl
theorem lastV_step {k : List Int} {ls : List (List Int)} (hn : (ls.map fun l => (readX l).b).Nodup) {j : Nat} (hj : j < ls.length) : lastV (findH k ls 0) (j + 1) = if hitB k (ls.getD j []) = true then (j : Int) else lastV (findH k ls 0) j := by
  cases hr : findH k ls 0 with
  | none =>
    have := findH_miss k ls 0 hr _ (getD_memL ls j hj)
    rw [this]; rfl
  | some i =>
    obtain ⟨_, h2, h3⟩ := findH_hit k ls 0 i hr
    rw [Nat.sub_zero] at h3
    cases hh : hitB k (ls.getD j [])
    · have hne : i ≠ j := by intro e; rw [e, hh] at h3; cases h3
      rw [if_neg (by decide)]
      unfold lastV; dsimp only
      by_cases h : i < j
      · rw [if_pos h, if_pos (by omega)]
      · rw [if_neg h, if_neg (by omega)]
    · have hij := hit_one hn (by omega) hj h3 hh
      subst hij
      rw [if_pos rfl]; unfold lastV; dsimp only; rw [if_pos (by omega)]
set_option maxRecDepth 100000 in
set_option maxHeartbeats 8000000 in
theorem openPack_L (k b c : List Int) (bo : Option Addr) (bc n : Nat) (ao : Option Addr) (cap mc : Nat) (w : World) (hk : k.length = 32) (ok : Octs k) (hn : n = b.length) (HL : Pt.Ok w ⟨bo, bc, b⟩) (hmc : mc = c.length) (HP : Pt.Ok w ⟨ao, cap, c⟩) (hno : ao = none → cap = 0) (hmx : n ≤ 9223372036854775807) (h1 : 4096 < c.length) :
    Calls Try.prog 84 #[.agg (k.map (Value.int .u8)).toArray, .slice bo n bc, .slice ao mc cap] w fun e w' => e = .returned (.bool true) ∧ Below w.heap.size w w' := by
  obtain ⟨B, HB⟩ : ∃ B, Hid (B = w.heap.size) := ⟨_, rfl⟩
  have hsz : w.heap.size = B := HB.out.symm
  obtain ⟨Z, HZ⟩ : ∃ Z, Hid (Z = (List.replicate 32 (0 : Int)).map (Value.int .u8)) := ⟨_, rfl⟩
  have hzK := hid zeroKey
  have HBK : Hid (Try.prog.built 23 [] = some ((List.replicate 32 (0 : Int)).map (Value.int .u8)).toArray) := hid (by kernel_rfl)
  rw [← HZ.out] at hzK HBK
  have hZl : Z.length = 32 := by rw [HZ.out]; simp
  have hZ1 : ∀ u ∈ Z, u.oneCell' = true := by rw [HZ.out]; exact ints_one _ _
  have heZ : Hid (∀ w, (Op.equalIn 10000 23 (.agg Z.toArray) (.agg Z.toArray)).run Try.prog w = .ok true w) := hid (fun w => by rw [HZ.out, run_eq_key w _ _ (by simp) (by simp)]; simp)
  have hop := fun (y : World) (hb : Below B w y) => hid (OpenPack_any k b c bo bc n ao cap mc y hk ok hn (HL.below (hsz ▸ hb)) hmc (HP.below (hsz ▸ hb)) hno hmx)
  have hun := fun (y : World) (hb : Below B w y) => hid (Unpacked_any bo bc n b y hn (HL.below (hsz ▸ hb)) hmx)
  unfold UnPost at hun
  obtain ⟨K, HK⟩ : ∃ K, Hid (K = k.map (Value.int .u8)) := ⟨_, rfl⟩
  have hKl : K.length = 32 := by rw [HK.out, List.length_map, hk]
  obtain ⟨U, HU⟩ : ∃ U, Hid (U = unE b) := ⟨_, rfl⟩
  simp only [← HU.out] at hun
  rw [opV_bad (opE_large h1) (by decide), ← HZ.out] at hop
  have hmI : (4096 : Int) < (mc : Int) := by omega
  have hmD : decide ((4096 : Int) < (mc : Int)) = true := decide_eq_true hmI
  rw [← HK.out] at hop ⊢
  clear hk hn HL hmc HP h1
  go_enter Try.func84, Try.ntmps84
  go_wp2_with (first | (refine wl_allocV rfl 23 rfl Z hzK.out w6.heap.size rfl ?_; intro w7 hH7 hb7 hs7; obtain ⟨H, HH⟩ : ∃ g, Hid (g = w6.heap.size) := ⟨_, rfl⟩; rw [← HH.out] at hH7 hb7 hs7; rw [← HH.out]; have hHG : G + 1 ≤ H := (by rw [HH.out]; exact hs6); have hG7 := hG6.below hb7 (by omega); have hB7 := hB6.below hb7 (by omega); have bb7 := bb6.trans (hb7.mono (by omega : B ≤ _)); have b67 : Below H w6 w7 := hb7; clear hG6 hB6 bb6 hb7) | (go_at_call 23; refine (First_e 5 U 5 w5 _ rfl (by rfl)).mono ?_; rintro e w6 ⟨rfl, rfl⟩; have bb6 : Below B w (w5.alloc (.cells #[.int .i64 5, .int .i64 U] 27)) := bb5.alloc (by omega) _; have hG6 := hG5.alloc (.cells #[.int .i64 5, .int .i64 U] 27); have hB6 := hB5.alloc (.cells #[.int .i64 5, .int .i64 U] 27); have b56 : Below w5.heap.size w5 (w5.alloc (.cells #[.int .i64 5, .int .i64 U] 27)) := (Below.refl _ _).alloc (Nat.le_refl _) _; have hs6 : G + 1 ≤ (w5.alloc (.cells #[.int .i64 5, .int .i64 U] 27)).heap.size := Nat.le_trans hs5 b56.size; obtain ⟨w6, HW6⟩ : ∃ y, Hid (y = w5.alloc (.cells #[.int .i64 5, .int .i64 U] 27)) := ⟨_, rfl⟩; rw [← HW6.out] at bb6 hG6 hB6 b56 hs6 ⊢; clear hG5 hB5 bb5) | (go_at_call 85; refine (hun w4 bb4).out.mono ?_; rintro r w5 ⟨hb5, ps, po, np, cp, rfl, HNP, HPL, hRW, hOK⟩; have hB5 := hB4.below hb5 hB4.lt; have hG5 := hG4.below hb5 hG4.lt; have bb5 := bb4.trans (hb5.mono (by omega : B ≤ _)); have hs5 : G + 1 ≤ w5.heap.size := (by have := hb5.size; omega); clear hB4 hG4 bb4 hb5) | (go_at_call 21; refine (When_e true 5 5 _ rfl).mono ?_; rintro e wn ⟨rfl, rfl⟩) | (refine wl_storeV rfl 23 _ _ rfl 23 G rfl Z rfl 32 aggKey hZl Z hG3 hZl hZ1 ?_; intro w4 hG4 hb4 hs4; have hB4 := hB3.below hb4 (by omega); have bb4 := bb3.trans (hb4.mono (by omega : B ≤ _)); have hsz4 : G + 1 ≤ w4.heap.size := (by omega); clear hB3 bb3 hb4 hG3) | (refine wl_allocV rfl 23 rfl Z hzK.out w2.heap.size rfl ?_; intro w3 hG3 hb3 hs3; obtain ⟨G, HG⟩ : ∃ g, Hid (g = w2.heap.size) := ⟨_, rfl⟩; rw [← HG.out] at hG3 hb3 hs3; rw [← HG.out]; have hGB : B + 1 ≤ G := (by rw [HG.out]; exact hs2); have hB3 := hB2.below hb3 (by omega); have bb3 := bb2.trans (hb3.mono (by omega : B ≤ _)); clear hB2 bb2 hb3 hs2) | (go_at_call 147; refine (hop w1 hb1).out.mono ?_; rintro r w2 ⟨rfl, hb2⟩; have hB2 := hB1.below hb2 hB1.lt; have bb2 := hb1.trans (hb2.mono (by omega : B ≤ _)); have hs2 : B + 1 ≤ w2.heap.size := (by have := hb2.size; omega); clear hB1 hb1 hb2) | (refine wl_load rfl 23 _ rfl ⟨B, 0, none⟩ rfl K (by rw [hKl]; exact aggKey) hB1.at0 ?_) | (refine wl_boxV rfl 23 _ rfl K rfl B hsz ?_; intro w1 hB1 hb1 hs1) | (refine wl_load rfl 23 _ rfl ⟨G, 0, none⟩ rfl Z (by rw [hZl]; exact aggKey) hG7.at0 ?_) | (refine wl_build0 rfl 23 rfl Z HBK.out ?_) | (refine wl_eqM 80 rfl (by kernel_rfl) 23 _ _ _ rfl Z.toArray Z.toArray rfl rfl true (heZ.out _) (by kernel_rfl) ?_))
  go_ret
  exact ⟨rfl, by rw [← HB.out]; exact bb7⟩
set_option maxRecDepth 100000 in
set_option maxHeartbeats 8000000 in
theorem openPack_R (k b c : List Int) (bo : Option Addr) (bc n : Nat) (ao : Option Addr) (cap mc : Nat) (w : World) (hk : k.length = 32) (ok : Octs k) (hn : n = b.length) (HL : Pt.Ok w ⟨bo, bc, b⟩) (hmc : mc = c.length) (HP : Pt.Ok w ⟨ao, cap, c⟩) (hno : ao = none → cap = 0) (hmx : n ≤ 9223372036854775807) (h1 : ¬ 4096 < c.length) (h2 : unE b ≠ 0) :
    Calls Try.prog 84 #[.agg (k.map (Value.int .u8)).toArray, .slice bo n bc, .slice ao mc cap] w fun e w' => e = .returned (.bool true) ∧ Below w.heap.size w w' := by
  obtain ⟨B, HB⟩ : ∃ B, Hid (B = w.heap.size) := ⟨_, rfl⟩
  have hsz : w.heap.size = B := HB.out.symm
  obtain ⟨Z, HZ⟩ : ∃ Z, Hid (Z = (List.replicate 32 (0 : Int)).map (Value.int .u8)) := ⟨_, rfl⟩
  have hzK := hid zeroKey
  have HBK : Hid (Try.prog.built 23 [] = some ((List.replicate 32 (0 : Int)).map (Value.int .u8)).toArray) := hid (by kernel_rfl)
  rw [← HZ.out] at hzK HBK
  have hZl : Z.length = 32 := by rw [HZ.out]; simp
  have hZ1 : ∀ u ∈ Z, u.oneCell' = true := by rw [HZ.out]; exact ints_one _ _
  have heZ : Hid (∀ w, (Op.equalIn 10000 23 (.agg Z.toArray) (.agg Z.toArray)).run Try.prog w = .ok true w) := hid (fun w => by rw [HZ.out, run_eq_key w _ _ (by simp) (by simp)]; simp)
  have hop := fun (y : World) (hb : Below B w y) => hid (OpenPack_any k b c bo bc n ao cap mc y hk ok hn (HL.below (hsz ▸ hb)) hmc (HP.below (hsz ▸ hb)) hno hmx)
  have hun := fun (y : World) (hb : Below B w y) => hid (Unpacked_any bo bc n b y hn (HL.below (hsz ▸ hb)) hmx)
  unfold UnPost at hun
  obtain ⟨K, HK⟩ : ∃ K, Hid (K = k.map (Value.int .u8)) := ⟨_, rfl⟩
  have hKl : K.length = 32 := by rw [HK.out, List.length_map, hk]
  obtain ⟨U, HU⟩ : ∃ U, Hid (U = unE b) := ⟨_, rfl⟩
  simp only [← HU.out] at hun
  rw [opV_bad (opE_un h1 h2) h2, ← HZ.out, ← HU.out] at hop
  have hmI : ¬ (4096 : Int) < (mc : Int) := by omega
  have hmD : decide ((4096 : Int) < (mc : Int)) = false := decide_eq_false hmI
  have hU0 : ¬ U = 0 := by rw [HU.out]; exact h2
  rw [← HK.out] at hop ⊢
  clear hk hn HL hmc HP h1 h2
  go_enter Try.func84, Try.ntmps84
  go_wp2_with (first | (refine wl_allocV rfl 23 rfl Z hzK.out w6.heap.size rfl ?_; intro w7 hH7 hb7 hs7; obtain ⟨H, HH⟩ : ∃ g, Hid (g = w6.heap.size) := ⟨_, rfl⟩; rw [← HH.out] at hH7 hb7 hs7; rw [← HH.out]; have hHG : G + 1 ≤ H := (by rw [HH.out]; exact hs6); have hG7 := hG6.below hb7 (by omega); have hB7 := hB6.below hb7 (by omega); have bb7 := bb6.trans (hb7.mono (by omega : B ≤ _)); have b67 : Below H w6 w7 := hb7; clear hG6 hB6 bb6 hb7) | (go_at_call 23; refine (First_e 0 U U w5 _ rfl (by rfl)).mono ?_; rintro e w6 ⟨rfl, rfl⟩; have bb6 : Below B w (w5.alloc (.cells #[.int .i64 0, .int .i64 U] 27)) := bb5.alloc (by omega) _; have hG6 := hG5.alloc (.cells #[.int .i64 0, .int .i64 U] 27); have hB6 := hB5.alloc (.cells #[.int .i64 0, .int .i64 U] 27); have b56 : Below w5.heap.size w5 (w5.alloc (.cells #[.int .i64 0, .int .i64 U] 27)) := (Below.refl _ _).alloc (Nat.le_refl _) _; have hs6 : G + 1 ≤ (w5.alloc (.cells #[.int .i64 0, .int .i64 U] 27)).heap.size := Nat.le_trans hs5 b56.size; obtain ⟨w6, HW6⟩ : ∃ y, Hid (y = w5.alloc (.cells #[.int .i64 0, .int .i64 U] 27)) := ⟨_, rfl⟩; rw [← HW6.out] at bb6 hG6 hB6 b56 hs6 ⊢; clear hG5 hB5 bb5) | (go_at_call 85; refine (hun w4 bb4).out.mono ?_; rintro r w5 ⟨hb5, ps, po, np, cp, rfl, HNP, HPL, hRW, hOK⟩; have hB5 := hB4.below hb5 hB4.lt; have hG5 := hG4.below hb5 hG4.lt; have bb5 := bb4.trans (hb5.mono (by omega : B ≤ _)); have hs5 : G + 1 ≤ w5.heap.size := (by have := hb5.size; omega); clear hB4 hG4 bb4 hb5) | (go_at_call 21; refine (When_e false 5 0 _ rfl).mono ?_; rintro e wn ⟨rfl, rfl⟩) | (refine wl_storeV rfl 23 _ _ rfl 23 G rfl Z rfl 32 aggKey hZl Z hG3 hZl hZ1 ?_; intro w4 hG4 hb4 hs4; have hB4 := hB3.below hb4 (by omega); have bb4 := bb3.trans (hb4.mono (by omega : B ≤ _)); have hsz4 : G + 1 ≤ w4.heap.size := (by omega); clear hB3 bb3 hb4 hG3) | (refine wl_allocV rfl 23 rfl Z hzK.out w2.heap.size rfl ?_; intro w3 hG3 hb3 hs3; obtain ⟨G, HG⟩ : ∃ g, Hid (g = w2.heap.size) := ⟨_, rfl⟩; rw [← HG.out] at hG3 hb3 hs3; rw [← HG.out]; have hGB : B + 1 ≤ G := (by rw [HG.out]; exact hs2); have hB3 := hB2.below hb3 (by omega); have bb3 := bb2.trans (hb3.mono (by omega : B ≤ _)); clear hB2 bb2 hb3 hs2) | (go_at_call 147; refine (hop w1 hb1).out.mono ?_; rintro r w2 ⟨rfl, hb2⟩; have hB2 := hB1.below hb2 hB1.lt; have bb2 := hb1.trans (hb2.mono (by omega : B ≤ _)); have hs2 : B + 1 ≤ w2.heap.size := (by have := hb2.size; omega); clear hB1 hb1 hb2) | (refine wl_load rfl 23 _ rfl ⟨B, 0, none⟩ rfl K (by rw [hKl]; exact aggKey) hB1.at0 ?_) | (refine wl_boxV rfl 23 _ rfl K rfl B hsz ?_; intro w1 hB1 hb1 hs1) | (refine wl_load rfl 23 _ rfl ⟨G, 0, none⟩ rfl Z (by rw [hZl]; exact aggKey) hG7.at0 ?_) | (refine wl_build0 rfl 23 rfl Z HBK.out ?_) | (refine wl_eqM 80 rfl (by kernel_rfl) 23 _ _ _ rfl Z.toArray Z.toArray rfl rfl true (heZ.out _) (by kernel_rfl) ?_))
  go_ret
  exact ⟨rfl, by rw [← HB.out]; exact bb7⟩
set_option maxRecDepth 100000 in
set_option maxHeartbeats 8000000 in
theorem openPack_N (k b c : List Int) (bo : Option Addr) (bc n : Nat) (ao : Option Addr) (cap mc : Nat) (w : World) (hk : k.length = 32) (ok : Octs k) (hn : n = b.length) (HL : Pt.Ok w ⟨bo, bc, b⟩) (hmc : mc = c.length) (HP : Pt.Ok w ⟨ao, cap, c⟩) (hno : ao = none → cap = 0) (hmx : n ≤ 9223372036854775807) (h1 : ¬ 4096 < c.length) (h2 : unE b = 0) (h3 : findH k (unP b) 0 = none) :
    Calls Try.prog 84 #[.agg (k.map (Value.int .u8)).toArray, .slice bo n bc, .slice ao mc cap] w fun e w' => e = .returned (.bool true) ∧ Below w.heap.size w w' := by
  obtain ⟨B, HB⟩ : ∃ B, Hid (B = w.heap.size) := ⟨_, rfl⟩
  have hsz : w.heap.size = B := HB.out.symm
  obtain ⟨Z, HZ⟩ : ∃ Z, Hid (Z = (List.replicate 32 (0 : Int)).map (Value.int .u8)) := ⟨_, rfl⟩
  have hzK := hid zeroKey
  have HBK : Hid (Try.prog.built 23 [] = some ((List.replicate 32 (0 : Int)).map (Value.int .u8)).toArray) := hid (by kernel_rfl)
  rw [← HZ.out] at hzK HBK
  have hZl : Z.length = 32 := by rw [HZ.out]; simp
  have hZ1 : ∀ u ∈ Z, u.oneCell' = true := by rw [HZ.out]; exact ints_one _ _
  have heZ : Hid (∀ w, (Op.equalIn 10000 23 (.agg Z.toArray) (.agg Z.toArray)).run Try.prog w = .ok true w) := hid (fun w => by rw [HZ.out, run_eq_key w _ _ (by simp) (by simp)]; simp)
  have hop := fun (y : World) (hb : Below B w y) => hid (OpenPack_any k b c bo bc n ao cap mc y hk ok hn (HL.below (hsz ▸ hb)) hmc (HP.below (hsz ▸ hb)) hno hmx)
  have hun := fun (y : World) (hb : Below B w y) => hid (Unpacked_any bo bc n b y hn (HL.below (hsz ▸ hb)) hmx)
  unfold UnPost at hun
  obtain ⟨K, HK⟩ : ∃ K, Hid (K = k.map (Value.int .u8)) := ⟨_, rfl⟩
  have hKl : K.length = 32 := by rw [HK.out, List.length_map, hk]
  obtain ⟨U, HU⟩ : ∃ U, Hid (U = unE b) := ⟨_, rfl⟩
  simp only [← HU.out] at hun
  rw [opV_bad (opE_none h1 h2 h3) (by decide), ← HZ.out] at hop
  have hmI : ¬ (4096 : Int) < (mc : Int) := by omega
  have hmD : decide ((4096 : Int) < (mc : Int)) = false := decide_eq_false hmI
  obtain rfl : U = 0 := by rw [HU.out]; exact h2
  have hpz := packE_zero (unE_parts h2)
  have HR0 : Hid (∀ l ∈ unP b, readE l = 0) := hid hpz.2.2.1
  have HLN : Hid ((unP b).length ≤ 100) := hid hpz.2.1
  have HND : Hid (((unP b).map fun l => (readX l).b).Nodup) := hid hpz.2.2.2
  have H3 := hid h3
  have hzE := hid zeroEnv
  obtain ⟨ZE, HZE⟩ : ∃ Z, Hid (Z = env0.cs) := ⟨_, rfl⟩
  rw [← HZE.out] at hzE
  have hZEl : ZE.length = 130 := by rw [HZE.out]; exact env0_ok.csl
  have HKK := hid hk
  have HMC := hid hmc
  have HP0 := HP
  have hnm := fun w => hid (NameOf_any k hk ok w)
  obtain ⟨NV, HNV⟩ : ∃ V, Hid (V = (nameL k).map (Value.int .u8)) := ⟨_, rfl⟩
  have hu23 := Try.underlying23
  rw [← HNV.out] at hnm
  rw [← HK.out] at hop ⊢
  rw [← HK.out] at hnm
  have hi23 : (Try.prog.info? 23).map (·.size) = some K.length := by rw [hKl]; exact aggKey.2
  clear hk hn HL hmc HP h1 h2 h3 hpz
  go_enter Try.func84, Try.ntmps84
  go_wp2_with (first | (go_at_call 23; refine (First_e 0 0 0 w5 _ rfl (by rfl)).mono ?_; rintro e w6 ⟨rfl, rfl⟩; have bb6 : Below B w (w5.alloc (.cells #[.int .i64 0, .int .i64 0] 27)) := bb5.alloc (by omega) _; have hG6 := hG5.alloc (.cells #[.int .i64 0, .int .i64 0] 27); have hB6 := hB5.alloc (.cells #[.int .i64 0, .int .i64 0] 27); have b56 : Below w5.heap.size w5 (w5.alloc (.cells #[.int .i64 0, .int .i64 0] 27)) := (Below.refl _ _).alloc (Nat.le_refl _) _; have hs6 : G + 1 ≤ (w5.alloc (.cells #[.int .i64 0, .int .i64 0] 27)).heap.size := Nat.le_trans hs5 b56.size; obtain ⟨w6, HW6⟩ : ∃ y, Hid (y = w5.alloc (.cells #[.int .i64 0, .int .i64 0] 27)) := ⟨_, rfl⟩; rw [← HW6.out] at bb6 hG6 hB6 b56 hs6 ⊢; clear hG5 hB5 bb5) | (go_at_call 85; refine (hun w4 bb4).out.mono ?_; rintro r w5 ⟨hb5, ps, po, np, cp, rfl, HNP, HPL, hRW, hOK⟩; have hB5 := hB4.below hb5 hB4.lt; have hG5 := hG4.below hb5 hG4.lt; have bb5 := bb4.trans (hb5.mono (by omega : B ≤ _)); have hs5 : G + 1 ≤ w5.heap.size := (by have := hb5.size; omega); clear hB4 hG4 bb4 hb5) | (go_at_call 21; refine (When_e false 5 0 _ rfl).mono ?_; rintro e wn ⟨rfl, rfl⟩) | (refine wl_storeV rfl 23 _ _ rfl 23 G rfl Z rfl 32 aggKey hZl Z hG3 hZl hZ1 ?_; intro w4 hG4 hb4 hs4; have hB4 := hB3.below hb4 (by omega); have bb4 := bb3.trans (hb4.mono (by omega : B ≤ _)); have hsz4 : G + 1 ≤ w4.heap.size := (by omega); clear hB3 bb3 hb4 hG3) | (refine wl_allocV rfl 23 rfl Z hzK.out w2.heap.size rfl ?_; intro w3 hG3 hb3 hs3; obtain ⟨G, HG⟩ : ∃ g, Hid (g = w2.heap.size) := ⟨_, rfl⟩; rw [← HG.out] at hG3 hb3 hs3; rw [← HG.out]; have hGB : B + 1 ≤ G := (by rw [HG.out]; exact hs2); have hB3 := hB2.below hb3 (by omega); have bb3 := bb2.trans (hb3.mono (by omega : B ≤ _)); clear hB2 bb2 hb3 hs2) | (go_at_call 147; refine (hop w1 hb1).out.mono ?_; rintro r w2 ⟨rfl, hb2⟩; have hB2 := hB1.below hb2 hB1.lt; have bb2 := hb1.trans (hb2.mono (by omega : B ≤ _)); have hs2 : B + 1 ≤ w2.heap.size := (by have := hb2.size; omega); clear hB1 hb1 hb2) | (refine wl_load rfl 23 _ rfl ⟨B, 0, none⟩ rfl K (by rw [hKl]; exact aggKey) hB1.at0 ?_) | (refine wl_boxV rfl 23 _ rfl K rfl B hsz ?_; intro w1 hB1 hb1 hs1))
  have hnp : np ≤ 100 := by
    have h1 := congrArg List.length HPL.out
    rw [List.length_map] at h1
    have := HNP.out; have := HLN.out; omega
  have hRW6 := hRW.below b56
  have hOK6 : ∀ x ∈ ps, x.Ok w6 := fun x hx => (hOK x hx).below b56
  have hnr := fun w => hid (RefNameOf_any k HKK.out ok w)
  rw [← HK.out, ← HNV.out] at hnr
  clear hRW hOK b56
  go_loopw [13, 44] (fun at_ ix wr => ∃ j : Nat, j ≤ np ∧ ix = .int .i64 j ∧ at_ = .int .i64 (lastV none j) ∧ BlkV 23 wr B K ∧ BlkV 23 wr G Z ∧ Below B w wr ∧ Below w6.heap.size w6 wr) (fun _ i _ => np - (intOf i).toNat)
  case atStart => exact ⟨0, by omega, rfl, by rw [lastV_zero], hB6, hG6, bb6, Below.refl _ _⟩
  case round =>
    clear hB6 hG6 bb6
    obtain ⟨j, hj, rfl, rfl, hB, hG, hb, hb6⟩ := hrel
    by_cases hjn : j < np
    · have hjI : (j : Int) < (np : Int) := by omega
      have hjp : j < ps.length := by have := HNP.out; omega
      have hjm : j < (ps.map Pt.v).length := by rw [List.length_map]; exact hjp
      have hRWr := hRW6.below hb6
      obtain ⟨b1, o1, rfl, hb1', hc1⟩ := hRWr.resolve_left (by intro e; rw [e] at hjm; cases hjm)
      have hx := (hOK6 ps[j] (List.getElem_mem hjp)).below hb6
      have c1 := hc1 j _ (List.getElem?_eq_getElem hjm)
      rw [List.getElem_map] at c1
      have hjU : j < (unP b).length := by rw [← HPL.out, List.length_map]; exact hjp
      have HGD : Hid ((unP b).getD j [] = ps[j].l) := hid (by
        have e : (unP b)[j]? = some ps[j].l := by rw [← HPL.out, List.getElem?_map, List.getElem?_eq_getElem hjp]; rfl
        rw [List.getD_eq_getElem?_getD, e]; rfl)
      have HRE : Hid (readE ps[j].l = 0) := hid (by rw [← HGD.out]; exact HR0.out _ (getD_memL _ j hjU))
      generalize ps[j] = x at *
      obtain ⟨xa, xc, xl⟩ := x
      dsimp only at HRE HGD
      have hxo := readX_ok hx.oct HRE.out
      have hrd := RefRead_any xa xc xl.length xl wr rfl (fun _ => hx)
      rw [readV_ok HRE.out] at hrd
      unfold Pt.v at c1
      dsimp only at c1
      obtain ⟨mx, HMX⟩ : ∃ m, Hid (m = xl.length) := ⟨_, rfl⟩
      rw [← HMX.out] at c1 hrd
      obtain ⟨XB, HXB⟩ : ∃ V, Hid (V = (readX xl).b.map (Value.int .u8)) := ⟨_, rfl⟩
      have hXBl : XB.length = 16 := by rw [HXB.out, List.length_map, hxo.bl]
      have huI := Try.underlying57
      have hiI : (Try.prog.info? 57).map (·.size) = some XB.length := by rw [hXBl]; exact aggID.2
      have fB : Hid (∀ w G, BlkV 107 w G (readX xl).cs → At w ⟨G, 2, none⟩ XB) := hid (fun w G h => by rw [HXB.out]; exact env_b h)
      obtain ⟨CS, HCS⟩ : ∃ C, Hid (C = (readX xl).cs) := ⟨_, rfl⟩
      have hCl : CS.length = 130 := by rw [HCS.out]; exact hxo.csl
      have hC1 : ∀ u ∈ CS, u.oneCell' = true := by rw [HCS.out]; exact (readX xl).cs_one
      rw [← HCS.out] at hrd fB
      have hrd := hid hrd
      clear hc1 hjm hx hRWr
      cases hh : hitB k xl
      · skip
        have heN : Hid (∀ w, (Op.equalIn 10000 57 (.agg XB.toArray) (.agg NV.toArray)).run Try.prog w = .ok false w) := hid (fun w => by
          rw [HXB.out, HNV.out, run_eq_id w _ (nameL k) hxo.bl (nameL_length k)]
          have : ((readX xl).b == nameL k) = false := hh
          rw [this])
        have HST := lastV_step (k := k) HND.out hjU
        rw [HGD.out, hh, H3.out] at HST
        have HST := hid HST
        clear hh hxo HGD HRE
        go_wp2_with (first | (refine wl_storeV rfl 107 _ _ rfl 107 M rfl CS rfl 130 aggEnv hCl ZE hE2 hZEl hC1 ?_; intro y3 hE3 hy3 hsy3; have hBy3 := hBy2.below hy3 (by omega); have hGy3 := hGy2.below hy3 (by omega); have b6y3 := b6y2.trans (hy3.mono hM6); have by3 := by2.trans (hy3.mono (by omega : B ≤ _)); clear hBy2 hGy2 b6y2 by2 hy3 hE2) | (refine wl_allocV rfl 107 rfl ZE hzE.out y1.heap.size rfl ?_; intro y2 hE2 hy2 hsy2; obtain ⟨M, HM⟩ : ∃ g, Hid (g = y1.heap.size) := ⟨_, rfl⟩; rw [← HM.out] at hE2 hy2 hsy2; rw [← HM.out]; have hMG : G + 1 ≤ M := (by rw [HM.out]; exact hGy1.lt); have hM6 : w6.heap.size ≤ M := (by rw [HM.out]; exact b6y1.size); have hBy2 := hBy1.below hy2 (by omega); have hGy2 := hGy1.below hy2 (by omega); have b6y2 := b6y1.trans (hy2.mono hM6); have by2 := by1.trans (hy2.mono (by omega : B ≤ _)); clear hBy1 hGy1 b6y1 by1 hy2) | (go_at_call 72; refine hrd.out.mono ?_; rintro r y1 ⟨rfl, hy1⟩; have hBy1 := hB.below hy1 hB.lt; have hGy1 := hG.below hy1 hG.lt; have b6y1 := hb6.trans (hy1.mono hb6.size); have by1 := hb.trans (hy1.mono (by have := hG.lt; omega : B ≤ _)); clear hy1))
        refine wp_region_held_drew (S := (fun w' => BlkV 23 w' B K ∧ BlkV 107 w' M CS)) (by kernel_rfl) ⟨(show BlkV 23 y3.drew B K from hBy3), (show BlkV 107 y3.drew M CS from hE3)⟩ (fun hHeld => ?_)
        obtain ⟨y4, HY4⟩ : ∃ y, Hid (y = y3.drew) := ⟨_, rfl⟩
        rw [← HY4.out] at hHeld ⊢
        have hB4 : BlkV 23 y4 B K := by rw [HY4.out]; exact hBy3
        have hE4 : BlkV 107 y4 M CS := by rw [HY4.out]; exact hE3
        have hG4 : BlkV 23 y4 G Z := by rw [HY4.out]; exact hGy3
        have by4 : Below B w y4 := by rw [HY4.out]; exact by3.drew
        have b6y4 : Below w6.heap.size w6 y4 := by rw [HY4.out]; exact b6y3.drew
        clear hBy3 hE3 hGy3 by3 b6y3
        refine tkP 0 rfl (by assumption) ⟨?_, ?_, ?_⟩
        rotate_left
        · intro w hSw; (try dsimp only at hSw); go_simp; (try with_reducible rfl)
        try simp only [Act.put, sArr, sZ, sS]
        refine tkR 1 rfl (yieldsIf_load_mid (by rfl) 57 _ rfl M 2 rfl XB _ (fun w hS => at_range (fB.out w _ hS.2)) huI rfl hiI) (by assumption) ?_
        try simp only [Act.put, sArr, sZ, sS]
        refine tkR 2 rfl (yieldsIf_load_mid (by rfl) 23 _ rfl B 0 rfl K _ (fun w hS => at_range hS.1.at0) hu23 rfl hi23) (by assumption) ?_
        try simp only [Act.put, sArr, sZ, sS]
        refine wpAnyH_ready (rs := [3]) (by kernel_rfl) (by simp) (cons_l rfl (fun K' hK' => ?_) AllReadyH.nil)
        rw [if_pos (by kernel_rfl)]
        go_simp
        go_at_call 148
        refine (hnr y4).out.mono ?_
        rintro e y5 ⟨rfl, hbx5⟩
        have hB5 := hB4.below hbx5 hB4.lt
        have hE5 := hE4.below hbx5 hE4.lt
        have hG5 := hG4.below hbx5 hG4.lt
        have b6y5 := b6y4.trans (hbx5.mono b6y4.size)
        have by5 := by4.trans (hbx5.mono (by have := hG4.lt; omega : B ≤ _))
        refine hK'.out _ _ ⟨hB5, hE5⟩ (fun hHeld => ?_)
        clear hK' K'
        try simp only [Act.put, sArr, sZ, sS]
        refine tkR 4 rfl (yieldsIf_eqM' (by rfl) 57 _ _ _ rfl XB.toArray NV.toArray rfl rfl false heN.out (by kernel_rfl)) (by assumption) ?_
        try simp only [Act.put, sArr, sZ, sS]
        refine wpAnyH_done (by kernel_rfl) ?_ _
        clear hHeld
        go_wp2
        go_roundw
        case rel => exact ⟨j + 1, by omega, by go_num, by rw [HST.out]; rfl, hB5, hG5, by5, b6y5⟩
        case measure => simp [intOf] <;> omega
      · skip
        have heN : Hid (∀ w, (Op.equalIn 10000 57 (.agg XB.toArray) (.agg NV.toArray)).run Try.prog w = .ok true w) := hid (fun w => by
          rw [HXB.out, HNV.out, run_eq_id w _ (nameL k) hxo.bl (nameL_length k)]
          have : ((readX xl).b == nameL k) = true := hh
          rw [this])
        have HST := lastV_step (k := k) HND.out hjU
        rw [HGD.out, hh, H3.out] at HST
        have HST := hid HST
        clear hh hxo HGD HRE
        go_wp2_with (first | (refine wl_storeV rfl 107 _ _ rfl 107 M rfl CS rfl 130 aggEnv hCl ZE hE2 hZEl hC1 ?_; intro y3 hE3 hy3 hsy3; have hBy3 := hBy2.below hy3 (by omega); have hGy3 := hGy2.below hy3 (by omega); have b6y3 := b6y2.trans (hy3.mono hM6); have by3 := by2.trans (hy3.mono (by omega : B ≤ _)); clear hBy2 hGy2 b6y2 by2 hy3 hE2) | (refine wl_allocV rfl 107 rfl ZE hzE.out y1.heap.size rfl ?_; intro y2 hE2 hy2 hsy2; obtain ⟨M, HM⟩ : ∃ g, Hid (g = y1.heap.size) := ⟨_, rfl⟩; rw [← HM.out] at hE2 hy2 hsy2; rw [← HM.out]; have hMG : G + 1 ≤ M := (by rw [HM.out]; exact hGy1.lt); have hM6 : w6.heap.size ≤ M := (by rw [HM.out]; exact b6y1.size); have hBy2 := hBy1.below hy2 (by omega); have hGy2 := hGy1.below hy2 (by omega); have b6y2 := b6y1.trans (hy2.mono hM6); have by2 := by1.trans (hy2.mono (by omega : B ≤ _)); clear hBy1 hGy1 b6y1 by1 hy2) | (go_at_call 72; refine hrd.out.mono ?_; rintro r y1 ⟨rfl, hy1⟩; have hBy1 := hB.below hy1 hB.lt; have hGy1 := hG.below hy1 hG.lt; have b6y1 := hb6.trans (hy1.mono hb6.size); have by1 := hb.trans (hy1.mono (by have := hG.lt; omega : B ≤ _)); clear hy1))
        refine wp_region_held_drew (S := (fun w' => BlkV 23 w' B K ∧ BlkV 107 w' M CS)) (by kernel_rfl) ⟨(show BlkV 23 y3.drew B K from hBy3), (show BlkV 107 y3.drew M CS from hE3)⟩ (fun hHeld => ?_)
        obtain ⟨y4, HY4⟩ : ∃ y, Hid (y = y3.drew) := ⟨_, rfl⟩
        rw [← HY4.out] at hHeld ⊢
        have hB4 : BlkV 23 y4 B K := by rw [HY4.out]; exact hBy3
        have hE4 : BlkV 107 y4 M CS := by rw [HY4.out]; exact hE3
        have hG4 : BlkV 23 y4 G Z := by rw [HY4.out]; exact hGy3
        have by4 : Below B w y4 := by rw [HY4.out]; exact by3.drew
        have b6y4 : Below w6.heap.size w6 y4 := by rw [HY4.out]; exact b6y3.drew
        clear hBy3 hE3 hGy3 by3 b6y3
        refine tkP 0 rfl (by assumption) ⟨?_, ?_, ?_⟩
        rotate_left
        · intro w hSw; (try dsimp only at hSw); go_simp; (try with_reducible rfl)
        try simp only [Act.put, sArr, sZ, sS]
        refine tkR 1 rfl (yieldsIf_load_mid (by rfl) 57 _ rfl M 2 rfl XB _ (fun w hS => at_range (fB.out w _ hS.2)) huI rfl hiI) (by assumption) ?_
        try simp only [Act.put, sArr, sZ, sS]
        refine tkR 2 rfl (yieldsIf_load_mid (by rfl) 23 _ rfl B 0 rfl K _ (fun w hS => at_range hS.1.at0) hu23 rfl hi23) (by assumption) ?_
        try simp only [Act.put, sArr, sZ, sS]
        refine wpAnyH_ready (rs := [3]) (by kernel_rfl) (by simp) (cons_l rfl (fun K' hK' => ?_) AllReadyH.nil)
        rw [if_pos (by kernel_rfl)]
        go_simp
        go_at_call 148
        refine (hnr y4).out.mono ?_
        rintro e y5 ⟨rfl, hbx5⟩
        have hB5 := hB4.below hbx5 hB4.lt
        have hE5 := hE4.below hbx5 hE4.lt
        have hG5 := hG4.below hbx5 hG4.lt
        have b6y5 := b6y4.trans (hbx5.mono b6y4.size)
        have by5 := by4.trans (hbx5.mono (by have := hG4.lt; omega : B ≤ _))
        refine hK'.out _ _ ⟨hB5, hE5⟩ (fun hHeld => ?_)
        clear hK' K'
        try simp only [Act.put, sArr, sZ, sS]
        refine tkR 4 rfl (yieldsIf_eqM' (by rfl) 57 _ _ _ rfl XB.toArray NV.toArray rfl rfl true heN.out (by kernel_rfl)) (by assumption) ?_
        try simp only [Act.put, sArr, sZ, sS]
        refine wpAnyH_done (by kernel_rfl) ?_ _
        clear hHeld
        go_wp2
        go_roundw
        case rel => exact ⟨j + 1, by omega, by go_num, by rw [HST.out]; rfl, hB5, hG5, by5, b6y5⟩
        case measure => simp [intOf] <;> omega
    · obtain rfl : j = np := by omega
      rename World => wa
      have hsa : G + 1 ≤ wa.heap.size := hG.lt
      rw [show lastV none j = -1 from rfl]
      go_wp2_with (first | (refine wl_allocV rfl 23 rfl Z hzK.out wa.heap.size rfl ?_; intro w7 hH7 hb7 hs7; obtain ⟨H, HH⟩ : ∃ g, Hid (g = wa.heap.size) := ⟨_, rfl⟩; rw [← HH.out] at hH7 hb7 hs7; rw [← HH.out]; have hHG : G + 1 ≤ H := (by rw [HH.out]; exact hsa); have hG7 := hG.below hb7 (by omega); have hB7 := hB.below hb7 (by omega); have bb7 := hb.trans (hb7.mono (by omega : B ≤ _)); have b67 : Below H wa w7 := hb7; clear hG hB hb hb7) | (go_at_call 21; refine (When_e true 7 7 _ rfl).mono ?_; rintro e wn ⟨rfl, rfl⟩) | (refine wl_load rfl 23 _ rfl ⟨G, 0, none⟩ rfl Z (by rw [hZl]; exact aggKey) hG7.at0 ?_) | (refine wl_build0 rfl 23 rfl Z HBK.out ?_) | (refine wl_eqM 80 rfl (by kernel_rfl) 23 _ _ _ rfl Z.toArray Z.toArray rfl rfl true (heZ.out _) (by kernel_rfl) ?_))
      go_ret
      exact ⟨rfl, by rw [← HB.out]; exact bb7⟩
set_option maxRecDepth 100000 in
set_option maxHeartbeats 8000000 in
theorem openPack_U (k b c : List Int) (bo : Option Addr) (bc n : Nat) (ao : Option Addr) (cap mc : Nat) (w : World) (hk : k.length = 32) (ok : Octs k) (hn : n = b.length) (HL : Pt.Ok w ⟨bo, bc, b⟩) (hmc : mc = c.length) (HP : Pt.Ok w ⟨ao, cap, c⟩) (hno : ao = none → cap = 0) (hmx : n ≤ 9223372036854775807) (h1 : ¬ 4096 < c.length) (h2 : unE b = 0) (i : Nat) (h3 : findH k (unP b) 0 = some i) (h4 : unwrapE k ((unP b).getD i []) c ≠ 0) :
    Calls Try.prog 84 #[.agg (k.map (Value.int .u8)).toArray, .slice bo n bc, .slice ao mc cap] w fun e w' => e = .returned (.bool true) ∧ Below w.heap.size w w' := by
  obtain ⟨B, HB⟩ : ∃ B, Hid (B = w.heap.size) := ⟨_, rfl⟩
  have hsz : w.heap.size = B := HB.out.symm
  obtain ⟨Z, HZ⟩ : ∃ Z, Hid (Z = (List.replicate 32 (0 : Int)).map (Value.int .u8)) := ⟨_, rfl⟩
  have hzK := hid zeroKey
  have HBK : Hid (Try.prog.built 23 [] = some ((List.replicate 32 (0 : Int)).map (Value.int .u8)).toArray) := hid (by kernel_rfl)
  rw [← HZ.out] at hzK HBK
  have hZl : Z.length = 32 := by rw [HZ.out]; simp
  have hZ1 : ∀ u ∈ Z, u.oneCell' = true := by rw [HZ.out]; exact ints_one _ _
  have heZ : Hid (∀ w, (Op.equalIn 10000 23 (.agg Z.toArray) (.agg Z.toArray)).run Try.prog w = .ok true w) := hid (fun w => by rw [HZ.out, run_eq_key w _ _ (by simp) (by simp)]; simp)
  have hop := fun (y : World) (hb : Below B w y) => hid (OpenPack_any k b c bo bc n ao cap mc y hk ok hn (HL.below (hsz ▸ hb)) hmc (HP.below (hsz ▸ hb)) hno hmx)
  have hun := fun (y : World) (hb : Below B w y) => hid (Unpacked_any bo bc n b y hn (HL.below (hsz ▸ hb)) hmx)
  unfold UnPost at hun
  obtain ⟨K, HK⟩ : ∃ K, Hid (K = k.map (Value.int .u8)) := ⟨_, rfl⟩
  have hKl : K.length = 32 := by rw [HK.out, List.length_map, hk]
  obtain ⟨U, HU⟩ : ∃ U, Hid (U = unE b) := ⟨_, rfl⟩
  simp only [← HU.out] at hun
  rw [opV_bad (opE_some h1 h2 h3) h4, ← HZ.out] at hop
  have hmI : ¬ (4096 : Int) < (mc : Int) := by omega
  have hmD : decide ((4096 : Int) < (mc : Int)) = false := decide_eq_false hmI
  obtain rfl : U = 0 := by rw [HU.out]; exact h2
  have hpz := packE_zero (unE_parts h2)
  have HR0 : Hid (∀ l ∈ unP b, readE l = 0) := hid hpz.2.2.1
  have HLN : Hid ((unP b).length ≤ 100) := hid hpz.2.1
  have HND : Hid (((unP b).map fun l => (readX l).b).Nodup) := hid hpz.2.2.2
  have H3 := hid h3
  have hzE := hid zeroEnv
  obtain ⟨ZE, HZE⟩ : ∃ Z, Hid (Z = env0.cs) := ⟨_, rfl⟩
  rw [← HZE.out] at hzE
  have hZEl : ZE.length = 130 := by rw [HZE.out]; exact env0_ok.csl
  have HKK := hid hk
  have HMC := hid hmc
  have HP0 := HP
  have hnm := fun w => hid (NameOf_any k hk ok w)
  obtain ⟨NV, HNV⟩ : ∃ V, Hid (V = (nameL k).map (Value.int .u8)) := ⟨_, rfl⟩
  have hu23 := Try.underlying23
  obtain ⟨E, HEE⟩ : ∃ E, Hid (E = unwrapE k ((unP b).getD i []) c) := ⟨_, rfl⟩
  rw [← HEE.out] at hop
  have hE0 : ¬ E = 0 := by rw [HEE.out]; exact h4
  rw [← HNV.out] at hnm
  have H4 := hid h4
  rw [← HK.out] at hop ⊢
  rw [← HK.out] at hnm
  have hi23 : (Try.prog.info? 23).map (·.size) = some K.length := by rw [hKl]; exact aggKey.2
  clear hk hn HL hmc HP h1 h2 h3 hpz h4
  go_enter Try.func84, Try.ntmps84
  go_wp2_with (first | (go_at_call 23; refine (First_e 0 0 0 w5 _ rfl (by rfl)).mono ?_; rintro e w6 ⟨rfl, rfl⟩; have bb6 : Below B w (w5.alloc (.cells #[.int .i64 0, .int .i64 0] 27)) := bb5.alloc (by omega) _; have hG6 := hG5.alloc (.cells #[.int .i64 0, .int .i64 0] 27); have hB6 := hB5.alloc (.cells #[.int .i64 0, .int .i64 0] 27); have b56 : Below w5.heap.size w5 (w5.alloc (.cells #[.int .i64 0, .int .i64 0] 27)) := (Below.refl _ _).alloc (Nat.le_refl _) _; have hs6 : G + 1 ≤ (w5.alloc (.cells #[.int .i64 0, .int .i64 0] 27)).heap.size := Nat.le_trans hs5 b56.size; obtain ⟨w6, HW6⟩ : ∃ y, Hid (y = w5.alloc (.cells #[.int .i64 0, .int .i64 0] 27)) := ⟨_, rfl⟩; rw [← HW6.out] at bb6 hG6 hB6 b56 hs6 ⊢; clear hG5 hB5 bb5) | (go_at_call 85; refine (hun w4 bb4).out.mono ?_; rintro r w5 ⟨hb5, ps, po, np, cp, rfl, HNP, HPL, hRW, hOK⟩; have hB5 := hB4.below hb5 hB4.lt; have hG5 := hG4.below hb5 hG4.lt; have bb5 := bb4.trans (hb5.mono (by omega : B ≤ _)); have hs5 : G + 1 ≤ w5.heap.size := (by have := hb5.size; omega); clear hB4 hG4 bb4 hb5) | (go_at_call 21; refine (When_e false 5 0 _ rfl).mono ?_; rintro e wn ⟨rfl, rfl⟩) | (refine wl_storeV rfl 23 _ _ rfl 23 G rfl Z rfl 32 aggKey hZl Z hG3 hZl hZ1 ?_; intro w4 hG4 hb4 hs4; have hB4 := hB3.below hb4 (by omega); have bb4 := bb3.trans (hb4.mono (by omega : B ≤ _)); have hsz4 : G + 1 ≤ w4.heap.size := (by omega); clear hB3 bb3 hb4 hG3) | (refine wl_allocV rfl 23 rfl Z hzK.out w2.heap.size rfl ?_; intro w3 hG3 hb3 hs3; obtain ⟨G, HG⟩ : ∃ g, Hid (g = w2.heap.size) := ⟨_, rfl⟩; rw [← HG.out] at hG3 hb3 hs3; rw [← HG.out]; have hGB : B + 1 ≤ G := (by rw [HG.out]; exact hs2); have hB3 := hB2.below hb3 (by omega); have bb3 := bb2.trans (hb3.mono (by omega : B ≤ _)); clear hB2 bb2 hb3 hs2) | (go_at_call 147; refine (hop w1 hb1).out.mono ?_; rintro r w2 ⟨rfl, hb2⟩; have hB2 := hB1.below hb2 hB1.lt; have bb2 := hb1.trans (hb2.mono (by omega : B ≤ _)); have hs2 : B + 1 ≤ w2.heap.size := (by have := hb2.size; omega); clear hB1 hb1 hb2) | (refine wl_load rfl 23 _ rfl ⟨B, 0, none⟩ rfl K (by rw [hKl]; exact aggKey) hB1.at0 ?_) | (refine wl_boxV rfl 23 _ rfl K rfl B hsz ?_; intro w1 hB1 hb1 hs1))
  have hnp : np ≤ 100 := by
    have h1 := congrArg List.length HPL.out
    rw [List.length_map] at h1
    have := HNP.out; have := HLN.out; omega
  have hRW6 := hRW.below b56
  have hOK6 : ∀ x ∈ ps, x.Ok w6 := fun x hx => (hOK x hx).below b56
  have hnr := fun w => hid (RefNameOf_any k HKK.out ok w)
  rw [← HK.out, ← HNV.out] at hnr
  clear hRW hOK b56
  go_loopw [13, 44] (fun at_ ix wr => ∃ j : Nat, j ≤ np ∧ ix = .int .i64 j ∧ at_ = .int .i64 (lastV (some i) j) ∧ BlkV 23 wr B K ∧ BlkV 23 wr G Z ∧ Below B w wr ∧ Below w6.heap.size w6 wr) (fun _ i _ => np - (intOf i).toNat)
  case atStart => exact ⟨0, by omega, rfl, by rw [lastV_zero], hB6, hG6, bb6, Below.refl _ _⟩
  case round =>
    clear hB6 hG6 bb6
    obtain ⟨j, hj, rfl, rfl, hB, hG, hb, hb6⟩ := hrel
    by_cases hjn : j < np
    · have hjI : (j : Int) < (np : Int) := by omega
      have hjp : j < ps.length := by have := HNP.out; omega
      have hjm : j < (ps.map Pt.v).length := by rw [List.length_map]; exact hjp
      have hRWr := hRW6.below hb6
      obtain ⟨b1, o1, rfl, hb1', hc1⟩ := hRWr.resolve_left (by intro e; rw [e] at hjm; cases hjm)
      have hx := (hOK6 ps[j] (List.getElem_mem hjp)).below hb6
      have c1 := hc1 j _ (List.getElem?_eq_getElem hjm)
      rw [List.getElem_map] at c1
      have hjU : j < (unP b).length := by rw [← HPL.out, List.length_map]; exact hjp
      have HGD : Hid ((unP b).getD j [] = ps[j].l) := hid (by
        have e : (unP b)[j]? = some ps[j].l := by rw [← HPL.out, List.getElem?_map, List.getElem?_eq_getElem hjp]; rfl
        rw [List.getD_eq_getElem?_getD, e]; rfl)
      have HRE : Hid (readE ps[j].l = 0) := hid (by rw [← HGD.out]; exact HR0.out _ (getD_memL _ j hjU))
      generalize ps[j] = x at *
      obtain ⟨xa, xc, xl⟩ := x
      dsimp only at HRE HGD
      have hxo := readX_ok hx.oct HRE.out
      have hrd := RefRead_any xa xc xl.length xl wr rfl (fun _ => hx)
      rw [readV_ok HRE.out] at hrd
      unfold Pt.v at c1
      dsimp only at c1
      obtain ⟨mx, HMX⟩ : ∃ m, Hid (m = xl.length) := ⟨_, rfl⟩
      rw [← HMX.out] at c1 hrd
      obtain ⟨XB, HXB⟩ : ∃ V, Hid (V = (readX xl).b.map (Value.int .u8)) := ⟨_, rfl⟩
      have hXBl : XB.length = 16 := by rw [HXB.out, List.length_map, hxo.bl]
      have huI := Try.underlying57
      have hiI : (Try.prog.info? 57).map (·.size) = some XB.length := by rw [hXBl]; exact aggID.2
      have fB : Hid (∀ w G, BlkV 107 w G (readX xl).cs → At w ⟨G, 2, none⟩ XB) := hid (fun w G h => by rw [HXB.out]; exact env_b h)
      obtain ⟨CS, HCS⟩ : ∃ C, Hid (C = (readX xl).cs) := ⟨_, rfl⟩
      have hCl : CS.length = 130 := by rw [HCS.out]; exact hxo.csl
      have hC1 : ∀ u ∈ CS, u.oneCell' = true := by rw [HCS.out]; exact (readX xl).cs_one
      rw [← HCS.out] at hrd fB
      have hrd := hid hrd
      clear hc1 hjm hx hRWr
      cases hh : hitB k xl
      · skip
        have heN : Hid (∀ w, (Op.equalIn 10000 57 (.agg XB.toArray) (.agg NV.toArray)).run Try.prog w = .ok false w) := hid (fun w => by
          rw [HXB.out, HNV.out, run_eq_id w _ (nameL k) hxo.bl (nameL_length k)]
          have : ((readX xl).b == nameL k) = false := hh
          rw [this])
        have HST := lastV_step (k := k) HND.out hjU
        rw [HGD.out, hh, H3.out] at HST
        have HST := hid HST
        clear hh hxo HGD HRE
        go_wp2_with (first | (refine wl_storeV rfl 107 _ _ rfl 107 M rfl CS rfl 130 aggEnv hCl ZE hE2 hZEl hC1 ?_; intro y3 hE3 hy3 hsy3; have hBy3 := hBy2.below hy3 (by omega); have hGy3 := hGy2.below hy3 (by omega); have b6y3 := b6y2.trans (hy3.mono hM6); have by3 := by2.trans (hy3.mono (by omega : B ≤ _)); clear hBy2 hGy2 b6y2 by2 hy3 hE2) | (refine wl_allocV rfl 107 rfl ZE hzE.out y1.heap.size rfl ?_; intro y2 hE2 hy2 hsy2; obtain ⟨M, HM⟩ : ∃ g, Hid (g = y1.heap.size) := ⟨_, rfl⟩; rw [← HM.out] at hE2 hy2 hsy2; rw [← HM.out]; have hMG : G + 1 ≤ M := (by rw [HM.out]; exact hGy1.lt); have hM6 : w6.heap.size ≤ M := (by rw [HM.out]; exact b6y1.size); have hBy2 := hBy1.below hy2 (by omega); have hGy2 := hGy1.below hy2 (by omega); have b6y2 := b6y1.trans (hy2.mono hM6); have by2 := by1.trans (hy2.mono (by omega : B ≤ _)); clear hBy1 hGy1 b6y1 by1 hy2) | (go_at_call 72; refine hrd.out.mono ?_; rintro r y1 ⟨rfl, hy1⟩; have hBy1 := hB.below hy1 hB.lt; have hGy1 := hG.below hy1 hG.lt; have b6y1 := hb6.trans (hy1.mono hb6.size); have by1 := hb.trans (hy1.mono (by have := hG.lt; omega : B ≤ _)); clear hy1))
        refine wp_region_held_drew (S := (fun w' => BlkV 23 w' B K ∧ BlkV 107 w' M CS)) (by kernel_rfl) ⟨(show BlkV 23 y3.drew B K from hBy3), (show BlkV 107 y3.drew M CS from hE3)⟩ (fun hHeld => ?_)
        obtain ⟨y4, HY4⟩ : ∃ y, Hid (y = y3.drew) := ⟨_, rfl⟩
        rw [← HY4.out] at hHeld ⊢
        have hB4 : BlkV 23 y4 B K := by rw [HY4.out]; exact hBy3
        have hE4 : BlkV 107 y4 M CS := by rw [HY4.out]; exact hE3
        have hG4 : BlkV 23 y4 G Z := by rw [HY4.out]; exact hGy3
        have by4 : Below B w y4 := by rw [HY4.out]; exact by3.drew
        have b6y4 : Below w6.heap.size w6 y4 := by rw [HY4.out]; exact b6y3.drew
        clear hBy3 hE3 hGy3 by3 b6y3
        refine tkP 0 rfl (by assumption) ⟨?_, ?_, ?_⟩
        rotate_left
        · intro w hSw; (try dsimp only at hSw); go_simp; (try with_reducible rfl)
        try simp only [Act.put, sArr, sZ, sS]
        refine tkR 1 rfl (yieldsIf_load_mid (by rfl) 57 _ rfl M 2 rfl XB _ (fun w hS => at_range (fB.out w _ hS.2)) huI rfl hiI) (by assumption) ?_
        try simp only [Act.put, sArr, sZ, sS]
        refine tkR 2 rfl (yieldsIf_load_mid (by rfl) 23 _ rfl B 0 rfl K _ (fun w hS => at_range hS.1.at0) hu23 rfl hi23) (by assumption) ?_
        try simp only [Act.put, sArr, sZ, sS]
        refine wpAnyH_ready (rs := [3]) (by kernel_rfl) (by simp) (cons_l rfl (fun K' hK' => ?_) AllReadyH.nil)
        rw [if_pos (by kernel_rfl)]
        go_simp
        go_at_call 148
        refine (hnr y4).out.mono ?_
        rintro e y5 ⟨rfl, hbx5⟩
        have hB5 := hB4.below hbx5 hB4.lt
        have hE5 := hE4.below hbx5 hE4.lt
        have hG5 := hG4.below hbx5 hG4.lt
        have b6y5 := b6y4.trans (hbx5.mono b6y4.size)
        have by5 := by4.trans (hbx5.mono (by have := hG4.lt; omega : B ≤ _))
        refine hK'.out _ _ ⟨hB5, hE5⟩ (fun hHeld => ?_)
        clear hK' K'
        try simp only [Act.put, sArr, sZ, sS]
        refine tkR 4 rfl (yieldsIf_eqM' (by rfl) 57 _ _ _ rfl XB.toArray NV.toArray rfl rfl false heN.out (by kernel_rfl)) (by assumption) ?_
        try simp only [Act.put, sArr, sZ, sS]
        refine wpAnyH_done (by kernel_rfl) ?_ _
        clear hHeld
        go_wp2
        go_roundw
        case rel => exact ⟨j + 1, by omega, by go_num, by rw [HST.out]; rfl, hB5, hG5, by5, b6y5⟩
        case measure => simp [intOf] <;> omega
      · skip
        have heN : Hid (∀ w, (Op.equalIn 10000 57 (.agg XB.toArray) (.agg NV.toArray)).run Try.prog w = .ok true w) := hid (fun w => by
          rw [HXB.out, HNV.out, run_eq_id w _ (nameL k) hxo.bl (nameL_length k)]
          have : ((readX xl).b == nameL k) = true := hh
          rw [this])
        have HST := lastV_step (k := k) HND.out hjU
        rw [HGD.out, hh, H3.out] at HST
        have HST := hid HST
        clear hh hxo HGD HRE
        go_wp2_with (first | (refine wl_storeV rfl 107 _ _ rfl 107 M rfl CS rfl 130 aggEnv hCl ZE hE2 hZEl hC1 ?_; intro y3 hE3 hy3 hsy3; have hBy3 := hBy2.below hy3 (by omega); have hGy3 := hGy2.below hy3 (by omega); have b6y3 := b6y2.trans (hy3.mono hM6); have by3 := by2.trans (hy3.mono (by omega : B ≤ _)); clear hBy2 hGy2 b6y2 by2 hy3 hE2) | (refine wl_allocV rfl 107 rfl ZE hzE.out y1.heap.size rfl ?_; intro y2 hE2 hy2 hsy2; obtain ⟨M, HM⟩ : ∃ g, Hid (g = y1.heap.size) := ⟨_, rfl⟩; rw [← HM.out] at hE2 hy2 hsy2; rw [← HM.out]; have hMG : G + 1 ≤ M := (by rw [HM.out]; exact hGy1.lt); have hM6 : w6.heap.size ≤ M := (by rw [HM.out]; exact b6y1.size); have hBy2 := hBy1.below hy2 (by omega); have hGy2 := hGy1.below hy2 (by omega); have b6y2 := b6y1.trans (hy2.mono hM6); have by2 := by1.trans (hy2.mono (by omega : B ≤ _)); clear hBy1 hGy1 b6y1 by1 hy2) | (go_at_call 72; refine hrd.out.mono ?_; rintro r y1 ⟨rfl, hy1⟩; have hBy1 := hB.below hy1 hB.lt; have hGy1 := hG.below hy1 hG.lt; have b6y1 := hb6.trans (hy1.mono hb6.size); have by1 := hb.trans (hy1.mono (by have := hG.lt; omega : B ≤ _)); clear hy1))
        refine wp_region_held_drew (S := (fun w' => BlkV 23 w' B K ∧ BlkV 107 w' M CS)) (by kernel_rfl) ⟨(show BlkV 23 y3.drew B K from hBy3), (show BlkV 107 y3.drew M CS from hE3)⟩ (fun hHeld => ?_)
        obtain ⟨y4, HY4⟩ : ∃ y, Hid (y = y3.drew) := ⟨_, rfl⟩
        rw [← HY4.out] at hHeld ⊢
        have hB4 : BlkV 23 y4 B K := by rw [HY4.out]; exact hBy3
        have hE4 : BlkV 107 y4 M CS := by rw [HY4.out]; exact hE3
        have hG4 : BlkV 23 y4 G Z := by rw [HY4.out]; exact hGy3
        have by4 : Below B w y4 := by rw [HY4.out]; exact by3.drew
        have b6y4 : Below w6.heap.size w6 y4 := by rw [HY4.out]; exact b6y3.drew
        clear hBy3 hE3 hGy3 by3 b6y3
        refine tkP 0 rfl (by assumption) ⟨?_, ?_, ?_⟩
        rotate_left
        · intro w hSw; (try dsimp only at hSw); go_simp; (try with_reducible rfl)
        try simp only [Act.put, sArr, sZ, sS]
        refine tkR 1 rfl (yieldsIf_load_mid (by rfl) 57 _ rfl M 2 rfl XB _ (fun w hS => at_range (fB.out w _ hS.2)) huI rfl hiI) (by assumption) ?_
        try simp only [Act.put, sArr, sZ, sS]
        refine tkR 2 rfl (yieldsIf_load_mid (by rfl) 23 _ rfl B 0 rfl K _ (fun w hS => at_range hS.1.at0) hu23 rfl hi23) (by assumption) ?_
        try simp only [Act.put, sArr, sZ, sS]
        refine wpAnyH_ready (rs := [3]) (by kernel_rfl) (by simp) (cons_l rfl (fun K' hK' => ?_) AllReadyH.nil)
        rw [if_pos (by kernel_rfl)]
        go_simp
        go_at_call 148
        refine (hnr y4).out.mono ?_
        rintro e y5 ⟨rfl, hbx5⟩
        have hB5 := hB4.below hbx5 hB4.lt
        have hE5 := hE4.below hbx5 hE4.lt
        have hG5 := hG4.below hbx5 hG4.lt
        have b6y5 := b6y4.trans (hbx5.mono b6y4.size)
        have by5 := by4.trans (hbx5.mono (by have := hG4.lt; omega : B ≤ _))
        refine hK'.out _ _ ⟨hB5, hE5⟩ (fun hHeld => ?_)
        clear hK' K'
        try simp only [Act.put, sArr, sZ, sS]
        refine tkR 4 rfl (yieldsIf_eqM' (by rfl) 57 _ _ _ rfl XB.toArray NV.toArray rfl rfl true heN.out (by kernel_rfl)) (by assumption) ?_
        try simp only [Act.put, sArr, sZ, sS]
        refine wpAnyH_done (by kernel_rfl) ?_ _
        clear hHeld
        go_wp2
        go_roundw
        case rel => exact ⟨j + 1, by omega, by go_num, by rw [HST.out]; rfl, hB5, hG5, by5, b6y5⟩
        case measure => simp [intOf] <;> omega
    · obtain rfl : j = np := by omega
      rename World => wa
      have hsa : G + 1 ≤ wa.heap.size := hG.lt
      have hij : i < j := by
        have h1 := (findH_hit k _ 0 i H3.out).2.1
        have h2 := congrArg List.length HPL.out
        rw [List.length_map] at h2
        have := HNP.out; omega
      have hL : lastV (some i) j = (i : Int) := by unfold lastV; dsimp only; rw [if_pos hij]
      rw [hL]
      have hijI : (i : Int) < (j : Int) := by omega
      have hi0 : ¬ (i : Int) < 0 := by omega
      have hiD : decide ((i : Int) < 0) = false := decide_eq_false hi0
      have hiI0 : (0 : Int) ≤ (i : Int) := by omega
      have hjp : i < ps.length := by have := HNP.out; omega
      have hjm : i < (ps.map Pt.v).length := by rw [List.length_map]; exact hjp
      have hRWr := hRW6.below hb6
      obtain ⟨b1, o1, rfl, hb1', hc1⟩ := hRWr.resolve_left (by intro e; rw [e] at hjm; cases hjm)
      have hx := (hOK6 ps[i] (List.getElem_mem hjp)).below hb6
      have c1 := hc1 i _ (List.getElem?_eq_getElem hjm)
      rw [List.getElem_map] at c1
      have HGD : Hid ((unP b).getD i [] = ps[i].l) := hid (by
        have e : (unP b)[i]? = some ps[i].l := by rw [← HPL.out, List.getElem?_map, List.getElem?_eq_getElem hjp]; rfl
        rw [List.getD_eq_getElem?_getD, e]; rfl)
      generalize ps[i] = x at *
      obtain ⟨xa, xc, xl⟩ := x
      dsimp only at HGD
      have huw := fun (y : World) (h : Below wa.heap.size wa y) => Unwrapped_any k xl c xa xc xl.length ao cap mc y HKK.out ok rfl (hx.below h) HMC.out (HP0.below (by rw [hsz]; exact hb.trans (h.mono (by have := hb.size; omega)))) hno
      unfold Pt.v at c1
      dsimp only at c1
      obtain ⟨mx, HMX⟩ : ∃ m, Hid (m = xl.length) := ⟨_, rfl⟩
      rw [← HMX.out] at c1 huw
      unfold unwrapV at huw
      rw [← HK.out] at huw
      have H5 := H4.out
      rw [HGD.out] at H5
      have hus : unwrapS k xl c = List.replicate 32 0 := by unfold unwrapS; rw [if_neg H5]
      have hEx : unwrapE k xl c = E := by rw [HEE.out, HGD.out]
      rw [hus, ← HZ.out, hEx] at huw
      clear hus hEx H5
      have huw := fun y h => hid (huw y h)
      clear hc1 hjm hx hRWr
      go_wp2_with (first | (refine wl_allocV rfl 23 rfl Z hzK.out wa.heap.size rfl ?_; intro w7 hH7 hb7 hs7; obtain ⟨H, HH⟩ : ∃ g, Hid (g = wa.heap.size) := ⟨_, rfl⟩; rw [← HH.out] at hH7 hb7 hs7; rw [← HH.out]; have hHG : G + 1 ≤ H := (by rw [HH.out]; exact hsa); have hG7 := hG.below hb7 (by omega); have hB7 := hB.below hb7 (by omega); have bb7 := hb.trans (hb7.mono (by omega : B ≤ _)); have b67 : Below H wa w7 := hb7; have c7 := (hb7.cell (p := ⟨b1, o1 + i, none⟩) (show b1 < _ by rw [HH.out]; exact hb1')).trans c1; clear hG hB hb hb7) | (go_at_call 21; refine (When_e false 7 0 _ rfl).mono ?_; rintro e wn ⟨rfl, rfl⟩))
      refine wp_region_held_drew (S := (fun w' => BlkV 23 w' B K ∧ w'.cell? ⟨b1, o1 + i, none⟩ = some (.slice xa mx xc))) (by kernel_rfl) ⟨(show BlkV 23 w7.drew B K from hB7), c7⟩ (fun hHeld => ?_)
      obtain ⟨z0, HZ0⟩ : ∃ y, Hid (y = w7.drew) := ⟨_, rfl⟩
      rw [← HZ0.out] at hHeld ⊢
      have hB0 : BlkV 23 z0 B K := by rw [HZ0.out]; exact hB7
      have hG0 : BlkV 23 z0 G Z := by rw [HZ0.out]; exact hG7
      have hH0 : BlkV 23 z0 H Z := by rw [HZ0.out]; exact hH7
      have c0 : z0.cell? ⟨b1, o1 + i, none⟩ = some (.slice xa mx xc) := by rw [HZ0.out]; exact c7
      have bz0 : Below B w z0 := by rw [HZ0.out]; exact bb7.drew
      have bw0 : Below wa.heap.size wa z0 := by rw [HZ0.out, ← HH.out]; exact b67.drew
      have hbH : b1 < H := by rw [HH.out]; exact hb1'
      clear hB7 hG7 hH7 bb7 b67 c7 c1
      refine tkR 0 rfl (yieldsIf_load_mid (by rfl) 23 _ rfl B 0 rfl K _ (fun w hS => at_range hS.1.at0) hu23 rfl hi23) (by assumption) ?_
      try simp only [Act.put, sArr, sZ, sS]
      refine tkP 1 rfl (by assumption) ⟨?_, ?_, ?_⟩
      rotate_left
      · intro w hSw; (try dsimp only at hSw); go_simp; (try with_reducible rfl)
      try simp only [Act.put, sArr, sZ, sS]
      refine tkP 2 rfl (by assumption) ⟨?_, ?_, ?_⟩
      rotate_left
      · intro w hSw; (try dsimp only at hSw); go_simp; (try with_reducible rfl)
      try simp only [Act.put, sArr, sZ, sS]
      refine tkP 3 rfl (by assumption) ⟨?_, ?_, ?_⟩
      rotate_left
      · intro w hSw; (try dsimp only at hSw); go_simp; (try with_reducible rfl)
      try simp only [Act.put, sArr, sZ, sS]
      refine tkP 4 rfl (by assumption) ⟨.slice xa mx xc, ?_, ?_⟩
      · intro w hSw; have cc := hSw.2; (try dsimp only at hSw); go_simp; (try with_reducible rfl)
      try simp only [Act.put, sArr, sZ, sS]
      refine tkP 5 rfl (by assumption) ⟨?_, ?_, ?_⟩
      rotate_left
      · intro w hSw; (try dsimp only at hSw); go_simp; (try with_reducible rfl)
      try simp only [Act.put, sArr, sZ, sS]
      refine wpAnyH_ready (rs := [6]) (by kernel_rfl) (by simp) (cons_l rfl (fun K' hK' => ?_) AllReadyH.nil)
      rw [if_pos (by kernel_rfl)]
      go_simp
      go_at_call 149
      refine (huw z0 bw0).out.mono ?_
      rintro e z1 ⟨rfl, hz1⟩
      have hB1 := hB0.below hz1 hB0.lt
      have hG1 := hG0.below hz1 hG0.lt
      have hH1 := hH0.below hz1 hH0.lt
      have bz1 := bz0.trans (hz1.mono (by have := hG0.lt; omega : B ≤ _))
      have c1 := (hz1.cell (p := ⟨b1, o1 + i, none⟩) (by show b1 < _; have := hH0.lt; omega)).trans c0
      refine hK'.out _ _ ⟨hB1, c1⟩ (fun hHeld => ?_)
      clear hK' K'
      try simp only [Act.put, sArr, sZ, sS]
      refine tkP 7 rfl (by assumption) ⟨?_, ?_, ?_⟩
      rotate_left
      · intro w hSw; (try dsimp only at hSw); go_simp; (try with_reducible rfl)
      try simp only [Act.put, sArr, sZ, sS]
      refine tkP 8 rfl (by assumption) ⟨?_, ?_, ?_⟩
      rotate_left
      · intro w hSw; (try dsimp only at hSw); go_simp; (try with_reducible rfl)
      try simp only [Act.put, sArr, sZ, sS]
      refine tkP 9 rfl (by assumption) ⟨?_, ?_, ?_⟩
      rotate_left
      · intro w hSw; (try dsimp only at hSw); go_simp; (try with_reducible rfl)
      try simp only [Act.put, sArr, sZ, sS]
      refine wpAnyH_ready (rs := [10]) (by kernel_rfl) (by simp) (cons_l rfl (fun K' hK' => ?_) AllReadyH.nil)
      refine step_storeV rfl 23 _ _ rfl 23 H rfl Z rfl 32 aggKey hZl Z hH1 hZl hZ1 ?_
      intro z2 hH2 hz2 hsz2
      have hB2 := hB1.below hz2 (by omega)
      have hG2 := hG1.below hz2 (by omega)
      have bz2 := bz1.trans (hz2.mono (by omega : B ≤ _))
      have c2 := (hz2.cell (p := ⟨b1, o1 + i, none⟩) (by show b1 < _; omega)).trans c1
      refine hK'.out _ _ ⟨hB2, c2⟩ (fun hHeld => ?_)
      clear hK' K'
      try simp only [Act.put, sArr, sZ, sS]
      refine tkP 11 rfl (by assumption) ⟨?_, ?_, ?_⟩
      rotate_left
      · intro w hSw; (try dsimp only at hSw); go_simp; (try with_reducible rfl)
      try simp only [Act.put, sArr, sZ, sS]
      refine wpAnyH_done (by kernel_rfl) ?_ _
      clear hHeld
      go_wp2_with (first | (refine wl_load rfl 23 _ rfl ⟨G, 0, none⟩ rfl Z (by rw [hZl]; exact aggKey) hG2.at0 ?_) | (refine wl_build0 rfl 23 rfl Z HBK.out ?_) | (refine wl_eqM 80 rfl (by kernel_rfl) 23 _ _ _ rfl Z.toArray Z.toArray rfl rfl true (heZ.out _) (by kernel_rfl) ?_))
      go_ret
      exact ⟨rfl, by rw [← HB.out]; exact bz2⟩
set_option maxRecDepth 100000 in
set_option maxHeartbeats 8000000 in
theorem openPack_G (k b c : List Int) (bo : Option Addr) (bc n : Nat) (ao : Option Addr) (cap mc : Nat) (w : World) (hk : k.length = 32) (ok : Octs k) (hn : n = b.length) (HL : Pt.Ok w ⟨bo, bc, b⟩) (hmc : mc = c.length) (HP : Pt.Ok w ⟨ao, cap, c⟩) (hno : ao = none → cap = 0) (hmx : n ≤ 9223372036854775807) (HSX : Hid (∀ l ∈ unP b, (secretX k (readX l)).length = 32)) (h1 : ¬ 4096 < c.length) (h2 : unE b = 0) (i : Nat) (h3 : findH k (unP b) 0 = some i) (h4 : unwrapE k ((unP b).getD i []) c = 0) :
    Calls Try.prog 84 #[.agg (k.map (Value.int .u8)).toArray, .slice bo n bc, .slice ao mc cap] w fun e w' => e = .returned (.bool true) ∧ Below w.heap.size w w' := by
  obtain ⟨B, HB⟩ : ∃ B, Hid (B = w.heap.size) := ⟨_, rfl⟩
  have hsz : w.heap.size = B := HB.out.symm
  obtain ⟨Z, HZ⟩ : ∃ Z, Hid (Z = (List.replicate 32 (0 : Int)).map (Value.int .u8)) := ⟨_, rfl⟩
  have hzK := hid zeroKey
  have HBK : Hid (Try.prog.built 23 [] = some ((List.replicate 32 (0 : Int)).map (Value.int .u8)).toArray) := hid (by kernel_rfl)
  rw [← HZ.out] at hzK HBK
  have hZl : Z.length = 32 := by rw [HZ.out]; simp
  have hZ1 : ∀ u ∈ Z, u.oneCell' = true := by rw [HZ.out]; exact ints_one _ _
  have heZ : Hid (∀ w, (Op.equalIn 10000 23 (.agg Z.toArray) (.agg Z.toArray)).run Try.prog w = .ok true w) := hid (fun w => by rw [HZ.out, run_eq_key w _ _ (by simp) (by simp)]; simp)
  have hop := fun (y : World) (hb : Below B w y) => hid (OpenPack_any k b c bo bc n ao cap mc y hk ok hn (HL.below (hsz ▸ hb)) hmc (HP.below (hsz ▸ hb)) hno hmx)
  have hun := fun (y : World) (hb : Below B w y) => hid (Unpacked_any bo bc n b y hn (HL.below (hsz ▸ hb)) hmx)
  unfold UnPost at hun
  obtain ⟨K, HK⟩ : ∃ K, Hid (K = k.map (Value.int .u8)) := ⟨_, rfl⟩
  have hKl : K.length = 32 := by rw [HK.out, List.length_map, hk]
  obtain ⟨U, HU⟩ : ∃ U, Hid (U = unE b) := ⟨_, rfl⟩
  simp only [← HU.out] at hun
  rw [opV_some h1 h2 h3 h4] at hop
  have hmI : ¬ (4096 : Int) < (mc : Int) := by omega
  have hmD : decide ((4096 : Int) < (mc : Int)) = false := decide_eq_false hmI
  obtain rfl : U = 0 := by rw [HU.out]; exact h2
  have hpz := packE_zero (unE_parts h2)
  have HR0 : Hid (∀ l ∈ unP b, readE l = 0) := hid hpz.2.2.1
  have HLN : Hid ((unP b).length ≤ 100) := hid hpz.2.1
  have HND : Hid (((unP b).map fun l => (readX l).b).Nodup) := hid hpz.2.2.2
  have H3 := hid h3
  have hzE := hid zeroEnv
  obtain ⟨ZE, HZE⟩ : ∃ Z, Hid (Z = env0.cs) := ⟨_, rfl⟩
  rw [← HZE.out] at hzE
  have hZEl : ZE.length = 130 := by rw [HZE.out]; exact env0_ok.csl
  have HKK := hid hk
  have HMC := hid hmc
  have HP0 := HP
  have hnm := fun w => hid (NameOf_any k hk ok w)
  obtain ⟨NV, HNV⟩ : ∃ V, Hid (V = (nameL k).map (Value.int .u8)) := ⟨_, rfl⟩
  have hu23 := Try.underlying23
  obtain ⟨S, HS⟩ : ∃ S, Hid (S = (unwrapS k ((unP b).getD i []) c).map (Value.int .u8)) := ⟨_, rfl⟩
  have hiU : i < (unP b).length := by have := (findH_hit k _ 0 i h3).2.1; omega
  have hSL : (unwrapS k ((unP b).getD i []) c).length = 32 := by
    unfold unwrapS; rw [if_pos h4]
    exact HSX.out _ (getD_memL _ i hiU)
  have hSl : S.length = 32 := by rw [HS.out, List.length_map, hSL]
  have hS1 : ∀ u ∈ S, u.oneCell' = true := by rw [HS.out]; exact ints_one _ _
  have heS : Hid (∀ w, (Op.equalIn 10000 23 (.agg S.toArray) (.agg S.toArray)).run Try.prog w = .ok true w) := hid (fun w => by rw [HS.out, run_eq_key w _ _ hSL hSL]; simp)
  rw [← HS.out] at hop
  rw [← HNV.out] at hnm
  have H4 := hid h4
  rw [← HK.out] at hop ⊢
  rw [← HK.out] at hnm
  have hi23 : (Try.prog.info? 23).map (·.size) = some K.length := by rw [hKl]; exact aggKey.2
  clear hk hn HL hmc HP h1 h2 h3 hpz h4 hSL
  go_enter Try.func84, Try.ntmps84
  go_wp2_with (first | (go_at_call 23; refine (First_e 0 0 0 w5 _ rfl (by rfl)).mono ?_; rintro e w6 ⟨rfl, rfl⟩; have bb6 : Below B w (w5.alloc (.cells #[.int .i64 0, .int .i64 0] 27)) := bb5.alloc (by omega) _; have hG6 := hG5.alloc (.cells #[.int .i64 0, .int .i64 0] 27); have hB6 := hB5.alloc (.cells #[.int .i64 0, .int .i64 0] 27); have b56 : Below w5.heap.size w5 (w5.alloc (.cells #[.int .i64 0, .int .i64 0] 27)) := (Below.refl _ _).alloc (Nat.le_refl _) _; have hs6 : G + 1 ≤ (w5.alloc (.cells #[.int .i64 0, .int .i64 0] 27)).heap.size := Nat.le_trans hs5 b56.size; obtain ⟨w6, HW6⟩ : ∃ y, Hid (y = w5.alloc (.cells #[.int .i64 0, .int .i64 0] 27)) := ⟨_, rfl⟩; rw [← HW6.out] at bb6 hG6 hB6 b56 hs6 ⊢; clear hG5 hB5 bb5) | (go_at_call 85; refine (hun w4 bb4).out.mono ?_; rintro r w5 ⟨hb5, ps, po, np, cp, rfl, HNP, HPL, hRW, hOK⟩; have hB5 := hB4.below hb5 hB4.lt; have hG5 := hG4.below hb5 hG4.lt; have bb5 := bb4.trans (hb5.mono (by omega : B ≤ _)); have hs5 : G + 1 ≤ w5.heap.size := (by have := hb5.size; omega); clear hB4 hG4 bb4 hb5) | (go_at_call 21; refine (When_e false 5 0 _ rfl).mono ?_; rintro e wn ⟨rfl, rfl⟩) | (refine wl_storeV rfl 23 _ _ rfl 23 G rfl S rfl 32 aggKey hSl Z hG3 hZl hS1 ?_; intro w4 hG4 hb4 hs4; have hB4 := hB3.below hb4 (by omega); have bb4 := bb3.trans (hb4.mono (by omega : B ≤ _)); have hsz4 : G + 1 ≤ w4.heap.size := (by omega); clear hB3 bb3 hb4 hG3) | (refine wl_allocV rfl 23 rfl Z hzK.out w2.heap.size rfl ?_; intro w3 hG3 hb3 hs3; obtain ⟨G, HG⟩ : ∃ g, Hid (g = w2.heap.size) := ⟨_, rfl⟩; rw [← HG.out] at hG3 hb3 hs3; rw [← HG.out]; have hGB : B + 1 ≤ G := (by rw [HG.out]; exact hs2); have hB3 := hB2.below hb3 (by omega); have bb3 := bb2.trans (hb3.mono (by omega : B ≤ _)); clear hB2 bb2 hb3 hs2) | (go_at_call 147; refine (hop w1 hb1).out.mono ?_; rintro r w2 ⟨rfl, hb2⟩; have hB2 := hB1.below hb2 hB1.lt; have bb2 := hb1.trans (hb2.mono (by omega : B ≤ _)); have hs2 : B + 1 ≤ w2.heap.size := (by have := hb2.size; omega); clear hB1 hb1 hb2) | (refine wl_load rfl 23 _ rfl ⟨B, 0, none⟩ rfl K (by rw [hKl]; exact aggKey) hB1.at0 ?_) | (refine wl_boxV rfl 23 _ rfl K rfl B hsz ?_; intro w1 hB1 hb1 hs1))
  have hnp : np ≤ 100 := by
    have h1 := congrArg List.length HPL.out
    rw [List.length_map] at h1
    have := HNP.out; have := HLN.out; omega
  have hRW6 := hRW.below b56
  have hOK6 : ∀ x ∈ ps, x.Ok w6 := fun x hx => (hOK x hx).below b56
  have hnr := fun w => hid (RefNameOf_any k HKK.out ok w)
  rw [← HK.out, ← HNV.out] at hnr
  clear hRW hOK b56
  go_loopw [13, 44] (fun at_ ix wr => ∃ j : Nat, j ≤ np ∧ ix = .int .i64 j ∧ at_ = .int .i64 (lastV (some i) j) ∧ BlkV 23 wr B K ∧ BlkV 23 wr G S ∧ Below B w wr ∧ Below w6.heap.size w6 wr) (fun _ i _ => np - (intOf i).toNat)
  case atStart => exact ⟨0, by omega, rfl, by rw [lastV_zero], hB6, hG6, bb6, Below.refl _ _⟩
  case round =>
    clear hB6 hG6 bb6
    obtain ⟨j, hj, rfl, rfl, hB, hG, hb, hb6⟩ := hrel
    by_cases hjn : j < np
    · have hjI : (j : Int) < (np : Int) := by omega
      have hjp : j < ps.length := by have := HNP.out; omega
      have hjm : j < (ps.map Pt.v).length := by rw [List.length_map]; exact hjp
      have hRWr := hRW6.below hb6
      obtain ⟨b1, o1, rfl, hb1', hc1⟩ := hRWr.resolve_left (by intro e; rw [e] at hjm; cases hjm)
      have hx := (hOK6 ps[j] (List.getElem_mem hjp)).below hb6
      have c1 := hc1 j _ (List.getElem?_eq_getElem hjm)
      rw [List.getElem_map] at c1
      have hjU : j < (unP b).length := by rw [← HPL.out, List.length_map]; exact hjp
      have HGD : Hid ((unP b).getD j [] = ps[j].l) := hid (by
        have e : (unP b)[j]? = some ps[j].l := by rw [← HPL.out, List.getElem?_map, List.getElem?_eq_getElem hjp]; rfl
        rw [List.getD_eq_getElem?_getD, e]; rfl)
      have HRE : Hid (readE ps[j].l = 0) := hid (by rw [← HGD.out]; exact HR0.out _ (getD_memL _ j hjU))
      generalize ps[j] = x at *
      obtain ⟨xa, xc, xl⟩ := x
      dsimp only at HRE HGD
      have hxo := readX_ok hx.oct HRE.out
      have hrd := RefRead_any xa xc xl.length xl wr rfl (fun _ => hx)
      rw [readV_ok HRE.out] at hrd
      unfold Pt.v at c1
      dsimp only at c1
      obtain ⟨mx, HMX⟩ : ∃ m, Hid (m = xl.length) := ⟨_, rfl⟩
      rw [← HMX.out] at c1 hrd
      obtain ⟨XB, HXB⟩ : ∃ V, Hid (V = (readX xl).b.map (Value.int .u8)) := ⟨_, rfl⟩
      have hXBl : XB.length = 16 := by rw [HXB.out, List.length_map, hxo.bl]
      have huI := Try.underlying57
      have hiI : (Try.prog.info? 57).map (·.size) = some XB.length := by rw [hXBl]; exact aggID.2
      have fB : Hid (∀ w G, BlkV 107 w G (readX xl).cs → At w ⟨G, 2, none⟩ XB) := hid (fun w G h => by rw [HXB.out]; exact env_b h)
      obtain ⟨CS, HCS⟩ : ∃ C, Hid (C = (readX xl).cs) := ⟨_, rfl⟩
      have hCl : CS.length = 130 := by rw [HCS.out]; exact hxo.csl
      have hC1 : ∀ u ∈ CS, u.oneCell' = true := by rw [HCS.out]; exact (readX xl).cs_one
      rw [← HCS.out] at hrd fB
      have hrd := hid hrd
      clear hc1 hjm hx hRWr
      cases hh : hitB k xl
      · skip
        have heN : Hid (∀ w, (Op.equalIn 10000 57 (.agg XB.toArray) (.agg NV.toArray)).run Try.prog w = .ok false w) := hid (fun w => by
          rw [HXB.out, HNV.out, run_eq_id w _ (nameL k) hxo.bl (nameL_length k)]
          have : ((readX xl).b == nameL k) = false := hh
          rw [this])
        have HST := lastV_step (k := k) HND.out hjU
        rw [HGD.out, hh, H3.out] at HST
        have HST := hid HST
        clear hh hxo HGD HRE
        go_wp2_with (first | (refine wl_storeV rfl 107 _ _ rfl 107 M rfl CS rfl 130 aggEnv hCl ZE hE2 hZEl hC1 ?_; intro y3 hE3 hy3 hsy3; have hBy3 := hBy2.below hy3 (by omega); have hGy3 := hGy2.below hy3 (by omega); have b6y3 := b6y2.trans (hy3.mono hM6); have by3 := by2.trans (hy3.mono (by omega : B ≤ _)); clear hBy2 hGy2 b6y2 by2 hy3 hE2) | (refine wl_allocV rfl 107 rfl ZE hzE.out y1.heap.size rfl ?_; intro y2 hE2 hy2 hsy2; obtain ⟨M, HM⟩ : ∃ g, Hid (g = y1.heap.size) := ⟨_, rfl⟩; rw [← HM.out] at hE2 hy2 hsy2; rw [← HM.out]; have hMG : G + 1 ≤ M := (by rw [HM.out]; exact hGy1.lt); have hM6 : w6.heap.size ≤ M := (by rw [HM.out]; exact b6y1.size); have hBy2 := hBy1.below hy2 (by omega); have hGy2 := hGy1.below hy2 (by omega); have b6y2 := b6y1.trans (hy2.mono hM6); have by2 := by1.trans (hy2.mono (by omega : B ≤ _)); clear hBy1 hGy1 b6y1 by1 hy2) | (go_at_call 72; refine hrd.out.mono ?_; rintro r y1 ⟨rfl, hy1⟩; have hBy1 := hB.below hy1 hB.lt; have hGy1 := hG.below hy1 hG.lt; have b6y1 := hb6.trans (hy1.mono hb6.size); have by1 := hb.trans (hy1.mono (by have := hG.lt; omega : B ≤ _)); clear hy1))
        refine wp_region_held_drew (S := (fun w' => BlkV 23 w' B K ∧ BlkV 107 w' M CS)) (by kernel_rfl) ⟨(show BlkV 23 y3.drew B K from hBy3), (show BlkV 107 y3.drew M CS from hE3)⟩ (fun hHeld => ?_)
        obtain ⟨y4, HY4⟩ : ∃ y, Hid (y = y3.drew) := ⟨_, rfl⟩
        rw [← HY4.out] at hHeld ⊢
        have hB4 : BlkV 23 y4 B K := by rw [HY4.out]; exact hBy3
        have hE4 : BlkV 107 y4 M CS := by rw [HY4.out]; exact hE3
        have hG4 : BlkV 23 y4 G S := by rw [HY4.out]; exact hGy3
        have by4 : Below B w y4 := by rw [HY4.out]; exact by3.drew
        have b6y4 : Below w6.heap.size w6 y4 := by rw [HY4.out]; exact b6y3.drew
        clear hBy3 hE3 hGy3 by3 b6y3
        refine tkP 0 rfl (by assumption) ⟨?_, ?_, ?_⟩
        rotate_left
        · intro w hSw; (try dsimp only at hSw); go_simp; (try with_reducible rfl)
        try simp only [Act.put, sArr, sZ, sS]
        refine tkR 1 rfl (yieldsIf_load_mid (by rfl) 57 _ rfl M 2 rfl XB _ (fun w hS => at_range (fB.out w _ hS.2)) huI rfl hiI) (by assumption) ?_
        try simp only [Act.put, sArr, sZ, sS]
        refine tkR 2 rfl (yieldsIf_load_mid (by rfl) 23 _ rfl B 0 rfl K _ (fun w hS => at_range hS.1.at0) hu23 rfl hi23) (by assumption) ?_
        try simp only [Act.put, sArr, sZ, sS]
        refine wpAnyH_ready (rs := [3]) (by kernel_rfl) (by simp) (cons_l rfl (fun K' hK' => ?_) AllReadyH.nil)
        rw [if_pos (by kernel_rfl)]
        go_simp
        go_at_call 148
        refine (hnr y4).out.mono ?_
        rintro e y5 ⟨rfl, hbx5⟩
        have hB5 := hB4.below hbx5 hB4.lt
        have hE5 := hE4.below hbx5 hE4.lt
        have hG5 := hG4.below hbx5 hG4.lt
        have b6y5 := b6y4.trans (hbx5.mono b6y4.size)
        have by5 := by4.trans (hbx5.mono (by have := hG4.lt; omega : B ≤ _))
        refine hK'.out _ _ ⟨hB5, hE5⟩ (fun hHeld => ?_)
        clear hK' K'
        try simp only [Act.put, sArr, sZ, sS]
        refine tkR 4 rfl (yieldsIf_eqM' (by rfl) 57 _ _ _ rfl XB.toArray NV.toArray rfl rfl false heN.out (by kernel_rfl)) (by assumption) ?_
        try simp only [Act.put, sArr, sZ, sS]
        refine wpAnyH_done (by kernel_rfl) ?_ _
        clear hHeld
        go_wp2
        go_roundw
        case rel => exact ⟨j + 1, by omega, by go_num, by rw [HST.out]; rfl, hB5, hG5, by5, b6y5⟩
        case measure => simp [intOf] <;> omega
      · skip
        have heN : Hid (∀ w, (Op.equalIn 10000 57 (.agg XB.toArray) (.agg NV.toArray)).run Try.prog w = .ok true w) := hid (fun w => by
          rw [HXB.out, HNV.out, run_eq_id w _ (nameL k) hxo.bl (nameL_length k)]
          have : ((readX xl).b == nameL k) = true := hh
          rw [this])
        have HST := lastV_step (k := k) HND.out hjU
        rw [HGD.out, hh, H3.out] at HST
        have HST := hid HST
        clear hh hxo HGD HRE
        go_wp2_with (first | (refine wl_storeV rfl 107 _ _ rfl 107 M rfl CS rfl 130 aggEnv hCl ZE hE2 hZEl hC1 ?_; intro y3 hE3 hy3 hsy3; have hBy3 := hBy2.below hy3 (by omega); have hGy3 := hGy2.below hy3 (by omega); have b6y3 := b6y2.trans (hy3.mono hM6); have by3 := by2.trans (hy3.mono (by omega : B ≤ _)); clear hBy2 hGy2 b6y2 by2 hy3 hE2) | (refine wl_allocV rfl 107 rfl ZE hzE.out y1.heap.size rfl ?_; intro y2 hE2 hy2 hsy2; obtain ⟨M, HM⟩ : ∃ g, Hid (g = y1.heap.size) := ⟨_, rfl⟩; rw [← HM.out] at hE2 hy2 hsy2; rw [← HM.out]; have hMG : G + 1 ≤ M := (by rw [HM.out]; exact hGy1.lt); have hM6 : w6.heap.size ≤ M := (by rw [HM.out]; exact b6y1.size); have hBy2 := hBy1.below hy2 (by omega); have hGy2 := hGy1.below hy2 (by omega); have b6y2 := b6y1.trans (hy2.mono hM6); have by2 := by1.trans (hy2.mono (by omega : B ≤ _)); clear hBy1 hGy1 b6y1 by1 hy2) | (go_at_call 72; refine hrd.out.mono ?_; rintro r y1 ⟨rfl, hy1⟩; have hBy1 := hB.below hy1 hB.lt; have hGy1 := hG.below hy1 hG.lt; have b6y1 := hb6.trans (hy1.mono hb6.size); have by1 := hb.trans (hy1.mono (by have := hG.lt; omega : B ≤ _)); clear hy1))
        refine wp_region_held_drew (S := (fun w' => BlkV 23 w' B K ∧ BlkV 107 w' M CS)) (by kernel_rfl) ⟨(show BlkV 23 y3.drew B K from hBy3), (show BlkV 107 y3.drew M CS from hE3)⟩ (fun hHeld => ?_)
        obtain ⟨y4, HY4⟩ : ∃ y, Hid (y = y3.drew) := ⟨_, rfl⟩
        rw [← HY4.out] at hHeld ⊢
        have hB4 : BlkV 23 y4 B K := by rw [HY4.out]; exact hBy3
        have hE4 : BlkV 107 y4 M CS := by rw [HY4.out]; exact hE3
        have hG4 : BlkV 23 y4 G S := by rw [HY4.out]; exact hGy3
        have by4 : Below B w y4 := by rw [HY4.out]; exact by3.drew
        have b6y4 : Below w6.heap.size w6 y4 := by rw [HY4.out]; exact b6y3.drew
        clear hBy3 hE3 hGy3 by3 b6y3
        refine tkP 0 rfl (by assumption) ⟨?_, ?_, ?_⟩
        rotate_left
        · intro w hSw; (try dsimp only at hSw); go_simp; (try with_reducible rfl)
        try simp only [Act.put, sArr, sZ, sS]
        refine tkR 1 rfl (yieldsIf_load_mid (by rfl) 57 _ rfl M 2 rfl XB _ (fun w hS => at_range (fB.out w _ hS.2)) huI rfl hiI) (by assumption) ?_
        try simp only [Act.put, sArr, sZ, sS]
        refine tkR 2 rfl (yieldsIf_load_mid (by rfl) 23 _ rfl B 0 rfl K _ (fun w hS => at_range hS.1.at0) hu23 rfl hi23) (by assumption) ?_
        try simp only [Act.put, sArr, sZ, sS]
        refine wpAnyH_ready (rs := [3]) (by kernel_rfl) (by simp) (cons_l rfl (fun K' hK' => ?_) AllReadyH.nil)
        rw [if_pos (by kernel_rfl)]
        go_simp
        go_at_call 148
        refine (hnr y4).out.mono ?_
        rintro e y5 ⟨rfl, hbx5⟩
        have hB5 := hB4.below hbx5 hB4.lt
        have hE5 := hE4.below hbx5 hE4.lt
        have hG5 := hG4.below hbx5 hG4.lt
        have b6y5 := b6y4.trans (hbx5.mono b6y4.size)
        have by5 := by4.trans (hbx5.mono (by have := hG4.lt; omega : B ≤ _))
        refine hK'.out _ _ ⟨hB5, hE5⟩ (fun hHeld => ?_)
        clear hK' K'
        try simp only [Act.put, sArr, sZ, sS]
        refine tkR 4 rfl (yieldsIf_eqM' (by rfl) 57 _ _ _ rfl XB.toArray NV.toArray rfl rfl true heN.out (by kernel_rfl)) (by assumption) ?_
        try simp only [Act.put, sArr, sZ, sS]
        refine wpAnyH_done (by kernel_rfl) ?_ _
        clear hHeld
        go_wp2
        go_roundw
        case rel => exact ⟨j + 1, by omega, by go_num, by rw [HST.out]; rfl, hB5, hG5, by5, b6y5⟩
        case measure => simp [intOf] <;> omega
    · obtain rfl : j = np := by omega
      rename World => wa
      have hsa : G + 1 ≤ wa.heap.size := hG.lt
      have hij : i < j := by
        have h1 := (findH_hit k _ 0 i H3.out).2.1
        have h2 := congrArg List.length HPL.out
        rw [List.length_map] at h2
        have := HNP.out; omega
      have hL : lastV (some i) j = (i : Int) := by unfold lastV; dsimp only; rw [if_pos hij]
      rw [hL]
      have hijI : (i : Int) < (j : Int) := by omega
      have hi0 : ¬ (i : Int) < 0 := by omega
      have hiD : decide ((i : Int) < 0) = false := decide_eq_false hi0
      have hiI0 : (0 : Int) ≤ (i : Int) := by omega
      have hjp : i < ps.length := by have := HNP.out; omega
      have hjm : i < (ps.map Pt.v).length := by rw [List.length_map]; exact hjp
      have hRWr := hRW6.below hb6
      obtain ⟨b1, o1, rfl, hb1', hc1⟩ := hRWr.resolve_left (by intro e; rw [e] at hjm; cases hjm)
      have hx := (hOK6 ps[i] (List.getElem_mem hjp)).below hb6
      have c1 := hc1 i _ (List.getElem?_eq_getElem hjm)
      rw [List.getElem_map] at c1
      have HGD : Hid ((unP b).getD i [] = ps[i].l) := hid (by
        have e : (unP b)[i]? = some ps[i].l := by rw [← HPL.out, List.getElem?_map, List.getElem?_eq_getElem hjp]; rfl
        rw [List.getD_eq_getElem?_getD, e]; rfl)
      generalize ps[i] = x at *
      obtain ⟨xa, xc, xl⟩ := x
      dsimp only at HGD
      have huw := fun (y : World) (h : Below wa.heap.size wa y) => Unwrapped_any k xl c xa xc xl.length ao cap mc y HKK.out ok rfl (hx.below h) HMC.out (HP0.below (by rw [hsz]; exact hb.trans (h.mono (by have := hb.size; omega)))) hno
      unfold Pt.v at c1
      dsimp only at c1
      obtain ⟨mx, HMX⟩ : ∃ m, Hid (m = xl.length) := ⟨_, rfl⟩
      rw [← HMX.out] at c1 huw
      unfold unwrapV at huw
      rw [← HK.out] at huw
      have H5 := H4.out
      rw [HGD.out] at H5
      rw [H5, ← HGD.out, ← HS.out] at huw
      clear H5
      have huw := fun y h => hid (huw y h)
      clear hc1 hjm hx hRWr
      go_wp2_with (first | (refine wl_allocV rfl 23 rfl Z hzK.out wa.heap.size rfl ?_; intro w7 hH7 hb7 hs7; obtain ⟨H, HH⟩ : ∃ g, Hid (g = wa.heap.size) := ⟨_, rfl⟩; rw [← HH.out] at hH7 hb7 hs7; rw [← HH.out]; have hHG : G + 1 ≤ H := (by rw [HH.out]; exact hsa); have hG7 := hG.below hb7 (by omega); have hB7 := hB.below hb7 (by omega); have bb7 := hb.trans (hb7.mono (by omega : B ≤ _)); have b67 : Below H wa w7 := hb7; have c7 := (hb7.cell (p := ⟨b1, o1 + i, none⟩) (show b1 < _ by rw [HH.out]; exact hb1')).trans c1; clear hG hB hb hb7) | (go_at_call 21; refine (When_e false 7 0 _ rfl).mono ?_; rintro e wn ⟨rfl, rfl⟩))
      refine wp_region_held_drew (S := (fun w' => BlkV 23 w' B K ∧ w'.cell? ⟨b1, o1 + i, none⟩ = some (.slice xa mx xc))) (by kernel_rfl) ⟨(show BlkV 23 w7.drew B K from hB7), c7⟩ (fun hHeld => ?_)
      obtain ⟨z0, HZ0⟩ : ∃ y, Hid (y = w7.drew) := ⟨_, rfl⟩
      rw [← HZ0.out] at hHeld ⊢
      have hB0 : BlkV 23 z0 B K := by rw [HZ0.out]; exact hB7
      have hG0 : BlkV 23 z0 G S := by rw [HZ0.out]; exact hG7
      have hH0 : BlkV 23 z0 H Z := by rw [HZ0.out]; exact hH7
      have c0 : z0.cell? ⟨b1, o1 + i, none⟩ = some (.slice xa mx xc) := by rw [HZ0.out]; exact c7
      have bz0 : Below B w z0 := by rw [HZ0.out]; exact bb7.drew
      have bw0 : Below wa.heap.size wa z0 := by rw [HZ0.out, ← HH.out]; exact b67.drew
      have hbH : b1 < H := by rw [HH.out]; exact hb1'
      clear hB7 hG7 hH7 bb7 b67 c7 c1
      refine tkR 0 rfl (yieldsIf_load_mid (by rfl) 23 _ rfl B 0 rfl K _ (fun w hS => at_range hS.1.at0) hu23 rfl hi23) (by assumption) ?_
      try simp only [Act.put, sArr, sZ, sS]
      refine tkP 1 rfl (by assumption) ⟨?_, ?_, ?_⟩
      rotate_left
      · intro w hSw; (try dsimp only at hSw); go_simp; (try with_reducible rfl)
      try simp only [Act.put, sArr, sZ, sS]
      refine tkP 2 rfl (by assumption) ⟨?_, ?_, ?_⟩
      rotate_left
      · intro w hSw; (try dsimp only at hSw); go_simp; (try with_reducible rfl)
      try simp only [Act.put, sArr, sZ, sS]
      refine tkP 3 rfl (by assumption) ⟨?_, ?_, ?_⟩
      rotate_left
      · intro w hSw; (try dsimp only at hSw); go_simp; (try with_reducible rfl)
      try simp only [Act.put, sArr, sZ, sS]
      refine tkP 4 rfl (by assumption) ⟨.slice xa mx xc, ?_, ?_⟩
      · intro w hSw; have cc := hSw.2; (try dsimp only at hSw); go_simp; (try with_reducible rfl)
      try simp only [Act.put, sArr, sZ, sS]
      refine tkP 5 rfl (by assumption) ⟨?_, ?_, ?_⟩
      rotate_left
      · intro w hSw; (try dsimp only at hSw); go_simp; (try with_reducible rfl)
      try simp only [Act.put, sArr, sZ, sS]
      refine wpAnyH_ready (rs := [6]) (by kernel_rfl) (by simp) (cons_l rfl (fun K' hK' => ?_) AllReadyH.nil)
      rw [if_pos (by kernel_rfl)]
      go_simp
      go_at_call 149
      refine (huw z0 bw0).out.mono ?_
      rintro e z1 ⟨rfl, hz1⟩
      have hB1 := hB0.below hz1 hB0.lt
      have hG1 := hG0.below hz1 hG0.lt
      have hH1 := hH0.below hz1 hH0.lt
      have bz1 := bz0.trans (hz1.mono (by have := hG0.lt; omega : B ≤ _))
      have c1 := (hz1.cell (p := ⟨b1, o1 + i, none⟩) (by show b1 < _; have := hH0.lt; omega)).trans c0
      refine hK'.out _ _ ⟨hB1, c1⟩ (fun hHeld => ?_)
      clear hK' K'
      try simp only [Act.put, sArr, sZ, sS]
      refine tkP 7 rfl (by assumption) ⟨?_, ?_, ?_⟩
      rotate_left
      · intro w hSw; (try dsimp only at hSw); go_simp; (try with_reducible rfl)
      try simp only [Act.put, sArr, sZ, sS]
      refine tkP 8 rfl (by assumption) ⟨?_, ?_, ?_⟩
      rotate_left
      · intro w hSw; (try dsimp only at hSw); go_simp; (try with_reducible rfl)
      try simp only [Act.put, sArr, sZ, sS]
      refine tkP 9 rfl (by assumption) ⟨?_, ?_, ?_⟩
      rotate_left
      · intro w hSw; (try dsimp only at hSw); go_simp; (try with_reducible rfl)
      try simp only [Act.put, sArr, sZ, sS]
      refine wpAnyH_ready (rs := [10]) (by kernel_rfl) (by simp) (cons_l rfl (fun K' hK' => ?_) AllReadyH.nil)
      refine step_storeV rfl 23 _ _ rfl 23 H rfl S rfl 32 aggKey hSl Z hH1 hZl hS1 ?_
      intro z2 hH2 hz2 hsz2
      have hB2 := hB1.below hz2 (by omega)
      have hG2 := hG1.below hz2 (by omega)
      have bz2 := bz1.trans (hz2.mono (by omega : B ≤ _))
      have c2 := (hz2.cell (p := ⟨b1, o1 + i, none⟩) (by show b1 < _; omega)).trans c1
      refine hK'.out _ _ ⟨hB2, c2⟩ (fun hHeld => ?_)
      clear hK' K'
      try simp only [Act.put, sArr, sZ, sS]
      refine tkP 11 rfl (by assumption) ⟨?_, ?_, ?_⟩
      rotate_left
      · intro w hSw; (try dsimp only at hSw); go_simp; (try with_reducible rfl)
      try simp only [Act.put, sArr, sZ, sS]
      refine wpAnyH_done (by kernel_rfl) ?_ _
      clear hHeld
      go_wp2_with (first | (refine wl_loadD 93 rfl (by rfl) 23 _ rfl ⟨G, 0, none⟩ rfl 32 S hSl aggKey hG2.at0 ?_) | (refine wl_loadD 94 rfl (by rfl) 23 _ rfl ⟨H, 0, none⟩ rfl 32 S hSl aggKey hH2.at0 ?_) | (refine wl_eqM 95 rfl (by kernel_rfl) 23 _ _ _ rfl S.toArray S.toArray rfl rfl true (heS.out _) (by kernel_rfl) ?_))
      go_ret
      exact ⟨rfl, by rw [← HB.out]; exact bz2⟩
end Go.Proofs.Ytbljihhelladbaa.wr
