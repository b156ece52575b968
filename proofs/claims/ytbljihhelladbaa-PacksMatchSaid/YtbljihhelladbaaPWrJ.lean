/-
  Envelopes read: the plain form; contracts of mix.room and mix.Number. Conditions: a slice of octets that lies in memory.
-/
import Derived.Test.YtbljihhelladbaaPWrH
import Derived.Test.YtbljihhelladbaaPHld
namespace Go.Proofs.Ytbljihhelladbaa.wr
open Go.RowKit Go.Proofs.Ytbljihhelladbaa.st Go.Proofs.Ytbljihhelladbaa.hs Go.Proofs.Ytbljihhelladbaa.shr Go.Proofs.Ytbljihhelladbaa.sh
set_option linter.unusedSimpArgs false
set_option linter.unusedVariables false
set_option pp.maxSteps 6000
def seg (l : List Int) (k n : Nat) : List Int := (l.drop k).take n
theorem seg_length {l : List Int} {k n : Nat} (h : k + n ≤ l.length) : (seg l k n).length = n := by unfold seg; rw [List.length_take, List.length_drop]; omega
theorem seg_octs {l : List Int} (h : Octs l) (k n : Nat) : Octs (seg l k n) := fun c hc => h c (List.mem_of_mem_drop (List.mem_of_mem_take hc))
theorem seg_get? (l : List Int) (k n i : Nat) (h : i < n) : (seg l k n)[i]? = l[k + i]? := by unfold seg; rw [List.getElem?_take, if_pos h, List.getElem?_drop]
theorem seg_four {l : List Int} {k : Nat} (h : k + 4 ≤ l.length) : seg l k 4 = [l.getD k 0, l.getD (k + 1) 0, l.getD (k + 2) 0, l.getD (k + 3) 0] := by
  apply List.ext_getElem?
  intro i
  by_cases hi : i < 4
  · rw [seg_get? l k 4 i hi, List.getElem?_eq_getElem (by omega)]
    have : i = 0 ∨ i = 1 ∨ i = 2 ∨ i = 3 := by omega
    rcases this with rfl | rfl | rfl | rfl <;> simp [List.getD_eq_getElem?_getD, List.getElem?_eq_getElem (show k + 0 < l.length by omega), List.getElem?_eq_getElem (show k < l.length by omega), List.getElem?_eq_getElem (show k + 1 < l.length by omega), List.getElem?_eq_getElem (show k + 2 < l.length by omega), List.getElem?_eq_getElem (show k + 3 < l.length by omega)]
  · rw [List.getElem?_eq_none (by rw [seg_length h]; omega), List.getElem?_eq_none (by simp; omega)]
theorem seg_at {w : World} {b off : Nat} {l : List Int} (hc : ∀ i, i < l.length → w.cell? ⟨b, off + i, none⟩ = some (.int .u8 (l.getD i 0))) {k n : Nat} (h : k + n ≤ l.length) : At w ⟨b, off + k, none⟩ ((seg l k n).map (Value.int .u8)) := fun j u hu => by
  have hj : j < n := by have := (List.getElem?_eq_some_iff.1 hu).1; rw [List.length_map, seg_length h] at this; exact this
  rw [addr_add, Nat.add_assoc, hc (k + j) (by omega), ← hu, List.getElem?_map, seg_get? l k n j hj, List.getElem?_eq_getElem (by omega), getD_lt' l 0 (by omega)]
  rfl
def kww : List Int := [75, 87, 87]
theorem kww_octs : Octs kww := by
  intro c hc
  unfold kww at hc
  simp only [List.mem_cons, List.not_mem_nil, or_false] at hc
  rcases hc with rfl | rfl | rfl <;> exact ⟨by decide, by decide⟩
def szR (l : List Int) : Nat := if l.getD 3 0 = 2 then 136 else 88
def readE (l : List Int) : Int := if l.length < 4 then 1 else if ¬ l.take 3 = kww then 2 else if ¬ (l.getD 3 0 = 1 ∨ l.getD 3 0 = 2) then 19 else if l.length < szR l then 1 else if szR l < l.length then 2 else 0
def readX (l : List Int) : Env := if l.getD 3 0 = 2 then ⟨2, numL (seg l 4 4), seg l 8 16, seg l 24 16, seg l 40 16, seg l 56 32, seg l 88 32, seg l 120 16⟩ else ⟨1, numL (seg l 4 4), seg l 8 16, List.replicate 16 0, seg l 24 16, List.replicate 32 0, seg l 40 32, seg l 72 16⟩
def readX0 (l : List Int) : Env := if readE l = 0 then readX l else env0
def readV (l : List Int) : Value := .tuple #[.agg (readX0 l).cs.toArray, .int .i64 (readE l)]
theorem readV_err {l : List Int} {e : Int} (h : readE l = e) (h0 : e ≠ 0) : readV l = .tuple #[.agg env0.cs.toArray, .int .i64 e] := by
  unfold readV readX0
  rw [h, if_neg h0]
theorem readV_ok {l : List Int} (h : readE l = 0) : readV l = .tuple #[.agg (readX l).cs.toArray, .int .i64 0] := by
  unfold readV readX0
  rw [h, if_pos rfl]
theorem readE_zero {l : List Int} (h : readE l = 0) : 4 ≤ l.length ∧ l.take 3 = kww ∧ ((l.getD 3 0 = 1 ∧ l.length = 88) ∨ (l.getD 3 0 = 2 ∧ l.length = 136)) := by
  unfold readE at h
  split at h
  · cases h
  split at h
  · cases h
  split at h
  · cases h
  split at h
  · cases h
  split at h
  · cases h
  rename_i h1 h2 h3 h4 h5
  refine ⟨by omega, Decidable.not_not.1 h2, ?_⟩
  unfold szR at h4 h5
  rcases Decidable.not_not.1 h3 with h6 | h6
  · rw [if_neg (by omega)] at h4 h5; exact Or.inl ⟨h6, Nat.le_antisymm (Nat.le_of_not_lt h5) (Nat.le_of_not_lt h4)⟩
  · rw [if_pos h6] at h4 h5; exact Or.inr ⟨h6, Nat.le_antisymm (Nat.le_of_not_lt h5) (Nat.le_of_not_lt h4)⟩
theorem numL4_b {l : List Int} (h : Octs l) (k : Nat) : 0 ≤ numL (seg l k 4) ∧ numL (seg l k 4) ≤ 4294967295 := by
  have hs := seg_octs h k 4
  have hl : (seg l k 4).length ≤ 4 := by unfold seg; rw [List.length_take]; omega
  generalize seg l k 4 = s at hs hl
  have hb : ∀ i, i < s.length → 0 ≤ s.getD i 0 ∧ s.getD i 0 ≤ 255 := fun i hi => by have := hs.getD i; unfold Oct at this; omega
  match s, hl, hb with
  | [], _, _ => exact ⟨by decide, by decide⟩
  | [a], _, hb => have := hb 0 (by simp); simp at this; show 0 ≤ 256 * 0 + a ∧ 256 * 0 + a ≤ 4294967295; omega
  | [a, b], _, hb => have h0 := hb 0 (by simp); have h1 := hb 1 (by simp); simp at h0 h1; simp [numL]; omega
  | [a, b, c], _, hb => have h0 := hb 0 (by simp); have h1 := hb 1 (by simp); have h2 := hb 2 (by simp); simp at h0 h1 h2; simp [numL]; omega
  | [a, b, c, d], _, hb => have h0 := hb 0 (by simp); have h1 := hb 1 (by simp); have h2 := hb 2 (by simp); have h3 := hb 3 (by simp); simp at h0 h1 h2 h3; simp [numL]; omega
  | _ :: _ :: _ :: _ :: _ :: _, hl, _ => simp only [List.length_cons] at hl; omega
theorem readX_ok {l : List Int} (ho : Octs l) (h : readE l = 0) : (readX l).Ok := by
  obtain ⟨_, _, h1 | h1⟩ := readE_zero h
  · have hn := numL4_b ho 4
    unfold readX
    rw [if_neg (by omega)]
    exact ⟨⟨by show (-9223372036854775808 : Int) ≤ 1; decide, by show 1 ≤ (9223372036854775807 : Int); decide⟩, ⟨by simp only; omega, by simp only; omega⟩, seg_length (by omega), rfl, seg_length (by omega), rfl, seg_length (by omega), seg_length (by omega), seg_octs ho _ _, zeros_octs 16, seg_octs ho _ _, zeros_octs 32, seg_octs ho _ _, seg_octs ho _ _⟩
  · have hn := numL4_b ho 4
    unfold readX
    rw [if_pos h1.1]
    exact ⟨⟨by show (-9223372036854775808 : Int) ≤ 2; decide, by show 2 ≤ (9223372036854775807 : Int); decide⟩, ⟨by simp only; omega, by simp only; omega⟩, seg_length (by omega), seg_length (by omega), seg_length (by omega), seg_length (by omega), seg_length (by omega), seg_length (by omega), seg_octs ho _ _, seg_octs ho _ _, seg_octs ho _ _, seg_octs ho _ _, seg_octs ho _ _, seg_octs ho _ _⟩
theorem room_ok (ao : Option Addr) (n cap k m : Nat) (w : World) (h : k + m ≤ n) (hn : n ≤ maxLen) : Calls Try.prog 178 #[.slice ao n cap, .int .i64 k, .int .i64 m] w fun e w' => e = .returned (.int .i64 0) ∧ w = w' := by
  unfold maxLen at hn
  have h1 : ¬ (k : Int) < 0 := by omega
  have h2 : ¬ (n : Int) < (m : Int) := by omega
  obtain ⟨d, hd⟩ : ∃ d : Nat, Hid (d = n - m) := ⟨_, rfl⟩
  have h3 : (n : Int) - (m : Int) = (d : Int) := by rw [hd.out]; omega
  have h4 : ¬ (d : Int) < (k : Int) := by rw [hd.out]; omega
  have hw : IntKind.i64.wrap (d : Int) = (d : Int) := IntWalk.i64_in _ (by rw [hd.out]; omega)
  go_enter Try.func178, Try.ntmps178
  go_wp2
  go_ret
  exact ⟨rfl, rfl⟩
theorem room_short (ao : Option Addr) (n cap k m : Nat) (w : World) (h : n < k + m) (hn : n ≤ maxLen) : Calls Try.prog 178 #[.slice ao n cap, .int .i64 k, .int .i64 m] w fun e w' => e = .returned (.int .i64 1) ∧ w = w' := by
  unfold maxLen at hn
  have h1 : ¬ (k : Int) < 0 := by omega
  by_cases hm : n < m
  · have h2 : (n : Int) < (m : Int) := by omega
    go_enter Try.func178, Try.ntmps178
    go_wp2
    go_ret
    exact ⟨rfl, rfl⟩
  · have h2 : ¬ (n : Int) < (m : Int) := by omega
    obtain ⟨d, hd⟩ : ∃ d : Nat, Hid (d = n - m) := ⟨_, rfl⟩
    have h3 : (n : Int) - (m : Int) = (d : Int) := by rw [hd.out]; omega
    have h4 : (d : Int) < (k : Int) := by rw [hd.out]; omega
    have hw : IntKind.i64.wrap (d : Int) = (d : Int) := IntWalk.i64_in _ (by rw [hd.out]; omega)
    go_enter Try.func178, Try.ntmps178
    go_wp2
    go_ret
    exact ⟨rfl, rfl⟩
set_option maxRecDepth 100000 in
set_option maxHeartbeats 1000000 in
theorem Number_ok (b off cap n k : Nat) (l : List Int) (w : World) (hn : n = l.length) (HP : Pt.Ok w ⟨some ⟨b, off, none⟩, cap, l⟩) (hk : k + 4 ≤ n) :
    Calls Try.prog 128 #[.slice (some ⟨b, off, none⟩) n cap, .int .i64 k] w fun e w' => e = .returned (.tuple #[.int .u32 (numL (seg l k 4)), .int .i64 0]) ∧ Below w.heap.size w w' := by
  have hcap : n ≤ cap := by rw [hn]; exact HP.len
  have hmax : cap ≤ maxLen := HP.cap
  unfold maxLen at hmax
  have hro := hid (room_ok (some ⟨b, off, none⟩) n cap k 4 w (by omega) (by unfold maxLen; omega))
  have h4 := hid (seg_four (l := l) (k := k) (by omega))
  obtain ⟨b', off', hao, hb, hc⟩ := HP.row.at (i := 0) (by show 0 < l.length; omega)
  cases hao
  have hat := seg_at (l := l) hc (k := k) (n := 4) (by omega)
  rw [h4.out] at hat ⊢
  have hob := HP.oct
  obtain ⟨a0, H0⟩ : ∃ a, Hid (a = l.getD k 0) := ⟨_, rfl⟩
  obtain ⟨a1, H1⟩ : ∃ a, Hid (a = l.getD (k + 1) 0) := ⟨_, rfl⟩
  obtain ⟨a2, H2⟩ : ∃ a, Hid (a = l.getD (k + 2) 0) := ⟨_, rfl⟩
  obtain ⟨a3, H3⟩ : ∃ a, Hid (a = l.getD (k + 3) 0) := ⟨_, rfl⟩
  have o0 : Oct a0 := by rw [H0.out]; exact hob.getD _
  have o1 : Oct a1 := by rw [H1.out]; exact hob.getD _
  have o2 : Oct a2 := by rw [H2.out]; exact hob.getD _
  have o3 : Oct a3 := by rw [H3.out]; exact hob.getD _
  rw [← H0.out, ← H1.out, ← H2.out, ← H3.out] at hat ⊢
  have hW : Hid (numL [a0, a1, a2, a3] = w4 a0 a1 a2 a3) := by show _ = _; unfold w4; simp [numL]; omega
  have hAA := run_arrayAt4
  have hb1 : (0 : Int) ≤ (k : Int) := by omega
  have hb2 : (k : Int) ≤ (k : Int) + 4 := by omega
  have hb3 : (k : Int) + 4 ≤ (cap : Int) := by omega
  have hwr : IntKind.i64.wrap ((k : Int) + 4) = (k : Int) + 4 := IntWalk.i64_in _ (by omega)
  clear hn HP hc hob h4
  go_enter Try.func128, Try.ntmps128
  go_wp2_with (first | (go_at_call 178; refine hro.out.mono ?_; rintro e w1 ⟨rfl, rfl⟩) | (refine wl_load rfl 204 _ rfl ⟨b, off + k, none⟩ rfl ([a0, a1, a2, a3].map (Value.int .u8)) aggA4 hat ?_) | (go_at_call 179; refine (word a0 a1 a2 a3 w o0 o1 o2 o3).mono ?_; rintro e w2 ⟨rfl, hb2⟩))
  go_ret2
  exact ⟨by rw [hW.out]; rfl, hb2⟩
set_option maxRecDepth 100000 in
set_option maxHeartbeats 2000000 in
theorem Read_short (ao : Option Addr) (cap n : Nat) (l : List Int) (w : World) (hn : n = l.length) (hl : n < 4) :
    Calls Try.prog 71 #[.slice ao n cap] w fun e w' => e = .returned (readV l) ∧ Below w.heap.size w w' := by
  obtain ⟨B, HB⟩ : ∃ B, Hid (B = w.heap.size) := ⟨_, rfl⟩
  have hsz : w.heap.size = B := HB.out.symm
  have hz := hid zeroEnv
  have hbt := hid built_env0
  obtain ⟨Z, HZ⟩ : ∃ Z, Hid (Z = env0.cs) := ⟨_, rfl⟩
  have hZl : Z.length = 130 := by rw [HZ.out]; exact env0_ok.csl
  have hZ1 : ∀ u ∈ Z, u.oneCell' = true := by rw [HZ.out]; exact env0.cs_one
  rw [← HZ.out] at hz hbt
  have HN := hid hn
  have HV : Hid (readV l = .tuple #[.agg Z.toArray, .int .i64 1]) := by
    show _ = _
    rw [HZ.out]
    exact readV_err (by unfold readE; rw [if_pos (by omega)]) (by decide)
  rw [HV.out]
  have hI : (n : Int) < 4 := by omega
  clear hn
  go_enter Try.func71, Try.ntmps71
  go_wp2_with (first | (refine wl_allocV rfl 107 rfl Z hz.out B hsz ?_; intro w1 hR1 hb1 hs1) | (refine wl_build0 rfl 107 rfl Z hbt.out ?_) | (refine wl_storeV rfl 107 _ _ rfl 107 B rfl Z rfl 130 aggEnv hZl Z hR1 hZl hZ1 ?_; intro w2 hR2 hb2 hs2))
  (try simp only [Exit.inBlock, Exit.then]); refine bodyPost_ret (results_cell2 rfl _ _ _ _ rfl Z (by rw [hZl]; exact aggEnv) hR2.at0) rfl ?_
  exact ⟨rfl, by first | exact hb1.trans hb2 | (rw [hsz]; exact hb1.trans hb2)⟩
set_option maxRecDepth 100000 in
set_option maxHeartbeats 2000000 in
theorem Read_form (ao : Option Addr) (cap n : Nat) (l : List Int) (w : World) (hn : n = l.length) (hP : Pt.Ok w ⟨ao, cap, l⟩) (hl : 4 ≤ n) (hf : ¬ l.take 3 = kww) :
    Calls Try.prog 71 #[.slice ao n cap] w fun e w' => e = .returned (readV l) ∧ Below w.heap.size w w' := by
  obtain ⟨B, HB⟩ : ∃ B, Hid (B = w.heap.size) := ⟨_, rfl⟩
  have hsz : w.heap.size = B := HB.out.symm
  have hz := hid zeroEnv
  have hbt := hid built_env0
  obtain ⟨Z, HZ⟩ : ∃ Z, Hid (Z = env0.cs) := ⟨_, rfl⟩
  have hZl : Z.length = 130 := by rw [HZ.out]; exact env0_ok.csl
  have hZ1 : ∀ u ∈ Z, u.oneCell' = true := by rw [HZ.out]; exact env0.cs_one
  rw [← HZ.out] at hz hbt
  have HN := hid hn
  have HV : Hid (readV l = .tuple #[.agg Z.toArray, .int .i64 2]) := by
    show _ = _
    rw [HZ.out]
    exact readV_err (by unfold readE; rw [if_neg (by omega), if_pos hf]) (by decide)
  rw [HV.out]
  obtain ⟨b, off, rfl, hb, hc⟩ := hP.row.at (i := 0) (by show 0 < l.length; omega)
  have hI : ¬ (n : Int) < 4 := by omega
  have hcap : n ≤ cap := by rw [hn]; exact hP.len
  have h3c : 3 ≤ cap := by omega
  have h3I : (3 : Int) ≤ (cap : Int) := by omega
  have h3n : (3 : Int) < (n : Int) := by omega
  obtain ⟨S, HS⟩ : ∃ S, Hid (S = strOfNums (l.take 3)) := ⟨_, rfl⟩
  have ho3 : Octs (l.take 3) := fun c hc => hP.oct c (List.mem_of_mem_take hc)
  have hlen3 : 3 = (l.take 3).length := by rw [List.length_take]; omega
  have hkS := fun w1 (hb1 : Below B w w1) => hid (run_convStr w1 (some ⟨b, off, none⟩) 3 cap (l.take 3) hlen3 (RowI.takeS (hP.row.below (hsz ▸ hb1)) 3))
  rw [← HS.out] at hkS
  have hne : ¬ S = strOfNums kww := fun e => hf (str_inj ho3 kww_octs (by rw [← HS.out]; exact e))
  have hne' : ¬ S.toList = [75, 87, 87] := by
    intro e
    have h1 := str_ne hne
    rw [beq_eq_false_iff_ne] at h1
    exact h1 (e.trans (by rw [toList_eq]; rfl))
  have hne2 : (S.toList == [75, 87, 87]) = false := by simpa using hne'
  clear hne' hne hn hP hf hlen3
  go_enter Try.func71, Try.ntmps71
  go_wp2_with (first | (refine wl_allocV rfl 107 rfl Z hz.out B hsz ?_; intro w1 hR1 hb1 hs1; have kS := (hkS w1 hb1).out) | (refine wl_build0 rfl 107 rfl Z hbt.out ?_) | (refine wl_storeV rfl 107 _ _ rfl 107 B rfl Z rfl 130 aggEnv hZl Z hR1 hZl hZ1 ?_; intro w2 hR2 hb2 hs2))
  (try simp only [Exit.inBlock, Exit.then]); refine bodyPost_ret (results_cell2 rfl _ _ _ _ rfl Z (by rw [hZl]; exact aggEnv) hR2.at0) rfl ?_
  exact ⟨rfl, by first | exact hb1.trans hb2 | (rw [hsz]; exact hb1.trans hb2)⟩
set_option maxRecDepth 100000 in
set_option maxHeartbeats 2000000 in
theorem Read_version (ao : Option Addr) (cap n : Nat) (l : List Int) (w : World) (hn : n = l.length) (hP : Pt.Ok w ⟨ao, cap, l⟩) (hl : 4 ≤ n) (hf : l.take 3 = kww) (hv : ¬ (l.getD 3 0 = 1 ∨ l.getD 3 0 = 2)) :
    Calls Try.prog 71 #[.slice ao n cap] w fun e w' => e = .returned (readV l) ∧ Below w.heap.size w w' := by
  obtain ⟨B, HB⟩ : ∃ B, Hid (B = w.heap.size) := ⟨_, rfl⟩
  have hsz : w.heap.size = B := HB.out.symm
  have hz := hid zeroEnv
  have hbt := hid built_env0
  obtain ⟨Z, HZ⟩ : ∃ Z, Hid (Z = env0.cs) := ⟨_, rfl⟩
  have hZl : Z.length = 130 := by rw [HZ.out]; exact env0_ok.csl
  have hZ1 : ∀ u ∈ Z, u.oneCell' = true := by rw [HZ.out]; exact env0.cs_one
  rw [← HZ.out] at hz hbt
  have HN := hid hn
  have HV : Hid (readV l = .tuple #[.agg Z.toArray, .int .i64 19]) := by
    show _ = _
    rw [HZ.out]
    exact readV_err (by unfold readE; rw [if_neg (by omega), if_neg (fun h => h hf), if_pos hv]) (by decide)
  rw [HV.out]
  obtain ⟨b, off, rfl, hb, hc⟩ := hP.row.at (i := 0) (by show 0 < l.length; omega)
  have hI : ¬ (n : Int) < 4 := by omega
  have hcap : n ≤ cap := by rw [hn]; exact hP.len
  have h3c : 3 ≤ cap := by omega
  have h3I : (3 : Int) ≤ (cap : Int) := by omega
  have h3n : (3 : Int) < (n : Int) := by omega
  obtain ⟨S, HS⟩ : ∃ S, Hid (S = strOfNums (l.take 3)) := ⟨_, rfl⟩
  have ho3 : Octs (l.take 3) := fun c hc => hP.oct c (List.mem_of_mem_take hc)
  have hlen3 : 3 = (l.take 3).length := by rw [List.length_take]; omega
  have hkS := fun w1 (hb1 : Below B w w1) => hid (run_convStr w1 (some ⟨b, off, none⟩) 3 cap (l.take 3) hlen3 (RowI.takeS (hP.row.below (hsz ▸ hb1)) 3))
  rw [← HS.out] at hkS
  have ems : S = ⟨#[75, 87, 87]⟩ := by rw [HS.out, hf]; rfl
  rw [ems] at hkS
  obtain ⟨x3, H3⟩ : ∃ x, Hid (x = l.getD 3 0) := ⟨_, rfl⟩
  have hc3 : w.cell? ⟨b, off + 3, none⟩ = some (.int .u8 x3) := by rw [H3.out]; exact hc 3 (by show 3 < l.length; omega)
  have hbB : b < B := by rw [HB.out]; exact hb
  rw [← H3.out] at hv
  have hv1 : ¬ x3 = 1 := fun h => hv (Or.inl h)
  have hv2 : ¬ x3 = 2 := fun h => hv (Or.inr h)
  have hn1 : (x3 == 1) = false := by simpa using hv1
  have hn2 : (x3 == 2) = false := by simpa using hv2
  clear hn hP hf hlen3 hv ems
  go_enter Try.func71, Try.ntmps71
  go_wp2_with (first | (refine wl_allocV rfl 107 rfl Z hz.out B hsz ?_; intro w1 hR1 hb1 hs1; have kS := (hkS w1 hb1).out; have c3 := (hb1.cell (p := ⟨b, off + 3, none⟩) hbB).trans hc3) | (refine wl_build0 rfl 107 rfl Z hbt.out ?_) | (refine wl_storeV rfl 107 _ _ rfl 107 B rfl Z rfl 130 aggEnv hZl Z hR1 hZl hZ1 ?_; intro w2 hR2 hb2 hs2))
  (try simp only [Exit.inBlock, Exit.then]); refine bodyPost_ret (results_cell2 rfl _ _ _ _ rfl Z (by rw [hZl]; exact aggEnv) hR2.at0) rfl ?_
  exact ⟨rfl, by first | exact hb1.trans hb2 | (rw [hsz]; exact hb1.trans hb2)⟩
set_option maxRecDepth 100000 in
set_option maxHeartbeats 2000000 in
theorem Read_few1 (ao : Option Addr) (cap n : Nat) (l : List Int) (w : World) (hn : n = l.length) (hP : Pt.Ok w ⟨ao, cap, l⟩) (hl : 4 ≤ n) (hf : l.take 3 = kww) (hv : l.getD 3 0 = 1) (hzl : n < 88) :
    Calls Try.prog 71 #[.slice ao n cap] w fun e w' => e = .returned (readV l) ∧ Below w.heap.size w w' := by
  obtain ⟨B, HB⟩ : ∃ B, Hid (B = w.heap.size) := ⟨_, rfl⟩
  have hsz : w.heap.size = B := HB.out.symm
  have hz := hid zeroEnv
  have hbt := hid built_env0
  obtain ⟨Z, HZ⟩ : ∃ Z, Hid (Z = env0.cs) := ⟨_, rfl⟩
  have hZl : Z.length = 130 := by rw [HZ.out]; exact env0_ok.csl
  have hZ1 : ∀ u ∈ Z, u.oneCell' = true := by rw [HZ.out]; exact env0.cs_one
  rw [← HZ.out] at hz hbt
  have HN := hid hn
  have HV : Hid (readV l = .tuple #[.agg Z.toArray, .int .i64 1]) := by
    show _ = _
    rw [HZ.out]
    exact readV_err (by have hs : szR l = 88 := (by unfold szR; rw [if_neg (by omega)]); unfold readE; rw [if_neg (by omega), if_neg (fun h => h hf), if_neg (by omega), hs, if_pos (by omega)]) (by decide)
  rw [HV.out]
  obtain ⟨b, off, rfl, hb, hc⟩ := hP.row.at (i := 0) (by show 0 < l.length; omega)
  have hI : ¬ (n : Int) < 4 := by omega
  have hcap : n ≤ cap := by rw [hn]; exact hP.len
  have h3c : 3 ≤ cap := by omega
  have h3I : (3 : Int) ≤ (cap : Int) := by omega
  have h3n : (3 : Int) < (n : Int) := by omega
  obtain ⟨S, HS⟩ : ∃ S, Hid (S = strOfNums (l.take 3)) := ⟨_, rfl⟩
  have ho3 : Octs (l.take 3) := fun c hc => hP.oct c (List.mem_of_mem_take hc)
  have hlen3 : 3 = (l.take 3).length := by rw [List.length_take]; omega
  have hkS := fun w1 (hb1 : Below B w w1) => hid (run_convStr w1 (some ⟨b, off, none⟩) 3 cap (l.take 3) hlen3 (RowI.takeS (hP.row.below (hsz ▸ hb1)) 3))
  rw [← HS.out] at hkS
  have ems : S = ⟨#[75, 87, 87]⟩ := by rw [HS.out, hf]; rfl
  rw [ems] at hkS
  obtain ⟨x3, H3⟩ : ∃ x, Hid (x = l.getD 3 0) := ⟨_, rfl⟩
  have hc3 : w.cell? ⟨b, off + 3, none⟩ = some (.int .u8 x3) := by rw [H3.out]; exact hc 3 (by show 3 < l.length; omega)
  have hbB : b < B := by rw [HB.out]; exact hb
  rw [← H3.out] at hv
  subst hv
  have hq : (n : Int) < 88 := by omega
  clear hn hP hf hlen3 ems
  go_enter Try.func71, Try.ntmps71
  go_wp2_with (first | (refine wl_allocV rfl 107 rfl Z hz.out B hsz ?_; intro w1 hR1 hb1 hs1; have kS := (hkS w1 hb1).out; have c3 := (hb1.cell (p := ⟨b, off + 3, none⟩) hbB).trans hc3) | (refine wl_build0 rfl 107 rfl Z hbt.out ?_) | (refine wl_storeV rfl 107 _ _ rfl 107 B rfl Z rfl 130 aggEnv hZl Z hR1 hZl hZ1 ?_; intro w2 hR2 hb2 hs2))
  (try simp only [Exit.inBlock, Exit.then]); refine bodyPost_ret (results_cell2 rfl _ _ _ _ rfl Z (by rw [hZl]; exact aggEnv) hR2.at0) rfl ?_
  exact ⟨rfl, by first | exact hb1.trans hb2 | (rw [hsz]; exact hb1.trans hb2)⟩
set_option maxRecDepth 100000 in
set_option maxHeartbeats 2000000 in
theorem Read_many1 (ao : Option Addr) (cap n : Nat) (l : List Int) (w : World) (hn : n = l.length) (hP : Pt.Ok w ⟨ao, cap, l⟩) (hl : 4 ≤ n) (hf : l.take 3 = kww) (hv : l.getD 3 0 = 1) (hzl : 88 < n) :
    Calls Try.prog 71 #[.slice ao n cap] w fun e w' => e = .returned (readV l) ∧ Below w.heap.size w w' := by
  obtain ⟨B, HB⟩ : ∃ B, Hid (B = w.heap.size) := ⟨_, rfl⟩
  have hsz : w.heap.size = B := HB.out.symm
  have hz := hid zeroEnv
  have hbt := hid built_env0
  obtain ⟨Z, HZ⟩ : ∃ Z, Hid (Z = env0.cs) := ⟨_, rfl⟩
  have hZl : Z.length = 130 := by rw [HZ.out]; exact env0_ok.csl
  have hZ1 : ∀ u ∈ Z, u.oneCell' = true := by rw [HZ.out]; exact env0.cs_one
  rw [← HZ.out] at hz hbt
  have HN := hid hn
  have HV : Hid (readV l = .tuple #[.agg Z.toArray, .int .i64 2]) := by
    show _ = _
    rw [HZ.out]
    exact readV_err (by have hs : szR l = 88 := (by unfold szR; rw [if_neg (by omega)]); unfold readE; rw [if_neg (by omega), if_neg (fun h => h hf), if_neg (by omega), hs, if_neg (by omega), if_pos (by omega)]) (by decide)
  rw [HV.out]
  obtain ⟨b, off, rfl, hb, hc⟩ := hP.row.at (i := 0) (by show 0 < l.length; omega)
  have hI : ¬ (n : Int) < 4 := by omega
  have hcap : n ≤ cap := by rw [hn]; exact hP.len
  have h3c : 3 ≤ cap := by omega
  have h3I : (3 : Int) ≤ (cap : Int) := by omega
  have h3n : (3 : Int) < (n : Int) := by omega
  obtain ⟨S, HS⟩ : ∃ S, Hid (S = strOfNums (l.take 3)) := ⟨_, rfl⟩
  have ho3 : Octs (l.take 3) := fun c hc => hP.oct c (List.mem_of_mem_take hc)
  have hlen3 : 3 = (l.take 3).length := by rw [List.length_take]; omega
  have hkS := fun w1 (hb1 : Below B w w1) => hid (run_convStr w1 (some ⟨b, off, none⟩) 3 cap (l.take 3) hlen3 (RowI.takeS (hP.row.below (hsz ▸ hb1)) 3))
  rw [← HS.out] at hkS
  have ems : S = ⟨#[75, 87, 87]⟩ := by rw [HS.out, hf]; rfl
  rw [ems] at hkS
  obtain ⟨x3, H3⟩ : ∃ x, Hid (x = l.getD 3 0) := ⟨_, rfl⟩
  have hc3 : w.cell? ⟨b, off + 3, none⟩ = some (.int .u8 x3) := by rw [H3.out]; exact hc 3 (by show 3 < l.length; omega)
  have hbB : b < B := by rw [HB.out]; exact hb
  rw [← H3.out] at hv
  subst hv
  have hq : ¬ (n : Int) < 88 := by omega
  have hq2 : (88 : Int) < (n : Int) := by omega
  clear hn hP hf hlen3 ems
  go_enter Try.func71, Try.ntmps71
  go_wp2_with (first | (refine wl_allocV rfl 107 rfl Z hz.out B hsz ?_; intro w1 hR1 hb1 hs1; have kS := (hkS w1 hb1).out; have c3 := (hb1.cell (p := ⟨b, off + 3, none⟩) hbB).trans hc3) | (refine wl_build0 rfl 107 rfl Z hbt.out ?_) | (refine wl_storeV rfl 107 _ _ rfl 107 B rfl Z rfl 130 aggEnv hZl Z hR1 hZl hZ1 ?_; intro w2 hR2 hb2 hs2))
  (try simp only [Exit.inBlock, Exit.then]); refine bodyPost_ret (results_cell2 rfl _ _ _ _ rfl Z (by rw [hZl]; exact aggEnv) hR2.at0) rfl ?_
  exact ⟨rfl, by first | exact hb1.trans hb2 | (rw [hsz]; exact hb1.trans hb2)⟩
set_option maxRecDepth 100000 in
set_option maxHeartbeats 2000000 in
theorem Read_few2 (ao : Option Addr) (cap n : Nat) (l : List Int) (w : World) (hn : n = l.length) (hP : Pt.Ok w ⟨ao, cap, l⟩) (hl : 4 ≤ n) (hf : l.take 3 = kww) (hv : l.getD 3 0 = 2) (hzl : n < 136) :
    Calls Try.prog 71 #[.slice ao n cap] w fun e w' => e = .returned (readV l) ∧ Below w.heap.size w w' := by
  obtain ⟨B, HB⟩ : ∃ B, Hid (B = w.heap.size) := ⟨_, rfl⟩
  have hsz : w.heap.size = B := HB.out.symm
  have hz := hid zeroEnv
  have hbt := hid built_env0
  obtain ⟨Z, HZ⟩ : ∃ Z, Hid (Z = env0.cs) := ⟨_, rfl⟩
  have hZl : Z.length = 130 := by rw [HZ.out]; exact env0_ok.csl
  have hZ1 : ∀ u ∈ Z, u.oneCell' = true := by rw [HZ.out]; exact env0.cs_one
  rw [← HZ.out] at hz hbt
  have HN := hid hn
  have HV : Hid (readV l = .tuple #[.agg Z.toArray, .int .i64 1]) := by
    show _ = _
    rw [HZ.out]
    exact readV_err (by have hs : szR l = 136 := (by unfold szR; rw [if_pos hv]); unfold readE; rw [if_neg (by omega), if_neg (fun h => h hf), if_neg (by omega), hs, if_pos (by omega)]) (by decide)
  rw [HV.out]
  obtain ⟨b, off, rfl, hb, hc⟩ := hP.row.at (i := 0) (by show 0 < l.length; omega)
  have hI : ¬ (n : Int) < 4 := by omega
  have hcap : n ≤ cap := by rw [hn]; exact hP.len
  have h3c : 3 ≤ cap := by omega
  have h3I : (3 : Int) ≤ (cap : Int) := by omega
  have h3n : (3 : Int) < (n : Int) := by omega
  obtain ⟨S, HS⟩ : ∃ S, Hid (S = strOfNums (l.take 3)) := ⟨_, rfl⟩
  have ho3 : Octs (l.take 3) := fun c hc => hP.oct c (List.mem_of_mem_take hc)
  have hlen3 : 3 = (l.take 3).length := by rw [List.length_take]; omega
  have hkS := fun w1 (hb1 : Below B w w1) => hid (run_convStr w1 (some ⟨b, off, none⟩) 3 cap (l.take 3) hlen3 (RowI.takeS (hP.row.below (hsz ▸ hb1)) 3))
  rw [← HS.out] at hkS
  have ems : S = ⟨#[75, 87, 87]⟩ := by rw [HS.out, hf]; rfl
  rw [ems] at hkS
  obtain ⟨x3, H3⟩ : ∃ x, Hid (x = l.getD 3 0) := ⟨_, rfl⟩
  have hc3 : w.cell? ⟨b, off + 3, none⟩ = some (.int .u8 x3) := by rw [H3.out]; exact hc 3 (by show 3 < l.length; omega)
  have hbB : b < B := by rw [HB.out]; exact hb
  rw [← H3.out] at hv
  subst hv
  have hq : (n : Int) < 136 := by omega
  clear hn hP hf hlen3 ems
  go_enter Try.func71, Try.ntmps71
  go_wp2_with (first | (refine wl_allocV rfl 107 rfl Z hz.out B hsz ?_; intro w1 hR1 hb1 hs1; have kS := (hkS w1 hb1).out; have c3 := (hb1.cell (p := ⟨b, off + 3, none⟩) hbB).trans hc3) | (refine wl_build0 rfl 107 rfl Z hbt.out ?_) | (refine wl_storeV rfl 107 _ _ rfl 107 B rfl Z rfl 130 aggEnv hZl Z hR1 hZl hZ1 ?_; intro w2 hR2 hb2 hs2))
  (try simp only [Exit.inBlock, Exit.then]); refine bodyPost_ret (results_cell2 rfl _ _ _ _ rfl Z (by rw [hZl]; exact aggEnv) hR2.at0) rfl ?_
  exact ⟨rfl, by first | exact hb1.trans hb2 | (rw [hsz]; exact hb1.trans hb2)⟩
set_option maxRecDepth 100000 in
set_option maxHeartbeats 2000000 in
theorem Read_many2 (ao : Option Addr) (cap n : Nat) (l : List Int) (w : World) (hn : n = l.length) (hP : Pt.Ok w ⟨ao, cap, l⟩) (hl : 4 ≤ n) (hf : l.take 3 = kww) (hv : l.getD 3 0 = 2) (hzl : 136 < n) :
    Calls Try.prog 71 #[.slice ao n cap] w fun e w' => e = .returned (readV l) ∧ Below w.heap.size w w' := by
  obtain ⟨B, HB⟩ : ∃ B, Hid (B = w.heap.size) := ⟨_, rfl⟩
  have hsz : w.heap.size = B := HB.out.symm
  have hz := hid zeroEnv
  have hbt := hid built_env0
  obtain ⟨Z, HZ⟩ : ∃ Z, Hid (Z = env0.cs) := ⟨_, rfl⟩
  have hZl : Z.length = 130 := by rw [HZ.out]; exact env0_ok.csl
  have hZ1 : ∀ u ∈ Z, u.oneCell' = true := by rw [HZ.out]; exact env0.cs_one
  rw [← HZ.out] at hz hbt
  have HN := hid hn
  have HV : Hid (readV l = .tuple #[.agg Z.toArray, .int .i64 2]) := by
    show _ = _
    rw [HZ.out]
    exact readV_err (by have hs : szR l = 136 := (by unfold szR; rw [if_pos hv]); unfold readE; rw [if_neg (by omega), if_neg (fun h => h hf), if_neg (by omega), hs, if_neg (by omega), if_pos (by omega)]) (by decide)
  rw [HV.out]
  obtain ⟨b, off, rfl, hb, hc⟩ := hP.row.at (i := 0) (by show 0 < l.length; omega)
  have hI : ¬ (n : Int) < 4 := by omega
  have hcap : n ≤ cap := by rw [hn]; exact hP.len
  have h3c : 3 ≤ cap := by omega
  have h3I : (3 : Int) ≤ (cap : Int) := by omega
  have h3n : (3 : Int) < (n : Int) := by omega
  obtain ⟨S, HS⟩ : ∃ S, Hid (S = strOfNums (l.take 3)) := ⟨_, rfl⟩
  have ho3 : Octs (l.take 3) := fun c hc => hP.oct c (List.mem_of_mem_take hc)
  have hlen3 : 3 = (l.take 3).length := by rw [List.length_take]; omega
  have hkS := fun w1 (hb1 : Below B w w1) => hid (run_convStr w1 (some ⟨b, off, none⟩) 3 cap (l.take 3) hlen3 (RowI.takeS (hP.row.below (hsz ▸ hb1)) 3))
  rw [← HS.out] at hkS
  have ems : S = ⟨#[75, 87, 87]⟩ := by rw [HS.out, hf]; rfl
  rw [ems] at hkS
  obtain ⟨x3, H3⟩ : ∃ x, Hid (x = l.getD 3 0) := ⟨_, rfl⟩
  have hc3 : w.cell? ⟨b, off + 3, none⟩ = some (.int .u8 x3) := by rw [H3.out]; exact hc 3 (by show 3 < l.length; omega)
  have hbB : b < B := by rw [HB.out]; exact hb
  rw [← H3.out] at hv
  subst hv
  have hq : ¬ (n : Int) < 136 := by omega
  have hq2 : (136 : Int) < (n : Int) := by omega
  clear hn hP hf hlen3 ems
  go_enter Try.func71, Try.ntmps71
  go_wp2_with (first | (refine wl_allocV rfl 107 rfl Z hz.out B hsz ?_; intro w1 hR1 hb1 hs1; have kS := (hkS w1 hb1).out; have c3 := (hb1.cell (p := ⟨b, off + 3, none⟩) hbB).trans hc3) | (refine wl_build0 rfl 107 rfl Z hbt.out ?_) | (refine wl_storeV rfl 107 _ _ rfl 107 B rfl Z rfl 130 aggEnv hZl Z hR1 hZl hZ1 ?_; intro w2 hR2 hb2 hs2))
  (try simp only [Exit.inBlock, Exit.then]); refine bodyPost_ret (results_cell2 rfl _ _ _ _ rfl Z (by rw [hZl]; exact aggEnv) hR2.at0) rfl ?_
  exact ⟨rfl, by first | exact hb1.trans hb2 | (rw [hsz]; exact hb1.trans hb2)⟩
end Go.Proofs.Ytbljihhelladbaa.wr
