/-
  Contracts of keyref1.NameOf and keyref1.Tag. Conditions: a key of octets, a text of at most 2^20 octets. Contract of keyref1.IsName: strings.ContainsFunc and strings.ContainsRune at the letters of names. Conditions: none on the string but its size.
-/
import Derived.Test.YtbljihhelladbaaPWrI
import Derived.Test.YtbljihhelladbaaPWrK
import Derived.Test.YtbljihhelladbaaPWrB
import Derived.Lib.OthersKept
import Derived.Lib.TrimU
import Derived.Lib.Bytealg
import Derived.Laws.RangeString
import Derived.Laws.Runes
namespace Go.Proofs.Ytbljihhelladbaa.wr
open Go.RowKit Go.Proofs.Ytbljihhelladbaa.st Go.Proofs.Ytbljihhelladbaa.hs Go.Proofs.Ytbljihhelladbaa.shr Go.Proofs.Ytbljihhelladbaa.sh
set_option linter.unusedSimpArgs false
set_option linter.unusedVariables false
set_option pp.maxSteps 6000
set_option maxRecDepth 100000 in
set_option maxHeartbeats 2000000 in
theorem RefNameOf_any (k : List Int) (hk : k.length = 32) (ok : Octs k) (w : World) :
    Calls Try.prog 148 #[.agg (k.map (Value.int .u8)).toArray] w fun e w' => e = .returned (.agg ((nameL k).map (Value.int .u8)).toArray) ∧ Below w.heap.size w w' := by
  obtain ⟨B, HB⟩ : ∃ B, Hid (B = w.heap.size) := ⟨_, rfl⟩
  have hsz : w.heap.size = B := HB.out.symm
  obtain ⟨K, HK⟩ : ∃ K, Hid (K = k.map (Value.int .u8)) := ⟨_, rfl⟩
  have hKl : K.length = 32 := by rw [HK.out, List.length_map, hk]
  have hK1 : ∀ u ∈ K, u.oneCell' = true := by rw [HK.out]; exact ints_one _ _
  obtain ⟨Y, HY⟩ : ∃ Z, Hid (Z = (List.replicate 16 (0 : Int)).map (Value.int .u8)) := ⟨_, rfl⟩
  have hz16 := hid zeroID
  rw [← HY.out] at hz16
  have hYl : Y.length = 16 := by rw [HY.out]; simp
  obtain ⟨Z, HZ⟩ : ∃ Z, Hid (Z = zSum) := ⟨_, rfl⟩
  have hz32 := hid zeroSumZ
  rw [← HZ.out] at hz32
  have hZl : Z.length = 32 := by rw [HZ.out]; simp [zSum]
  obtain ⟨S, HS⟩ : ∃ S : List Value, Hid (S = (sumL 10 k).map (Value.int .u8)) := ⟨_, rfl⟩
  have hSl : S.length = 32 := by rw [HS.out, List.length_map, sumL_length]
  have hS1 : ∀ u ∈ S, u.oneCell' = true := by rw [HS.out]; exact ints_one _ _
  obtain ⟨N, HN⟩ : ∃ S : List Value, Hid (S = (nameL k).map (Value.int .u8)) := ⟨_, rfl⟩
  have hNl : N.length = 16 := by rw [HN.out, List.length_map, nameL_length]
  have hN1 : ∀ u ∈ N, u.oneCell' = true := by rw [HN.out]; exact ints_one _ _
  have hNS : Hid (N = S.take 16) := hid (by rw [HN.out, HS.out, ← List.map_take]; rfl)
  have hal : Try.prog.arrayLen 23 = 32 := by kernel_rfl
  have halS : Try.prog.arrayLen 73 = 32 := by kernel_rfl
  have halY : Try.prog.arrayLen 57 = 16 := by kernel_rfl
  have HKK := hid hk
  have hsum := fun (y : World) (hP : Pt.Ok y ⟨some ⟨B, 0, none⟩, 32, k⟩) => hid (sumR 10 oct10 (some ⟨B, 0, none⟩) 32 32 k y HKK.out.symm hP (fun h => by cases h) (by omega))
  rw [← HS.out] at hsum
  rw [← HK.out, ← HN.out]
  clear hk
  go_enter Try.func148, Try.ntmps148
  go_wp2_with (first | (refine wl_storeV rfl 73 _ _ rfl 73 g5 rfl S rfl 32 aggSumT hSl Z hE4 hZl hS1 ?_; intro w5 hE5 hb5 hs5; have hR5 := hR4.below hb5 (by omega); have bb5 := bb4.trans (hb5.mono (by omega : B ≤ _)); clear hR4 bb4 hb5 hE4) | (refine wl_allocV rfl 73 rfl Z hz32.out w3.heap.size rfl ?_; intro w4 hE4 hb4 hs4; obtain ⟨g5, HG5⟩ : ∃ g, Hid (g = w3.heap.size) := ⟨_, rfl⟩; rw [← HG5.out] at hE4 hb4 hs4; rw [← HG5.out]; have hg5 : B + 2 ≤ g5 := (by rw [HG5.out]; exact hs3); have hR4 := hR3.below hb4 (by omega); have bb4 := bb3.trans (hb4.mono (by omega : B ≤ _)); clear hR3 bb3 hb4) | (go_at_call 51; refine (hsum w1 (key_pt HK.out hB1 HKK.out ok)).out.mono ?_; rintro e w3 ⟨rfl, hb3⟩; have hR3 := hR1.below hb3 (by omega); have bb3 := bb1.trans (hb3.mono (by omega : B ≤ _)); have hs3 : B + 2 ≤ w3.heap.size := (by have := hb3.size; omega); clear hR1 bb1 hb3 hB1) | (refine wl_allocV rfl 57 rfl Y hz16.out (B + 1) hs0 ?_; intro w1 hR1 hb1 hs1; have hB1 := hB0.below hb1 (by omega); have bb1 := hb0.trans (hb1.mono (by omega : B ≤ _)); clear hB0 hb0 hb1) | (refine wl_boxV rfl 23 _ rfl K rfl B hsz ?_; intro w0 hB0 hb0 hs0))
  have hfit : 0 + N.length ≤ Y.length := by rw [hNl, hYl]; decide
  have hmin : N.length = Nat.min 16 32 := by rw [hNl]; rfl
  have hat : At w5 ⟨g5, 0, none⟩ N := hE5.at 0 _ fun j u hu => by
    rw [Nat.zero_add]; rw [hNS.out, List.getElem?_take] at hu; split at hu; exact hu; cases hu
  go_region_law (refine step_copy_splice rfl (.tmp 6) (.tmp 7) 69 69 rfl 5 Try.underlying69 size5 (some ⟨B + 1, 0, none⟩) (some ⟨g5, 0, none⟩) 16 16 32 32 rfl rfl (B + 1) 0 Y 57 hR5 N hmin (fun _ => ⟨rfl, _, rfl, hat⟩) hfit hN1 (B + 1) w5 ((Below.refl _ _).drew) (Nat.le_refl _) ?_; intro w6 hg6 hb6)
  have hR6 : BlkV 57 w6 (B + 1) N := by
    have h1 := hg6.out
    unfold splice at h1
    rw [List.take_zero, List.nil_append, List.drop_of_length_le (by rw [hNl, hYl]; decide), List.append_nil] at h1
    exact h1
  have bb6 : Below B w w6 := bb5.trans (hb6.mono (by omega))
  clear hR5 hE5 bb5 hg6 hb6 hat hfit hmin
  go_wp2_with (first | (refine wl_load rfl 57 _ rfl ⟨B + 1, 0, none⟩ rfl N (by rw [hNl]; exact aggID) hR6.at0 ?_) | (refine wl_storeV rfl 57 _ _ rfl 57 (B + 1) rfl N rfl 16 aggID hNl N hR6 hNl hN1 ?_; intro w7 hR7 hb7 hs7))
  (try simp only [Exit.inBlock, Exit.then]); refine bodyPost_ret (results_cell rfl _ _ _ _ rfl N (by rw [hNl]; exact aggID) hR7.at0) rfl ?_
  exact ⟨rfl, by rw [← HB.out]; exact bb6.trans (hb7.mono (by omega))⟩
set_option maxRecDepth 100000 in
set_option maxHeartbeats 2000000 in
theorem RefTag_any (k : List Int) (hk : k.length = 32) (ok : Octs k) (ao : Option Addr) (cap n : Nat) (l : List Int) (w : World) (hn : n = l.length) (HP : Pt.Ok w ⟨ao, cap, l⟩) (h0 : ao = none → cap = 0) (hm : 32 + n ≤ 2097152) :
    Calls Try.prog 186 #[.agg (k.map (Value.int .u8)).toArray, .slice ao n cap] w fun e w' => e = .returned (.agg ((tagL k l).map (Value.int .u8)).toArray) ∧ Below w.heap.size w w' := by
  obtain ⟨B, HB⟩ : ∃ B, Hid (B = w.heap.size) := ⟨_, rfl⟩
  have hsz : w.heap.size = B := HB.out.symm
  obtain ⟨K, HK⟩ : ∃ K, Hid (K = k.map (Value.int .u8)) := ⟨_, rfl⟩
  have hKl : K.length = 32 := by rw [HK.out, List.length_map, hk]
  have hK1 : ∀ u ∈ K, u.oneCell' = true := by rw [HK.out]; exact ints_one _ _
  obtain ⟨Y, HY⟩ : ∃ Z, Hid (Z = (List.replicate 16 (0 : Int)).map (Value.int .u8)) := ⟨_, rfl⟩
  have hz16 := hid zeroTag
  rw [← HY.out] at hz16
  have hYl : Y.length = 16 := by rw [HY.out]; simp
  obtain ⟨Z, HZ⟩ : ∃ Z, Hid (Z = zSum) := ⟨_, rfl⟩
  have hz32 := hid zeroSumZ
  rw [← HZ.out] at hz32
  have hZl : Z.length = 32 := by rw [HZ.out]; simp [zSum]
  obtain ⟨S, HS⟩ : ∃ S : List Value, Hid (S = (sumL 8 (k ++ l)).map (Value.int .u8)) := ⟨_, rfl⟩
  have hSl : S.length = 32 := by rw [HS.out, List.length_map, sumL_length]
  have hS1 : ∀ u ∈ S, u.oneCell' = true := by rw [HS.out]; exact ints_one _ _
  obtain ⟨N, HN⟩ : ∃ S : List Value, Hid (S = (tagL k l).map (Value.int .u8)) := ⟨_, rfl⟩
  have hNl : N.length = 16 := by rw [HN.out, List.length_map, tagL_length]
  have hN1 : ∀ u ∈ N, u.oneCell' = true := by rw [HN.out]; exact ints_one _ _
  have hNS : Hid (N = S.take 16) := hid (by rw [HN.out, HS.out, ← List.map_take]; rfl)
  have hal : Try.prog.arrayLen 23 = 32 := by kernel_rfl
  have halS : Try.prog.arrayLen 73 = 32 := by kernel_rfl
  have halY : Try.prog.arrayLen 105 = 16 := by kernel_rfl
  have HKK := hid hk
  have HNN := hid hn
  have HM : ∀ y, Below B w y → Pt.Ok y ⟨ao, cap, l⟩ := fun y hb => HP.below (hsz ▸ hb)
  have hlen : Hid (32 + n = (k ++ l).length) := hid (by rw [List.length_append, hk, hn])
  have okl : Octs (k ++ l) := octs_app ok HP.oct
  have hsum := fun (y : World) (a : Option Addr) (c : Nat) (hP : Pt.Ok y ⟨a, c, k ++ l⟩) (h : a = none → c = 0 ∧ 32 + n = 0) => hid (sumR 8 oct8 a c (32 + n) (k ++ l) y hlen.out hP h (by omega))
  rw [← HS.out] at hsum
  have hcl := fun (y : World) (hB : BlkV 23 y B K) => hid (cloneB (some ⟨B, 0, none⟩) 32 32 K y (at_row hB.lt hB.at0) (by rw [hKl]) hK1 (fun h => by cases h) (by decide))
  rw [← HK.out, ← HN.out]
  clear hk hn
  go_enter Try.func186, Try.ntmps186
  go_wp2_with (first | (refine wl_storeV rfl 73 _ _ rfl 73 g5 rfl S rfl 32 aggSumT hSl Z hE4 hZl hS1 ?_; intro w5 hE5 hb5 hs5; have hR5 := hR4.below hb5 (by omega); have bb5 := bb4.trans (hb5.mono (by omega : B ≤ _)); clear hR4 bb4 hb5 hE4) | (refine wl_allocV rfl 73 rfl Z hz32.out w3.heap.size rfl ?_; intro w4 hE4 hb4 hs4; obtain ⟨g5, HG5⟩ : ∃ g, Hid (g = w3.heap.size) := ⟨_, rfl⟩; rw [← HG5.out] at hE4 hb4 hs4; rw [← HG5.out]; have hg5 : B + 2 ≤ g5 := (by rw [HG5.out]; exact hs3); have hR4 := hR3.below hb4 (by omega); have bb4 := bb3.trans (hb4.mono (by omega : B ≤ _)); clear hR3 bb3 hb4) | (go_at_call 51; refine (hsum wb aob cb hPb hnob).out.mono ?_; rintro e w3 ⟨rfl, hb3⟩; have hR3 := hRb.below hb3 hRb.lt; have bb3 := bbb.trans (hb3.mono hbbs); have hs3 : B + 2 ≤ w3.heap.size := Nat.le_trans (by have := hRb.lt; omega) hb3.size; clear hRb bbb hb3 hPb hnob) | (at_builtin; refine wl_appendS rfl _ _ 69 rfl 5 (.int .u8 0) 1 1 Try.underlying69 info8 rfl (by decide) (B + 2) v 32 K rfl hM2 ao n cap rfl h0 (l.map (Value.int .u8)) (by rw [List.length_map, HNN.out]; omega) (RowI.v (HM _ bb2).row) (ints_one _ _) (by unfold maxLen; omega) (by omega) hs2 (32 + n) (by omega) ?_; intro aob cb wb rowb hcb hMb hvb hgb hrowb; have hRb := hR2.grown hgb (by intro h; have := (hrowb _ h).1; omega); have bbb : Below B w wb := bb2.grown hgb (by omega) (fun k hk => by have := (hrowb k hk).1; omega); have hbbs : B ≤ wb.heap.size := (by have := hRb.lt; omega); have hPP := mine_pt (l := k ++ l) (by rw [List.map_append, ← HK.out]; exact hMb) hlen.out (by omega) okl; have hPb := hPP.1; have hnob := hPP.2; clear hPP; clear hR2 bb2 hMb hvb hgb hrowb hM2) | (go_at_call 77; refine (hcl w1 hB1).out.mono ?_; rintro e w2 ⟨v, rfl, hM2', hb2⟩; have hM2 := hM2'.mono (by omega : B + 2 ≤ _); have hR2 := hR1.below hb2 (by omega); have bb2 := bb1.trans (hb2.mono (by omega : B ≤ _)); have hs2 : B + 2 ≤ w2.heap.size := (by have := hb2.size; omega); clear hR1 bb1 hb2 hB1 hM2') | (refine wl_allocV rfl 105 rfl Y hz16.out (B + 1) hs0 ?_; intro w1 hR1 hb1 hs1; have hB1 := hB0.below hb1 (by omega); have bb1 := hb0.trans (hb1.mono (by omega : B ≤ _)); clear hB0 hb0 hb1) | (refine wl_boxV rfl 23 _ rfl K rfl B hsz ?_; intro w0 hB0 hb0 hs0))
  have hfit : 0 + N.length ≤ Y.length := by rw [hNl, hYl]; decide
  have hmin : N.length = Nat.min 16 32 := by rw [hNl]; rfl
  have hat : At w5 ⟨g5, 0, none⟩ N := hE5.at 0 _ fun j u hu => by
    rw [Nat.zero_add]; rw [hNS.out, List.getElem?_take] at hu; split at hu; exact hu; cases hu
  go_region_law (refine step_copy_splice rfl (.tmp 11) (.tmp 12) 69 69 rfl 5 Try.underlying69 size5 (some ⟨B + 1, 0, none⟩) (some ⟨g5, 0, none⟩) 16 16 32 32 rfl rfl (B + 1) 0 Y 105 hR5 N hmin (fun _ => ⟨rfl, _, rfl, hat⟩) hfit hN1 (B + 1) w5 ((Below.refl _ _).drew) (Nat.le_refl _) ?_; intro w6 hg6 hb6)
  have hR6 : BlkV 105 w6 (B + 1) N := by
    have h1 := hg6.out
    unfold splice at h1
    rw [List.take_zero, List.nil_append, List.drop_of_length_le (by rw [hNl, hYl]; decide), List.append_nil] at h1
    exact h1
  have bb6 : Below B w w6 := bb5.trans (hb6.mono (by omega))
  clear hR5 hE5 bb5 hg6 hb6 hat hfit hmin
  go_wp2_with (first | (refine wl_load rfl 105 _ rfl ⟨B + 1, 0, none⟩ rfl N (by rw [hNl]; exact aggTag) hR6.at0 ?_) | (refine wl_storeV rfl 105 _ _ rfl 105 (B + 1) rfl N rfl 16 aggTag hNl N hR6 hNl hN1 ?_; intro w7 hR7 hb7 hs7))
  (try simp only [Exit.inBlock, Exit.then]); refine bodyPost_ret (results_cell rfl _ _ _ _ rfl N (by rw [hNl]; exact aggTag) hR7.at0) rfl ?_
  exact ⟨rfl, by rw [← HB.out]; exact bb6.trans (hb7.mono (by omega))⟩
end Go.Proofs.Ytbljihhelladbaa.wr
namespace Go.Proofs.Ytbljihhelladbaa.wr
open Go.RowKit Go.Proofs.Ytbljihhelladbaa.st Go.Proofs.Ytbljihhelladbaa.hs Go.Proofs.Ytbljihhelladbaa.shr Go.Proofs.Ytbljihhelladbaa.sh
set_option linter.unusedSimpArgs false
set_option linter.unusedVariables false
set_option pp.maxSteps 6000
def KS : ByteArray := ⟨#[97, 98, 99, 100, 101, 102, 103, 104, 105, 106, 107, 108, 109, 110, 111, 112, 113, 114, 115, 116, 117, 118, 119, 120, 121, 122, 48, 49, 50, 51, 52, 53, 54, 55, 56, 57, 45, 46, 95]⟩
theorem notin_index {l : List UInt8} {c : UInt8} (h : ∀ b ∈ l, b ≠ c) : Lib.indexByte l c = -1 := by
  induction l with
  | nil => rfl
  | cons b l ih =>
    have h1 := h b (List.mem_cons_self ..)
    have h2 := ih fun x hx => h x (List.mem_cons_of_mem _ hx)
    unfold Lib.indexByte
    rw [if_neg (by simpa using h1), h2]
    rfl
theorem KS_small : ∀ b ∈ KS.data.toList, b.toNat < 128 := by decide
theorem KS_ascii : ∀ r : Fin 128, decide (0 ≤ Lib.indexByte KS.data.toList (UInt8.ofNat r.val)) = nameC (r.val : Int) := by decide +kernel
theorem KS_decode : ∀ p : Fin 39, Utf8.decode KS p.val = ((KS.get! p.val).toNat, 1) ∧ (KS.get! p.val).toNat < 128 := by decide +kernel
theorem nameC_small {r : Int} (h : nameC r = true) : 0 ≤ r ∧ r < 128 := by
  unfold nameC at h
  simp at h
  omega
set_option maxRecDepth 100000 in
set_option maxHeartbeats 1000000 in
theorem IndexByteS (s : ByteArray) (c : Int) (w : World) :
    Calls Try.prog 234 #[.string s, .int .u8 c] w fun e w' => e = .returned (.int .i64 (Lib.indexByte s.data.toList c.toNat.toUInt8)) ∧ w' = w := by
  go_enter Try.func234, Try.ntmps234
  go_wp2
  rw [run_callFunc_extern Try.func235 (by kernel_rfl) (by kernel_rfl) (by kernel_rfl) (e := Extern.BytealgIndexByte.indexByte) (by kernel_rfl), Lib.run_indexByteString]
  simp only [Result.andThen]
  rw [Oper.upon_value]
  go_wp2
  go_ret
  exact ⟨rfl, rfl⟩
set_option maxRecDepth 100000 in
theorem StrIndexByte (s : ByteArray) (c : Int) (w : World) :
    Calls Try.prog 224 #[.string s, .int .u8 c] w fun e w' => e = .returned (.int .i64 (Lib.indexByte s.data.toList c.toNat.toUInt8)) ∧ w' = w := by
  go_enter Try.func224, Try.ntmps224
  go_wp2_with (go_at_call 234; refine (IndexByteS _ _ _).mono ?_; rintro e w' ⟨rfl, rfl⟩)
  go_ret
  exact ⟨rfl, rfl⟩
theorem ValidRune_any (r : Int) (w : World) : Calls Try.prog 225 #[.int .i32 r] w fun e w' => e = .returned (.bool ((decide (0 ≤ r) && decide (r < 55296)) || (decide (57343 < r) && decide (r ≤ 1114111)))) ∧ w = w' := by
  by_cases h0 : 0 ≤ r
  · by_cases h1 : r < 55296
    · go_enter Try.func225, Try.ntmps225
      go_wp2
      go_ret
      exact ⟨by first | (simp [*]; done) | (simp [*]; omega), rfl⟩
    · by_cases h2 : 57343 < r
      · by_cases h3 : r ≤ 1114111
        · go_enter Try.func225, Try.ntmps225
          go_wp2
          go_ret
          exact ⟨by first | (simp [*]; done) | (simp [*]; omega), rfl⟩
        · have h3' : 1114111 < r := by omega
          go_enter Try.func225, Try.ntmps225
          go_wp2
          go_ret
          exact ⟨by first | (simp [*]; done) | (simp [*]; omega), rfl⟩
      · go_enter Try.func225, Try.ntmps225
        go_wp2
        go_ret
        exact ⟨by first | (simp [*]; done) | (simp [*]; omega), rfl⟩
  · have h2 : ¬ 57343 < r := by omega
    go_enter Try.func225, Try.ntmps225
    go_wp2
    go_ret
    exact ⟨by first | (simp [*]; done) | (simp [*]; omega), rfl⟩
set_option maxHeartbeats 1000000 in
set_option maxRecDepth 100000 in
theorem IndexRune_ascii (r : Nat) (w : World) (h1 : r < 128) :
    Calls Try.prog 214 #[.string KS, .int .i32 r] w fun e w' => e = .returned (.int .i64 (Lib.indexByte KS.data.toList r.toUInt8)) ∧ w' = w := by
  have h0 : (0 : Int) ≤ (r : Int) := by omega
  have h1I : (r : Int) < 128 := by omega
  have hw : IntKind.u8.wrap (r : Int) = (r : Int) := IntWalk.u8_in _ (by omega)
  obtain ⟨K, HK⟩ : ∃ K, Hid (K = KS) := ⟨_, rfl⟩
  rw [← HK.out]
  go_enter Try.func214, Try.ntmps214
  go_wp2_with (go_at_call 224; refine (StrIndexByte _ _ _).mono ?_; rintro e w' ⟨rfl, rfl⟩)
  go_ret
  exact ⟨rfl, rfl⟩
theorem enc_two {r : Nat} (h : 128 ≤ r) (h2 : r < 2048) : Utf8.encode (r : Int) = ⟨#[UInt8.ofNat (192 + r / 64), UInt8.ofNat (128 + r % 64)]⟩ := by
  have hv : Utf8.valid (r : Int) = true := by unfold Utf8.valid; simp; omega
  unfold Utf8.encode
  simp only [hv, if_true, Int.toNat_natCast]
  rw [if_neg (by omega), if_pos (by omega)]
theorem enc_three {r : Nat} (h : 2048 ≤ r) (h2 : r < 65536) (hv : Utf8.valid (r : Int) = true) : Utf8.encode (r : Int) = ⟨#[UInt8.ofNat (224 + r / 4096), UInt8.ofNat (128 + r / 64 % 64), UInt8.ofNat (128 + r % 64)]⟩ := by
  unfold Utf8.encode
  simp only [hv, if_true, Int.toNat_natCast]
  rw [if_neg (by omega), if_neg (by omega), if_pos (by omega)]
theorem enc_four {r : Nat} (h : 65536 ≤ r) (h2 : r ≤ 1114111) : Utf8.encode (r : Int) = ⟨#[UInt8.ofNat (240 + r / 262144), UInt8.ofNat (128 + r / 4096 % 64), UInt8.ofNat (128 + r / 64 % 64), UInt8.ofNat (128 + r % 64)]⟩ := by
  have hv : Utf8.valid (r : Int) = true := by unfold Utf8.valid; simp; omega
  unfold Utf8.encode
  simp only [hv, if_true, Int.toNat_natCast]
  rw [if_neg (by omega), if_neg (by omega), if_neg (by omega)]
/-- runes beyond the ASCII ones lie not among the letters of names -/
def NoRune (w : World) (e : Ending) (w' : World) : Prop := e = .returned (.int .i64 (-1)) ∧ Below w.heap.size w w'
end Go.Proofs.Ytbljihhelladbaa.wr
