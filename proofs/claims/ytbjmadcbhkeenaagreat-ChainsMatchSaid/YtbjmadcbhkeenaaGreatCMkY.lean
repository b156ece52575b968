/-
  Shares read: Parse, ReadShare. Conditions: a slice of octets that lies in memory. Contracts of mix.NameOf and mix.TagOf. Conditions: a key of octets, a text of octets. Contracts of mix.TagOf. Conditions: a key of octets, a text of octets. Contract of mix.IsName. No condition but the string's size. Sums in slices, Check, Marks, plain facts. Conditions: as each theorem says.
-/
import Derived.Test.YtbjmadcbhkeenaaGreatCMkX
import Derived.Test.YtbjmadcbhkeenaaGreatCShG
import Derived.Test.YtbjmadcbhkeenaaGreatCEqA
import Derived.Test.YtbjmadcbhkeenaaGreatCHld
import Derived.Test.YtbjmadcbhkeenaaGreatCStA
import Derived.Test.YtbjmadcbhkeenaaGreatCShR
import Derived.Deep.MidRow
import Derived.StillTailTactics
set_option maxRecDepth 100000
set_option linter.unusedSimpArgs false
set_option linter.unusedVariables false
namespace Go.Proofs.YtbjmadcbhkeenaaGreat.shr
open Go.RowKit sh st hs
theorem run_arrayAtID (w : World) (a : Addr) (n cap : Nat) (hn : 16 ≤ n) : (Instr.arrayAt 27 (.slice (some a) n cap)).run Tryz.prog w = .ok (.pointer (some a)) w := by
 have h1 : ¬ n < 16 := by omega
 simp [Instr.arrayAt, run_underlying Tryz.underlying27, Result.andThen, h1]
end Go.Proofs.YtbjmadcbhkeenaaGreat.shr
namespace Go.Proofs.YtbjmadcbhkeenaaGreat.shr
open Go.RowKit sh st hs
theorem addr_add (b off j : Nat) : (⟨b, off, none⟩ : Addr).add j = ⟨b, off + j, none⟩ := by unfold Addr.add; split <;> simp_all
theorem octs_two {a c : Int} (ha : 0 ≤ a ∧ a ≤ 255) (hc : 0 ≤ c ∧ c ≤ 255) : Octs [a, c] := by
 intro x hx
 simp only [List.mem_cons, List.not_mem_nil, or_false] at hx
 rcases hx with rfl | rfl
 ·exact ha
 ·exact hc
end Go.Proofs.YtbjmadcbhkeenaaGreat.shr
namespace Go.Proofs.YtbjmadcbhkeenaaGreat.wr
open Go.RowKit st hs shr
def nameL (k : List Int) : List Int := (sumL 10 k).take 16
theorem nameL_length (k : List Int) : (nameL k).length = 16 := by unfold nameL; rw [List.length_take, sumL_length]; decide
theorem nameL_octs (k : List Int) : Octs (nameL k) := fun c hc => sumL_octs _ _ c (List.mem_of_mem_take hc)
theorem zeroID : (Tryz.prog.info? 27).map (·.zero) = some (some (.agg ((List.replicate 16 (0 : Int)).map (Value.int .u8)).toArray)) := by kernel_rfl
theorem oct10 : Oct 10 := ⟨by decide, by decide⟩
theorem key_pt {w : World} {t : TypeId} {g : Nat} {K : List Value} {k : List Int} (hK : K = k.map (Value.int .u8)) (h : BlkV t w g K) (hk : k.length = 32) (ok : Octs k) : Pt.Ok w ⟨some ⟨g, 0, none⟩, 32, k⟩ := by
 subst hK
 exact ⟨BlkI.row h, by show k.length ≤ 32; omega, by show 32 ≤ maxLen; decide, ok, fun b e => by cases e; exact h.lt⟩
set_option maxHeartbeats 1000000 in
theorem NameOf_any (k : List Int) (hk : k.length = 32) (ok : Octs k) (w : World) :
  Calls Tryz.prog 20 #[.agg (k.map (Value.int .u8)).toArray] w fun e w' => e = .returned (.agg ((nameL k).map (Value.int .u8)).toArray) ∧ Below w.heap.size w w' := by
 obtain ⟨B, HB⟩ : ∃ B, Hid (B = w.heap.size) := ⟨_, rfl⟩
 have hsz : w.heap.size = B := HB.out.symm
 obtain ⟨K, HK⟩ : ∃ K, Hid (K = k.map (Value.int .u8)) := ⟨_, rfl⟩
 have hKl : K.length = 32 := by rw [HK.out, List.length_map, hk]
 obtain ⟨Y, HY⟩ : ∃ Z, Hid (Z = (List.replicate 16 (0 : Int)).map (Value.int .u8)) := ⟨_, rfl⟩
 have hz16 := hid zeroID
 rw [← HY.out] at hz16
 have hYl : Y.length = 16 := by rw [HY.out]; simp
 obtain ⟨Z, HZ⟩ : ∃ Z, Hid (Z = zSum) := ⟨_, rfl⟩
 have hz32 := hid zeroSumZ
 rw [← HZ.out] at hz32
 have hZl : Z.length = 32 := by rw [HZ.out]; simp [zSum]
 obtain ⟨S, HS⟩ : ∃ S : List Value, Hid (S = (sumL 10 k).map (Value.int .u8)) := ⟨_, rfl⟩
 have hSl : S.length = 32 := by rw [HS.out, List.length_map, sumL_length]
 have hS1 : ∀ u ∈ S, u.oneCell' = true := by rw [HS.out]; exact ints_one _ _
 obtain ⟨N, HN⟩ : ∃ S : List Value, Hid (S = (nameL k).map (Value.int .u8)) := ⟨_, rfl⟩
 have hNl : N.length = 16 := by rw [HN.out, List.length_map, nameL_length]
 have hN1 : ∀ u ∈ N, u.oneCell' = true := by rw [HN.out]; exact ints_one _ _
 have hal : Tryz.prog.arrayLen 23 = 32 := by kernel_rfl
 have halS : Tryz.prog.arrayLen 54 = 32 := by kernel_rfl
 have hAA := fun w a n cap h => run_arrayAtID w a n cap h
 have HKK := hid hk
 have hsum := fun (w0 w1 : World) (hB0 : BlkV 23 w0 B K) (hs0 : w0.heap.size = B + 1) (hb : Below (B + 1) w0 w1) (hs : w1.heap.size = B + 1 + 1) => hid (summed_in 10 oct10 (some ⟨B + 1 + 1, 0, none⟩) 1 1 [⟨some ⟨B, 0, none⟩, 32, k⟩] (w1.alloc (.cells #[.slice (some ⟨B, 0, none⟩) 32 32] 25)) rfl (by omega)
  (hs ▸ (one_part HKK.out.symm hb (by omega) hs0 (key_pt HK.out hB0 HKK.out ok) rfl).1) (one_part HKK.out.symm hb (by omega) hs0 (key_pt HK.out hB0 HKK.out ok) rfl).2 (by simp [cat]; rw [HKK.out]; omega))
 have ec : cat [(⟨some ⟨B, 0, none⟩, 32, k⟩ : Pt)] = k := by simp [cat]
 rw [ec, hk] at hsum
 have hend := fun p w => hid (sum_ok p 10 k 32 w oct10 hk.symm (by omega))
 rw [← HS.out] at hend
 rw [← HK.out, ← HN.out]
 clear hk
 go_enter Tryz.func20, Tryz.ntmps20
 go_wp2_with (first | (refine wl_boxV rfl 23 _ rfl K rfl B hsz ?_; intro w0 hB0 hb0 hs0) | (refine wl_allocV rfl 27 rfl Y hz16.out (B + 1) hs0 ?_; intro w1 hR1 hb1 hs1; have bb1 := hb0.trans (hb1.mono (by omega : B ≤ _)))  | (go_at_call 41; refine (hsum w0 w1 hB0 hs0 hb1 hs1).out.mono ?_; rintro e w2 ⟨hb2, rfl, hS2⟩; have ha : (w1.alloc (.cells #[.slice (some ⟨B, 0, none⟩) 32 32] 25)).heap.size = B + 3 := (by simp [hs1]); rw [ha] at hb2 hS2; rw [ha]; have hR2 := (hR1.alloc (.cells #[.slice (some ⟨B, 0, none⟩) 32 32] 25)).below hb2 (by omega); have bb2 : Below B w w2 := (bb1.alloc (by omega) _).trans (hb2.mono (by omega)); clear hb2 hR1 bb1 hsum hB0)  | (go_at_call 42; refine ((hend _ w2).out hS2).mono ?_; rintro e w3 ⟨rfl, hb3⟩; have hlt2 := hS2.lt; have hR3 := hR2.below hb3 (by omega); have bb3 := bb2.trans (hb3.mono (by omega : B ≤ _)); have hs3 := hb3.size; clear hR2 bb2 hb3 hS2)  | (refine wl_allocV rfl 54 rfl Z hz32.out w3.heap.size rfl ?_; intro w4 hE4 hb4 hs4; have hR4 := hR3.below hb4 (by omega); have bb4 := bb3.trans (hb4.mono (by omega : B ≤ _)); clear hR3 bb3 hb4)  | (refine wl_storeV rfl 54 _ _ rfl 54 w3.heap.size rfl S rfl 32 aggSumT hSl Z hE4 hZl hS1 ?_; intro w5 hE5 hb5 hs5; have hR5 := hR4.below hb5 (by omega); have bb5 := bb4.trans (hb5.mono (by omega : B ≤ _)); clear hR4 bb4 hb5 hE4)  | (refine wl_load rfl 27 _ rfl ⟨w3.heap.size, 0, none⟩ rfl N (by rw [hNl]; exact aggID) (hE5.at 0 _ fun j u hu => by rw [Nat.zero_add]; rw [HN.out, nameL, List.map_take, ← HS.out, List.getElem?_take] at hu; split at hu; exact hu; cases hu) ?_)  | (refine wl_storeV rfl 27 _ _ rfl 27 (B + 1) rfl N rfl 16 aggID hNl Y hR5 hYl hN1 ?_; intro w6 hR6 hb6 hs6))
 (try simp only [Exit.inBlock, Exit.then]); refine bodyPost_ret (results_cell rfl _ _ _ _ rfl N (by rw [hNl]; exact aggID) hR6.at0) rfl ?_
 exact ⟨rfl, by first | exact bb5.trans (hb6.mono (by omega)) | (rw [hsz]; exact bb5.trans (hb6.mono (by omega)))⟩
end Go.Proofs.YtbjmadcbhkeenaaGreat.wr
namespace Go.Proofs.YtbjmadcbhkeenaaGreat.wr
open Go.RowKit st hs shr
def tagL (k l : List Int) : List Int := (sumL 8 (k ++ l)).take 16
theorem tagL_length (k l : List Int) : (tagL k l).length = 16 := by unfold tagL; rw [List.length_take, sumL_length]; decide
theorem tagL_octs (k l : List Int) : Octs (tagL k l) := fun c hc => sumL_octs _ _ c (List.mem_of_mem_take hc)
theorem zeroTag : (Tryz.prog.info? 55).map (·.zero) = some (some (.agg ((List.replicate 16 (0 : Int)).map (Value.int .u8)).toArray)) := by kernel_rfl
theorem aggTag : Agg Tryz.prog 55 16 := Agg.arr Tryz.underlying55 (by kernel_rfl)
theorem oct8 : Oct 8 := ⟨by decide, by decide⟩
theorem run_arrayAtTag (w : World) (a : Addr) (n cap : Nat) (hn : 16 ≤ n) : (Instr.arrayAt 55 (.slice (some a) n cap)).run Tryz.prog w = .ok (.pointer (some a)) w := by
 have h1 : ¬ n < 16 := by omega
 simp [Instr.arrayAt, run_underlying Tryz.underlying55, Result.andThen, h1]
theorem two_parts {w w0' : World} {B n m cap cap2 : Nat} {ao a2 : Option Addr} {l l2 : List Int} (hn : n = l.length) (hm : m = l2.length) (hb : Below B w w0') (hsz : B ≤ w0'.heap.size) (hw : w.heap.size = B) (HP : Pt.Ok w ⟨ao, cap, l⟩) (HP2 : Pt.Ok w ⟨a2, cap2, l2⟩) {w0 : World} (h0 : w0 = w0'.alloc (.cells #[.slice ao n cap, .slice a2 m cap2] 25)) :
  RowV w0 (some ⟨w0'.heap.size, 0, none⟩) ([(⟨ao, cap, l⟩ : Pt), ⟨a2, cap2, l2⟩].map Pt.v) ∧ ∀ x ∈ [(⟨ao, cap, l⟩ : Pt), ⟨a2, cap2, l2⟩], x.Ok w0 := by
 subst h0 hn hm
 have hbb : Below w.heap.size w (w0'.alloc (.cells #[.slice ao l.length cap, .slice a2 l2.length cap2] 25)) := by rw [hw]; exact hb.alloc hsz _
 refine ⟨Or.inr ⟨w0'.heap.size, 0, rfl, by simp, fun j u hu => ?_⟩, fun x hx => ?_⟩
 ·have hc := (BlkV.new 25 w0' [.slice ao l.length cap, .slice a2 l2.length cap2] rfl).cell j
  have e : [(⟨ao, cap, l⟩ : Pt), ⟨a2, cap2, l2⟩].map Pt.v = [.slice ao l.length cap, .slice a2 l2.length cap2] := rfl
  rw [e] at hu
  rw [Nat.zero_add, hc]
  exact hu
 ·rcases List.mem_cons.1 hx with hx | hx
  ·rw [hx]; exact HP.below hbb
  ·rw [List.mem_singleton] at hx; rw [hx]; exact HP2.below hbb
set_option maxHeartbeats 1000000 in
theorem TagOf_in (k : List Int) (hk : k.length = 32) (ok : Octs k) (ao : Option Addr) (cap n : Nat) (l : List Int) (w : World) (hn : n = l.length) (HP : Pt.Ok w ⟨ao, cap, l⟩) (hm : 32 + n ≤ 1048576) :
  Calls Tryz.prog 71 #[.agg (k.map (Value.int .u8)).toArray, .slice ao n cap] w fun e w' => e = .returned (.tuple #[.agg ((tagL k l).map (Value.int .u8)).toArray, .int .i64 0]) ∧ Below w.heap.size w w' := by
 obtain ⟨B, HB⟩ : ∃ B, Hid (B = w.heap.size) := ⟨_, rfl⟩
 have hsz : w.heap.size = B := HB.out.symm
 obtain ⟨K, HK⟩ : ∃ K, Hid (K = k.map (Value.int .u8)) := ⟨_, rfl⟩
 have hKl : K.length = 32 := by rw [HK.out, List.length_map, hk]
 obtain ⟨Y, HY⟩ : ∃ Z, Hid (Z = (List.replicate 16 (0 : Int)).map (Value.int .u8)) := ⟨_, rfl⟩
 have hz16 := hid zeroTag
 rw [← HY.out] at hz16
 have hYl : Y.length = 16 := by rw [HY.out]; simp
 obtain ⟨Z, HZ⟩ : ∃ Z, Hid (Z = zSum) := ⟨_, rfl⟩
 have hz32 := hid zeroSumZ
 rw [← HZ.out] at hz32
 have hZl : Z.length = 32 := by rw [HZ.out]; simp [zSum]
 obtain ⟨S, HS⟩ : ∃ S : List Value, Hid (S = (sumL 8 (k ++ l)).map (Value.int .u8)) := ⟨_, rfl⟩
 have hSl : S.length = 32 := by rw [HS.out, List.length_map, sumL_length]
 have hS1 : ∀ u ∈ S, u.oneCell' = true := by rw [HS.out]; exact ints_one _ _
 obtain ⟨N, HN⟩ : ∃ S : List Value, Hid (S = (tagL k l).map (Value.int .u8)) := ⟨_, rfl⟩
 have hNl : N.length = 16 := by rw [HN.out, List.length_map, tagL_length _ _]
 have hN1 : ∀ u ∈ N, u.oneCell' = true := by rw [HN.out]; exact ints_one _ _
 have hal : Tryz.prog.arrayLen 23 = 32 := by kernel_rfl
 have halS : Tryz.prog.arrayLen 54 = 32 := by kernel_rfl
 have hAA := fun w a n cap h => run_arrayAtTag w a n cap h
 have HKK := hid hk
 have ec0 : cat [(⟨some ⟨B, 0, none⟩, 32, k⟩ : Pt), ⟨ao, cap, l⟩] = k ++ l := by simp [cat]
 have HN0 := hid hn
 have hlen : (k ++ l).length = 32 + n := by rw [List.length_append, hk, hn]
 have hsum := fun (w0 w1 : World) (hB0 : BlkV 23 w0 B K) (hs0 : w0.heap.size = B + 1) (hb0 : Below B w w0) (hb : Below (B + 1) w0 w1) (hs : w1.heap.size = B + 1 + 1) => hid (summed_in 8 oct8 (some ⟨B + 1 + 1, 0, none⟩) 2 2 [⟨some ⟨B, 0, none⟩, 32, k⟩, ⟨ao, cap, l⟩] (w1.alloc (.cells #[.slice (some ⟨B, 0, none⟩) 32 32, .slice ao n cap] 25)) rfl (by omega)
  (hs ▸ (two_parts HKK.out.symm HN0.out hb (by omega) hs0 (key_pt HK.out hB0 HKK.out ok) (HP.below (hsz ▸ hb0)) rfl).1) (two_parts HKK.out.symm HN0.out hb (by omega) hs0 (key_pt HK.out hB0 HKK.out ok) (HP.below (hsz ▸ hb0)) rfl).2 (by rw [ec0, hlen]; exact hm))
 rw [ec0, hlen] at hsum
 have hend := fun p w => hid (sum_ok p 8 (k ++ l) (32 + n) w oct8 hlen.symm hm)
 rw [← HS.out] at hend
 rw [← HK.out, ← HN.out]
 clear hk hn ec0 hlen hm
 go_enter Tryz.func71, Tryz.ntmps71
 go_wp2_with (first | (refine wl_boxV rfl 23 _ rfl K rfl B hsz ?_; intro w0 hB0 hb0 hs0) | (refine wl_allocV rfl 55 rfl Y hz16.out (B + 1) hs0 ?_; intro w1 hR1 hb1 hs1; have bb1 := hb0.trans (hb1.mono (by omega : B ≤ _)))  | (go_at_call 41; refine (hsum w0 w1 hB0 hs0 hb0 hb1 hs1).out.mono ?_; rintro e w2 ⟨hb2, rfl, hS2⟩; have ha : (w1.alloc (.cells #[.slice (some ⟨B, 0, none⟩) 32 32, .slice ao n cap] 25)).heap.size = B + 3 := (by simp [hs1]); rw [ha] at hb2 hS2; rw [ha]; have hR2 := (hR1.alloc (.cells #[.slice (some ⟨B, 0, none⟩) 32 32, .slice ao n cap] 25)).below hb2 (by omega); have bb2 : Below B w w2 := (bb1.alloc (by omega) _).trans (hb2.mono (by omega)); clear hb2 hR1 bb1 hsum hB0)  | (go_at_call 42; refine ((hend _ w2).out hS2).mono ?_; rintro e w3 ⟨rfl, hb3⟩; have hlt2 := hS2.lt; have hR3 := hR2.below hb3 (by omega); have bb3 := bb2.trans (hb3.mono (by omega : B ≤ _)); have hs3 := hb3.size; clear hR2 bb2 hb3 hS2)  | (refine wl_allocV rfl 54 rfl Z hz32.out w3.heap.size rfl ?_; intro w4 hE4 hb4 hs4; have hR4 := hR3.below hb4 (by omega); have bb4 := bb3.trans (hb4.mono (by omega : B ≤ _)); clear hR3 bb3 hb4)  | (refine wl_storeV rfl 54 _ _ rfl 54 w3.heap.size rfl S rfl 32 aggSumT hSl Z hE4 hZl hS1 ?_; intro w5 hE5 hb5 hs5; have hR5 := hR4.below hb5 (by omega); have bb5 := bb4.trans (hb5.mono (by omega : B ≤ _)); clear hR4 bb4 hb5 hE4)  | (refine wl_load rfl 55 _ rfl ⟨w3.heap.size, 0, none⟩ rfl N (by rw [hNl]; exact aggTag) (hE5.at 0 _ fun j u hu => by rw [Nat.zero_add]; rw [HN.out, tagL, List.map_take, ← HS.out, List.getElem?_take] at hu; split at hu; exact hu; cases hu) ?_)  | (refine wl_storeV rfl 55 _ _ rfl 55 (B + 1) rfl N rfl 16 aggTag hNl Y hR5 hYl hN1 ?_; intro w6 hR6 hb6 hs6))
 (try simp only [Exit.inBlock, Exit.then]); refine bodyPost_ret (results_cell2 rfl _ _ _ _ rfl N (by rw [hNl]; exact aggTag) hR6.at0) rfl ?_
 exact ⟨rfl, by first | exact bb5.trans (hb6.mono (by omega)) | (rw [hsz]; exact bb5.trans (hb6.mono (by omega)))⟩
end Go.Proofs.YtbjmadcbhkeenaaGreat.wr
namespace Go.Proofs.YtbjmadcbhkeenaaGreat.wr
open Go.RowKit st hs shr
def nameC (c : Int) : Bool := (decide (97 ≤ c) && decide (c ≤ 122)) || (decide (48 ≤ c) && decide (c ≤ 57)) || c == 45 || c == 46 || c == 95
def isName (s : ByteArray) : Bool := s.data.toList.all (fun c => nameC (c.toNat : Int)) && (decide (0 < s.size) && decide (s.size ≤ 32))
theorem isName_bad {s : ByteArray} {k : Nat} (h : k < s.size) (hc : nameC ((s[k]).toNat : Int) = false) : isName s = false := by
 unfold isName
 have : s.data.toList.all (fun c => nameC (c.toNat : Int)) = false := by
  rw [List.all_eq_false]
  exact ⟨s[k], List.getElem_mem (by exact h), by rw [hc]; simp⟩
 rw [this]; rfl
theorem isName_all {s : ByteArray} (h : ∀ j (hj : j < s.size), nameC ((s[j]).toNat : Int) = true) : isName s = (decide (0 < s.size) && decide (s.size ≤ 32)) := by
 unfold isName
 have : s.data.toList.all (fun c => nameC (c.toNat : Int)) = true := by
  rw [List.all_eq_true]
  intro c hc
  obtain ⟨j, hj, rfl⟩ := List.getElem_of_mem hc
  exact h j hj
 rw [this]; rfl
set_option maxHeartbeats 2000000 in
theorem IsName_any (s : ByteArray) (w : World) (hs : s.size ≤ maxLen) :
  Calls Tryz.prog 98 #[.string s] w fun e w' => e = .returned (.bool (isName s)) ∧ w = w' := by
 unfold maxLen at hs
 go_enter Tryz.func98, Tryz.ntmps98
 go_wp2
 go_loop [3] (fun i => ∃ k : Nat, k ≤ s.size ∧ i = .int .i64 k ∧ Hid (∀ j (hj : j < s.size), j < k → nameC ((s[j]).toNat : Int) = true)) (fun i => s.size - (intOf i).toNat)
 case atStart => exact ⟨0, by omega, rfl, fun j _ h => absurd h (Nat.not_lt_zero _)⟩
 case round =>
  obtain ⟨k, hk, rfl, HA⟩ := hrel
  by_cases h0 : k < s.size
  ·have hkI : (k : Int) < (s.size : Int) := by omega
   have hkI0 : (0 : Int) ≤ (k : Int) := by omega
   have hnext : nameC ((s[k]).toNat : Int) = true → Hid (∀ j (hj : j < s.size), j < k + 1 → nameC ((s[j]).toNat : Int) = true) := fun h => hid fun j hj hjk => by
    by_cases e : j = k
    ·subst e; exact h
    ·exact HA.out j hj (by omega)
   have HNX := hid hnext
   clear hnext
   have hw1 : IntKind.i64.wrap ((k : Int) + 1) = (k : Int) + 1 := IntWalk.i64_in _ (by omega)
   have hc : (97 ≤ ((s[k]).toNat : Int) ∧ ((s[k]).toNat : Int) ≤ 122) ∨ (48 ≤ ((s[k]).toNat : Int) ∧ ((s[k]).toNat : Int) ≤ 57) ∨ ((s[k]).toNat : Int) = 45 ∨ ((s[k]).toNat : Int) = 46 ∨ ((s[k]).toNat : Int) = 95 ∨ (((s[k]).toNat : Int) < 48 ∧ ((s[k]).toNat : Int) ≠ 45 ∧ ((s[k]).toNat : Int) ≠ 46) ∨ (57 < ((s[k]).toNat : Int) ∧ ((s[k]).toNat : Int) < 97 ∧ ((s[k]).toNat : Int) ≠ 95) ∨ 122 < ((s[k]).toNat : Int) := by omega
   rcases hc with ⟨h1, h2⟩ | ⟨h1, h2⟩ | h1 | h1 | h1 | ⟨h1, h2, h3⟩ | ⟨h1, h2, h3⟩ | h1
   ·have hN : nameC ((s[k]).toNat : Int) = true := by unfold nameC; simp; omega
    have HN := hid hN
    clear hN
    have f1 : ¬ ((s[k]).toNat : Int) < 97 := by omega
    have f2 : ¬ 122 < ((s[k]).toNat : Int) := by omega
    go_wp2
    go_round
    case rel => exact ⟨k + 1, by omega, by go_num, HNX.out HN.out⟩
    case measure => simp [intOf] <;> omega
   ·have hN : nameC ((s[k]).toNat : Int) = true := by unfold nameC; simp; omega
    have HN := hid hN
    clear hN
    have f1 : ((s[k]).toNat : Int) < 97 := by omega
    have f0 : ¬ 97 ≤ ((s[k]).toNat : Int) := by omega
    have f2 : ¬ 57 < ((s[k]).toNat : Int) := by omega
    go_wp2
    go_round
    case rel => exact ⟨k + 1, by omega, by go_num, HNX.out HN.out⟩
    case measure => simp [intOf] <;> omega
   ·have hN : nameC ((s[k]).toNat : Int) = true := by unfold nameC; simp; omega
    have HN := hid hN
    clear hN
    have f0 : ¬ 97 ≤ ((s[k]).toNat : Int) := by omega
    have f2 : ¬ 48 ≤ ((s[k]).toNat : Int) := by omega
    go_wp2
    go_round
    case rel => exact ⟨k + 1, by omega, by go_num, HNX.out HN.out⟩
    case measure => simp [intOf] <;> omega
   ·have hN : nameC ((s[k]).toNat : Int) = true := by unfold nameC; simp; omega
    have HN := hid hN
    clear hN
    have f0 : ¬ 97 ≤ ((s[k]).toNat : Int) := by omega
    have f2 : ¬ 48 ≤ ((s[k]).toNat : Int) := by omega
    have f3 : ¬ ((s[k]).toNat : Int) = 45 := by omega
    go_wp2
    go_round
    case rel => exact ⟨k + 1, by omega, by go_num, HNX.out HN.out⟩
    case measure => simp [intOf] <;> omega
   ·have hN : nameC ((s[k]).toNat : Int) = true := by unfold nameC; simp; omega
    have HN := hid hN
    clear hN
    have f0 : ¬ 97 ≤ ((s[k]).toNat : Int) := by omega
    have f2 : 48 ≤ ((s[k]).toNat : Int) := by omega
    have f4 : ¬ ((s[k]).toNat : Int) ≤ 57 := by omega
    have f5 : ¬ ((s[k]).toNat : Int) = 45 := by omega
    have f6 : ¬ ((s[k]).toNat : Int) = 46 := by omega
    go_wp2
    go_round
    case rel => exact ⟨k + 1, by omega, by go_num, HNX.out HN.out⟩
    case measure => simp [intOf] <;> omega
   ·have hN : nameC ((s[k]).toNat : Int) = false := by unfold nameC; simp; omega
    have HN := hid (isName_bad h0 hN)
    clear hN
    have f0 : ¬ 97 ≤ ((s[k]).toNat : Int) := by omega
    have f1 : ¬ 48 ≤ ((s[k]).toNat : Int) := by omega
    have f2 : ¬ ((s[k]).toNat : Int) = 95 := by omega
    go_wp2
    go_ret
    exact ⟨rv (rb HN.out.symm), rfl⟩
    all_goals (exfalso; rename_i hx; simp at hx; omega)
   ·have hN : nameC ((s[k]).toNat : Int) = false := by unfold nameC; simp; omega
    have HN := hid (isName_bad h0 hN)
    clear hN
    have f0 : ¬ 97 ≤ ((s[k]).toNat : Int) := by omega
    have f1 : 48 ≤ ((s[k]).toNat : Int) := by omega
    have f4 : ¬ ((s[k]).toNat : Int) ≤ 57 := by omega
    have f5 : ¬ ((s[k]).toNat : Int) = 45 := by omega
    have f6 : ¬ ((s[k]).toNat : Int) = 46 := by omega
    go_wp2
    go_ret
    exact ⟨rv (rb HN.out.symm), rfl⟩
    all_goals (exfalso; rename_i hx; simp at hx; omega)
   ·have hN : nameC ((s[k]).toNat : Int) = false := by unfold nameC; simp; omega
    have HN := hid (isName_bad h0 hN)
    clear hN
    have f0 : 97 ≤ ((s[k]).toNat : Int) := by omega
    have f7 : ¬ ((s[k]).toNat : Int) ≤ 122 := by omega
    have f1 : 48 ≤ ((s[k]).toNat : Int) := by omega
    have f4 : ¬ ((s[k]).toNat : Int) ≤ 57 := by omega
    have f8 : 57 < ((s[k]).toNat : Int) := by omega
    have f5 : ¬ ((s[k]).toNat : Int) = 45 := by omega
    have f6 : ¬ ((s[k]).toNat : Int) = 46 := by omega
    have f9 : ¬ ((s[k]).toNat : Int) = 95 := by omega
    go_wp2
    go_ret
    exact ⟨rv (rb HN.out.symm), rfl⟩
    all_goals (exfalso; rename_i hx; simp at hx; omega)
  ·obtain rfl : k = s.size := by omega
   have hall := isName_all (fun j hj => HA.out j hj hj)
   have HALL := hid hall
   clear hall
   by_cases hz : s.size = 0
   ·have hs0 : s = ⟨#[]⟩ := by
     apply ByteArray.ext
     exact Array.eq_empty_of_size_eq_zero hz
    have HS0 := hid hs0
    have hl0 : s.toList = [] := by rw [hs0, toList_eq]
    have hf : isName s = false := by rw [HALL.out, hz]; rfl
    have HF := hid hf
    clear hs0 hf
    go_wp2
    go_ret
    exact ⟨rv (rb HF.out.symm), rfl⟩
   ·have hl0 : ¬ s.toList = [] := by
     rw [toList_eq]
     intro e
     have h1 : s.data.toList.length = 0 := by rw [e]; rfl
     exact hz h1
    by_cases h32 : s.size ≤ 32
    ·have hI : (s.size : Int) ≤ 32 := by omega
     have hf : isName s = true := by rw [HALL.out]; simp; omega
     have HF := hid hf
     clear hf
     have HE : Hid (s.toList.isEmpty = false) := by
      show _ = _
      cases e : s.toList with
      | nil => exact absurd e hl0
      | cons _ _ => rfl
     go_wp2
     go_ret
     exact ⟨rv (rb (by rw [HF.out, HE.out]; rfl)), rfl⟩
    ·have hI : ¬ (s.size : Int) ≤ 32 := by omega
     have hf : isName s = false := by rw [HALL.out]; simp; omega
     have HF := hid hf
     clear hf
     go_wp2
     go_ret
     exact ⟨rv (rb HF.out.symm), rfl⟩
end Go.Proofs.YtbjmadcbhkeenaaGreat.wr
namespace Go.Proofs.YtbjmadcbhkeenaaGreat.shr
open Go.RowKit sh st hs Go.ChangeShapes Go.WideShapes Go.ChangeAt
def SumLOk (h : List Int) : Prop := h.length = 32 ∧ ∀ c ∈ h, 0 ≤ c ∧ c ≤ 255
def RowM (w : World) (ao : Option Addr) (l : List (List Int)) : Prop :=
 l = [] ∨ ∃ b off, ao = some ⟨b, off, none⟩ ∧ b < w.heap.size ∧ ∀ i, i < l.length → At w ⟨b, off + i * 32, none⟩ ((l.getD i []).map (Value.int .u8))
structure SumsAt {H : Type} (W : World) (v : Value) (d : DataW H) (l : List (List Int)) (ao : Option Addr) (cap : Nat) : Prop where
 val : v = .slice ao l.length cap
 le : l.length ≤ cap
 row : RowM W ao l
 none : ao = none → cap = 0 ∧ l.length = 0
 ok : ∀ s ∈ l, SumLOk s
 len : cap ≤ maxLen
theorem size5' : ∀ w, (sizeOf 5).run Tryz.prog w = .ok 1 w := fun w => by kernel_rfl
theorem run_eq_sum (w : World) (s t : List Int) (hs : s.length = 32) (ht : t.length = 32) : (Op.equalIn 10000 54 (.agg (s.map (Value.int .u8)).toArray) (.agg (t.map (Value.int .u8)).toArray)).run Tryz.prog w = .ok (s == t) w :=
 run_equalIn_ints w 9998 54 5 32 .u8 Tryz.underlying54 Tryz.underlying5 size5' s t hs ht
end Go.Proofs.YtbjmadcbhkeenaaGreat.shr
namespace Go.Proofs.YtbjmadcbhkeenaaGreat.shr
open Go.RowKit sh st hs Go.ChangeShapes Go.WideShapes Go.ChangeAt
theorem bulk_pos {H : Type} (d : DataW H) : 1 ≤ Rows.uptoBulk d := by
 cases d with
 | lit l => cases l <;> simp [Rows.uptoBulk]
 | _ => simp [Rows.uptoBulk]
theorem bulkAll_ge {H : Type} : ∀ l : List (DataW H), l.length ≤ Rows.uptoBulkAll l
 | [] => Nat.zero_le _
 | d :: l => by
  have h1 := bulk_pos d
  have h2 := bulkAll_ge l
  simp only [Rows.uptoBulkAll, List.length_cons]; omega
theorem slice_bulk {H : Type} {enc : TypeId × Value → H} {P : Program} {W : World} {base : Nat} {held : Bool} {t e : TypeId} {ao : Option Addr} {len cap : Nat} {d : DataW H} {ps : List MemPlace}
  (ht : P.underlying t = some (.slice e)) (hd : DataW.Trod enc P W base (fun _ => true) held t (.slice ao len cap) d ps) : len ≤ Rows.uptoBulk d := by
 obtain ⟨fuel, hf⟩ := hd
 rcases Go.Deep.open_slice ht hf with ⟨h1, h2⟩ | ⟨ad, ln, cp, m, n, D, Pl, h1, h3, h4, h5, h6, h7, h8⟩
 ·simp [Value.cells] at h1
  rw [h1.2.1]; exact Nat.zero_le _
 ·simp [Value.cells] at h1
  obtain ⟨_, rfl, _⟩ := h1
  have hx : d = .slice ((List.range len).map D) ((List.range (m - len)).map fun j => D (len + j)) := congrArg Prod.fst h7
  have h9 := bulkAll_ge ((List.range len).map D)
  rw [hx]
  simp only [Rows.uptoBulk]
  simp only [List.length_map, List.length_range] at h9
  omega
structure PartsAt (w : World) (base : Nat) (v : Value) (ps : List Pt) : Prop where
 own : w.ownsRow base 25 1 v ps.length (ps.map Pt.v)
 ok : ∀ x ∈ ps, x.Ok w ∧ ∃ g, x.a = some ⟨g, 0, none⟩ ∧ v.ownBlock ≠ some g
theorem owns_up {w w' : World} {base : Nat} {e : TypeId} {size n : Nat} {v : Value} {xs : List Value} (h : w.ownsRow base e size v n xs) (hb : Below w.heap.size w w') : w'.ownsRow base e size v n xs :=
 h.kept (grown_below hb : w.grownBy w' none) (by by_cases e : v.ownBlock = none; exact Or.inl e; exact Or.inr e)
theorem rowV_of_owns' {w : World} {base n c N : Nat} {e : TypeId} {size : Nat} {ao : Option Addr} {xs : List Value} (h : w.ownsRow base e size (.slice ao n c) N xs) : RowV w ao xs := by
 obtain ⟨ao', cap', hv, _, hr⟩ := Mine.row (Or.inl h)
 injection hv with e1 e2 e3
 rw [e1]; exact hr
end Go.Proofs.YtbjmadcbhkeenaaGreat.shr
