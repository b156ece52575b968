/-
  The law FaultsAreFound: the walk. Conditions: a list of shares of the type's form that lies in memory. What a law's walk owes the row's form: a call that returns true and leaves all that was there as it was meets the law's 'post'. Conditions: none but the parameters' types being readable, which is asked as a closed fact.
-/
import Derived.Test.YtbljihhelladbaaFGsO
import Derived.Test.YtbljihhelladbaaFMem
import Derived.ProofKit
import Derived.OpenShut
import Derived.JoinedCond
namespace Go.Proofs.Ytbljihhelladbaa.gs
open Go.RowKit Go.Proofs.Ytbljihhelladbaa.Fld Go.Proofs.Ytbljihhelladbaa.sh Go.Proofs.Ytbljihhelladbaa.shr
set_option linter.unusedSimpArgs false
set_option linter.unusedVariables false
set_option pp.maxSteps 6000
theorem wl_eqD' {P : Program} {w : World} {ops : Array Oper} {rest : List Oper} {o : Oper} {a : Act} {Q : Exit → Act → World → Prop} (d : Nat) (hd : o.dst = some d) (hgd : Region.wanted o (yielded ops a.tmps) = true) (ty ty2 : TypeId) (x y : Operand) (ho : o.op = .binOp .eql ty x y ty2)
    (A B : Array Value) (hx : a.eval x = .agg A) (hy : a.eval y = .agg B) (b : Bool) (he : (Op.equalIn 10000 ty (.agg A) (.agg B)).run P w = .ok b w) (hm : P.eqGuardType P.depth ty = false) (h : wpList P ops Q rest (a.put o.dst (.bool b)) w) : wpList P ops Q (o :: rest) a w := by
  refine wpList_step fun K hK' => ?_
  rw [if_pos hgd]
  unfold Oper.wp
  simp [execOp, ho, hx, hy, run_eqGuard_agg, run_eql_struct, hm, he, Result.andThen]
  exact hK' _ _ h
theorem mendK_length (need : Int) (l : List Sh) : (mendK need l).length = 32 := by unfold mendK; split; exact keyF_length _; simp
set_option maxRecDepth 100000 in
set_option maxHeartbeats 1000000 in
theorem law_bad (need : Int) (ao : Option Addr) (cap n : Nat) (l : List Sh) (w : World) (hnl : n = l.length) (hr : RowS w ao l) (hok : ∀ s ∈ l, s.Ok) (hn : n ≤ 9223372036854775807) (hcap : n ≤ cap) (hE0 : sharesE false need l ≠ 0) :
    Calls Try.prog 6 #[.int .i64 need, .slice ao n cap] w fun e w' => e = .returned (.bool true) ∧ Below w.heap.size w w' := by
  obtain ⟨B, HB⟩ : ∃ B, Hid (B = w.heap.size) := ⟨_, rfl⟩
  have hsz : w.heap.size = B := HB.out.symm
  have HNL := hid hnl
  have HOK := hid hok
  obtain ⟨Z, HZ⟩ : ∃ Z, Hid (Z = zero32) := ⟨_, rfl⟩
  have HZ0 := hid zeroKey
  rw [← HZ.out] at HZ0
  have hZl : Z.length = 32 := by rw [HZ.out]; rfl
  have hZ1 : ∀ u ∈ Z, u.oneCell' = true := by rw [HZ.out]; exact ints_one _ _
  have HBU : Hid ((Try.prog.built 23 []) = some Z.toArray) := hid (by rw [HZ.out]; kernel_rfl)
  obtain ⟨KV, HKV⟩ : ∃ V, Hid (V = (mendK need l).map (Value.int .u8)) := ⟨_, rfl⟩
  have hKVl : KV.length = 32 := by rw [HKV.out, List.length_map, mendK_length]
  have hKV1 : ∀ u ∈ KV, u.oneCell' = true := by rw [HKV.out]; exact ints_one _ _
  obtain ⟨KE, HKE⟩ : ∃ e, Hid (e = mendE need l) := ⟨_, rfl⟩
  obtain ⟨bs, HBS⟩ : ∃ e, Hid (e = mendB need l) := ⟨_, rfl⟩
  obtain ⟨j, HJ⟩ : ∃ e, Hid (e = bs.length) := ⟨_, rfl⟩
  obtain ⟨E, HE⟩ : ∃ e, Hid (e = sharesE false need l) := ⟨_, rfl⟩
  have hmd : Hid (Calls Try.prog 38 #[.int .i64 need, .slice ao n cap] w fun e w' => Below B w w' ∧ ∃ v, e = .returned (.tuple #[.agg KV.toArray, v, .int .i64 KE]) ∧ Mine w' B 57 16 v j (flatID bs)) := hid (by
    have h := Mend_any need ao cap n l w hnl hr hok (by omega)
    refine h.mono fun e w' hp => ?_
    unfold MendPost at hp
    rw [← HKV.out, ← HKE.out, ← HBS.out, ← HJ.out, hsz] at hp
    exact hp)
  have hse := fun (z : World) (hz : Below B w z) => hid (SharesError_any false need ao cap l z (hr.below (hsz ▸ hz)) hok (by omega) (by omega))
  rw [← HNL.out, ← HE.out] at hse
  have hK0 : mendE need l = sharesE false need l := by unfold mendE; rw [if_pos hE0]
  have e1 : KE = E := by rw [HKE.out, HE.out, hK0]
  have e2 : KV = Z := by rw [HKV.out, HZ.out]; unfold mendK; rw [hK0, if_neg hE0]; rfl
  have e3 : bs = [] := by rw [HBS.out]; unfold mendB; rw [hK0, if_neg hE0]
  have e4 : j = 0 := by rw [HJ.out, e3]; rfl
  have hEb : (E != 0) = true := by rw [HE.out]; simp [hE0]
  subst e1 e2 e4
  have heq : Hid (∀ w, (Op.equalIn 10000 23 (.agg KV.toArray) (.agg KV.toArray)).run Try.prog w = .ok true w) := hid (fun w => by
    have := eq_key (List.replicate 32 0) (List.replicate 32 0) (by simp) (by simp) w
    rw [beq_self_eq_true] at this
    rw [HZ.out]; exact this)
  clear hnl hok hE0 hK0 e3
  rw [hsz]
  go_enter Try.func6, Try.ntmps6
  go_wp2_with (first | (refine wl_eqD' 32 rfl (by kernel_rfl) 23 _ _ _ rfl KV.toArray KV.toArray rfl rfl true (heq.out _) (by kernel_rfl) ?_) | (refine wl_build0G (by kernel_rfl) 23 rfl KV HBU.out ?_) | (refine wl_loadD 30 rfl (by kernel_rfl) 23 _ rfl ⟨w1.heap.size, 0, none⟩ rfl 32 KV hKVl aggKey hT6.at0 ?_) | (go_at_call 17; refine (shares_any w5).mono ?_; rintro e w6 ⟨rfl, hb6⟩; have hT6 := hT5.below hb6 hT5.lt; have bb6 : Below B w w6 := bb5.trans (hb6.mono (by have := bb5.size; omega)); clear hT5 bb5) | (go_at_call 17; refine (shares_any w4).mono ?_; rintro e w5 ⟨rfl, hb5⟩; have hT5 := hT4.below hb5 hT4.lt; have bb5 : Below B w w5 := bb4.trans (hb5.mono (by have := bb4.size; omega)); clear hT4 bb4) | (go_at_call 30; refine (hse w3 bb3).out.mono ?_; rintro e w4 ⟨rfl, hb4⟩; have hT4 := hT3.below hb4 hT3.lt; have bb4 : Below B w w4 := bb3.trans (hb4.mono (by have := bb3.size; omega)); clear hT3 bb3) | (refine wl_storeV rfl 23 _ _ rfl 23 w1.heap.size rfl KV rfl 32 aggKey hKVl KV hT2 hKVl hKV1 ?_; intro w3 hT3 hb3 hs3; have bb3 : Below B w w3 := bb2.trans (hb3.mono (by have := hb1.size; omega)); clear hT2 bb2) | (refine wl_allocV rfl 23 rfl KV HZ0.out w1.heap.size rfl ?_; intro w2 hT2 hb2 hs2; have bb2 : Below B w w2 := hb1.trans (hb2.mono (by have := hb1.size; omega))) | (go_at_call 38; refine hmd.out.mono ?_; rintro e w1 ⟨hb1, v1, rfl, hM1⟩; obtain ⟨a1, c1, rfl, _, _⟩ := hM1.row))
  go_ret
  exact ⟨rfl, bb6⟩
theorem mine_rowV {w : World} {base n size c : Nat} {e : TypeId} {ao : Option Addr} {xs : List Value} (h : Mine w base e size (.slice ao n c) n xs) : RowV w ao xs := by
  obtain ⟨a, c', e1, _, h2⟩ := h.row
  injection e1 with e1 e2 e3
  rw [e1]; exact h2
set_option maxRecDepth 100000 in
set_option maxHeartbeats 1000000 in
theorem law_good (need : Int) (ao : Option Addr) (cap n : Nat) (l : List Sh) (w : World) (hnl : n = l.length) (hr : RowS w ao l) (hok : ∀ s ∈ l, s.Ok) (hn : n ≤ 9223372036854775807) (hcap : n ≤ cap) (hE0 : sharesE false need l = 0) :
    Calls Try.prog 6 #[.int .i64 need, .slice ao n cap] w fun e w' => e = .returned (.bool true) ∧ Below w.heap.size w w' := by
  obtain ⟨B, HB⟩ : ∃ B, Hid (B = w.heap.size) := ⟨_, rfl⟩
  have hsz : w.heap.size = B := HB.out.symm
  have HNL := hid hnl
  have HOK := hid hok
  obtain ⟨Z, HZ⟩ : ∃ Z, Hid (Z = zero32) := ⟨_, rfl⟩
  have HZ0 := hid zeroKey
  rw [← HZ.out] at HZ0
  have hZl : Z.length = 32 := by rw [HZ.out]; rfl
  have hZ1 : ∀ u ∈ Z, u.oneCell' = true := by rw [HZ.out]; exact ints_one _ _
  have HBU : Hid ((Try.prog.built 23 []) = some Z.toArray) := hid (by rw [HZ.out]; kernel_rfl)
  obtain ⟨KV, HKV⟩ : ∃ V, Hid (V = (mendK need l).map (Value.int .u8)) := ⟨_, rfl⟩
  have hKVl : KV.length = 32 := by rw [HKV.out, List.length_map, mendK_length]
  have hKV1 : ∀ u ∈ KV, u.oneCell' = true := by rw [HKV.out]; exact ints_one _ _
  obtain ⟨KE, HKE⟩ : ∃ e, Hid (e = mendE need l) := ⟨_, rfl⟩
  obtain ⟨bs, HBS⟩ : ∃ e, Hid (e = mendB need l) := ⟨_, rfl⟩
  obtain ⟨j, HJ⟩ : ∃ e, Hid (e = bs.length) := ⟨_, rfl⟩
  obtain ⟨E, HE⟩ : ∃ e, Hid (e = sharesE false need l) := ⟨_, rfl⟩
  have hmd : Hid (Calls Try.prog 38 #[.int .i64 need, .slice ao n cap] w fun e w' => Below B w w' ∧ ∃ v, e = .returned (.tuple #[.agg KV.toArray, v, .int .i64 KE]) ∧ Mine w' B 57 16 v j (flatID bs)) := hid (by
    have h := Mend_any need ao cap n l w hnl hr hok (by omega)
    refine h.mono fun e w' hp => ?_
    unfold MendPost at hp
    rw [← HKV.out, ← HKE.out, ← HBS.out, ← HJ.out, hsz] at hp
    exact hp)
  have hse := fun (z : World) (hz : Below B w z) => hid (SharesError_any false need ao cap l z (hr.below (hsz ▸ hz)) hok (by omega) (by omega))
  rw [← HNL.out, ← HE.out] at hse
  obtain ⟨m, rfl, hm1, hml, hl32, hea⟩ := sharesE_ok hE0
  have hg := good_of l hok hea
  obtain ⟨f1, f2, f3⟩ := mend_ref hg hm1 hml hE0
  have HM1 := hid hm1
  have hmo := fun (z : World) (hz : Below B w z) => hid (show Calls Try.prog 39 #[.int .i64 m, .slice ao n cap] z fun e w' => Below z.heap.size z w' ∧ ∃ v, e = .returned (.tuple #[.agg KV.toArray, v, .int .i64 KE]) ∧ Mine w' z.heap.size 57 16 v j (flatID bs) by
    have h := MendOf_any m n cap ao l z hnl (hr.below (hsz ▸ hz)) hok hg hm1 (by omega) (by omega)
    refine h.mono fun e w' hp => ?_
    unfold RefPost at hp
    rw [← f1, ← f2, ← f3, ← HKV.out, ← HKE.out, ← HBS.out, ← HJ.out] at hp
    exact hp)
  have hEz : E = 0 := by rw [HE.out, hE0]
  subst hEz
  have HZE : Hid (KE ≠ 0 → KV = Z ∧ j = 0) := hid (fun h => by
    rw [HKE.out] at h
    refine ⟨?_, ?_⟩
    · rw [HKV.out, HZ.out]; unfold mendK; rw [if_neg h]; rfl
    · rw [HJ.out, HBS.out]; unfold mendB; rw [if_neg h]; rfl)
  have heq : Hid (∀ w, (Op.equalIn 10000 23 (.agg KV.toArray) (.agg KV.toArray)).run Try.prog w = .ok true w) := hid (fun w => by
    have := eq_key (mendK (m : Int) l) (mendK (m : Int) l) (mendK_length _ _) (mendK_length _ _) w
    rw [beq_self_eq_true, ← HKV.out] at this
    exact this)
  have HIL : Hid (∀ s ∈ bs, s.h.length = 16) := hid (fun s hs => by
    rw [HBS.out] at hs
    unfold mendB at hs
    split at hs
    · exact (hok s (List.mem_filter.1 hs).1).hl
    · cases hs)
  have HJN : Hid (j ≤ n) := hid (by
    rw [HJ.out, HBS.out, hnl]
    unfold mendB
    split
    · exact List.length_filter_le _ _
    · exact Nat.zero_le _)
  have hn32 : n ≤ 32 := by omega
  clear hok hE0 hea f1 f2 f3 hm1 hml hl32 hnl
  rw [hsz]
  by_cases h7 : 7 < n
  · have h7I : (7 : Int) < (n : Int) := by omega
    go_enter Try.func6, Try.ntmps6
    go_wp2_with (first | (go_at_call 17; refine (shares_any w4).mono ?_; rintro e w5 ⟨rfl, hb5⟩; have hT5 := hT4.below hb5 hT4.lt; have bb5 : Below B w w5 := bb4.trans (hb5.mono (by have := bb4.size; omega)); have hM5 := hM4.belowAll hb5; clear hT4 bb4 hM4) | (go_at_call 30; refine (hse w3 bb3).out.mono ?_; rintro e w4 ⟨rfl, hb4⟩; have hT4 := hT3.below hb4 hT3.lt; have bb4 : Below B w w4 := bb3.trans (hb4.mono (by have := bb3.size; omega)); have hM4 := hM3.belowAll hb4; clear hT3 bb3 hM3) | (refine wl_storeV rfl 23 _ _ rfl 23 w1.heap.size rfl KV rfl 32 aggKey hKVl Z hT2 hZl hKV1 ?_; intro w3 hT3 hb3 hs3; have bb3 : Below B w w3 := bb2.trans (hb3.mono (by have := hb1.size; omega)); have hM3 := hM1.belowAll (hb2.trans hb3); clear hT2 bb2 hM1) | (refine wl_allocV rfl 23 rfl Z HZ0.out w1.heap.size rfl ?_; intro w2 hT2 hb2 hs2; have bb2 : Below B w w2 := hb1.trans (hb2.mono (by have := hb1.size; omega))) | (go_at_call 38; refine hmd.out.mono ?_; rintro e w1 ⟨hb1, v1, rfl, hM1⟩; obtain ⟨a1, c1, rfl, _, _⟩ := hM1.row))
    go_ret
    exact ⟨rfl, bb5⟩
  · have h7I : ¬ (7 : Int) < (n : Int) := by omega
    by_cases hk : KE = 0
    · subst hk
      have hbl := HIL.out
      have hjn := HJN.out
      go_enter Try.func6, Try.ntmps6
      go_wp2_with (first | (go_at_call 40; refine (equal_ids a1 a2 c1 c2 j bs w8 HJ.out hA8 hA8' hbl (by omega)).mono ?_; rintro e w9 ⟨rfl, hb9⟩; have bb9 : Below B w w9 := bb8.trans (hb9.mono (by have := bb8.size; omega))) | (refine wl_eqD' 74 rfl (by kernel_rfl) 23 _ _ _ rfl KV.toArray KV.toArray rfl rfl true (heq.out _) (by kernel_rfl) ?_) | (refine wl_loadD 73 rfl (by kernel_rfl) 23 _ rfl ⟨w6.heap.size, 0, none⟩ rfl 32 KV hKVl aggKey hU8.at0 ?_) | (refine wl_loadD 72 rfl (by kernel_rfl) 23 _ rfl ⟨w1.heap.size, 0, none⟩ rfl 32 KV hKVl aggKey hT8.at0 ?_) | (refine wl_storeV rfl 23 _ _ rfl 23 w6.heap.size rfl KV rfl 32 aggKey hKVl Z hU7 hZl hKV1 ?_; intro w8 hU8 hb8 hs8; have bb8 : Below B w w8 := bb7.trans (hb8.mono (by have := bb6.size; omega)); have hM8 := hM6.belowAll (hb7.trans hb8); have hN8 := hN6.belowAll (hb7.trans hb8); have hT8 := hT7.below hb8 h16; clear hU7 bb7 hM6 hN6 hT7; have hA8 := mine_rowV hM8; have hA8' := mine_rowV hN8) | (refine wl_allocV rfl 23 rfl Z HZ0.out w6.heap.size rfl ?_; intro w7 hU7 hb7 hs7; have bb7 : Below B w w7 := bb6.trans (hb7.mono (by have := bb6.size; omega)); have hT7 := hT6.below hb7 h16; clear hT6) | (go_at_call 39; refine (hmo w5 bb5).out.mono ?_; rintro e w6 ⟨hb6, v2, rfl, hN6⟩; obtain ⟨a2, c2, rfl, _, _⟩ := hN6.row; have hT6 := hT5.below hb6 hT5.lt; have bb6 : Below B w w6 := bb5.trans (hb6.mono (by have := bb5.size; omega)); have hM6 := hM5.belowAll hb6; have h16 : w1.heap.size < w6.heap.size := hT6.lt; clear hT5 bb5 hM5) | (go_at_call 17; refine (shares_any w4).mono ?_; rintro e w5 ⟨rfl, hb5⟩; have hT5 := hT4.below hb5 hT4.lt; have bb5 : Below B w w5 := bb4.trans (hb5.mono (by have := bb4.size; omega)); have hM5 := hM4.belowAll hb5; clear hT4 bb4 hM4) | (go_at_call 30; refine (hse w3 bb3).out.mono ?_; rintro e w4 ⟨rfl, hb4⟩; have hT4 := hT3.below hb4 hT3.lt; have bb4 : Below B w w4 := bb3.trans (hb4.mono (by have := bb3.size; omega)); have hM4 := hM3.belowAll hb4; clear hT3 bb3 hM3) | (refine wl_storeV rfl 23 _ _ rfl 23 w1.heap.size rfl KV rfl 32 aggKey hKVl Z hT2 hZl hKV1 ?_; intro w3 hT3 hb3 hs3; have bb3 : Below B w w3 := bb2.trans (hb3.mono (by have := hb1.size; omega)); have hM3 := hM1.belowAll (hb2.trans hb3); clear hT2 bb2 hM1) | (refine wl_allocV rfl 23 rfl Z HZ0.out w1.heap.size rfl ?_; intro w2 hT2 hb2 hs2; have bb2 : Below B w w2 := hb1.trans (hb2.mono (by have := hb1.size; omega))) | (go_at_call 38; refine hmd.out.mono ?_; rintro e w1 ⟨hb1, v1, rfl, hM1⟩; obtain ⟨a1, c1, rfl, _, _⟩ := hM1.row))
      go_ret
      exact ⟨rfl, bb9⟩
    · obtain ⟨k1, k2⟩ := HZE.out hk
      have hkb : (KE != 0) = true := by simp [hk]
      subst k2
      subst k1
      have heq0 := heq
      clear hk
      go_enter Try.func6, Try.ntmps6
      go_wp2_with (first | (refine wl_eqD' 58 rfl (by kernel_rfl) 23 _ _ _ rfl KV.toArray KV.toArray rfl rfl true (heq0.out _) (by kernel_rfl) ?_) | (refine wl_build0 rfl 23 rfl KV HBU.out ?_) | (refine wl_load rfl 23 _ rfl ⟨w1.heap.size, 0, none⟩ rfl KV (by rw [hKVl]; exact aggKey) hT8.at0 ?_) | (refine wl_storeV rfl 23 _ _ rfl 23 w6.heap.size rfl KV rfl 32 aggKey hKVl KV hU7 hKVl hKV1 ?_; intro w8 hU8 hb8 hs8; have bb8 : Below B w w8 := bb7.trans (hb8.mono (by have := bb6.size; omega)); have hM8 := hM6.belowAll (hb7.trans hb8); have hN8 := hN6.belowAll (hb7.trans hb8); have hT8 := hT7.below hb8 h16; clear hU7 bb7 hM6 hN6 hT7) | (refine wl_allocV rfl 23 rfl KV HZ0.out w6.heap.size rfl ?_; intro w7 hU7 hb7 hs7; have bb7 : Below B w w7 := bb6.trans (hb7.mono (by have := bb6.size; omega)); have hT7 := hT6.below hb7 h16; clear hT6) | (go_at_call 39; refine (hmo w5 bb5).out.mono ?_; rintro e w6 ⟨hb6, v2, rfl, hN6⟩; obtain ⟨a2, c2, rfl, _, _⟩ := hN6.row; have hT6 := hT5.below hb6 hT5.lt; have bb6 : Below B w w6 := bb5.trans (hb6.mono (by have := bb5.size; omega)); have hM6 := hM5.belowAll hb6; have h16 : w1.heap.size < w6.heap.size := hT6.lt; clear hT5 bb5 hM5) | (go_at_call 17; refine (shares_any w4).mono ?_; rintro e w5 ⟨rfl, hb5⟩; have hT5 := hT4.below hb5 hT4.lt; have bb5 : Below B w w5 := bb4.trans (hb5.mono (by have := bb4.size; omega)); have hM5 := hM4.belowAll hb5; clear hT4 bb4 hM4) | (go_at_call 30; refine (hse w3 bb3).out.mono ?_; rintro e w4 ⟨rfl, hb4⟩; have hT4 := hT3.below hb4 hT3.lt; have bb4 : Below B w w4 := bb3.trans (hb4.mono (by have := bb3.size; omega)); have hM4 := hM3.belowAll hb4; clear hT3 bb3 hM3) | (refine wl_storeV rfl 23 _ _ rfl 23 w1.heap.size rfl KV rfl 32 aggKey hKVl KV hT2 hKVl hKV1 ?_; intro w3 hT3 hb3 hs3; have bb3 : Below B w w3 := bb2.trans (hb3.mono (by have := hb1.size; omega)); have hM3 := hM1.belowAll (hb2.trans hb3); clear hT2 bb2 hM1) | (refine wl_allocV rfl 23 rfl KV HZ0.out w1.heap.size rfl ?_; intro w2 hT2 hb2 hs2; have bb2 : Below B w w2 := hb1.trans (hb2.mono (by have := hb1.size; omega))) | (go_at_call 38; refine hmd.out.mono ?_; rintro e w1 ⟨hb1, v1, rfl, hM1⟩; obtain ⟨a1, c1, rfl, _, _⟩ := hM1.row))
      go_ret
      exact ⟨rfl, bb8⟩
theorem law (need : Int) (ao : Option Addr) (cap n : Nat) (l : List Sh) (w : World) (hnl : n = l.length) (hr : RowS w ao l) (hok : ∀ s ∈ l, s.Ok) (hn : n ≤ 9223372036854775807) (hcap : n ≤ cap) :
    Calls Try.prog 6 #[.int .i64 need, .slice ao n cap] w fun e w' => e = .returned (.bool true) ∧ Below w.heap.size w w' := by
  by_cases hE : sharesE false need l = 0
  · exact law_good need ao cap n l w hnl hr hok hn hcap hE
  · exact law_bad need ao cap n l w hnl hr hok hn hcap hE
end Go.Proofs.Ytbljihhelladbaa.gs
namespace Go.Proofs.Ytbljihhelladbaa.law
set_option linter.unusedSimpArgs false
set_option linter.unusedVariables false
open Go.ChangeShapes Go.WideShapes Go.ChangeAt Go.RowKit
/-- types that can be read, and whose rows there are -/
def Readable (P : Program) : List TypeId → Prop
  | [] => True
  | t :: ts => P.readableRec t = true ∧ t < P.types.size ∧ Readable P ts
theorem readable_nil {P : Program} : Readable P [] := trivial
theorem readable_cons {P : Program} {t : TypeId} {ts : List TypeId} (h : P.readableRec t = true) (k : t < P.types.size) (r : Readable P ts) : Readable P (t :: ts) := ⟨h, k, r⟩
theorem stays {H : Type} {enc : TypeId × Value → H} {P : Program} (hl : laidOutB P = true) {W W' : World} (hb : Below W.heap.size W W') :
    ∀ (ts : List TypeId) (vs : List Value) (ds : List (DataW H)) (ps : List MemPlace), Readable P ts → DataW.TrodAll enc P W 0 (fun _ => true) true ts vs ds ps → (∀ x ∈ ps, x.block < W.heap.size) →
      DataW.TrodAll enc P W' 0 (fun b => decide (b < W.heap.size)) true ts vs ds ps
  | [], vs, ds, ps, _, h, _ => by
    obtain ⟨rfl, rfl, rfl⟩ := trodAll_nil h
    exact trodAll_mk0
  | t :: ts, vs, ds, ps, hr, h, hlt => by
    obtain ⟨v, vs1, d, ds1, a, b, rfl, rfl, rfl, h1, h2⟩ := trodAll_cons h
    exact trodAll_cons_mk (Below.trod hl hr.1 hr.2.1 h1 hb (fun x hx => hlt x (List.mem_append_left _ hx))) (stays hl hb ts vs1 ds1 b hr.2.2 h2 (fun x hx => hlt x (List.mem_append_right _ hx)))
theorem post {H : Type} {enc : TypeId × Value → H} {P : Program} (hl : laidOutB P = true) {f : Func} {s : ChangeSpec} {W W' : World} {args : Array Value} {ds gs : List (DataW H)} {before : List MemPlace} {tb : TypeId}
    (hW : DataW.Whole enc P f.params.toList s.vars false W args.toList ds gs before) (hvars : s.vars = []) (hp : Readable P f.params.toList) (hr : f.resultTypes = #[tb]) (hu : P.underlying tb = some .bool)
    (hfn : (s.fn H ds) = { results := [.lit (.bool true)], args := ds }) (hb : Below W.heap.size W W') :
    s.post enc P f false true false false W args (.bool true) W' := by
  have hW' := hW
  obtain ⟨p, q, hA, hV, rfl, hfz, hnd⟩ := hW
  rw [hvars] at hV
  obtain ⟨rfl, rfl⟩ := trodVars_none hV
  refine ⟨ds, [], p ++ [], [], p, [], hW', ?_, ?_, ?_, hb.frame _, fun h => by cases h⟩
  · rw [hr, List.append_nil, hfn]
    exact trodAll_cons_mk (shut_bool hu true) trodAll_mk0
  · rw [List.append_nil, hfn]
    exact stays hl hb _ _ _ _ hp hA fun x hx => hA.lt x hx
  · rw [hvars, List.append_nil, hfn]
    exact rfl
theorem laidOut : laidOutB Try.prog = true := by kernel_rfl
theorem own : ownKnob Try.prog.godebug = none := by kernel_rfl
end Go.Proofs.Ytbljihhelladbaa.law
