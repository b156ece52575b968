/-
  The walk of the law ChancesMatch: it returns true. Conditions: a key and a nonce of octets.
-/
import Derived.Test.YtbljihhelladbaaChA
namespace Go.Proofs.Ytbljihhelladbaa.st
open Go.RowKit Go.Proofs.Ytbljihhelladbaa.sh
set_option pp.maxSteps 4000

set_option maxRecDepth 100000 in
theorem Numbers_out (K N : List Value) (m : Int) (w : World) (h : ¬ (0 ≤ m ∧ m ≤ 4096)) :
    Calls Try.prog 15 #[.agg K.toArray, .agg N.toArray, .int .i64 m] w fun e w' => e = .returned (.tuple #[.slice none 0 0, .int .i64 4]) ∧ Below w.heap.size w w' := by
  have HO := hid (fun w => outside_out m w h)
  clear h
  go_enter Try.func15, Try.ntmps15
  go_wp2_with (go_at_call 86; refine (HO.out _).mono ?_; rintro e w1 ⟨rfl, rfl⟩)
  go_ret2
  exact ⟨rfl, ((Below.refl w.heap.size w).alloc (Nat.le_refl _) _).alloc (by simp) _⟩

set_option maxRecDepth 100000 in
theorem chances_out (K N : List Value) (m : Int) (w : World) (hKL : K.length = 32) (hNL : N.length = 16) (h : ¬ (0 ≤ m ∧ m ≤ 4096)) :
    Calls Try.prog 3 #[.agg K.toArray, .agg N.toArray, .int .i64 m] w fun e w' => e = .returned (.bool true) ∧ Below w.heap.size w w' := by
  have HNO := hid (fun w => Numbers_out K N m w h)
  have hin : inB m 0 4096 = false := by unfold inB; simp; omega
  have HKL := hid hKL
  have HNL := hid hNL
  clear h hKL hNL
  go_enter Try.func3, Try.ntmps3
  go_wp2_with (first | (refine wl_load rfl 23 _ rfl ⟨w.heap.size, 0, none⟩ rfl K (by rw [HKL.out]; exact agg32) ((BlkV.new _ w K rfl).alloc _).at0 ?_) | (refine wl_load rfl 25 _ rfl ⟨w.heap.size + 1, 0, none⟩ rfl N (by rw [HNL.out]; exact aggN) (BlkV.new _ _ N (by simp)).at0 ?_))
  refine (HNO.out _).mono ?_
  rintro e w2 ⟨rfl, hb⟩
  go_wp2_with (first | (go_at_call 16; refine (In_any _ _ _ _).mono ?_; rintro e w4 ⟨rfl, rfl⟩) | (go_at_call 17; refine (shares_any _).mono ?_; rintro e w5 ⟨rfl, b5⟩))
  go_ret
  exact ⟨rfl, ((((Below.refl w.heap.size w).alloc (Nat.le_refl _) _).alloc (by simp) _).trans (hb.mono (by simp; omega))).trans (b5.mono (by have := hb.size; simp at this; omega))⟩

/-- a load under a guard that holds -/
theorem wl_loadW {P : Program} {w : World} {ops : Array Oper} {rest : List Oper} {o : Oper} {a : Act} {Q : Exit → Act → World → Prop} (hgd : Region.wanted o (yielded ops a.tmps) = true) (ty : TypeId) (x : Operand) (ho : o.op = .load ty x)
    (p : Addr) (hx : a.eval x = .pointer (some p)) (cs : List Value) (ha : Agg P ty cs.length) (hc : At w p cs) (h : wpList P ops Q rest (a.put o.dst (.agg cs.toArray)) w) : wpList P ops Q (o :: rest) a w := by
  refine wpList_step fun K hK' => ?_
  rw [if_pos hgd]
  unfold Oper.wp
  simp [execOp, ho, hx, Instr.loadAt, Instr.sureAddr, run_load_agg w ty p cs ha hc, Result.andThen]
  exact hK' _ _ h

theorem numsOf_le (many : Nat) (k n : List Int) : (numsOf many k n).length ≤ many := blkTo_le many k n _

set_option maxRecDepth 100000 in
theorem chances_in (k n : List Int) (many : Nat) (w : World) (hk : k.length = 32) (hn : n.length = 16) (ok : Octs k) (on : Octs n) (hmany : many ≤ 4096) :
    Calls Try.prog 3 #[.agg (k.map (Value.int .u8)).toArray, .agg (n.map (Value.int .u8)).toArray, .int .i64 many] w fun e w' => e = .returned (.bool true) ∧ Below w.heap.size w w' := by
  have hni := fun w => Numbers_in k n many w hk hn ok on hmany
  have hnr := fun w => numbersR k n many w hk hn ok on hmany
  obtain ⟨R, HR⟩ : ∃ R, Hid (R = numsOf many k n) := ⟨_, rfl⟩
  have hRm : R.length ≤ many := by rw [HR.out]; exact numsOf_le many k n
  obtain ⟨K, HK⟩ : ∃ K, Hid (K = k.map (Value.int .u8)) := ⟨_, rfl⟩
  obtain ⟨N, HN⟩ : ∃ N, Hid (N = n.map (Value.int .u8)) := ⟨_, rfl⟩
  rw [← HK.out, ← HN.out, ← HR.out] at hni hnr
  have HNI := hid hni
  have HNR := hid hnr
  rw [← HK.out, ← HN.out]
  have HKL : Hid (K.length = 32) := by show K.length = 32; rw [HK.out, List.length_map, hk]
  have HNL : Hid (N.length = 16) := by show N.length = 16; rw [HN.out, List.length_map, hn]
  have hin : inB (many : Int) 0 4096 = true := by unfold inB; simp; omega
  clear hni hnr hk hn
  have hKw : BlkV 23 ((w.alloc (.cells K.toArray 23)).alloc (.cells N.toArray 25)) w.heap.size K := (BlkV.new _ w K rfl).alloc _
  have hNw : BlkV 25 ((w.alloc (.cells K.toArray 23)).alloc (.cells N.toArray 25)) (w.heap.size + 1) N := BlkV.new _ _ N (by simp)
  have hb0 : Below w.heap.size w ((w.alloc (.cells K.toArray 23)).alloc (.cells N.toArray 25)) := ((Below.refl w.heap.size w).alloc (Nat.le_refl _) _).alloc (by simp) _
  go_enter Try.func3, Try.ntmps3
  go_wp2_with (first | (refine wl_load rfl 23 _ rfl ⟨w.heap.size, 0, none⟩ rfl K (by rw [HKL.out]; exact agg32) hKw.at0 ?_) | (refine wl_load rfl 25 _ rfl ⟨w.heap.size + 1, 0, none⟩ rfl N (by rw [HNL.out]; exact aggN) hNw.at0 ?_))
  refine (HNI.out _).mono ?_
  rintro e w2 ⟨ao, cap, rfl, hR2, hb2⟩
  have hK2 := hKw.below hb2 hKw.lt
  have hN2 := hNw.below hb2 hNw.lt
  have b2 := hb0.trans (hb2.mono hb0.size)
  clear hKw hNw hb0 hb2
  go_wp2_with (first | (go_at_call 16; refine (In_any _ _ _ _).mono ?_; rintro e w4 ⟨rfl, rfl⟩))
  refine (shares_any _).mono ?_
  rintro e w5 ⟨rfl, b25⟩
  have hK5 := hK2.below b25 hK2.lt
  have hN5 := hN2.below b25 hN2.lt
  have hR5 := hR2.below b25
  have b5 := b2.trans (b25.mono b2.size)
  clear hK2 hN2 hR2 b2 b25
  go_wp2_with (first | (refine wl_loadW (by rfl) 23 _ rfl ⟨w.heap.size, 0, none⟩ rfl K (by rw [HKL.out]; exact agg32) hK5.at0 ?_) | (refine wl_loadW (by rfl) 25 _ rfl ⟨w.heap.size + 1, 0, none⟩ rfl N (by rw [HNL.out]; exact aggN) hN5.at0 ?_))
  refine (HNR.out _).mono ?_
  rintro e w6 ⟨ao6, cap6, rfl, hR6, b6⟩
  have hR56 := hR5.below b6
  have b56 := b5.trans (b6.mono b5.size)
  go_wp2_with fail
  refine (equal_same ao ao6 cap cap6 R w6 hR56 hR6 (by omega)).mono ?_
  rintro e w7 ⟨rfl, b7⟩
  go_wp2
  go_ret
  exact ⟨rfl, b56.trans (b7.mono b56.size)⟩

theorem chances (k n : List Int) (m : Int) (w : World) (hk : k.length = 32) (hn : n.length = 16) (ok : Octs k) (on : Octs n) :
    Calls Try.prog 3 #[.agg (k.map (Value.int .u8)).toArray, .agg (n.map (Value.int .u8)).toArray, .int .i64 m] w fun e w' => e = .returned (.bool true) ∧ Below w.heap.size w w' := by
  by_cases h : 0 ≤ m ∧ m ≤ 4096
  · obtain ⟨many, rfl⟩ := Int.eq_ofNat_of_zero_le h.1
    exact chances_in k n many w hk hn ok on (by omega)
  · exact chances_out _ _ m w (by rw [List.length_map, hk]) (by rw [List.length_map, hn]) h
end Go.Proofs.Ytbljihhelladbaa.st
