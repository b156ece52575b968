/-
  mix.Stream of a whole block: 64 octets from a place that 64 divides. Conditions: a key and a nonce of octets; the place at most 2^40.
-/
import Derived.Test.YtbljihhelladbaaStG
namespace Go.Proofs.Ytbljihhelladbaa.st
open Go.RowKit
set_option pp.maxSteps 4000

theorem info8 : Info Try.prog 5 (.int .u8 0) 1 1 := by unfold Info; kernel_rfl
/-- a block of a stream -/
def blk (k n : List Int) (q : Nat) : List Int := stirL (seed k n q)
theorem blk_length (k n : List Int) (q : Nat) : (blk k n q).length = 64 := octL_length _ _

theorem rowV_of {t : TypeId} {w : World} {g : Nat} {cs : List Value} (h : BlkV t w g cs) : RowV w (some ⟨g, 0, none⟩) cs := Or.inr ⟨g, 0, rfl, h.lt, fun j u hu => by rw [Nat.zero_add, h.cell]; exact hu⟩

def left64 : Value → Nat
  | .slice _ n _ => 64 - n
  | _ => 0

set_option maxRecDepth 100000 in
set_option maxHeartbeats 2000000 in
theorem streamM (k n : List Int) (q : Nat) (F : Int) (hF : F = 64 * (q : Int)) (w : World) (hk : k.length = 32) (hn : n.length = 16) (ok : Octs k) (on : Octs n) (hq : q ≤ 17179869184) :
    Calls Try.prog 150 #[.agg (k.map (Value.int .u8)).toArray, .agg (n.map (Value.int .u8)).toArray, .int .i64 F, .int .i64 64] w fun e w' => ∃ ao cap, e = .returned (.tuple #[.slice ao 64 cap, .int .i64 0]) ∧ Mine w' w.heap.size 5 1 (.slice ao 64 cap) 64 ((blk k n q).map (Value.int .u8)) ∧ Below w.heap.size w w' := by
  obtain ⟨K, HK⟩ : ∃ K, Hid (K = k.map (Value.int .u8)) := ⟨_, rfl⟩
  obtain ⟨N, HN⟩ : ∃ N, Hid (N = n.map (Value.int .u8)) := ⟨_, rfl⟩
  rw [← HK.out, ← HN.out]
  have HKL : Hid (K.length = 32) := by show K.length = 32; rw [HK.out, List.length_map, hk]
  have HNL : Hid (N.length = 16) := by show N.length = 16; rw [HN.out, List.length_map, hn]
  obtain ⟨B, HB⟩ : ∃ B, Hid (B = blk k n q) := ⟨_, rfl⟩
  have HBL : Hid (B.length = 64) := by show B.length = 64; rw [HB.out, blk_length]
  obtain ⟨BB, HBB⟩ : ∃ BB, Hid (BB = B.map (Value.int .u8)) := ⟨_, rfl⟩
  have hsb : ∀ w, Calls Try.prog 195 #[.agg (k.map (Value.int .u8)).toArray, .agg (n.map (Value.int .u8)).toArray, .int .u64 q] w fun e w' => e = .returned (.agg ((blk k n q).map (Value.int .u8)).toArray) ∧ Below w.heap.size w w' := fun w => streamBlock k n q w hk hn ok on (by omega)
  rw [← HK.out, ← HN.out, ← HB.out, ← HBB.out] at hsb
  have HSB := hid hsb
  have HBBL : Hid (BB.length = 64) := by show BB.length = 64; rw [HBB.out, List.length_map, HBL.out]
  have hBB1 : ∀ u ∈ BB, u.oneCell' = true := by rw [HBB.out]; exact ints_one _ _
  have HY := hid zero64
  obtain ⟨Z, HZ'⟩ : ∃ Z, Hid (Z = (List.replicate 64 (0 : Int)).map (Value.int .u8)) := ⟨_, rfl⟩
  rw [← HZ'.out] at HY
  have HZL : Hid (Z.length = 64) := by show Z.length = 64; rw [HZ'.out, List.length_map, List.length_replicate]
  clear hsb
  have hd : F.tdiv 64 = q := by rw [hF, Int.tdiv_eq_ediv_of_nonneg (by omega)]; omega
  have hm : F.tmod 64 = 0 := by rw [hF, Int.tmod_eq_emod_of_nonneg (by omega)]; omega
  have hF0 : 0 ≤ F := by omega
  have hF1 : F ≤ 1099511627776 := by omega
  clear hF hk hn
  go_enter Try.func150, Try.ntmps150
  obtain ⟨i8, hi8, hz8, hs8, hy8⟩ := info8.parts
  have HI8 := hid hi8
  have HZ8 := hid hz8
  have HS8 := hid hs8
  have HY8 := hid hy8
  clear hi8 hz8 hs8 hy8
  have hKw : BlkV 23 ((w.alloc (.cells K.toArray 23)).alloc (.cells N.toArray 25)) w.heap.size K := (BlkV.new _ w K rfl).alloc _
  have hNw : BlkV 25 ((w.alloc (.cells K.toArray 23)).alloc (.cells N.toArray 25)) (w.heap.size + 1) N := BlkV.new _ _ N (by simp)
  have hb0 : Below w.heap.size w ((w.alloc (.cells K.toArray 23)).alloc (.cells N.toArray 25)) := ((Below.refl w.heap.size w).alloc (Nat.le_refl _) _).alloc (by simp) _
  go_wp2_with (first | (refine wpList_make_own _ rfl _ _ 69 rfl (w.heap.size + 2) 5 i8 (.int .u8 0) 1 Try.underlying69 HI8.out HZ8.out HS8.out .i64 .i64 64 64 rfl rfl rfl (by rw [HY8.out]; omega) (by unfold maxLen; omega) (by simp) ?_; intro w1 hM hg1))
  have hK1 := hKw.grown hg1 (by simp)
  have hN1 := hNw.grown hg1 (by simp)
  have b1 : Below w.heap.size w w1 := hb0.grown hg1 hb0.size (by simp)
  have hsz1 : w.heap.size + 2 ≤ w1.heap.size := by have := hg1.size; simp at this; omega
  simp only [World.alloc, Array.size_push] at hM ⊢
  clear hKw hNw hb0 hg1
  go_loopw [10, 11] (fun o i wr => (o = .slice (some ⟨w.heap.size + 1 + 1, 0, none⟩) 0 64 ∧ i = .int .i64 q ∧ wr.ownsRow (w.heap.size + 2) 5 1 o 0 [] ∧ BlkV 23 wr w.heap.size K ∧ BlkV 25 wr (w.heap.size + 1) N ∧ Below w.heap.size w wr ∧ w.heap.size + 2 ≤ wr.heap.size) ∨ (∃ ao cap, o = .slice ao 64 cap ∧ Mine wr w.heap.size 5 1 (.slice ao 64 cap) 64 BB ∧ Below w.heap.size w wr)) (fun o _ _ => left64 o)
  case atStart => exact Or.inl ⟨rfl, rfl, hM, hK1, hN1, b1, hsz1⟩
  case round =>
    rcases hrel with ⟨rfl, rfl, hM, hK, hN, hb, hsz⟩ | ⟨ao, cap, rfl, hR, hb⟩
    · go_wp2_with (first | (refine wl_load rfl 23 _ rfl ⟨w.heap.size, 0, none⟩ rfl K (by rw [HKL.out]; exact agg32) hK.at0 ?_) | (refine wl_load rfl 25 _ rfl ⟨w.heap.size + 1, 0, none⟩ rfl N (by rw [HNL.out]; exact aggN) hN.at0 ?_))
      refine (HSB.out wr).mono ?_
      rintro e w3 ⟨rfl, b3⟩
      have hM3 : Mine w3 (w.heap.size + 2) 5 1 (.slice (some ⟨w.heap.size + 1 + 1, 0, none⟩) 0 64) 0 [] := Mine.belowAll (Or.inl hM) b3
      have b4 := hb.trans (b3.mono hb.size)
      have hsz3 : w.heap.size + 2 ≤ w3.heap.size := by have := b3.size; omega
      clear hM hK hN b3
      have hbW := below_setRow' ((Below.refl w3.heap.size w3).alloc (Nat.le_refl _) (.cells Z.toArray 152)) (Nat.le_refl _) BB.toArray
      have hM4 := hM3.belowAll hbW
      have hsz4 : w.heap.size + 2 ≤ ((w3.alloc (.cells Z.toArray 152)).setRow w3.heap.size BB.toArray).heap.size := Nat.le_trans hsz3 hbW.size
      have b4' := b4.trans (hbW.mono b4.size)
      have HLen : Hid (BB.length = 64 * 1) := by show BB.length = 64 * 1; rw [HBBL.out]
      go_wp2_with (first | (refine wl_alloc rfl 152 rfl Z HY.out ?_) | (refine wl_storeAll rfl 152 _ _ rfl 152 w3.heap.size rfl BB rfl 64 agg64 HBBL.out Z (BlkV.new _ w3 Z rfl) HZL.out hBB1 ?_; intro hOO) | (at_builtin; refine wl_appendS rfl _ _ 69 rfl 5 (.int .u8 0) 1 1 Try.underlying69 info8 rfl (by decide) (w.heap.size + 2) _ 0 [] rfl hM4 (some ⟨w3.heap.size, 0, none⟩) 64 64 rfl (fun h => by cases h) BB HLen.out (rowV_of hOO) hBB1 (by unfold maxLen; omega) (by omega) hsz4 64 rfl ?_; intro ao5 cap5 w5 row5 hc5 hM5 hR5 hg5 hrow5))
      go_roundw
      case rel =>
        rw [List.nil_append] at hM5
        refine Or.inr ⟨_, _, rfl, hM5.mono (by omega), b4'.grown hg5 b4'.size fun k hk => ?_⟩
        have := (hrow5 k hk).1; omega
      case measure => simp [left64]
    · go_wp2
      go_ret2
      rw [HBB.out, HB.out] at hR
      exact ⟨_, _, rfl, hR, hb⟩
end Go.Proofs.Ytbljihhelladbaa.st
