/-
  Contract of keyref1.Cover. Conditions: keys, nonces and texts of octets, texts of at most 2^20 octets.
-/
import Derived.Test.YtbjmadcbhkeenaaGreatCWsA
set_option maxRecDepth 100000
set_option linter.unusedSimpArgs false
set_option linter.unusedVariables false
namespace Go.Proofs.YtbjmadcbhkeenaaGreat.wr
open Go.RowKit st hs shr sh
set_option maxHeartbeats 2000000 in
theorem RefCover_any (k n l : List Int) (ao : Option Addr) (cap m : Nat) (w : World) (hk : k.length = 32) (hn : n.length = 16) (ok : Octs k) (on : Octs n) (hml : m = l.length) (HP : Pt.Ok w ⟨ao, cap, l⟩) (hm : m ≤ 1048576) :
  Calls Tryz.prog 33 #[.agg (k.map (Value.int .u8)).toArray, .agg (n.map (Value.int .u8)).toArray, .slice ao m cap] w fun e w' => ∃ ao' c', e = .returned (.slice ao' m c') ∧ Mine w' w.heap.size 5 1 (.slice ao' m c') m ((coverL k n l).map (Value.int .u8)) ∧ Below w.heap.size w w' := by
 obtain ⟨B, HB⟩ : ∃ B, Hid (B = w.heap.size) := ⟨_, rfl⟩
 have hsz : w.heap.size = B := HB.out.symm
 have hst := fun w => hid (RefStream_any k n m w hk hn ok on hm)
 obtain ⟨K, HK⟩ : ∃ K, Hid (K = k.map (Value.int .u8)) := ⟨_, rfl⟩
 obtain ⟨N, HN⟩ : ∃ N, Hid (N = n.map (Value.int .u8)) := ⟨_, rfl⟩
 have hKl : K.length = 32 := by rw [HK.out, List.length_map, hk]
 have hNl : N.length = 16 := by rw [HN.out, List.length_map, hn]
 rw [← HK.out, ← HN.out] at hst ⊢
 obtain ⟨S, HS⟩ : ∃ S, Hid (S = strmL k n m) := ⟨_, rfl⟩
 rw [← HS.out] at hst
 have hSl : Hid (S.length = m) := hid (by rw [HS.out]; exact strmL_length _ _ _)
 have hCL : Hid (coverL k n l = xorN S l m) := hid (by unfold coverL xorL; rw [← hml, strmL_length, HS.out])
 have hLl := hid hml
 have hrow := HP.row
 have hlt := fun b h => HP.lt b h
 clear hml HP hk hn
 go_enter Tryz.func33, Tryz.ntmps33
 go_wp2_with (first | (refine wl_boxV rfl 23 _ rfl K rfl B hsz ?_; intro w0 hB0 hb0 hs0) | (refine wl_boxV rfl 53 _ rfl N rfl (B + 1) hs0 ?_; intro w1 hN1 hb1 hs1; have hB1 := hB0.below hb1 (by omega); have bb1 := hb0.trans (hb1.mono (by omega : B ≤ _)); clear hB0 hb0 hb1) | (refine wl_load rfl 23 _ rfl ⟨B, 0, none⟩ rfl K (by rw [hKl]; exact aggKey) hB1.at0 ?_) | (refine wl_load rfl 53 _ rfl ⟨B + 1, 0, none⟩ rfl N (by rw [hNl]; exact aggNo) hN1.at0 ?_) | (go_at_call 58; refine (hst w1).out.mono ?_; rintro e w2 ⟨ao2, c2, rfl, hM2, hb2⟩; have bb2 := bb1.trans (hb2.mono (by omega : B ≤ _)); have hs2 := hb2.size; have hM2' := hM2.mono (by omega : B ≤ _); clear hB1 hN1 bb1 hb2 hM2))
 by_cases hm0 : m = 0
 ·subst hm0
  go_loopw [16] (fun i wr => i = .int .i64 0 ∧ wr = w2) (fun _ _ => 0)
  case atStart => exact ⟨rfl, rfl⟩
  case round =>
   obtain ⟨rfl, rfl⟩ := hrel
   go_wp2
   go_ret
   refine ⟨_, _, rfl, ?_, by rw [← HB.out]; exact bb2⟩
   rw [hCL.out, xorN_zero, ← HB.out]
   exact hM2'
 ·obtain ⟨g, cur, rfl, hg, hG, h1, h2, h3, h4⟩ := own_blk (mine_own hM2' (by omega)) (by omega)
  have hC0 := hid (take_cells h4 hSl.out)
  have h3' := hid h3
  have hgl := hG.lt
  clear hM2' h4 h3
  go_loopw [16] (fun i wr => ∃ (j : Nat) (cu : List Value), j ≤ m ∧ i = .int .i64 j ∧ BlkV 5 wr g cu ∧ cu.length = c2 ∧ Cells cu m (xorN S l j) ∧ Below B w wr ∧ w2.grownBy wr (some g)) (fun i _ => m - (intOf i).toNat)
  case atStart => exact ⟨0, cur, by omega, rfl, hG, h3'.out, by rw [xorN_zero]; exact hC0.out, bb2, World.grownBy.refl _ _⟩
  case round =>
   clear hG bb2
   obtain ⟨j, cu, hj, rfl, hG, hcu, hcs, bbr, hgr⟩ := hrel
   by_cases h0 : j < m
   ·have hjI : (j : Int) < (m : Int) := by omega
    have hjI0 : (0 : Int) ≤ (j : Int) := by omega
    obtain ⟨b, off, c, rfl, hb, HC, hcell⟩ := hrow.elem (i := j) (by rw [← hLl.out]; exact h0)
    have hcc := (bbr.cell (p := ⟨b, off + j, none⟩) (by show b < B; omega)).trans hcell
    obtain ⟨x, Hx⟩ : ∃ x, Hid (x = S.getD j 0) := ⟨_, rfl⟩
    have cX := (hG.cell j).trans (hcs j h0)
    rw [xorN_get S l j j (by rw [hSl.out]; exact h0), if_neg (Nat.lt_irrefl j), ← Hx.out] at cX
    have fX := hG.frozen j
    have hjc : (j : Int) < (c2 : Int) := by omega
    have hst := hid (cells_step (l := l) (j := j) (s := S) (cur := cu) (by rw [hSl.out]; exact hcs) (by rw [hSl.out]; exact h0) (by rw [hSl.out, hcu]; exact h1))
    rw [hSl.out, ← Hx.out, ← HC.out] at hst
    have HCU := hid hcu
    clear hcs hcu
    go_wp2_with fail
    refine wp_region_still_tail 10 (by kernel_rfl) (by kernel_rfl) ?_
    simp only [List.take_succ_cons, List.take_zero, List.drop_succ_cons, List.drop_zero]
    change wpStill _ _ wr.drew (fun a' => wpList _ _ _ _ a' wr.drew) _ _
    repeat still_step
    refine wpStill_nil ?_
    go_wp2
    go_roundw
    case rel => exact ⟨j + 1, _, by omega, by go_num, hG.drew.set j _, by rw [List.length_set]; exact HCU.out, hst.out, bbr.drew.setCell (by simp; omega) _, grown_set (grown_drew hgr) _ _⟩
    case measure => simp [intOf] <;> omega
   ·obtain rfl : j = m := by omega
    have HCU := hid hcu
    have HCS := hid hcs
    clear hcs hcu
    go_wp2
    go_ret
    refine ⟨_, _, rfl, Or.inl (blk_own (by rw [← HB.out]; exact hg) hG h1 h2 HCU.out ?_), by rw [← HB.out]; exact bbr⟩
    rw [hCL.out]
    exact cells_take HCS.out (by rw [xorN_length, hSl.out]) (by rw [HCU.out]; exact h1)
end Go.Proofs.YtbjmadcbhkeenaaGreat.wr
