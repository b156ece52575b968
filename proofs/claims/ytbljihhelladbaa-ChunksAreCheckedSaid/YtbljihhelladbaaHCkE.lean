/-
  Contracts of slices.Chunk, slices.AppendSeq and slices.Collect at octets: a row of 1025 octets in its two chunks. Conditions: the row lies in memory.
-/
import Derived.Test.YtbljihhelladbaaHMem
import Derived.RangeFuncNested
import Derived.RangeFuncBound
import Derived.RangeFuncCalls
import Derived.RangeFuncLeaves
import Derived.RangeFuncBox
import Derived.Shelf.Abstract
import Derived.Shelf.RegionOpen
import Derived.WalkKit
import Derived.OwnWalkIn
import Derived.TacticsInMore
import Derived.LoopNIn
import Derived.LoopIn
import Derived.Maps.AppendAt
import Derived.Sort.QuietIn
import Derived.Test.YtbljihhelladbaaChecked
namespace Go.Proofs.Ytbljihhelladbaa.ck
open Go.RowKit Go.Shelf
set_option linter.unusedSimpArgs false
set_option linter.unusedVariables false
set_option pp.maxSteps 6000
attribute [local go_sem] Oper.semAt_some
def chV (b : Nat) (x : Nat × Nat) : Value := .slice (some ⟨b, x.1, none⟩) x.2 x.2
def chL : List (Nat × Nat) := [(0, 1024), (1024, 1)]
set_option maxRecDepth 100000 in
set_option maxHeartbeats 4000000 in
theorem chunk1_in (n : Nat) (hn : 1 ≤ n) (l Bs Bn n₀ b : Nat) (hs0 : Bs < n₀) (hn0 : Bn < n₀) (B : Nat) (J Jx : List (Nat × Nat) → World → Prop)
    (hY : ∀ pre x W, J pre W → pre.length < 2 → YieldAt Fence.wide (n - 1) Try.prog l #[chV b x] W fun e W' =>
      (e = .returned (.bool true) ∧ J (pre ++ [x]) W' ∧ Below n₀ W W') ∨ (e = .returned (.bool false) ∧ Jx (pre ++ [x]) W'))
    (W : World) (hBs : W.cell? ⟨Bs, 0, none⟩ = some (.slice (some ⟨b, 0, none⟩) 1025 1025)) (hBn : W.cell? ⟨Bn, 0, none⟩ = some (.int .i64 1024)) (h0 : J [] W) (hAb : AbidesFrom B J) (hWs : n₀ ≤ W.heap.size) :
    CallsIn Fence.wide n Try.prog 222 #[.func (.yield l) #[] #[], .pointer (some ⟨Bs, 0, none⟩), .pointer (some ⟨Bn, 0, none⟩)] W fun e W' => (∃ v, e = .returned v) ∧
      ((∃ ys, ys = chL ∧ J ys W') ∨ (∃ pre, pre <+: chL ∧ Jx pre W')) := by
  refine callsIn_of_wp Try.func222 rfl trivial ?_ rfl
  simp only [Try.ntmps222, List.size_toArray, List.length_cons, List.length_nil, Nat.reduceAdd, Nat.reduceSub, Array.replicate_succ, Array.replicate_zero, List.push_toArray, List.append_toArray, List.nil_append, List.cons_append]
  have hm1 : min (1024 : Int) 1025 = 1024 := by decide
  have hm2 : min (1024 : Int) 1 = 1 := by decide
  gi_wp2
  gi_loopw [4] (fun i wr => ∃ k : Nat, k ≤ 2 ∧ i = .int .i64 ((1024 * k : Nat) : Int) ∧ J (chL.take k) wr ∧ Below n₀ W wr)
    (fun i _ => 3000 - (intOf i).toNat)
  case atStart => exact ⟨0, by omega, rfl, h0, Below.refl _ _⟩
  case round =>
    obtain ⟨k, hk, rfl, hJs, hnx⟩ := hrel
    have hBs' := (hnx.cell (p := ⟨Bs, 0, none⟩) hs0).trans hBs
    have hBn' := (hnx.cell (p := ⟨Bn, 0, none⟩) hn0).trans hBn
    obtain rfl | rfl | rfl : k = 0 ∨ k = 1 ∨ k = 2 := by omega
    · gi_wp2
      gi_quiet (fail)
      have hJq : J (chL.take 0) (wr.drewN nq) := hAb _ wr _ none hJs ⟨rfl, rfl, rfl, Nat.le_refl _, fun _ _ _ => rfl⟩ (fun r e => by cases e)
      obtain ⟨wq, hwq⟩ : ∃ x, x = wr.drewN nq := ⟨_, rfl⟩
      have hBsq : wq.cell? ⟨Bs, 0, none⟩ = some (.slice (some ⟨b, 0, none⟩) 1025 1025) := by rw [hwq]; exact hBs'
      have hBnq : wq.cell? ⟨Bn, 0, none⟩ = some (.int .i64 1024) := by rw [hwq]; exact hBn'
      have hbq : Below n₀ W wq := by rw [hwq]; exact hnx.grown (row := none) ⟨rfl, rfl, rfl, Nat.le_refl _, fun _ _ _ => rfl⟩ (Nat.le_trans hWs hnx.size) (fun k e => by cases e)
      rw [← hwq] at hJq ⊢
      clear hwq hBs' hBn' hnx
      obtain ⟨fn, tmps, assign, body, hy, hR⟩ := hY _ (0, 1024) wq hJq (by decide)
      unfold chV at hy
      dsimp only at hy
      gi_wp2
      refine hR.mono ?_
      rintro e W3 (⟨rfl, hJ3, hk3⟩ | ⟨rfl, hJx3⟩)
      · have hBs3 := (hk3.cell (p := ⟨Bs, 0, none⟩) hs0).trans hBsq
        have hBn3 := (hk3.cell (p := ⟨Bn, 0, none⟩) hn0).trans hBnq
        gi_wp2
        go_roundw
        case rel => exact ⟨1, by omega, by first | rfl | go_num, hJ3, hbq.trans hk3⟩
        case measure => simp [intOf]
      · gi_wp2
        refine bodyPost_ret (results_none rfl _ _ _) rfl ?_
        exact ⟨⟨_, rfl⟩, .inr ⟨_, ⟨[(1024, 1)], rfl⟩, hJx3⟩⟩
    · gi_wp2
      gi_quiet (fail)
      have hJq : J (chL.take 1) (wr.drewN nq) := hAb _ wr _ none hJs ⟨rfl, rfl, rfl, Nat.le_refl _, fun _ _ _ => rfl⟩ (fun r e => by cases e)
      obtain ⟨wq, hwq⟩ : ∃ x, x = wr.drewN nq := ⟨_, rfl⟩
      have hBsq : wq.cell? ⟨Bs, 0, none⟩ = some (.slice (some ⟨b, 0, none⟩) 1025 1025) := by rw [hwq]; exact hBs'
      have hBnq : wq.cell? ⟨Bn, 0, none⟩ = some (.int .i64 1024) := by rw [hwq]; exact hBn'
      have hbq : Below n₀ W wq := by rw [hwq]; exact hnx.grown (row := none) ⟨rfl, rfl, rfl, Nat.le_refl _, fun _ _ _ => rfl⟩ (Nat.le_trans hWs hnx.size) (fun k e => by cases e)
      rw [← hwq] at hJq ⊢
      clear hwq hBs' hBn' hnx
      obtain ⟨fn, tmps, assign, body, hy, hR⟩ := hY _ (1024, 1) wq hJq (by decide)
      unfold chV at hy
      dsimp only at hy
      gi_wp2
      refine hR.mono ?_
      rintro e W3 (⟨rfl, hJ3, hk3⟩ | ⟨rfl, hJx3⟩)
      · have hBs3 := (hk3.cell (p := ⟨Bs, 0, none⟩) hs0).trans hBsq
        have hBn3 := (hk3.cell (p := ⟨Bn, 0, none⟩) hn0).trans hBnq
        gi_wp2
        go_roundw
        case rel => exact ⟨2, by omega, by first | rfl | go_num, hJ3, hbq.trans hk3⟩
        case measure => simp [intOf]
      · gi_wp2
        refine bodyPost_ret (results_none rfl _ _ _) rfl ?_
        exact ⟨⟨_, rfl⟩, .inr ⟨_, ⟨[], rfl⟩, hJx3⟩⟩
    · gi_wp2
      go_end0
      exact ⟨⟨_, rfl⟩, .inl ⟨_, rfl, hJs⟩⟩
theorem chunk_stops (n : Nat) (hn : 1 ≤ n) (Bs Bn n₀ b : Nat) (w : World) (hs0 : Bs < n₀) (hn0 : Bn < n₀) (hle : n₀ ≤ w.heap.size) (hBs : w.cell? ⟨Bs, 0, none⟩ = some (.slice (some ⟨b, 0, none⟩) 1025 1025)) (hBn : w.cell? ⟨Bn, 0, none⟩ = some (.int .i64 1024)) :
    SeqStopsK Fence.wide n Try.prog 222 #[.pointer (some ⟨Bs, 0, none⟩), .pointer (some ⟨Bn, 0, none⟩)] (fun x : Nat × Nat => #[chV b x]) (Below n₀) (fun ys => ys = chL) (fun pre => pre <+: chL) 2 w := fun l J Jx W hW hJ _ hY h0 =>
  chunk1_in n hn l Bs Bn n₀ b hs0 hn0 W.heap.size J Jx hY W ((hW.cell (p := ⟨Bs, 0, none⟩) (by show Bs < _; omega)).trans hBs) ((hW.cell (p := ⟨Bn, 0, none⟩) (by show Bn < _; omega)).trans hBn) h0 hJ (Nat.le_trans hle hW.size)
theorem infoB8 : (Try.prog.info? 69).map (fun i => (i.zero, i.size, i.bytes)) = some (some (.slice none 0 0), 1, 24) := by kernel_rfl
set_option maxRecDepth 100000 in
set_option maxHeartbeats 4000000 in
theorem appendSeq_in (n : Nat) (hn : 3 ≤ n) (Bs Bn b : Nat) (w : World) (hs0 : Bs < w.heap.size) (hn0 : Bn < w.heap.size) (hBs : w.cell? ⟨Bs, 0, none⟩ = some (.slice (some ⟨b, 0, none⟩) 1025 1025)) (hBn : w.cell? ⟨Bn, 0, none⟩ = some (.int .i64 1024)) :
    CallsIn Fence.wide n Try.prog 221 #[.slice none 0 0, .func (.func 222) #[] #[.pointer (some ⟨Bs, 0, none⟩), .pointer (some ⟨Bn, 0, none⟩)]] w fun e W' => ∃ v, e = .returned v ∧ W'.ownsRow w.heap.size 69 1 v chL.length (chL.map (chV b)) ∧ Below w.heap.size w W' := by
  have h1 : 1 ≤ n := by omega
  obtain ⟨i0, hi, hz0, hz1, hz2⟩ := info_parts infoB8
  refine callsIn_of_wp_marks Try.func221 rfl trivial ?_ rfl
  simp only [Try.ntmps221, List.size_toArray, List.length_cons, List.length_nil, Nat.reduceAdd, Nat.reduceSub, Array.replicate_succ, Array.replicate_zero, List.push_toArray, List.append_toArray, List.nil_append, List.cons_append]
  gi_wp2
  have bO := Boxed.new w 82 (.slice none 0 0)
  have hB0 : Below w.heap.size w (w.alloc (.cells #[.slice none 0 0] 82)) := (Below.refl _ w).alloc (Nat.le_refl _) _
  have hBs1 := (hB0.cell (p := ⟨Bs, 0, none⟩) hs0).trans hBs
  have hBn1 := (hB0.cell (p := ⟨Bn, 0, none⟩) hn0).trans hBn
  refine wpIn_rangeFunc_ownG rfl h1 (gf := 222) (lb := #[.pointer (some ⟨Bs, 0, none⟩), .pointer (some ⟨Bn, 0, none⟩)]) rfl trivial (enters_of Try.func222 (by kernel_rfl) rfl)
    (chunk_stops (n - 1) (by omega) Bs Bn w.heap.size b _ hs0 hn0 (by simp) hBs1 hBn1) belowK_t (belowK_b (by simp)) (Below.refl _ _) (fun _ => rfl)
    (fun pre W => (∃ v, Boxed W w.heap.size 82 v ∧ W.ownsRow w.heap.size 69 1 v pre.length (pre.map (chV b)) ∧ True) ∧ Below w.heap.size w W)
    (fun _ _ _ => False)
    (OwnFrom.and (Own.from (holdsRow_own w.heap.size w.heap.size 82 69 1 (fun pre => List.length pre) (fun pre => List.map (chV b) pre) (fun pre v => True)) _) (ownFrom_below (Nat.le_refl _) (by simp)))
    (fun _ _ _ _ _ hs _ _ => hs)
    ⟨⟨_, bO, World.ownsRow_nil _ _ _ _, trivial⟩, hB0⟩
    (fun x => { tmps := #[.slice none 0 0, (.func (.func 222) #[] #[.pointer (some ⟨Bs, 0, none⟩), .pointer (some ⟨Bn, 0, none⟩)]), .pointer (some ⟨w.heap.size, 0, none⟩), undef, .slice none 0 0, chV b x, (.func (.func 222) #[] #[.pointer (some ⟨Bs, 0, none⟩), .pointer (some ⟨Bn, 0, none⟩)]), chV b x, undef, undef, undef, undef, undef], defers := [] }) ?assign ?body ?done ?stop
  case assign =>
    intro l x W K hK
    unfold chV at hK ⊢
    gi_wp2
    exact hK
  case body =>
    rintro l pre x W ⟨⟨v, hv, hrow, _⟩, hB⟩ hlt
    have hc := hv.cell
    obtain ⟨x1, x2⟩ := x
    unfold chV
    dsimp only
    gi_wp2_with (gi_at_builtin; refine wpListIn_append_own _ rfl _ _ 82 rfl w.heap.size 69 i0 (.slice none 0 0) 1 24 Try.underlying82 hi hz0 hz1 hz2 rfl (by decide) _ _ _ rfl (hrow.alloc _) ⟨W.heap.size, 0, none⟩ 1 1 [.slice (some ⟨b, x1, none⟩) x2 x2] rfl rfl (cell_one_new _ _ _) (by simp [Value.oneCell']) (by unfold maxLen; omega) (by omega) (by have := hB.size; simp; omega) ?_; intro v' w1 hown' hgrow _; obtain ⟨g', cap', rfl⟩ := ownsRow_succ hown'; obtain ⟨hv1, hv2, hr2, hk2, hb2⟩ := hv.appended (by decide) hrow hB.size (Nat.le_refl _) hown' hgrow; have hc1 := hv1.cell; have hf1 := hv1.frozen)
    exact ⟨hk2.from _, hb2, ⟨_, hv2, by rw [List.length_append, List.map_append, List.map_cons, List.map_nil]; exact hr2, trivial⟩, hB.trans hb2⟩
  case done =>
    rintro D ys W hD rfl ⟨⟨v, hv, hrow, _⟩, hB⟩ hK
    have hc := hv.cell
    gi_wp2
    refine ⟨by simp, .inl ⟨_, _, rfl, run_takeDeferred hK, ?_⟩⟩
    exact ⟨_, results_tmp rfl _ _ _, v, rfl, ownsRow_putObj hrow _ hK rfl, hB.trans (belowK_b (w := w) (Nat.le_refl _) W D _ _ (by simp at hD; omega) hK rfl rfl)⟩
  case stop =>
    rintro D c pre W _ _ h _
    exact h.elim
set_option maxRecDepth 100000 in
set_option maxHeartbeats 1000000 in
theorem Collect_any (Bs Bn b : Nat) (w : World) (hs0 : Bs < w.heap.size) (hn0 : Bn < w.heap.size) (hBs : w.cell? ⟨Bs, 0, none⟩ = some (.slice (some ⟨b, 0, none⟩) 1025 1025)) (hBn : w.cell? ⟨Bn, 0, none⟩ = some (.int .i64 1024)) :
    Calls Try.prog 207 #[.func (.func 222) #[] #[.pointer (some ⟨Bs, 0, none⟩), .pointer (some ⟨Bn, 0, none⟩)]] w fun e W' => ∃ v, e = .returned v ∧ W'.ownsRow w.heap.size 69 1 v chL.length (chL.map (chV b)) ∧ Below w.heap.size w W' := by
  have hc := hid (callsIn_wide.1 (appendSeq_in 3 (Nat.le_refl _) Bs Bn b w hs0 hn0 hBs hBn))
  clear hBs hBn
  go_enter Try.func207, Try.ntmps207
  go_wp2_with (go_at_call 221; refine hc.out.mono ?_; rintro e w1 ⟨v, rfl, ho, hb⟩)
  go_ret
  exact ⟨v, rfl, ho, hb⟩
theorem Chunk_any (b : Nat) (w : World) :
    Calls Try.prog 208 #[.slice (some ⟨b, 0, none⟩) 1025 1025, .int .i64 1024] w fun e w' => e = .returned (.func (.func 222) #[] #[.pointer (some ⟨w.heap.size, 0, none⟩), .pointer (some ⟨w.heap.size + 1, 0, none⟩)]) ∧ w' = (w.alloc (.cells #[.slice (some ⟨b, 0, none⟩) 1025 1025] 69)).alloc (.cells #[.int .i64 1024] 3) := by
  go_enter Try.func208, Try.ntmps208
  go_wp2
  go_ret
  exact ⟨rfl, rfl⟩
end Go.Proofs.Ytbljihhelladbaa.ck
