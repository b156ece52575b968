/-
  Contracts of wrap.ahead and wrap.Print. Conditions: an envelope of the type's form; for ahead: of a version that there is, with an epoch in its bounds.
-/
import Derived.Test.YtbjmadcbhkeenaaGreatCWrH
set_option maxRecDepth 100000
set_option linter.unusedSimpArgs false
set_option linter.unusedVariables false
namespace Go.Proofs.YtbjmadcbhkeenaaGreat.wr
open Go.RowKit st hs shr sh
theorem badEpoch_any (n : Int) (w : World) : Calls Tryz.prog 51 #[.int .i64 n] w fun e w' => e = .returned (.bool (!inB n 0 4294967295)) ∧ w = w' := by
 have hb : inB n 0 4294967295 = (decide (0 ≤ n) && decide (n ≤ 4294967295)) := rfl
 by_cases h1 : n < 0
 ·have e : inB n 0 4294967295 = false := by rw [hb, decide_eq_false (by omega), Bool.false_and]
  rw [e]
  clear hb e
  go_enter Tryz.func51, Tryz.ntmps51
  go_wp2
  go_ret
  exact ⟨rfl, rfl⟩
 ·by_cases h2 : 4294967295 < n
  ·have e : inB n 0 4294967295 = false := by rw [hb, decide_eq_false (p := n ≤ 4294967295) (by omega), Bool.and_false]
   rw [e]
   clear hb e
   go_enter Tryz.func51, Tryz.ntmps51
   go_wp2
   go_ret
   exact ⟨rfl, rfl⟩
  ·have e : inB n 0 4294967295 = true := by rw [hb, decide_eq_true (by omega), decide_eq_true (by omega), Bool.true_and]
   rw [e]
   clear hb e
   go_enter Tryz.func51, Tryz.ntmps51
   go_wp2
   go_ret
   exact ⟨rfl, rfl⟩
theorem magV_octs {v : Int} (h : v = 1 ∨ v = 2) : Octs [75, 87, 87, v] := by
 intro c hc
 simp only [List.mem_cons, List.not_mem_nil, or_false] at hc
 rcases hc with rfl | rfl | rfl | rfl
 ·exact ⟨by decide, by decide⟩
 ·exact ⟨by decide, by decide⟩
 ·exact ⟨by decide, by decide⟩
 ·rcases h with rfl | rfl <;> exact ⟨by decide, by decide⟩
set_option maxHeartbeats 4000000 in
theorem ahead_1 (x : Env) (hx : x.Ok) (w : World) (hv : x.v = 1) (he : 0 ≤ x.e ∧ x.e ≤ 4294967295) :
  Calls Tryz.prog 70 #[.agg x.cs.toArray] w fun e w' => ∃ ao c, e = .returned (.slice ao 72 c) ∧ Mine w' w.heap.size 5 1 (.slice ao 72 c) 72 ((aheadL x).map (Value.int .u8)) ∧ Below w.heap.size w w' := by
 obtain ⟨B, HB⟩ : ∃ B, Hid (B = w.heap.size) := ⟨_, rfl⟩
 have hsz : w.heap.size = B := HB.out.symm
 have hal1 := hal16
 have hal2 := hal25
 have hal3 := hal32
 have hal4 := hal22
 have hal5 := halTag
 have hcv : Hid (x.cs[0]? = some (.int .i64 1)) := hid (by rw [← hv]; exact x.cv)
 have hce := hid x.ce
 have hwe : IntKind.u32.wrap x.e = x.e := IntWalk.u32_in _ (by omega)
 have hlb : Hid ((x.b.map (Value.int .u8)).length = 16 * 1) := hid (by rw [List.length_map, hx.bl])
 have hab := fun w' (h : BlkV 57 w' B x.cs) => hid (env_b h)
 have hln : Hid ((x.n.map (Value.int .u8)).length = 16 * 1) := hid (by rw [List.length_map, hx.nl])
 have han := fun w' (h : BlkV 57 w' B x.cs) => hid (env_n hx h)
 have hlg : Hid ((x.g.map (Value.int .u8)).length = 32 * 1) := hid (by rw [List.length_map, hx.gl])
 have hag := fun w' (h : BlkV 57 w' B x.cs) => hid (env_g hx h)
 have hEQ : Hid ((aheadL x).map (Value.int .u8) = (((([75, 87, 87, 1] ++ o4 x.e).map (Value.int .u8) ++ x.b.map (Value.int .u8)) ++ x.n.map (Value.int .u8)) ++ x.g.map (Value.int .u8))) := hid (by unfold aheadL twoL; rw [hv]; simp [o4])
 clear hx
 obtain ⟨CS, HCS⟩ : ∃ C, Hid (C = x.cs) := ⟨_, rfl⟩
 rw [← HCS.out] at hab han hag hcv hce ⊢
 rw [← HB.out]
 go_enter Tryz.func70, Tryz.ntmps70
 go_wp2_with (first | (refine wl_boxV rfl 57 _ rfl CS rfl B hsz ?_; intro w0 hB0 hb0 hs0; have c00 := (hB0.cell 0).trans hcv.out; have c01 := (hB0.cell 1).trans hce.out))
 refine wp_region_held_drew (S := (fun w' => w'.cell? ⟨B, 0, none⟩ = some (.int .i64 1) ∧ w'.cell? ⟨B, 1, none⟩ = some (.int .i64 x.e))) (by kernel_rfl) ⟨c00, c01⟩ (fun hHeld => ?_)
 obtain ⟨x0, HX0⟩ : ∃ x, Hid (x = w0.drew) := ⟨_, rfl⟩
 rw [← HX0.out] at hHeld ⊢
 have hBx : BlkV 57 x0 B CS := by rw [HX0.out]; exact hB0
 have bbx : Below B w x0 := by rw [HX0.out]; exact hb0.drew
 have hsx0 : x0.heap.size = B + 1 := by rw [HX0.out]; exact hs0
 have c00x := (hBx.cell 0).trans hcv.out
 have c01x := (hBx.cell 1).trans hce.out
 clear hB0 hb0 hs0 c00 c01
 have hB0 := hBx
 have bb0 := bbx
 have c00 := c00x
 have c01 := c01x
 clear hBx bbx c00x c01x
 refine take_l (i := 2) (v := ?rv1) rfl (by kernel_rfl) (by kernel_rfl) (by kernel_rfl) (fun _ _ _ h => h) (Or.inl ⟨by rfl, ?rhy1⟩) (by assumption) ?rrest1
 case rhy1 => (intro w hSw; (try dsimp only at hSw); go_simp; (try with_reducible rfl))
 try simp only [Act.put, fpA, fpZ, fpN]
 refine take_l (i := 3) (v := ?rv2) rfl (by kernel_rfl) (by kernel_rfl) (by kernel_rfl) (fun _ _ _ h => h) (Or.inl ⟨by rfl, ?rhy2⟩) (by assumption) ?rrest2
 case rhy2 => (intro w hSw; (try dsimp only at hSw); go_simp; (try with_reducible rfl))
 try simp only [Act.put, fpA, fpZ, fpN]
 refine take_l (i := 4) (v := ?rv3) rfl (by kernel_rfl) (by kernel_rfl) (by kernel_rfl) (fun _ _ _ h => h) (Or.inl ⟨by rfl, ?rhy3⟩) (by assumption) ?rrest3
 case rhy3 => (intro w hSw; (try dsimp only at hSw); go_simp; (try with_reducible rfl))
 try simp only [Act.put, fpA, fpZ, fpN]
 refine take_l (i := 7) (v := ?rv4) rfl (by kernel_rfl) (by kernel_rfl) (by kernel_rfl) (fun _ _ _ h => h) (Or.inl ⟨by rfl, ?rhy4⟩) (by assumption) ?rrest4
 case rhy4 => (intro w hSw; (try dsimp only at hSw); go_simp; (try with_reducible rfl))
 try simp only [Act.put, fpA, fpZ, fpN]
 refine take_l (i := 8) (v := ?rv5) rfl (by kernel_rfl) (by kernel_rfl) (by kernel_rfl) (fun _ _ _ h => h) (Or.inl ⟨by rfl, ?rhy5⟩) (by assumption) ?rrest5
 case rhy5 => (intro w hSw; (try dsimp only at hSw); go_simp; (try with_reducible rfl))
 try simp only [Act.put, fpA, fpZ, fpN]
 refine take_l (i := 9) (v := ?rv6) rfl (by kernel_rfl) (by kernel_rfl) (by kernel_rfl) (fun _ _ _ h => h) (Or.inl ⟨by rfl, ?rhy6⟩) (by assumption) ?rrest6
 case rhy6 => (intro w hSw; (try dsimp only at hSw); go_simp; (try with_reducible rfl))
 try simp only [Act.put, fpA, fpZ, fpN]
 refine wpAnyH_ready (rs := [0, 5]) (by kernel_rfl) (by simp) (cons_l rfl (fun K' hK' => ?_) (cons_l rfl (fun K' hK' => ?_) AllReadyH.nil))
 ·refine step_lit rfl 25 5 3 _ rfl Tryz.underlying25 (.int .u8 0) 1 1 info8 (by decide) (by decide) [.int .u8 75, .int .u8 87, .int .u8 87] (by kernel_rfl) (B + 1) (by omega) ?_
  intro x1 hA1 hbx1 hsx1
  have hB1 := hB0.below hbx1 (by omega)
  have bb1 := bb0.trans (hbx1.mono (by omega : B ≤ _))
  have c10 := (hB1.cell 0).trans hcv.out
  have c11 := (hB1.cell 1).trans hce.out
  refine hK'.out _ _ ⟨c10, c11⟩ (fun hHeld => ?_)
  clear hK' K'
  try simp only [Act.put, fpA, fpZ, fpN]
  refine wpAnyH_ready (rs := [1, 5]) (by kernel_rfl) (by simp) (cons_l rfl (fun K' hK' => ?_) (cons_l rfl (fun K' hK' => ?_) AllReadyH.nil))
  ·refine step_convC rfl _ rfl (B + 1) 3 3 [.int .u8 75, .int .u8 87, .int .u8 87] rfl hA1 ?_
   intro x2 hA2 hgx2 hbx2 hsx2
   have hB2 := hB1.below hbx2 (by omega)
   have bb2 := bb1.trans (hbx2.mono (by omega : B ≤ _))
   have c20 := (hB2.cell 0).trans hcv.out
   have c21 := (hB2.cell 1).trans hce.out
   refine hK'.out _ _ ⟨c20, c21⟩ (fun hHeld => ?_)
   clear hK' K'
   try simp only [Act.put, fpA, fpZ, fpN]
   refine wpAnyH_ready (rs := [5]) (by kernel_rfl) (by simp) (cons_l rfl (fun K' hK' => ?_) AllReadyH.nil)
   refine step_lit rfl 25 5 1 _ rfl Tryz.underlying25 (.int .u8 0) 1 1 info8 (by decide) (by decide) [.int .u8 1] (by kernel_rfl) (B + 2) (by omega) ?_
   intro x3 hD3 hbx3 hsx3
   have hB3 := hB2.below hbx3 (by omega)
   have bb3 := bb2.trans (hbx3.mono (by omega : B ≤ _))
   have c30 := (hB3.cell 0).trans hcv.out
   have c31 := (hB3.cell 1).trans hce.out
   have hA3 := at_below hA2 hbx3 (by omega)
   refine hK'.out _ _ ⟨c30, c31⟩ (fun hHeld => ?_)
   clear hK' K'
   try simp only [Act.put, fpA, fpZ, fpN]
   refine wpAnyH_ready (rs := [6]) (by kernel_rfl) (by simp) (cons_l rfl (fun K' hK' => ?_) AllReadyH.nil)
   refine step_appendArg rfl _ _ rfl ⟨B + 1, 0, none⟩ 3 3 rfl [.int .u8 75, .int .u8 87, .int .u8 87] rfl hA3 ⟨B + 2, 0, none⟩ 1 1 rfl [.int .u8 1] rfl hD3.at0 (by decide) (by decide) (B + 1) (by omega) 4 rfl ?_
   intro ao1 cap1 x4 hc1 hM4 hgx4
   have hB4 := hB3.grown hgx4 (by intro e; cases e)
   have bb4 := bb3.grown hgx4 (by omega) (fun k hk => by cases hk)
   have c40 := (hB4.cell 0).trans hcv.out
   have c41 := (hB4.cell 1).trans hce.out
   have hsx4 : B + 1 ≤ x4.heap.size := by have := hgx4.size; omega
   refine hK'.out _ _ ⟨c40, c41⟩ (fun hHeld => ?_)
   clear hK' K'
   try simp only [Act.put, fpA, fpZ, fpN]
   refine wpAnyH_ready (rs := [10]) (by kernel_rfl) (by simp) (cons_l rfl (fun K' hK' => ?_) AllReadyH.nil)
   rw [if_pos (by rfl)]
   go_simp
   go_at_call 99
   obtain ⟨HP1, hno1⟩ := mine_pt (l := [75, 87, 87, 1]) hM4 rfl (by decide) (magV_octs (by decide))
   refine (PutNumber_any ao1 4 cap1 [75, 87, 87, 1] x.e _ rfl HP1.row HP1.lt (fun h => (hno1 h).1) (by decide)).mono ?_
   rintro e x5 ⟨ao2, cap2, rfl, hM5, hbx5⟩
   have hB5 := hB4.below hbx5 (by omega)
   have bb5 := bb4.trans (hbx5.mono (by omega : B ≤ _))
   have c50 := (hB5.cell 0).trans hcv.out
   have c51 := (hB5.cell 1).trans hce.out
   have hsx5 := hbx5.size
   refine hK'.out _ _ ⟨c50, c51⟩ (fun hHeld => ?_)
   clear hK' K'
   try simp only [Act.put, fpA, fpZ, fpN]
   refine take_l (i := 11) (v := ?rv7) rfl (by kernel_rfl) (by kernel_rfl) (by kernel_rfl) (fun _ _ _ h => h) (Or.inl ⟨by rfl, ?rhy7⟩) (by assumption) ?rrest7
   case rhy7 => (intro w hSw; (try dsimp only at hSw); go_simp; (try with_reducible rfl))
   try simp only [Act.put, fpA, fpZ, fpN]
   refine wpAnyH_done (by kernel_rfl) ?_ _
   have hB2 := hB5
   have bb2 := bb5
   have c20 := c50
   have hsz2 : B + 1 ≤ x5.heap.size := by omega
   have hM2 := hM5.mono (by omega : B + 1 ≤ _)
   clear hHeld
   go_wp2_with (first | (at_builtin; refine wl_appendS rfl _ _ 25 rfl 5 (.int .u8 0) 1 1 Tryz.underlying25 info8 rfl (by decide) (B + 1) _ 40 _ rfl hM4 (some ⟨B, 82, none⟩) 32 32 rfl (fun h => by cases h) (x.g.map (Value.int .u8)) hlg.out (at_row (by omega) (hag _ hB4).out) (ints_one _ _) (by decide) (by decide) (by omega) 72 rfl ?_; intro ao5 cap5 w5 row5 hc5 hM5 hv5 hg5 hrow5; have hB5 := blk_grown hB4 hg5 (fun k hk => (hrow5 k hk).1) (by omega); have bb5 := bb4.grown hg5 (by omega) (fun k hk => by have := (hrow5 k hk).1; omega); have hsz5 : B + 1 ≤ w5.heap.size := (by have := hg5.size; omega); have c50 := (hB5.cell 0).trans hcv.out; clear hB4 bb4 hM4 hg5 hrow5 hv5 c40) | (at_builtin; refine wl_appendS rfl _ _ 25 rfl 5 (.int .u8 0) 1 1 Tryz.underlying25 info8 rfl (by decide) (B + 1) _ 24 _ rfl hM3 (some ⟨B, 34, none⟩) 16 16 rfl (fun h => by cases h) (x.n.map (Value.int .u8)) hln.out (at_row (by omega) (han _ hB3).out) (ints_one _ _) (by decide) (by decide) (by omega) 40 rfl ?_; intro ao4 cap4 w4 row4 hc4 hM4 hv4 hg4 hrow4; have hB4 := blk_grown hB3 hg4 (fun k hk => (hrow4 k hk).1) (by omega); have bb4 := bb3.grown hg4 (by omega) (fun k hk => by have := (hrow4 k hk).1; omega); have hsz4 : B + 1 ≤ w4.heap.size := (by have := hg4.size; omega); have c40 := (hB4.cell 0).trans hcv.out; clear hB3 bb3 hM3 hg4 hrow4 hv4 c30) | (at_builtin; refine wl_appendS rfl _ _ 25 rfl 5 (.int .u8 0) 1 1 Tryz.underlying25 info8 rfl (by decide) (B + 1) _ 8 _ rfl hM2 (some ⟨B, 2, none⟩) 16 16 rfl (fun h => by cases h) (x.b.map (Value.int .u8)) hlb.out (at_row (by omega) (hab _ hB2).out) (ints_one _ _) (by decide) (by decide) (by omega) 24 rfl ?_; intro ao3 cap3 w3 row3 hc3 hM3 hv3 hg3 hrow3; have hB3 := blk_grown hB2 hg3 (fun k hk => (hrow3 k hk).1) (by omega); have bb3 := bb2.grown hg3 (by omega) (fun k hk => by have := (hrow3 k hk).1; omega); have hsz3 : B + 1 ≤ w3.heap.size := (by have := hg3.size; omega); have c30 := (hB3.cell 0).trans hcv.out; clear hB2 bb2 hM2 hg3 hrow3 hv3 c20))
   go_ret
   refine ⟨_, _, rfl, ?_, bb5⟩
   rw [hEQ.out]
   exact hM5.mono (by omega)
  ·refine step_lit rfl 25 5 1 _ rfl Tryz.underlying25 (.int .u8 0) 1 1 info8 (by decide) (by decide) [.int .u8 1] (by kernel_rfl) (B + 2) (by omega) ?_
   intro x2 hD2 hbx2 hsx2
   have hB2 := hB1.below hbx2 (by omega)
   have bb2 := bb1.trans (hbx2.mono (by omega : B ≤ _))
   have c20 := (hB2.cell 0).trans hcv.out
   have c21 := (hB2.cell 1).trans hce.out
   have hA2 := hA1.below hbx2 (by omega)
   refine hK'.out _ _ ⟨c20, c21⟩ (fun hHeld => ?_)
   clear hK' K'
   try simp only [Act.put, fpA, fpZ, fpN]
   refine wpAnyH_ready (rs := [1]) (by kernel_rfl) (by simp) (cons_l rfl (fun K' hK' => ?_) AllReadyH.nil)
   refine step_convC rfl _ rfl (B + 1) 3 3 [.int .u8 75, .int .u8 87, .int .u8 87] rfl hA2 ?_
   intro x3 hA3 hgx3 hbx3 hsx3
   have hB3 := hB2.below hbx3 (by omega)
   have bb3 := bb2.trans (hbx3.mono (by omega : B ≤ _))
   have c30 := (hB3.cell 0).trans hcv.out
   have c31 := (hB3.cell 1).trans hce.out
   have hD3 := hD2.grown hgx3 (by intro e; injection e with e; omega)
   refine hK'.out _ _ ⟨c30, c31⟩ (fun hHeld => ?_)
   clear hK' K'
   try simp only [Act.put, fpA, fpZ, fpN]
   refine wpAnyH_ready (rs := [6]) (by kernel_rfl) (by simp) (cons_l rfl (fun K' hK' => ?_) AllReadyH.nil)
   refine step_appendArg rfl _ _ rfl ⟨B + 1, 0, none⟩ 3 3 rfl [.int .u8 75, .int .u8 87, .int .u8 87] rfl hA3 ⟨B + 2, 0, none⟩ 1 1 rfl [.int .u8 1] rfl hD3.at0 (by decide) (by decide) (B + 1) (by omega) 4 rfl ?_
   intro ao1 cap1 x4 hc1 hM4 hgx4
   have hB4 := hB3.grown hgx4 (by intro e; cases e)
   have bb4 := bb3.grown hgx4 (by omega) (fun k hk => by cases hk)
   have c40 := (hB4.cell 0).trans hcv.out
   have c41 := (hB4.cell 1).trans hce.out
   have hsx4 : B + 1 ≤ x4.heap.size := by have := hgx4.size; omega
   refine hK'.out _ _ ⟨c40, c41⟩ (fun hHeld => ?_)
   clear hK' K'
   try simp only [Act.put, fpA, fpZ, fpN]
   refine wpAnyH_ready (rs := [10]) (by kernel_rfl) (by simp) (cons_l rfl (fun K' hK' => ?_) AllReadyH.nil)
   rw [if_pos (by rfl)]
   go_simp
   go_at_call 99
   obtain ⟨HP1, hno1⟩ := mine_pt (l := [75, 87, 87, 1]) hM4 rfl (by decide) (magV_octs (by decide))
   refine (PutNumber_any ao1 4 cap1 [75, 87, 87, 1] x.e _ rfl HP1.row HP1.lt (fun h => (hno1 h).1) (by decide)).mono ?_
   rintro e x5 ⟨ao2, cap2, rfl, hM5, hbx5⟩
   have hB5 := hB4.below hbx5 (by omega)
   have bb5 := bb4.trans (hbx5.mono (by omega : B ≤ _))
   have c50 := (hB5.cell 0).trans hcv.out
   have c51 := (hB5.cell 1).trans hce.out
   have hsx5 := hbx5.size
   refine hK'.out _ _ ⟨c50, c51⟩ (fun hHeld => ?_)
   clear hK' K'
   try simp only [Act.put, fpA, fpZ, fpN]
   refine take_l (i := 11) (v := ?rv8) rfl (by kernel_rfl) (by kernel_rfl) (by kernel_rfl) (fun _ _ _ h => h) (Or.inl ⟨by rfl, ?rhy8⟩) (by assumption) ?rrest8
   case rhy8 => (intro w hSw; (try dsimp only at hSw); go_simp; (try with_reducible rfl))
   try simp only [Act.put, fpA, fpZ, fpN]
   refine wpAnyH_done (by kernel_rfl) ?_ _
   have hB2 := hB5
   have bb2 := bb5
   have c20 := c50
   have hsz2 : B + 1 ≤ x5.heap.size := by omega
   have hM2 := hM5.mono (by omega : B + 1 ≤ _)
   clear hHeld
   go_wp2_with (first | (at_builtin; refine wl_appendS rfl _ _ 25 rfl 5 (.int .u8 0) 1 1 Tryz.underlying25 info8 rfl (by decide) (B + 1) _ 40 _ rfl hM4 (some ⟨B, 82, none⟩) 32 32 rfl (fun h => by cases h) (x.g.map (Value.int .u8)) hlg.out (at_row (by omega) (hag _ hB4).out) (ints_one _ _) (by decide) (by decide) (by omega) 72 rfl ?_; intro ao5 cap5 w5 row5 hc5 hM5 hv5 hg5 hrow5; have hB5 := blk_grown hB4 hg5 (fun k hk => (hrow5 k hk).1) (by omega); have bb5 := bb4.grown hg5 (by omega) (fun k hk => by have := (hrow5 k hk).1; omega); have hsz5 : B + 1 ≤ w5.heap.size := (by have := hg5.size; omega); have c50 := (hB5.cell 0).trans hcv.out; clear hB4 bb4 hM4 hg5 hrow5 hv5 c40) | (at_builtin; refine wl_appendS rfl _ _ 25 rfl 5 (.int .u8 0) 1 1 Tryz.underlying25 info8 rfl (by decide) (B + 1) _ 24 _ rfl hM3 (some ⟨B, 34, none⟩) 16 16 rfl (fun h => by cases h) (x.n.map (Value.int .u8)) hln.out (at_row (by omega) (han _ hB3).out) (ints_one _ _) (by decide) (by decide) (by omega) 40 rfl ?_; intro ao4 cap4 w4 row4 hc4 hM4 hv4 hg4 hrow4; have hB4 := blk_grown hB3 hg4 (fun k hk => (hrow4 k hk).1) (by omega); have bb4 := bb3.grown hg4 (by omega) (fun k hk => by have := (hrow4 k hk).1; omega); have hsz4 : B + 1 ≤ w4.heap.size := (by have := hg4.size; omega); have c40 := (hB4.cell 0).trans hcv.out; clear hB3 bb3 hM3 hg4 hrow4 hv4 c30) | (at_builtin; refine wl_appendS rfl _ _ 25 rfl 5 (.int .u8 0) 1 1 Tryz.underlying25 info8 rfl (by decide) (B + 1) _ 8 _ rfl hM2 (some ⟨B, 2, none⟩) 16 16 rfl (fun h => by cases h) (x.b.map (Value.int .u8)) hlb.out (at_row (by omega) (hab _ hB2).out) (ints_one _ _) (by decide) (by decide) (by omega) 24 rfl ?_; intro ao3 cap3 w3 row3 hc3 hM3 hv3 hg3 hrow3; have hB3 := blk_grown hB2 hg3 (fun k hk => (hrow3 k hk).1) (by omega); have bb3 := bb2.grown hg3 (by omega) (fun k hk => by have := (hrow3 k hk).1; omega); have hsz3 : B + 1 ≤ w3.heap.size := (by have := hg3.size; omega); have c30 := (hB3.cell 0).trans hcv.out; clear hB2 bb2 hM2 hg3 hrow3 hv3 c20))
   go_ret
   refine ⟨_, _, rfl, ?_, bb5⟩
   rw [hEQ.out]
   exact hM5.mono (by omega)
 ·refine step_lit rfl 25 5 1 _ rfl Tryz.underlying25 (.int .u8 0) 1 1 info8 (by decide) (by decide) [.int .u8 1] (by kernel_rfl) (B + 1) (by omega) ?_
  intro x1 hD1 hbx1 hsx1
  have hB1 := hB0.below hbx1 (by omega)
  have bb1 := bb0.trans (hbx1.mono (by omega : B ≤ _))
  have c10 := (hB1.cell 0).trans hcv.out
  have c11 := (hB1.cell 1).trans hce.out
  refine hK'.out _ _ ⟨c10, c11⟩ (fun hHeld => ?_)
  clear hK' K'
  try simp only [Act.put, fpA, fpZ, fpN]
  refine wpAnyH_ready (rs := [0]) (by kernel_rfl) (by simp) (cons_l rfl (fun K' hK' => ?_) AllReadyH.nil)
  refine step_lit rfl 25 5 3 _ rfl Tryz.underlying25 (.int .u8 0) 1 1 info8 (by decide) (by decide) [.int .u8 75, .int .u8 87, .int .u8 87] (by kernel_rfl) (B + 2) (by omega) ?_
  intro x2 hA2 hbx2 hsx2
  have hB2 := hB1.below hbx2 (by omega)
  have bb2 := bb1.trans (hbx2.mono (by omega : B ≤ _))
  have c20 := (hB2.cell 0).trans hcv.out
  have c21 := (hB2.cell 1).trans hce.out
  have hD2 := hD1.below hbx2 (by omega)
  refine hK'.out _ _ ⟨c20, c21⟩ (fun hHeld => ?_)
  clear hK' K'
  try simp only [Act.put, fpA, fpZ, fpN]
  refine wpAnyH_ready (rs := [1]) (by kernel_rfl) (by simp) (cons_l rfl (fun K' hK' => ?_) AllReadyH.nil)
  refine step_convC rfl _ rfl (B + 2) 3 3 [.int .u8 75, .int .u8 87, .int .u8 87] rfl hA2 ?_
  intro x3 hA3 hgx3 hbx3 hsx3
  have hB3 := hB2.below hbx3 (by omega)
  have bb3 := bb2.trans (hbx3.mono (by omega : B ≤ _))
  have c30 := (hB3.cell 0).trans hcv.out
  have c31 := (hB3.cell 1).trans hce.out
  have hD3 := hD2.grown hgx3 (by intro e; injection e with e; omega)
  refine hK'.out _ _ ⟨c30, c31⟩ (fun hHeld => ?_)
  clear hK' K'
  try simp only [Act.put, fpA, fpZ, fpN]
  refine wpAnyH_ready (rs := [6]) (by kernel_rfl) (by simp) (cons_l rfl (fun K' hK' => ?_) AllReadyH.nil)
  refine step_appendArg rfl _ _ rfl ⟨B + 2, 0, none⟩ 3 3 rfl [.int .u8 75, .int .u8 87, .int .u8 87] rfl hA3 ⟨B + 1, 0, none⟩ 1 1 rfl [.int .u8 1] rfl hD3.at0 (by decide) (by decide) (B + 1) (by omega) 4 rfl ?_
  intro ao1 cap1 x4 hc1 hM4 hgx4
  have hB4 := hB3.grown hgx4 (by intro e; cases e)
  have bb4 := bb3.grown hgx4 (by omega) (fun k hk => by cases hk)
  have c40 := (hB4.cell 0).trans hcv.out
  have c41 := (hB4.cell 1).trans hce.out
  have hsx4 : B + 1 ≤ x4.heap.size := by have := hgx4.size; omega
  refine hK'.out _ _ ⟨c40, c41⟩ (fun hHeld => ?_)
  clear hK' K'
  try simp only [Act.put, fpA, fpZ, fpN]
  refine wpAnyH_ready (rs := [10]) (by kernel_rfl) (by simp) (cons_l rfl (fun K' hK' => ?_) AllReadyH.nil)
  rw [if_pos (by rfl)]
  go_simp
  go_at_call 99
  obtain ⟨HP1, hno1⟩ := mine_pt (l := [75, 87, 87, 1]) hM4 rfl (by decide) (magV_octs (by decide))
  refine (PutNumber_any ao1 4 cap1 [75, 87, 87, 1] x.e _ rfl HP1.row HP1.lt (fun h => (hno1 h).1) (by decide)).mono ?_
  rintro e x5 ⟨ao2, cap2, rfl, hM5, hbx5⟩
  have hB5 := hB4.below hbx5 (by omega)
  have bb5 := bb4.trans (hbx5.mono (by omega : B ≤ _))
  have c50 := (hB5.cell 0).trans hcv.out
  have c51 := (hB5.cell 1).trans hce.out
  have hsx5 := hbx5.size
  refine hK'.out _ _ ⟨c50, c51⟩ (fun hHeld => ?_)
  clear hK' K'
  try simp only [Act.put, fpA, fpZ, fpN]
  refine take_l (i := 11) (v := ?rv9) rfl (by kernel_rfl) (by kernel_rfl) (by kernel_rfl) (fun _ _ _ h => h) (Or.inl ⟨by rfl, ?rhy9⟩) (by assumption) ?rrest9
  case rhy9 => (intro w hSw; (try dsimp only at hSw); go_simp; (try with_reducible rfl))
  try simp only [Act.put, fpA, fpZ, fpN]
  refine wpAnyH_done (by kernel_rfl) ?_ _
  have hB2 := hB5
  have bb2 := bb5
  have c20 := c50
  have hsz2 : B + 1 ≤ x5.heap.size := by omega
  have hM2 := hM5.mono (by omega : B + 1 ≤ _)
  clear hHeld
  go_wp2_with (first | (at_builtin; refine wl_appendS rfl _ _ 25 rfl 5 (.int .u8 0) 1 1 Tryz.underlying25 info8 rfl (by decide) (B + 1) _ 40 _ rfl hM4 (some ⟨B, 82, none⟩) 32 32 rfl (fun h => by cases h) (x.g.map (Value.int .u8)) hlg.out (at_row (by omega) (hag _ hB4).out) (ints_one _ _) (by decide) (by decide) (by omega) 72 rfl ?_; intro ao5 cap5 w5 row5 hc5 hM5 hv5 hg5 hrow5; have hB5 := blk_grown hB4 hg5 (fun k hk => (hrow5 k hk).1) (by omega); have bb5 := bb4.grown hg5 (by omega) (fun k hk => by have := (hrow5 k hk).1; omega); have hsz5 : B + 1 ≤ w5.heap.size := (by have := hg5.size; omega); have c50 := (hB5.cell 0).trans hcv.out; clear hB4 bb4 hM4 hg5 hrow5 hv5 c40) | (at_builtin; refine wl_appendS rfl _ _ 25 rfl 5 (.int .u8 0) 1 1 Tryz.underlying25 info8 rfl (by decide) (B + 1) _ 24 _ rfl hM3 (some ⟨B, 34, none⟩) 16 16 rfl (fun h => by cases h) (x.n.map (Value.int .u8)) hln.out (at_row (by omega) (han _ hB3).out) (ints_one _ _) (by decide) (by decide) (by omega) 40 rfl ?_; intro ao4 cap4 w4 row4 hc4 hM4 hv4 hg4 hrow4; have hB4 := blk_grown hB3 hg4 (fun k hk => (hrow4 k hk).1) (by omega); have bb4 := bb3.grown hg4 (by omega) (fun k hk => by have := (hrow4 k hk).1; omega); have hsz4 : B + 1 ≤ w4.heap.size := (by have := hg4.size; omega); have c40 := (hB4.cell 0).trans hcv.out; clear hB3 bb3 hM3 hg4 hrow4 hv4 c30) | (at_builtin; refine wl_appendS rfl _ _ 25 rfl 5 (.int .u8 0) 1 1 Tryz.underlying25 info8 rfl (by decide) (B + 1) _ 8 _ rfl hM2 (some ⟨B, 2, none⟩) 16 16 rfl (fun h => by cases h) (x.b.map (Value.int .u8)) hlb.out (at_row (by omega) (hab _ hB2).out) (ints_one _ _) (by decide) (by decide) (by omega) 24 rfl ?_; intro ao3 cap3 w3 row3 hc3 hM3 hv3 hg3 hrow3; have hB3 := blk_grown hB2 hg3 (fun k hk => (hrow3 k hk).1) (by omega); have bb3 := bb2.grown hg3 (by omega) (fun k hk => by have := (hrow3 k hk).1; omega); have hsz3 : B + 1 ≤ w3.heap.size := (by have := hg3.size; omega); have c30 := (hB3.cell 0).trans hcv.out; clear hB2 bb2 hM2 hg3 hrow3 hv3 c20))
  go_ret
  refine ⟨_, _, rfl, ?_, bb5⟩
  rw [hEQ.out]
  exact hM5.mono (by omega)
set_option maxHeartbeats 4000000 in
theorem ahead_2 (x : Env) (hx : x.Ok) (w : World) (hv : x.v = 2) (he : 0 ≤ x.e ∧ x.e ≤ 4294967295) :
  Calls Tryz.prog 70 #[.agg x.cs.toArray] w fun e w' => ∃ ao c, e = .returned (.slice ao 120 c) ∧ Mine w' w.heap.size 5 1 (.slice ao 120 c) 120 ((aheadL x).map (Value.int .u8)) ∧ Below w.heap.size w w' := by
 obtain ⟨B, HB⟩ : ∃ B, Hid (B = w.heap.size) := ⟨_, rfl⟩
 have hsz : w.heap.size = B := HB.out.symm
 have hal1 := hal16
 have hal2 := hal25
 have hal3 := hal32
 have hal4 := hal22
 have hal5 := halTag
 have hcv : Hid (x.cs[0]? = some (.int .i64 2)) := hid (by rw [← hv]; exact x.cv)
 have hce := hid x.ce
 have hwe : IntKind.u32.wrap x.e = x.e := IntWalk.u32_in _ (by omega)
 have hlb : Hid ((x.b.map (Value.int .u8)).length = 16 * 1) := hid (by rw [List.length_map, hx.bl])
 have hab := fun w' (h : BlkV 57 w' B x.cs) => hid (env_b h)
 have hlo : Hid ((x.o.map (Value.int .u8)).length = 16 * 1) := hid (by rw [List.length_map, hx.ol])
 have hao := fun w' (h : BlkV 57 w' B x.cs) => hid (env_o hx h)
 have hln : Hid ((x.n.map (Value.int .u8)).length = 16 * 1) := hid (by rw [List.length_map, hx.nl])
 have han := fun w' (h : BlkV 57 w' B x.cs) => hid (env_n hx h)
 have hlc : Hid ((x.c.map (Value.int .u8)).length = 32 * 1) := hid (by rw [List.length_map, hx.cl])
 have hac := fun w' (h : BlkV 57 w' B x.cs) => hid (env_c hx h)
 have hlg : Hid ((x.g.map (Value.int .u8)).length = 32 * 1) := hid (by rw [List.length_map, hx.gl])
 have hag := fun w' (h : BlkV 57 w' B x.cs) => hid (env_g hx h)
 have hEQ : Hid ((aheadL x).map (Value.int .u8) = (((((([75, 87, 87, 2] ++ o4 x.e).map (Value.int .u8) ++ x.b.map (Value.int .u8)) ++ x.o.map (Value.int .u8)) ++ x.n.map (Value.int .u8)) ++ x.c.map (Value.int .u8)) ++ x.g.map (Value.int .u8))) := hid (by unfold aheadL twoL; rw [hv]; simp [o4])
 clear hx
 obtain ⟨CS, HCS⟩ : ∃ C, Hid (C = x.cs) := ⟨_, rfl⟩
 rw [← HCS.out] at hab hao han hac hag hcv hce ⊢
 rw [← HB.out]
 go_enter Tryz.func70, Tryz.ntmps70
 go_wp2_with (first | (refine wl_boxV rfl 57 _ rfl CS rfl B hsz ?_; intro w0 hB0 hb0 hs0; have c00 := (hB0.cell 0).trans hcv.out; have c01 := (hB0.cell 1).trans hce.out))
 refine wp_region_held_drew (S := (fun w' => w'.cell? ⟨B, 0, none⟩ = some (.int .i64 2) ∧ w'.cell? ⟨B, 1, none⟩ = some (.int .i64 x.e))) (by kernel_rfl) ⟨c00, c01⟩ (fun hHeld => ?_)
 obtain ⟨x0, HX0⟩ : ∃ x, Hid (x = w0.drew) := ⟨_, rfl⟩
 rw [← HX0.out] at hHeld ⊢
 have hBx : BlkV 57 x0 B CS := by rw [HX0.out]; exact hB0
 have bbx : Below B w x0 := by rw [HX0.out]; exact hb0.drew
 have hsx0 : x0.heap.size = B + 1 := by rw [HX0.out]; exact hs0
 have c00x := (hBx.cell 0).trans hcv.out
 have c01x := (hBx.cell 1).trans hce.out
 clear hB0 hb0 hs0 c00 c01
 have hB0 := hBx
 have bb0 := bbx
 have c00 := c00x
 have c01 := c01x
 clear hBx bbx c00x c01x
 refine take_l (i := 2) (v := ?rv1) rfl (by kernel_rfl) (by kernel_rfl) (by kernel_rfl) (fun _ _ _ h => h) (Or.inl ⟨by rfl, ?rhy1⟩) (by assumption) ?rrest1
 case rhy1 => (intro w hSw; (try dsimp only at hSw); go_simp; (try with_reducible rfl))
 try simp only [Act.put, fpA, fpZ, fpN]
 refine take_l (i := 3) (v := ?rv2) rfl (by kernel_rfl) (by kernel_rfl) (by kernel_rfl) (fun _ _ _ h => h) (Or.inl ⟨by rfl, ?rhy2⟩) (by assumption) ?rrest2
 case rhy2 => (intro w hSw; (try dsimp only at hSw); go_simp; (try with_reducible rfl))
 try simp only [Act.put, fpA, fpZ, fpN]
 refine take_l (i := 4) (v := ?rv3) rfl (by kernel_rfl) (by kernel_rfl) (by kernel_rfl) (fun _ _ _ h => h) (Or.inl ⟨by rfl, ?rhy3⟩) (by assumption) ?rrest3
 case rhy3 => (intro w hSw; (try dsimp only at hSw); go_simp; (try with_reducible rfl))
 try simp only [Act.put, fpA, fpZ, fpN]
 refine take_l (i := 7) (v := ?rv4) rfl (by kernel_rfl) (by kernel_rfl) (by kernel_rfl) (fun _ _ _ h => h) (Or.inl ⟨by rfl, ?rhy4⟩) (by assumption) ?rrest4
 case rhy4 => (intro w hSw; (try dsimp only at hSw); go_simp; (try with_reducible rfl))
 try simp only [Act.put, fpA, fpZ, fpN]
 refine take_l (i := 8) (v := ?rv5) rfl (by kernel_rfl) (by kernel_rfl) (by kernel_rfl) (fun _ _ _ h => h) (Or.inl ⟨by rfl, ?rhy5⟩) (by assumption) ?rrest5
 case rhy5 => (intro w hSw; (try dsimp only at hSw); go_simp; (try with_reducible rfl))
 try simp only [Act.put, fpA, fpZ, fpN]
 refine take_l (i := 9) (v := ?rv6) rfl (by kernel_rfl) (by kernel_rfl) (by kernel_rfl) (fun _ _ _ h => h) (Or.inl ⟨by rfl, ?rhy6⟩) (by assumption) ?rrest6
 case rhy6 => (intro w hSw; (try dsimp only at hSw); go_simp; (try with_reducible rfl))
 try simp only [Act.put, fpA, fpZ, fpN]
 refine wpAnyH_ready (rs := [0, 5]) (by kernel_rfl) (by simp) (cons_l rfl (fun K' hK' => ?_) (cons_l rfl (fun K' hK' => ?_) AllReadyH.nil))
 ·refine step_lit rfl 25 5 3 _ rfl Tryz.underlying25 (.int .u8 0) 1 1 info8 (by decide) (by decide) [.int .u8 75, .int .u8 87, .int .u8 87] (by kernel_rfl) (B + 1) (by omega) ?_
  intro x1 hA1 hbx1 hsx1
  have hB1 := hB0.below hbx1 (by omega)
  have bb1 := bb0.trans (hbx1.mono (by omega : B ≤ _))
  have c10 := (hB1.cell 0).trans hcv.out
  have c11 := (hB1.cell 1).trans hce.out
  refine hK'.out _ _ ⟨c10, c11⟩ (fun hHeld => ?_)
  clear hK' K'
  try simp only [Act.put, fpA, fpZ, fpN]
  refine wpAnyH_ready (rs := [1, 5]) (by kernel_rfl) (by simp) (cons_l rfl (fun K' hK' => ?_) (cons_l rfl (fun K' hK' => ?_) AllReadyH.nil))
  ·refine step_convC rfl _ rfl (B + 1) 3 3 [.int .u8 75, .int .u8 87, .int .u8 87] rfl hA1 ?_
   intro x2 hA2 hgx2 hbx2 hsx2
   have hB2 := hB1.below hbx2 (by omega)
   have bb2 := bb1.trans (hbx2.mono (by omega : B ≤ _))
   have c20 := (hB2.cell 0).trans hcv.out
   have c21 := (hB2.cell 1).trans hce.out
   refine hK'.out _ _ ⟨c20, c21⟩ (fun hHeld => ?_)
   clear hK' K'
   try simp only [Act.put, fpA, fpZ, fpN]
   refine wpAnyH_ready (rs := [5]) (by kernel_rfl) (by simp) (cons_l rfl (fun K' hK' => ?_) AllReadyH.nil)
   refine step_lit rfl 25 5 1 _ rfl Tryz.underlying25 (.int .u8 0) 1 1 info8 (by decide) (by decide) [.int .u8 2] (by kernel_rfl) (B + 2) (by omega) ?_
   intro x3 hD3 hbx3 hsx3
   have hB3 := hB2.below hbx3 (by omega)
   have bb3 := bb2.trans (hbx3.mono (by omega : B ≤ _))
   have c30 := (hB3.cell 0).trans hcv.out
   have c31 := (hB3.cell 1).trans hce.out
   have hA3 := at_below hA2 hbx3 (by omega)
   refine hK'.out _ _ ⟨c30, c31⟩ (fun hHeld => ?_)
   clear hK' K'
   try simp only [Act.put, fpA, fpZ, fpN]
   refine wpAnyH_ready (rs := [6]) (by kernel_rfl) (by simp) (cons_l rfl (fun K' hK' => ?_) AllReadyH.nil)
   refine step_appendArg rfl _ _ rfl ⟨B + 1, 0, none⟩ 3 3 rfl [.int .u8 75, .int .u8 87, .int .u8 87] rfl hA3 ⟨B + 2, 0, none⟩ 1 1 rfl [.int .u8 2] rfl hD3.at0 (by decide) (by decide) (B + 1) (by omega) 4 rfl ?_
   intro ao1 cap1 x4 hc1 hM4 hgx4
   have hB4 := hB3.grown hgx4 (by intro e; cases e)
   have bb4 := bb3.grown hgx4 (by omega) (fun k hk => by cases hk)
   have c40 := (hB4.cell 0).trans hcv.out
   have c41 := (hB4.cell 1).trans hce.out
   have hsx4 : B + 1 ≤ x4.heap.size := by have := hgx4.size; omega
   refine hK'.out _ _ ⟨c40, c41⟩ (fun hHeld => ?_)
   clear hK' K'
   try simp only [Act.put, fpA, fpZ, fpN]
   refine wpAnyH_ready (rs := [10]) (by kernel_rfl) (by simp) (cons_l rfl (fun K' hK' => ?_) AllReadyH.nil)
   rw [if_pos (by rfl)]
   go_simp
   go_at_call 99
   obtain ⟨HP1, hno1⟩ := mine_pt (l := [75, 87, 87, 2]) hM4 rfl (by decide) (magV_octs (by decide))
   refine (PutNumber_any ao1 4 cap1 [75, 87, 87, 2] x.e _ rfl HP1.row HP1.lt (fun h => (hno1 h).1) (by decide)).mono ?_
   rintro e x5 ⟨ao2, cap2, rfl, hM5, hbx5⟩
   have hB5 := hB4.below hbx5 (by omega)
   have bb5 := bb4.trans (hbx5.mono (by omega : B ≤ _))
   have c50 := (hB5.cell 0).trans hcv.out
   have c51 := (hB5.cell 1).trans hce.out
   have hsx5 := hbx5.size
   refine hK'.out _ _ ⟨c50, c51⟩ (fun hHeld => ?_)
   clear hK' K'
   try simp only [Act.put, fpA, fpZ, fpN]
   refine take_l (i := 11) (v := ?rv7) rfl (by kernel_rfl) (by kernel_rfl) (by kernel_rfl) (fun _ _ _ h => h) (Or.inl ⟨by rfl, ?rhy7⟩) (by assumption) ?rrest7
   case rhy7 => (intro w hSw; (try dsimp only at hSw); go_simp; (try with_reducible rfl))
   try simp only [Act.put, fpA, fpZ, fpN]
   refine wpAnyH_done (by kernel_rfl) ?_ _
   have hB2 := hB5
   have bb2 := bb5
   have c20 := c50
   have hsz2 : B + 1 ≤ x5.heap.size := by omega
   have hM2 := hM5.mono (by omega : B + 1 ≤ _)
   clear hHeld
   go_wp2_with (first | (at_builtin; refine wl_appendS rfl _ _ 25 rfl 5 (.int .u8 0) 1 1 Tryz.underlying25 info8 rfl (by decide) (B + 1) _ 88 _ rfl hM6 (some ⟨B, 82, none⟩) 32 32 rfl (fun h => by cases h) (x.g.map (Value.int .u8)) hlg.out (at_row (by omega) (hag _ hB6).out) (ints_one _ _) (by decide) (by decide) (by omega) 120 rfl ?_; intro ao7 cap7 w7 row7 hc7 hM7 hv7 hg7 hrow7; have hB7 := blk_grown hB6 hg7 (fun k hk => (hrow7 k hk).1) (by omega); have bb7 := bb6.grown hg7 (by omega) (fun k hk => by have := (hrow7 k hk).1; omega); have hsz7 : B + 1 ≤ w7.heap.size := (by have := hg7.size; omega); have c70 := (hB7.cell 0).trans hcv.out; clear hB6 bb6 hM6 hg7 hrow7 hv7 c60) | (at_builtin; refine wl_appendS rfl _ _ 25 rfl 5 (.int .u8 0) 1 1 Tryz.underlying25 info8 rfl (by decide) (B + 1) _ 56 _ rfl hM5 (some ⟨B, 50, none⟩) 32 32 rfl (fun h => by cases h) (x.c.map (Value.int .u8)) hlc.out (at_row (by omega) (hac _ hB5).out) (ints_one _ _) (by decide) (by decide) (by omega) 88 rfl ?_; intro ao6 cap6 w6 row6 hc6 hM6 hv6 hg6 hrow6; have hB6 := blk_grown hB5 hg6 (fun k hk => (hrow6 k hk).1) (by omega); have bb6 := bb5.grown hg6 (by omega) (fun k hk => by have := (hrow6 k hk).1; omega); have hsz6 : B + 1 ≤ w6.heap.size := (by have := hg6.size; omega); have c60 := (hB6.cell 0).trans hcv.out; clear hB5 bb5 hM5 hg6 hrow6 hv6 c50) | (at_builtin; refine wl_appendS rfl _ _ 25 rfl 5 (.int .u8 0) 1 1 Tryz.underlying25 info8 rfl (by decide) (B + 1) _ 40 _ rfl hM4 (some ⟨B, 34, none⟩) 16 16 rfl (fun h => by cases h) (x.n.map (Value.int .u8)) hln.out (at_row (by omega) (han _ hB4).out) (ints_one _ _) (by decide) (by decide) (by omega) 56 rfl ?_; intro ao5 cap5 w5 row5 hc5 hM5 hv5 hg5 hrow5; have hB5 := blk_grown hB4 hg5 (fun k hk => (hrow5 k hk).1) (by omega); have bb5 := bb4.grown hg5 (by omega) (fun k hk => by have := (hrow5 k hk).1; omega); have hsz5 : B + 1 ≤ w5.heap.size := (by have := hg5.size; omega); have c50 := (hB5.cell 0).trans hcv.out; clear hB4 bb4 hM4 hg5 hrow5 hv5 c40) | (at_builtin; refine wl_appendS rfl _ _ 25 rfl 5 (.int .u8 0) 1 1 Tryz.underlying25 info8 rfl (by decide) (B + 1) _ 24 _ rfl hM3 (some ⟨B, 18, none⟩) 16 16 rfl (fun h => by cases h) (x.o.map (Value.int .u8)) hlo.out (at_row (by omega) (hao _ hB3).out) (ints_one _ _) (by decide) (by decide) (by omega) 40 rfl ?_; intro ao4 cap4 w4 row4 hc4 hM4 hv4 hg4 hrow4; have hB4 := blk_grown hB3 hg4 (fun k hk => (hrow4 k hk).1) (by omega); have bb4 := bb3.grown hg4 (by omega) (fun k hk => by have := (hrow4 k hk).1; omega); have hsz4 : B + 1 ≤ w4.heap.size := (by have := hg4.size; omega); have c40 := (hB4.cell 0).trans hcv.out; clear hB3 bb3 hM3 hg4 hrow4 hv4 c30) | (at_builtin; refine wl_appendS rfl _ _ 25 rfl 5 (.int .u8 0) 1 1 Tryz.underlying25 info8 rfl (by decide) (B + 1) _ 8 _ rfl hM2 (some ⟨B, 2, none⟩) 16 16 rfl (fun h => by cases h) (x.b.map (Value.int .u8)) hlb.out (at_row (by omega) (hab _ hB2).out) (ints_one _ _) (by decide) (by decide) (by omega) 24 rfl ?_; intro ao3 cap3 w3 row3 hc3 hM3 hv3 hg3 hrow3; have hB3 := blk_grown hB2 hg3 (fun k hk => (hrow3 k hk).1) (by omega); have bb3 := bb2.grown hg3 (by omega) (fun k hk => by have := (hrow3 k hk).1; omega); have hsz3 : B + 1 ≤ w3.heap.size := (by have := hg3.size; omega); have c30 := (hB3.cell 0).trans hcv.out; clear hB2 bb2 hM2 hg3 hrow3 hv3 c20))
   go_ret
   refine ⟨_, _, rfl, ?_, bb7⟩
   rw [hEQ.out]
   exact hM7.mono (by omega)
  ·refine step_lit rfl 25 5 1 _ rfl Tryz.underlying25 (.int .u8 0) 1 1 info8 (by decide) (by decide) [.int .u8 2] (by kernel_rfl) (B + 2) (by omega) ?_
   intro x2 hD2 hbx2 hsx2
   have hB2 := hB1.below hbx2 (by omega)
   have bb2 := bb1.trans (hbx2.mono (by omega : B ≤ _))
   have c20 := (hB2.cell 0).trans hcv.out
   have c21 := (hB2.cell 1).trans hce.out
   have hA2 := hA1.below hbx2 (by omega)
   refine hK'.out _ _ ⟨c20, c21⟩ (fun hHeld => ?_)
   clear hK' K'
   try simp only [Act.put, fpA, fpZ, fpN]
   refine wpAnyH_ready (rs := [1]) (by kernel_rfl) (by simp) (cons_l rfl (fun K' hK' => ?_) AllReadyH.nil)
   refine step_convC rfl _ rfl (B + 1) 3 3 [.int .u8 75, .int .u8 87, .int .u8 87] rfl hA2 ?_
   intro x3 hA3 hgx3 hbx3 hsx3
   have hB3 := hB2.below hbx3 (by omega)
   have bb3 := bb2.trans (hbx3.mono (by omega : B ≤ _))
   have c30 := (hB3.cell 0).trans hcv.out
   have c31 := (hB3.cell 1).trans hce.out
   have hD3 := hD2.grown hgx3 (by intro e; injection e with e; omega)
   refine hK'.out _ _ ⟨c30, c31⟩ (fun hHeld => ?_)
   clear hK' K'
   try simp only [Act.put, fpA, fpZ, fpN]
   refine wpAnyH_ready (rs := [6]) (by kernel_rfl) (by simp) (cons_l rfl (fun K' hK' => ?_) AllReadyH.nil)
   refine step_appendArg rfl _ _ rfl ⟨B + 1, 0, none⟩ 3 3 rfl [.int .u8 75, .int .u8 87, .int .u8 87] rfl hA3 ⟨B + 2, 0, none⟩ 1 1 rfl [.int .u8 2] rfl hD3.at0 (by decide) (by decide) (B + 1) (by omega) 4 rfl ?_
   intro ao1 cap1 x4 hc1 hM4 hgx4
   have hB4 := hB3.grown hgx4 (by intro e; cases e)
   have bb4 := bb3.grown hgx4 (by omega) (fun k hk => by cases hk)
   have c40 := (hB4.cell 0).trans hcv.out
   have c41 := (hB4.cell 1).trans hce.out
   have hsx4 : B + 1 ≤ x4.heap.size := by have := hgx4.size; omega
   refine hK'.out _ _ ⟨c40, c41⟩ (fun hHeld => ?_)
   clear hK' K'
   try simp only [Act.put, fpA, fpZ, fpN]
   refine wpAnyH_ready (rs := [10]) (by kernel_rfl) (by simp) (cons_l rfl (fun K' hK' => ?_) AllReadyH.nil)
   rw [if_pos (by rfl)]
   go_simp
   go_at_call 99
   obtain ⟨HP1, hno1⟩ := mine_pt (l := [75, 87, 87, 2]) hM4 rfl (by decide) (magV_octs (by decide))
   refine (PutNumber_any ao1 4 cap1 [75, 87, 87, 2] x.e _ rfl HP1.row HP1.lt (fun h => (hno1 h).1) (by decide)).mono ?_
   rintro e x5 ⟨ao2, cap2, rfl, hM5, hbx5⟩
   have hB5 := hB4.below hbx5 (by omega)
   have bb5 := bb4.trans (hbx5.mono (by omega : B ≤ _))
   have c50 := (hB5.cell 0).trans hcv.out
   have c51 := (hB5.cell 1).trans hce.out
   have hsx5 := hbx5.size
   refine hK'.out _ _ ⟨c50, c51⟩ (fun hHeld => ?_)
   clear hK' K'
   try simp only [Act.put, fpA, fpZ, fpN]
   refine take_l (i := 11) (v := ?rv8) rfl (by kernel_rfl) (by kernel_rfl) (by kernel_rfl) (fun _ _ _ h => h) (Or.inl ⟨by rfl, ?rhy8⟩) (by assumption) ?rrest8
   case rhy8 => (intro w hSw; (try dsimp only at hSw); go_simp; (try with_reducible rfl))
   try simp only [Act.put, fpA, fpZ, fpN]
   refine wpAnyH_done (by kernel_rfl) ?_ _
   have hB2 := hB5
   have bb2 := bb5
   have c20 := c50
   have hsz2 : B + 1 ≤ x5.heap.size := by omega
   have hM2 := hM5.mono (by omega : B + 1 ≤ _)
   clear hHeld
   go_wp2_with (first | (at_builtin; refine wl_appendS rfl _ _ 25 rfl 5 (.int .u8 0) 1 1 Tryz.underlying25 info8 rfl (by decide) (B + 1) _ 88 _ rfl hM6 (some ⟨B, 82, none⟩) 32 32 rfl (fun h => by cases h) (x.g.map (Value.int .u8)) hlg.out (at_row (by omega) (hag _ hB6).out) (ints_one _ _) (by decide) (by decide) (by omega) 120 rfl ?_; intro ao7 cap7 w7 row7 hc7 hM7 hv7 hg7 hrow7; have hB7 := blk_grown hB6 hg7 (fun k hk => (hrow7 k hk).1) (by omega); have bb7 := bb6.grown hg7 (by omega) (fun k hk => by have := (hrow7 k hk).1; omega); have hsz7 : B + 1 ≤ w7.heap.size := (by have := hg7.size; omega); have c70 := (hB7.cell 0).trans hcv.out; clear hB6 bb6 hM6 hg7 hrow7 hv7 c60) | (at_builtin; refine wl_appendS rfl _ _ 25 rfl 5 (.int .u8 0) 1 1 Tryz.underlying25 info8 rfl (by decide) (B + 1) _ 56 _ rfl hM5 (some ⟨B, 50, none⟩) 32 32 rfl (fun h => by cases h) (x.c.map (Value.int .u8)) hlc.out (at_row (by omega) (hac _ hB5).out) (ints_one _ _) (by decide) (by decide) (by omega) 88 rfl ?_; intro ao6 cap6 w6 row6 hc6 hM6 hv6 hg6 hrow6; have hB6 := blk_grown hB5 hg6 (fun k hk => (hrow6 k hk).1) (by omega); have bb6 := bb5.grown hg6 (by omega) (fun k hk => by have := (hrow6 k hk).1; omega); have hsz6 : B + 1 ≤ w6.heap.size := (by have := hg6.size; omega); have c60 := (hB6.cell 0).trans hcv.out; clear hB5 bb5 hM5 hg6 hrow6 hv6 c50) | (at_builtin; refine wl_appendS rfl _ _ 25 rfl 5 (.int .u8 0) 1 1 Tryz.underlying25 info8 rfl (by decide) (B + 1) _ 40 _ rfl hM4 (some ⟨B, 34, none⟩) 16 16 rfl (fun h => by cases h) (x.n.map (Value.int .u8)) hln.out (at_row (by omega) (han _ hB4).out) (ints_one _ _) (by decide) (by decide) (by omega) 56 rfl ?_; intro ao5 cap5 w5 row5 hc5 hM5 hv5 hg5 hrow5; have hB5 := blk_grown hB4 hg5 (fun k hk => (hrow5 k hk).1) (by omega); have bb5 := bb4.grown hg5 (by omega) (fun k hk => by have := (hrow5 k hk).1; omega); have hsz5 : B + 1 ≤ w5.heap.size := (by have := hg5.size; omega); have c50 := (hB5.cell 0).trans hcv.out; clear hB4 bb4 hM4 hg5 hrow5 hv5 c40) | (at_builtin; refine wl_appendS rfl _ _ 25 rfl 5 (.int .u8 0) 1 1 Tryz.underlying25 info8 rfl (by decide) (B + 1) _ 24 _ rfl hM3 (some ⟨B, 18, none⟩) 16 16 rfl (fun h => by cases h) (x.o.map (Value.int .u8)) hlo.out (at_row (by omega) (hao _ hB3).out) (ints_one _ _) (by decide) (by decide) (by omega) 40 rfl ?_; intro ao4 cap4 w4 row4 hc4 hM4 hv4 hg4 hrow4; have hB4 := blk_grown hB3 hg4 (fun k hk => (hrow4 k hk).1) (by omega); have bb4 := bb3.grown hg4 (by omega) (fun k hk => by have := (hrow4 k hk).1; omega); have hsz4 : B + 1 ≤ w4.heap.size := (by have := hg4.size; omega); have c40 := (hB4.cell 0).trans hcv.out; clear hB3 bb3 hM3 hg4 hrow4 hv4 c30) | (at_builtin; refine wl_appendS rfl _ _ 25 rfl 5 (.int .u8 0) 1 1 Tryz.underlying25 info8 rfl (by decide) (B + 1) _ 8 _ rfl hM2 (some ⟨B, 2, none⟩) 16 16 rfl (fun h => by cases h) (x.b.map (Value.int .u8)) hlb.out (at_row (by omega) (hab _ hB2).out) (ints_one _ _) (by decide) (by decide) (by omega) 24 rfl ?_; intro ao3 cap3 w3 row3 hc3 hM3 hv3 hg3 hrow3; have hB3 := blk_grown hB2 hg3 (fun k hk => (hrow3 k hk).1) (by omega); have bb3 := bb2.grown hg3 (by omega) (fun k hk => by have := (hrow3 k hk).1; omega); have hsz3 : B + 1 ≤ w3.heap.size := (by have := hg3.size; omega); have c30 := (hB3.cell 0).trans hcv.out; clear hB2 bb2 hM2 hg3 hrow3 hv3 c20))
   go_ret
   refine ⟨_, _, rfl, ?_, bb7⟩
   rw [hEQ.out]
   exact hM7.mono (by omega)
 ·refine step_lit rfl 25 5 1 _ rfl Tryz.underlying25 (.int .u8 0) 1 1 info8 (by decide) (by decide) [.int .u8 2] (by kernel_rfl) (B + 1) (by omega) ?_
  intro x1 hD1 hbx1 hsx1
  have hB1 := hB0.below hbx1 (by omega)
  have bb1 := bb0.trans (hbx1.mono (by omega : B ≤ _))
  have c10 := (hB1.cell 0).trans hcv.out
  have c11 := (hB1.cell 1).trans hce.out
  refine hK'.out _ _ ⟨c10, c11⟩ (fun hHeld => ?_)
  clear hK' K'
  try simp only [Act.put, fpA, fpZ, fpN]
  refine wpAnyH_ready (rs := [0]) (by kernel_rfl) (by simp) (cons_l rfl (fun K' hK' => ?_) AllReadyH.nil)
  refine step_lit rfl 25 5 3 _ rfl Tryz.underlying25 (.int .u8 0) 1 1 info8 (by decide) (by decide) [.int .u8 75, .int .u8 87, .int .u8 87] (by kernel_rfl) (B + 2) (by omega) ?_
  intro x2 hA2 hbx2 hsx2
  have hB2 := hB1.below hbx2 (by omega)
  have bb2 := bb1.trans (hbx2.mono (by omega : B ≤ _))
  have c20 := (hB2.cell 0).trans hcv.out
  have c21 := (hB2.cell 1).trans hce.out
  have hD2 := hD1.below hbx2 (by omega)
  refine hK'.out _ _ ⟨c20, c21⟩ (fun hHeld => ?_)
  clear hK' K'
  try simp only [Act.put, fpA, fpZ, fpN]
  refine wpAnyH_ready (rs := [1]) (by kernel_rfl) (by simp) (cons_l rfl (fun K' hK' => ?_) AllReadyH.nil)
  refine step_convC rfl _ rfl (B + 2) 3 3 [.int .u8 75, .int .u8 87, .int .u8 87] rfl hA2 ?_
  intro x3 hA3 hgx3 hbx3 hsx3
  have hB3 := hB2.below hbx3 (by omega)
  have bb3 := bb2.trans (hbx3.mono (by omega : B ≤ _))
  have c30 := (hB3.cell 0).trans hcv.out
  have c31 := (hB3.cell 1).trans hce.out
  have hD3 := hD2.grown hgx3 (by intro e; injection e with e; omega)
  refine hK'.out _ _ ⟨c30, c31⟩ (fun hHeld => ?_)
  clear hK' K'
  try simp only [Act.put, fpA, fpZ, fpN]
  refine wpAnyH_ready (rs := [6]) (by kernel_rfl) (by simp) (cons_l rfl (fun K' hK' => ?_) AllReadyH.nil)
  refine step_appendArg rfl _ _ rfl ⟨B + 2, 0, none⟩ 3 3 rfl [.int .u8 75, .int .u8 87, .int .u8 87] rfl hA3 ⟨B + 1, 0, none⟩ 1 1 rfl [.int .u8 2] rfl hD3.at0 (by decide) (by decide) (B + 1) (by omega) 4 rfl ?_
  intro ao1 cap1 x4 hc1 hM4 hgx4
  have hB4 := hB3.grown hgx4 (by intro e; cases e)
  have bb4 := bb3.grown hgx4 (by omega) (fun k hk => by cases hk)
  have c40 := (hB4.cell 0).trans hcv.out
  have c41 := (hB4.cell 1).trans hce.out
  have hsx4 : B + 1 ≤ x4.heap.size := by have := hgx4.size; omega
  refine hK'.out _ _ ⟨c40, c41⟩ (fun hHeld => ?_)
  clear hK' K'
  try simp only [Act.put, fpA, fpZ, fpN]
  refine wpAnyH_ready (rs := [10]) (by kernel_rfl) (by simp) (cons_l rfl (fun K' hK' => ?_) AllReadyH.nil)
  rw [if_pos (by rfl)]
  go_simp
  go_at_call 99
  obtain ⟨HP1, hno1⟩ := mine_pt (l := [75, 87, 87, 2]) hM4 rfl (by decide) (magV_octs (by decide))
  refine (PutNumber_any ao1 4 cap1 [75, 87, 87, 2] x.e _ rfl HP1.row HP1.lt (fun h => (hno1 h).1) (by decide)).mono ?_
  rintro e x5 ⟨ao2, cap2, rfl, hM5, hbx5⟩
  have hB5 := hB4.below hbx5 (by omega)
  have bb5 := bb4.trans (hbx5.mono (by omega : B ≤ _))
  have c50 := (hB5.cell 0).trans hcv.out
  have c51 := (hB5.cell 1).trans hce.out
  have hsx5 := hbx5.size
  refine hK'.out _ _ ⟨c50, c51⟩ (fun hHeld => ?_)
  clear hK' K'
  try simp only [Act.put, fpA, fpZ, fpN]
  refine take_l (i := 11) (v := ?rv9) rfl (by kernel_rfl) (by kernel_rfl) (by kernel_rfl) (fun _ _ _ h => h) (Or.inl ⟨by rfl, ?rhy9⟩) (by assumption) ?rrest9
  case rhy9 => (intro w hSw; (try dsimp only at hSw); go_simp; (try with_reducible rfl))
  try simp only [Act.put, fpA, fpZ, fpN]
  refine wpAnyH_done (by kernel_rfl) ?_ _
  have hB2 := hB5
  have bb2 := bb5
  have c20 := c50
  have hsz2 : B + 1 ≤ x5.heap.size := by omega
  have hM2 := hM5.mono (by omega : B + 1 ≤ _)
  clear hHeld
  go_wp2_with (first | (at_builtin; refine wl_appendS rfl _ _ 25 rfl 5 (.int .u8 0) 1 1 Tryz.underlying25 info8 rfl (by decide) (B + 1) _ 88 _ rfl hM6 (some ⟨B, 82, none⟩) 32 32 rfl (fun h => by cases h) (x.g.map (Value.int .u8)) hlg.out (at_row (by omega) (hag _ hB6).out) (ints_one _ _) (by decide) (by decide) (by omega) 120 rfl ?_; intro ao7 cap7 w7 row7 hc7 hM7 hv7 hg7 hrow7; have hB7 := blk_grown hB6 hg7 (fun k hk => (hrow7 k hk).1) (by omega); have bb7 := bb6.grown hg7 (by omega) (fun k hk => by have := (hrow7 k hk).1; omega); have hsz7 : B + 1 ≤ w7.heap.size := (by have := hg7.size; omega); have c70 := (hB7.cell 0).trans hcv.out; clear hB6 bb6 hM6 hg7 hrow7 hv7 c60) | (at_builtin; refine wl_appendS rfl _ _ 25 rfl 5 (.int .u8 0) 1 1 Tryz.underlying25 info8 rfl (by decide) (B + 1) _ 56 _ rfl hM5 (some ⟨B, 50, none⟩) 32 32 rfl (fun h => by cases h) (x.c.map (Value.int .u8)) hlc.out (at_row (by omega) (hac _ hB5).out) (ints_one _ _) (by decide) (by decide) (by omega) 88 rfl ?_; intro ao6 cap6 w6 row6 hc6 hM6 hv6 hg6 hrow6; have hB6 := blk_grown hB5 hg6 (fun k hk => (hrow6 k hk).1) (by omega); have bb6 := bb5.grown hg6 (by omega) (fun k hk => by have := (hrow6 k hk).1; omega); have hsz6 : B + 1 ≤ w6.heap.size := (by have := hg6.size; omega); have c60 := (hB6.cell 0).trans hcv.out; clear hB5 bb5 hM5 hg6 hrow6 hv6 c50) | (at_builtin; refine wl_appendS rfl _ _ 25 rfl 5 (.int .u8 0) 1 1 Tryz.underlying25 info8 rfl (by decide) (B + 1) _ 40 _ rfl hM4 (some ⟨B, 34, none⟩) 16 16 rfl (fun h => by cases h) (x.n.map (Value.int .u8)) hln.out (at_row (by omega) (han _ hB4).out) (ints_one _ _) (by decide) (by decide) (by omega) 56 rfl ?_; intro ao5 cap5 w5 row5 hc5 hM5 hv5 hg5 hrow5; have hB5 := blk_grown hB4 hg5 (fun k hk => (hrow5 k hk).1) (by omega); have bb5 := bb4.grown hg5 (by omega) (fun k hk => by have := (hrow5 k hk).1; omega); have hsz5 : B + 1 ≤ w5.heap.size := (by have := hg5.size; omega); have c50 := (hB5.cell 0).trans hcv.out; clear hB4 bb4 hM4 hg5 hrow5 hv5 c40) | (at_builtin; refine wl_appendS rfl _ _ 25 rfl 5 (.int .u8 0) 1 1 Tryz.underlying25 info8 rfl (by decide) (B + 1) _ 24 _ rfl hM3 (some ⟨B, 18, none⟩) 16 16 rfl (fun h => by cases h) (x.o.map (Value.int .u8)) hlo.out (at_row (by omega) (hao _ hB3).out) (ints_one _ _) (by decide) (by decide) (by omega) 40 rfl ?_; intro ao4 cap4 w4 row4 hc4 hM4 hv4 hg4 hrow4; have hB4 := blk_grown hB3 hg4 (fun k hk => (hrow4 k hk).1) (by omega); have bb4 := bb3.grown hg4 (by omega) (fun k hk => by have := (hrow4 k hk).1; omega); have hsz4 : B + 1 ≤ w4.heap.size := (by have := hg4.size; omega); have c40 := (hB4.cell 0).trans hcv.out; clear hB3 bb3 hM3 hg4 hrow4 hv4 c30) | (at_builtin; refine wl_appendS rfl _ _ 25 rfl 5 (.int .u8 0) 1 1 Tryz.underlying25 info8 rfl (by decide) (B + 1) _ 8 _ rfl hM2 (some ⟨B, 2, none⟩) 16 16 rfl (fun h => by cases h) (x.b.map (Value.int .u8)) hlb.out (at_row (by omega) (hab _ hB2).out) (ints_one _ _) (by decide) (by decide) (by omega) 24 rfl ?_; intro ao3 cap3 w3 row3 hc3 hM3 hv3 hg3 hrow3; have hB3 := blk_grown hB2 hg3 (fun k hk => (hrow3 k hk).1) (by omega); have bb3 := bb2.grown hg3 (by omega) (fun k hk => by have := (hrow3 k hk).1; omega); have hsz3 : B + 1 ≤ w3.heap.size := (by have := hg3.size; omega); have c30 := (hB3.cell 0).trans hcv.out; clear hB2 bb2 hM2 hg3 hrow3 hv3 c20))
  go_ret
  refine ⟨_, _, rfl, ?_, bb7⟩
  rw [hEQ.out]
  exact hM7.mono (by omega)
set_option maxHeartbeats 8000000 in
theorem Print_A (x : Env) (hx : x.Ok) (w : World) (hv : ¬ (x.v = 1 ∨ x.v = 2)) :
  Calls Tryz.prog 52 #[.agg x.cs.toArray] w (EnvPost x w) := by
 obtain ⟨B, HB⟩ : ∃ B, Hid (B = w.heap.size) := ⟨_, rfl⟩
 have hsz : w.heap.size = B := HB.out.symm
 have hin := fun w => hid (badEpoch_any x.e w)
 have hal1 := hal16
 have hal2 := hal25
 have hal3 := hal32
 have hal4 := hal22
 have hal5 := halTag
 have HXO := hid hx
 have haI := fun w' (h : BlkV 57 w' B x.cs) => hid (env_o hx h)
 have haS := fun w' (h : BlkV 57 w' B x.cs) => hid (env_c hx h)
 have hlo := hid hx.ol
 have hlc := hid hx.cl
 have HE : Hid (errV x = 19) := hid (by unfold errV; rw [if_pos hv])
 have hcv := hid x.cv
 have hce := hid x.ce
 obtain ⟨V, HV⟩ : ∃ V, Hid (V = x.v) := ⟨_, rfl⟩
 rw [← HV.out] at hcv hv
 have hv1 : ¬ V = 1 := fun h => hv (Or.inl h)
 have hv2 : ¬ V = 2 := fun h => hv (Or.inr h)
 have hn1 : (V != 1) = true := by simpa using hv1
 have hn2 : (V != 2) = true := by simpa using hv2
 clear hv hx
 obtain ⟨CS, HCS⟩ : ∃ C, Hid (C = x.cs) := ⟨_, rfl⟩
 rw [← HCS.out] at haI haS hcv hce ⊢
 go_enter Tryz.func52, Tryz.ntmps52
 go_wp2_with (first | (refine wl_boxV rfl 57 _ rfl CS rfl B hsz ?_; intro w0 hB0 hb0 hs0; have c00 := (hB0.cell 0).trans hcv.out; have c01 := (hB0.cell 1).trans hce.out; have hsz0 : B + 1 ≤ w0.heap.size := (by omega); clear hs0))
 go_ret2
 have he : errV x = 19 := HE.out
 unfold EnvPost
 rw [he, ← HB.out, if_neg (by decide)]
 exact ⟨hb0, rfl⟩
set_option maxHeartbeats 8000000 in
theorem Print_B (x : Env) (hx : x.Ok) (w : World) (hv : x.v = 1 ∨ x.v = 2) (he : ¬ (0 ≤ x.e ∧ x.e ≤ 4294967295)) :
  Calls Tryz.prog 52 #[.agg x.cs.toArray] w (EnvPost x w) := by
 obtain ⟨B, HB⟩ : ∃ B, Hid (B = w.heap.size) := ⟨_, rfl⟩
 have hsz : w.heap.size = B := HB.out.symm
 have hin := fun w => hid (badEpoch_any x.e w)
 have hal1 := hal16
 have hal2 := hal25
 have hal3 := hal32
 have hal4 := hal22
 have hal5 := halTag
 have HXO := hid hx
 have haI := fun w' (h : BlkV 57 w' B x.cs) => hid (env_o hx h)
 have haS := fun w' (h : BlkV 57 w' B x.cs) => hid (env_c hx h)
 have hlo := hid hx.ol
 have hlc := hid hx.cl
 have HE : Hid (errV x = 4) := hid (by unfold errV; rw [if_neg (fun h => h hv), if_pos he])
 have hi : inB x.e 0 4294967295 = false := by unfold inB; simp; omega
 rw [hi] at hin
 have hcv := hid x.cv
 have hce := hid x.ce
 obtain ⟨V, HV⟩ : ∃ V, Hid (V = x.v) := ⟨_, rfl⟩
 rw [← HV.out] at hcv hv
 clear hi hx
 obtain ⟨CS, HCS⟩ : ∃ C, Hid (C = x.cs) := ⟨_, rfl⟩
 rw [← HCS.out] at haI haS hcv hce ⊢
 rcases hv with rfl | rfl
 ·skip
  go_enter Tryz.func52, Tryz.ntmps52
  go_wp2_with (first | (refine wl_boxV rfl 57 _ rfl CS rfl B hsz ?_; intro w0 hB0 hb0 hs0; have c00 := (hB0.cell 0).trans hcv.out; have c01 := (hB0.cell 1).trans hce.out; have hsz0 : B + 1 ≤ w0.heap.size := (by omega); clear hs0) | (go_at_call 51; refine (hin _).out.mono ?_; rintro e w1 ⟨rfl, rfl⟩))
  go_ret2
  have he : errV x = 4 := HE.out
  unfold EnvPost
  rw [he, ← HB.out, if_neg (by decide)]
  exact ⟨hb0, rfl⟩
 ·skip
  go_enter Tryz.func52, Tryz.ntmps52
  go_wp2_with (first | (refine wl_boxV rfl 57 _ rfl CS rfl B hsz ?_; intro w0 hB0 hb0 hs0; have c00 := (hB0.cell 0).trans hcv.out; have c01 := (hB0.cell 1).trans hce.out; have hsz0 : B + 1 ≤ w0.heap.size := (by omega); clear hs0) | (go_at_call 51; refine (hin _).out.mono ?_; rintro e w1 ⟨rfl, rfl⟩))
  go_ret2
  have he : errV x = 4 := HE.out
  unfold EnvPost
  rw [he, ← HB.out, if_neg (by decide)]
  exact ⟨hb0, rfl⟩
set_option maxHeartbeats 8000000 in
theorem Print_C1 (x : Env) (hx : x.Ok) (w : World) (hv : x.v = 1) (he : 0 ≤ x.e ∧ x.e ≤ 4294967295) (ho : ¬ x.o = List.replicate 16 0) :
  Calls Tryz.prog 52 #[.agg x.cs.toArray] w (EnvPost x w) := by
 obtain ⟨B, HB⟩ : ∃ B, Hid (B = w.heap.size) := ⟨_, rfl⟩
 have hsz : w.heap.size = B := HB.out.symm
 have hin := fun w => hid (badEpoch_any x.e w)
 have hal1 := hal16
 have hal2 := hal25
 have hal3 := hal32
 have hal4 := hal22
 have hal5 := halTag
 have HXO := hid hx
 have haI := fun w' (h : BlkV 57 w' B x.cs) => hid (env_o hx h)
 have haS := fun w' (h : BlkV 57 w' B x.cs) => hid (env_c hx h)
 have hlo := hid hx.ol
 have hlc := hid hx.cl
 have HE : Hid (errV x = 2) := hid (by unfold errV; rw [if_neg (fun h => h (Or.inl hv)), if_neg (fun h => h he), if_pos ⟨hv, fun h => by first | exact ho h.1 | exact hc h.2⟩])
 have hi : inB x.e 0 4294967295 = true := by unfold inB; simp; omega
 rw [hi] at hin
 have hcv : Hid (x.cs[0]? = some (.int .i64 1)) := hid (by rw [← hv]; exact x.cv)
 have hce := hid x.ce
 obtain ⟨OV, HOV⟩ : ∃ O, Hid (O = x.o.map (Value.int .u8)) := ⟨_, rfl⟩
 obtain ⟨CV, HCV⟩ : ∃ O, Hid (O = x.c.map (Value.int .u8)) := ⟨_, rfl⟩
 obtain ⟨Z16, HZ16⟩ : ∃ O, Hid (O = (List.replicate 16 (0 : Int)).map (Value.int .u8)) := ⟨_, rfl⟩
 obtain ⟨Z32, HZ32⟩ : ∃ O, Hid (O = (List.replicate 32 (0 : Int)).map (Value.int .u8)) := ⟨_, rfl⟩
 have hOl : OV.length = 16 := by rw [HOV.out, List.length_map]; exact hlo.out
 have hCl : CV.length = 32 := by rw [HCV.out, List.length_map]; exact hlc.out
 have hb16 := built_id0
 have hb32 := built_sum0
 have hneo := fun w => hid (run_eq_id w x.o (List.replicate 16 0) hlo.out rfl)
 have hnec := fun w => hid (run_eq_sum w x.c (List.replicate 32 0) hlc.out rfl)
 rw [← HOV.out] at haI hneo
 rw [← HCV.out] at haS hnec
 rw [← HZ16.out] at hneo hb16
 rw [← HZ32.out] at hnec hb32
 have e1 : (x.o == List.replicate 16 0) = false := by simpa using ho
 rw [e1] at hneo
 clear hx
 obtain ⟨CS, HCS⟩ : ∃ C, Hid (C = x.cs) := ⟨_, rfl⟩
 rw [← HCS.out] at haI haS hcv hce ⊢
 go_enter Tryz.func52, Tryz.ntmps52
 go_wp2_with (first | (refine wl_boxV rfl 57 _ rfl CS rfl B hsz ?_; intro w0 hB0 hb0 hs0; have c00 := (hB0.cell 0).trans hcv.out; have c01 := (hB0.cell 1).trans hce.out; have hsz0 : B + 1 ≤ w0.heap.size := (by omega); clear hs0) | (go_at_call 51; refine (hin _).out.mono ?_; rintro e w1 ⟨rfl, rfl⟩) | (refine wl_loadD 23 rfl (by rfl) 27 _ rfl ⟨B, 18, none⟩ rfl 16 OV hOl aggID (haI _ hB0).out ?_) | (refine wl_build0G (by rfl) 27 rfl Z16 hb16 ?_) | (refine wl_neM 25 rfl (by rfl) 27 _ _ _ rfl OV.toArray Z16.toArray rfl rfl false (hneo _).out (by kernel_rfl) ?_))
 go_ret2
 have he : errV x = 2 := HE.out
 unfold EnvPost
 rw [he, ← HB.out, if_neg (by decide)]
 exact ⟨hb0, rfl⟩
set_option maxHeartbeats 8000000 in
theorem Print_C2 (x : Env) (hx : x.Ok) (w : World) (hv : x.v = 1) (he : 0 ≤ x.e ∧ x.e ≤ 4294967295) (ho : x.o = List.replicate 16 0) (hc : ¬ x.c = List.replicate 32 0) :
  Calls Tryz.prog 52 #[.agg x.cs.toArray] w (EnvPost x w) := by
 obtain ⟨B, HB⟩ : ∃ B, Hid (B = w.heap.size) := ⟨_, rfl⟩
 have hsz : w.heap.size = B := HB.out.symm
 have hin := fun w => hid (badEpoch_any x.e w)
 have hal1 := hal16
 have hal2 := hal25
 have hal3 := hal32
 have hal4 := hal22
 have hal5 := halTag
 have HXO := hid hx
 have haI := fun w' (h : BlkV 57 w' B x.cs) => hid (env_o hx h)
 have haS := fun w' (h : BlkV 57 w' B x.cs) => hid (env_c hx h)
 have hlo := hid hx.ol
 have hlc := hid hx.cl
 have HE : Hid (errV x = 2) := hid (by unfold errV; rw [if_neg (fun h => h (Or.inl hv)), if_neg (fun h => h he), if_pos ⟨hv, fun h => by first | exact ho h.1 | exact hc h.2⟩])
 have hi : inB x.e 0 4294967295 = true := by unfold inB; simp; omega
 rw [hi] at hin
 have hcv : Hid (x.cs[0]? = some (.int .i64 1)) := hid (by rw [← hv]; exact x.cv)
 have hce := hid x.ce
 obtain ⟨OV, HOV⟩ : ∃ O, Hid (O = x.o.map (Value.int .u8)) := ⟨_, rfl⟩
 obtain ⟨CV, HCV⟩ : ∃ O, Hid (O = x.c.map (Value.int .u8)) := ⟨_, rfl⟩
 obtain ⟨Z16, HZ16⟩ : ∃ O, Hid (O = (List.replicate 16 (0 : Int)).map (Value.int .u8)) := ⟨_, rfl⟩
 obtain ⟨Z32, HZ32⟩ : ∃ O, Hid (O = (List.replicate 32 (0 : Int)).map (Value.int .u8)) := ⟨_, rfl⟩
 have hOl : OV.length = 16 := by rw [HOV.out, List.length_map]; exact hlo.out
 have hCl : CV.length = 32 := by rw [HCV.out, List.length_map]; exact hlc.out
 have hb16 := built_id0
 have hb32 := built_sum0
 have hneo := fun w => hid (run_eq_id w x.o (List.replicate 16 0) hlo.out rfl)
 have hnec := fun w => hid (run_eq_sum w x.c (List.replicate 32 0) hlc.out rfl)
 rw [← HOV.out] at haI hneo
 rw [← HCV.out] at haS hnec
 rw [← HZ16.out] at hneo hb16
 rw [← HZ32.out] at hnec hb32
 have e1 : (x.o == List.replicate 16 0) = true := by simpa using ho
 have e2 : (x.c == List.replicate 32 0) = false := by simpa using hc
 rw [e1] at hneo
 rw [e2] at hnec
 clear hx
 obtain ⟨CS, HCS⟩ : ∃ C, Hid (C = x.cs) := ⟨_, rfl⟩
 rw [← HCS.out] at haI haS hcv hce ⊢
 go_enter Tryz.func52, Tryz.ntmps52
 go_wp2_with (first | (refine wl_boxV rfl 57 _ rfl CS rfl B hsz ?_; intro w0 hB0 hb0 hs0; have c00 := (hB0.cell 0).trans hcv.out; have c01 := (hB0.cell 1).trans hce.out; have hsz0 : B + 1 ≤ w0.heap.size := (by omega); clear hs0) | (go_at_call 51; refine (hin _).out.mono ?_; rintro e w1 ⟨rfl, rfl⟩) | (refine wl_loadD 23 rfl (by rfl) 27 _ rfl ⟨B, 18, none⟩ rfl 16 OV hOl aggID (haI _ hB0).out ?_) | (refine wl_build0G (by rfl) 27 rfl Z16 hb16 ?_) | (refine wl_neM 25 rfl (by rfl) 27 _ _ _ rfl OV.toArray Z16.toArray rfl rfl true (hneo _).out (by kernel_rfl) ?_) | (refine wl_loadD 28 rfl (by rfl) 54 _ rfl ⟨B, 50, none⟩ rfl 32 CV hCl aggSumT (haS _ hB0).out ?_) | (refine wl_build0G (by rfl) 54 rfl Z32 hb32 ?_) | (refine wl_neM 30 rfl (by rfl) 54 _ _ _ rfl CV.toArray Z32.toArray rfl rfl false (hnec _).out (by kernel_rfl) ?_))
 go_ret2
 have he : errV x = 2 := HE.out
 unfold EnvPost
 rw [he, ← HB.out, if_neg (by decide)]
 exact ⟨hb0, rfl⟩
set_option maxHeartbeats 8000000 in
theorem Print_D (x : Env) (hx : x.Ok) (w : World) (hv : x.v = 1) (he : 0 ≤ x.e ∧ x.e ≤ 4294967295) (ho : x.o = List.replicate 16 0) (hc : x.c = List.replicate 32 0) :
  Calls Tryz.prog 52 #[.agg x.cs.toArray] w (EnvPost x w) := by
 obtain ⟨B, HB⟩ : ∃ B, Hid (B = w.heap.size) := ⟨_, rfl⟩
 have hsz : w.heap.size = B := HB.out.symm
 have hin := fun w => hid (badEpoch_any x.e w)
 have hal1 := hal16
 have hal2 := hal25
 have hal3 := hal32
 have hal4 := hal22
 have hal5 := halTag
 have HXO := hid hx
 have haI := fun w' (h : BlkV 57 w' B x.cs) => hid (env_o hx h)
 have haS := fun w' (h : BlkV 57 w' B x.cs) => hid (env_c hx h)
 have hlo := hid hx.ol
 have hlc := hid hx.cl
 have HE : Hid (errV x = 0) := hid (by unfold errV; rw [if_neg (by simp [hv]), if_neg (fun h => h he), if_neg (fun h => h.2 ⟨ho, hc⟩)])
 have hi : inB x.e 0 4294967295 = true := by unfold inB; simp; omega
 rw [hi] at hin
 have hcv : Hid (x.cs[0]? = some (.int .i64 1)) := hid (by rw [← hv]; exact x.cv)
 have hce := hid x.ce
 obtain ⟨OV, HOV⟩ : ∃ O, Hid (O = x.o.map (Value.int .u8)) := ⟨_, rfl⟩
 obtain ⟨CV, HCV⟩ : ∃ O, Hid (O = x.c.map (Value.int .u8)) := ⟨_, rfl⟩
 obtain ⟨Z16, HZ16⟩ : ∃ O, Hid (O = (List.replicate 16 (0 : Int)).map (Value.int .u8)) := ⟨_, rfl⟩
 obtain ⟨Z32, HZ32⟩ : ∃ O, Hid (O = (List.replicate 32 (0 : Int)).map (Value.int .u8)) := ⟨_, rfl⟩
 have hOl : OV.length = 16 := by rw [HOV.out, List.length_map]; exact hlo.out
 have hCl : CV.length = 32 := by rw [HCV.out, List.length_map]; exact hlc.out
 have hb16 := built_id0
 have hb32 := built_sum0
 have hneo := fun w => hid (run_eq_id w x.o (List.replicate 16 0) hlo.out rfl)
 have hnec := fun w => hid (run_eq_sum w x.c (List.replicate 32 0) hlc.out rfl)
 rw [← HOV.out] at haI hneo
 rw [← HCV.out] at haS hnec
 rw [← HZ16.out] at hneo hb16
 rw [← HZ32.out] at hnec hb32
 have e1 : (x.o == List.replicate 16 0) = true := by simpa using ho
 have e2 : (x.c == List.replicate 32 0) = true := by simpa using hc
 rw [e1] at hneo
 rw [e2] at hnec
 have hlb : Hid ((x.b.map (Value.int .u8)).length = 16 * 1) := hid (by rw [List.length_map, hx.bl])
 have hlo : Hid ((x.o.map (Value.int .u8)).length = 16 * 1) := hid (by rw [List.length_map, hx.ol])
 have hln : Hid ((x.n.map (Value.int .u8)).length = 16 * 1) := hid (by rw [List.length_map, hx.nl])
 have hlc : Hid ((x.c.map (Value.int .u8)).length = 32 * 1) := hid (by rw [List.length_map, hx.cl])
 have hlt : Hid ((x.t.map (Value.int .u8)).length = 16 * 1) := hid (by rw [List.length_map, hx.tl])
 have hlg : Hid ((x.g.map (Value.int .u8)).length = 32 * 1) := hid (by rw [List.length_map, hx.gl])
 have hab := fun w' (h : BlkV 57 w' B x.cs) => hid (env_b h)
 have hao := fun w' (h : BlkV 57 w' B x.cs) => hid (env_o hx h)
 have han := fun w' (h : BlkV 57 w' B x.cs) => hid (env_n hx h)
 have hac := fun w' (h : BlkV 57 w' B x.cs) => hid (env_c hx h)
 have hat := fun w' (h : BlkV 57 w' B x.cs) => hid (env_t hx h)
 have hag := fun w' (h : BlkV 57 w' B x.cs) => hid (env_g hx h)
 clear hx
 obtain ⟨CS, HCS⟩ : ∃ C, Hid (C = x.cs) := ⟨_, rfl⟩
 rw [← HCS.out] at haI haS hab hao han hac hag hat hcv hce ⊢
 have hEQ : Hid ((envL x).map (Value.int .u8) = ((aheadL x).map (Value.int .u8) ++ x.t.map (Value.int .u8))) := hid (by unfold envL; rw [List.map_append])
 have hSZ : Hid (sizeV x = 88) := hid (by unfold sizeV; rw [hv]; rfl)
 have hah := fun w => hid (ahead_1 x HXO.out w hv he)
 rw [← HCS.out] at hah
 have HCL : Hid (CS.length = 130) := hid (by rw [HCS.out]; exact HXO.out.csl)
 go_enter Tryz.func52, Tryz.ntmps52
 go_wp2_with (first | (refine wl_boxV rfl 57 _ rfl CS rfl B hsz ?_; intro w0 hB0 hb0 hs0; have c00 := (hB0.cell 0).trans hcv.out; have c01 := (hB0.cell 1).trans hce.out; have hsz0 : B + 1 ≤ w0.heap.size := (by omega); clear hs0) | (go_at_call 51; refine (hin _).out.mono ?_; rintro e w1 ⟨rfl, rfl⟩) | (refine wl_loadD 23 rfl (by rfl) 27 _ rfl ⟨B, 18, none⟩ rfl 16 OV hOl aggID (haI _ hB0).out ?_) | (refine wl_build0G (by rfl) 27 rfl Z16 hb16 ?_) | (refine wl_neM 25 rfl (by rfl) 27 _ _ _ rfl OV.toArray Z16.toArray rfl rfl true (hneo _).out (by kernel_rfl) ?_) | (refine wl_loadD 28 rfl (by rfl) 54 _ rfl ⟨B, 50, none⟩ rfl 32 CV hCl aggSumT (haS _ hB0).out ?_) | (refine wl_build0G (by rfl) 54 rfl Z32 hb32 ?_) | (refine wl_neM 30 rfl (by rfl) 54 _ _ _ rfl CV.toArray Z32.toArray rfl rfl true (hnec _).out (by kernel_rfl) ?_))
 have hu107 := Tryz.underlying57
 have hi107 : (Tryz.prog.info? 57).map (·.size) = some CS.length := by rw [HCL.out]; exact aggEnv.2
 refine wp_region_held_drew (S := (fun w' => w'.rangeAt B 0 CS)) (by kernel_rfl) (at_range (w := w0.drew) hB0.at0) (fun hHeld => ?_)
 obtain ⟨x0, HX0⟩ : ∃ x, Hid (x = w0.drew) := ⟨_, rfl⟩
 rw [← HX0.out] at hHeld ⊢
 have hBx : BlkV 57 x0 B CS := by rw [HX0.out]; exact hB0
 have bbx : Below B w x0 := by rw [HX0.out]; exact hb0.drew
 have hsx0 : B + 1 ≤ x0.heap.size := by rw [HX0.out]; exact hsz0
 clear hB0 hb0 hsz0 c00 c01
 refine take_l (i := 0) (v := _) rfl (by kernel_rfl) (by kernel_rfl) (by kernel_rfl) (fun _ _ _ h => h) (yieldsIf_load_mid (by rfl) 57 _ rfl B 0 rfl CS _ (fun w hS => hS) hu107 rfl hi107) (by assumption) ?_
 try simp only [Act.put, fpA, fpZ, fpN]
 refine take_l (i := 2) (v := ?rv2) rfl (by kernel_rfl) (by kernel_rfl) (by kernel_rfl) (fun _ _ _ h => h) (Or.inl ⟨by rfl, ?rhy2⟩) (by assumption) ?rrest2
 case rhy2 => (intro w hSw; (try dsimp only at hSw); go_simp; (try with_reducible rfl))
 try simp only [Act.put, fpA, fpZ, fpN]
 refine take_l (i := 3) (v := ?rv3) rfl (by kernel_rfl) (by kernel_rfl) (by kernel_rfl) (fun _ _ _ h => h) (Or.inl ⟨by rfl, ?rhy3⟩) (by assumption) ?rrest3
 case rhy3 => (intro w hSw; (try dsimp only at hSw); go_simp; (try with_reducible rfl))
 try simp only [Act.put, fpA, fpZ, fpN]
 refine wpAnyH_ready (rs := [1]) (by kernel_rfl) (by simp) (cons_l rfl (fun K' hK' => ?_) AllReadyH.nil)
 rw [if_pos (by rfl)]
 go_simp
 go_at_call 70
 refine (hah x0).out.mono ?_
 rintro e x1 ⟨ao1, cap1, rfl, hM1, hb1⟩
 have hB1 := hBx.below hb1 (by omega)
 have bb1 := bbx.trans (hb1.mono (by omega : B ≤ _))
 have hs1 := hb1.size
 have hM1 := hM1.mono (by omega : B + 1 ≤ _)
 refine hK'.out _ _ (at_range hB1.at0) (fun hHeld => ?_)
 clear hK' K'
 try simp only [Act.put, fpA, fpZ, fpN]
 refine wpAnyH_ready (rs := [4]) (by kernel_rfl) (by simp) (cons_l rfl (fun K' hK' => ?_) AllReadyH.nil)
 refine step_appendS rfl _ _ 25 rfl 5 (.int .u8 0) 1 1 Tryz.underlying25 info8 rfl (by decide) (B + 1) _ 72 _ rfl hM1 (some ⟨B, 114, none⟩) 16 16 rfl (fun h => by cases h) (x.t.map (Value.int .u8)) hlt.out (at_row (by omega) (hat _ hB1).out) (ints_one _ _) (by decide) (by decide) (by omega) 88 rfl ?_
 intro ao2 cap2 x2 row2 hc2 hM2 hv2 hg2 hrow2
 have hB2 := blk_grown hB1 hg2 (fun k hk => (hrow2 k hk).1) (by omega)
 have bb2 := bb1.grown hg2 (by omega) (fun k hk => by have := (hrow2 k hk).1; omega)
 refine hK'.out _ _ (at_range hB2.at0) (fun hHeld => ?_)
 clear hK' K'
 try simp only [Act.put, fpA, fpZ, fpN]
 refine take_l (i := 5) (v := ?rv4) rfl (by kernel_rfl) (by kernel_rfl) (by kernel_rfl) (fun _ _ _ h => h) (Or.inl ⟨by rfl, ?rhy4⟩) (by assumption) ?rrest4
 case rhy4 => (intro w hSw; (try dsimp only at hSw); go_simp; (try with_reducible rfl))
 try simp only [Act.put, fpA, fpZ, fpN]
 refine take_l (i := 6) (v := ?rv5) rfl (by kernel_rfl) (by kernel_rfl) (by kernel_rfl) (fun _ _ _ h => h) (Or.inl ⟨by rfl, ?rhy5⟩) (by assumption) ?rrest5
 case rhy5 => (intro w hSw; (try dsimp only at hSw); go_simp; (try with_reducible rfl))
 try simp only [Act.put, fpA, fpZ, fpN]
 refine wpAnyH_done (by kernel_rfl) ?_ _
 go_wp2_with fail
 go_ret2
 unfold EnvPost
 rw [if_pos HE.out, hSZ.out, hEQ.out, ← HB.out]
 exact ⟨bb2, _, _, rfl, hM2.mono (by omega)⟩
set_option maxHeartbeats 8000000 in
theorem Print_E (x : Env) (hx : x.Ok) (w : World) (hv : x.v = 2) (he : 0 ≤ x.e ∧ x.e ≤ 4294967295) :
  Calls Tryz.prog 52 #[.agg x.cs.toArray] w (EnvPost x w) := by
 obtain ⟨B, HB⟩ : ∃ B, Hid (B = w.heap.size) := ⟨_, rfl⟩
 have hsz : w.heap.size = B := HB.out.symm
 have hin := fun w => hid (badEpoch_any x.e w)
 have hal1 := hal16
 have hal2 := hal25
 have hal3 := hal32
 have hal4 := hal22
 have hal5 := halTag
 have HXO := hid hx
 have haI := fun w' (h : BlkV 57 w' B x.cs) => hid (env_o hx h)
 have haS := fun w' (h : BlkV 57 w' B x.cs) => hid (env_c hx h)
 have hlo := hid hx.ol
 have hlc := hid hx.cl
 have HE : Hid (errV x = 0) := hid (by unfold errV; rw [if_neg (by simp [hv]), if_neg (fun h => h he), if_neg (fun h => by have := h.1; omega)])
 have hi : inB x.e 0 4294967295 = true := by unfold inB; simp; omega
 rw [hi] at hin
 have hcv : Hid (x.cs[0]? = some (.int .i64 2)) := hid (by rw [← hv]; exact x.cv)
 have hce := hid x.ce
 obtain ⟨OV, HOV⟩ : ∃ O, Hid (O = x.o.map (Value.int .u8)) := ⟨_, rfl⟩
 obtain ⟨CV, HCV⟩ : ∃ O, Hid (O = x.c.map (Value.int .u8)) := ⟨_, rfl⟩
 obtain ⟨Z16, HZ16⟩ : ∃ O, Hid (O = (List.replicate 16 (0 : Int)).map (Value.int .u8)) := ⟨_, rfl⟩
 obtain ⟨Z32, HZ32⟩ : ∃ O, Hid (O = (List.replicate 32 (0 : Int)).map (Value.int .u8)) := ⟨_, rfl⟩
 have hOl : OV.length = 16 := by rw [HOV.out, List.length_map]; exact hlo.out
 have hCl : CV.length = 32 := by rw [HCV.out, List.length_map]; exact hlc.out
 have hb16 := built_id0
 have hb32 := built_sum0
 have hneo := fun w => hid (run_eq_id w x.o (List.replicate 16 0) hlo.out rfl)
 have hnec := fun w => hid (run_eq_sum w x.c (List.replicate 32 0) hlc.out rfl)
 rw [← HOV.out] at haI hneo
 rw [← HCV.out] at haS hnec
 rw [← HZ16.out] at hneo hb16
 rw [← HZ32.out] at hnec hb32
 have hlb : Hid ((x.b.map (Value.int .u8)).length = 16 * 1) := hid (by rw [List.length_map, hx.bl])
 have hlo : Hid ((x.o.map (Value.int .u8)).length = 16 * 1) := hid (by rw [List.length_map, hx.ol])
 have hln : Hid ((x.n.map (Value.int .u8)).length = 16 * 1) := hid (by rw [List.length_map, hx.nl])
 have hlc : Hid ((x.c.map (Value.int .u8)).length = 32 * 1) := hid (by rw [List.length_map, hx.cl])
 have hlt : Hid ((x.t.map (Value.int .u8)).length = 16 * 1) := hid (by rw [List.length_map, hx.tl])
 have hlg : Hid ((x.g.map (Value.int .u8)).length = 32 * 1) := hid (by rw [List.length_map, hx.gl])
 have hab := fun w' (h : BlkV 57 w' B x.cs) => hid (env_b h)
 have hao := fun w' (h : BlkV 57 w' B x.cs) => hid (env_o hx h)
 have han := fun w' (h : BlkV 57 w' B x.cs) => hid (env_n hx h)
 have hac := fun w' (h : BlkV 57 w' B x.cs) => hid (env_c hx h)
 have hat := fun w' (h : BlkV 57 w' B x.cs) => hid (env_t hx h)
 have hag := fun w' (h : BlkV 57 w' B x.cs) => hid (env_g hx h)
 clear hx
 obtain ⟨CS, HCS⟩ : ∃ C, Hid (C = x.cs) := ⟨_, rfl⟩
 rw [← HCS.out] at haI haS hab hao han hac hag hat hcv hce ⊢
 have hEQ : Hid ((envL x).map (Value.int .u8) = ((aheadL x).map (Value.int .u8) ++ x.t.map (Value.int .u8))) := hid (by unfold envL; rw [List.map_append])
 have hSZ : Hid (sizeV x = 136) := hid (by unfold sizeV; rw [hv]; rfl)
 have hah := fun w => hid (ahead_2 x HXO.out w hv he)
 rw [← HCS.out] at hah
 have HCL : Hid (CS.length = 130) := hid (by rw [HCS.out]; exact HXO.out.csl)
 go_enter Tryz.func52, Tryz.ntmps52
 go_wp2_with (first | (with_reducible refine @wl_skip _ _ _ _ _ _ _ 22 ?_ ?_ ?_; with_reducible rfl; kernel_rfl; go_frame) | (with_reducible refine @wl_skip _ _ _ _ _ _ _ 23 ?_ ?_ ?_; with_reducible rfl; kernel_rfl; go_frame) | (with_reducible refine @wl_skip _ _ _ _ _ _ _ 24 ?_ ?_ ?_; with_reducible rfl; kernel_rfl; go_frame) | (with_reducible refine @wl_skip _ _ _ _ _ _ _ 25 ?_ ?_ ?_; with_reducible rfl; kernel_rfl; go_frame) | (with_reducible refine @wl_skip _ _ _ _ _ _ _ 26 ?_ ?_ ?_; with_reducible rfl; kernel_rfl; go_frame) | (with_reducible refine @wl_skip _ _ _ _ _ _ _ 27 ?_ ?_ ?_; with_reducible rfl; kernel_rfl; go_frame) | (with_reducible refine @wl_skip _ _ _ _ _ _ _ 28 ?_ ?_ ?_; with_reducible rfl; kernel_rfl; go_frame) | (with_reducible refine @wl_skip _ _ _ _ _ _ _ 29 ?_ ?_ ?_; with_reducible rfl; kernel_rfl; go_frame) | (with_reducible refine @wl_skip _ _ _ _ _ _ _ 30 ?_ ?_ ?_; with_reducible rfl; kernel_rfl; go_frame) | (with_reducible refine @wl_skip _ _ _ _ _ _ _ 31 ?_ ?_ ?_; with_reducible rfl; kernel_rfl; go_frame) | (refine wl_boxV rfl 57 _ rfl CS rfl B hsz ?_; intro w0 hB0 hb0 hs0; have c00 := (hB0.cell 0).trans hcv.out; have c01 := (hB0.cell 1).trans hce.out; have hsz0 : B + 1 ≤ w0.heap.size := (by omega); clear hs0) | (go_at_call 51; refine (hin _).out.mono ?_; rintro e w1 ⟨rfl, rfl⟩))
 have hu107 := Tryz.underlying57
 have hi107 : (Tryz.prog.info? 57).map (·.size) = some CS.length := by rw [HCL.out]; exact aggEnv.2
 refine wp_region_held_drew (S := (fun w' => w'.rangeAt B 0 CS)) (by kernel_rfl) (at_range (w := w0.drew) hB0.at0) (fun hHeld => ?_)
 obtain ⟨x0, HX0⟩ : ∃ x, Hid (x = w0.drew) := ⟨_, rfl⟩
 rw [← HX0.out] at hHeld ⊢
 have hBx : BlkV 57 x0 B CS := by rw [HX0.out]; exact hB0
 have bbx : Below B w x0 := by rw [HX0.out]; exact hb0.drew
 have hsx0 : B + 1 ≤ x0.heap.size := by rw [HX0.out]; exact hsz0
 clear hB0 hb0 hsz0 c00 c01
 refine take_l (i := 0) (v := _) rfl (by kernel_rfl) (by kernel_rfl) (by kernel_rfl) (fun _ _ _ h => h) (yieldsIf_load_mid (by rfl) 57 _ rfl B 0 rfl CS _ (fun w hS => hS) hu107 rfl hi107) (by assumption) ?_
 try simp only [Act.put, fpA, fpZ, fpN]
 refine take_l (i := 2) (v := ?rv2) rfl (by kernel_rfl) (by kernel_rfl) (by kernel_rfl) (fun _ _ _ h => h) (Or.inl ⟨by rfl, ?rhy2⟩) (by assumption) ?rrest2
 case rhy2 => (intro w hSw; (try dsimp only at hSw); go_simp; (try with_reducible rfl))
 try simp only [Act.put, fpA, fpZ, fpN]
 refine take_l (i := 3) (v := ?rv3) rfl (by kernel_rfl) (by kernel_rfl) (by kernel_rfl) (fun _ _ _ h => h) (Or.inl ⟨by rfl, ?rhy3⟩) (by assumption) ?rrest3
 case rhy3 => (intro w hSw; (try dsimp only at hSw); go_simp; (try with_reducible rfl))
 try simp only [Act.put, fpA, fpZ, fpN]
 refine wpAnyH_ready (rs := [1]) (by kernel_rfl) (by simp) (cons_l rfl (fun K' hK' => ?_) AllReadyH.nil)
 rw [if_pos (by rfl)]
 go_simp
 go_at_call 70
 refine (hah x0).out.mono ?_
 rintro e x1 ⟨ao1, cap1, rfl, hM1, hb1⟩
 have hB1 := hBx.below hb1 (by omega)
 have bb1 := bbx.trans (hb1.mono (by omega : B ≤ _))
 have hs1 := hb1.size
 have hM1 := hM1.mono (by omega : B + 1 ≤ _)
 refine hK'.out _ _ (at_range hB1.at0) (fun hHeld => ?_)
 clear hK' K'
 try simp only [Act.put, fpA, fpZ, fpN]
 refine wpAnyH_ready (rs := [4]) (by kernel_rfl) (by simp) (cons_l rfl (fun K' hK' => ?_) AllReadyH.nil)
 refine step_appendS rfl _ _ 25 rfl 5 (.int .u8 0) 1 1 Tryz.underlying25 info8 rfl (by decide) (B + 1) _ 120 _ rfl hM1 (some ⟨B, 114, none⟩) 16 16 rfl (fun h => by cases h) (x.t.map (Value.int .u8)) hlt.out (at_row (by omega) (hat _ hB1).out) (ints_one _ _) (by decide) (by decide) (by omega) 136 rfl ?_
 intro ao2 cap2 x2 row2 hc2 hM2 hv2 hg2 hrow2
 have hB2 := blk_grown hB1 hg2 (fun k hk => (hrow2 k hk).1) (by omega)
 have bb2 := bb1.grown hg2 (by omega) (fun k hk => by have := (hrow2 k hk).1; omega)
 refine hK'.out _ _ (at_range hB2.at0) (fun hHeld => ?_)
 clear hK' K'
 try simp only [Act.put, fpA, fpZ, fpN]
 refine take_l (i := 5) (v := ?rv4) rfl (by kernel_rfl) (by kernel_rfl) (by kernel_rfl) (fun _ _ _ h => h) (Or.inl ⟨by rfl, ?rhy4⟩) (by assumption) ?rrest4
 case rhy4 => (intro w hSw; (try dsimp only at hSw); go_simp; (try with_reducible rfl))
 try simp only [Act.put, fpA, fpZ, fpN]
 refine take_l (i := 6) (v := ?rv5) rfl (by kernel_rfl) (by kernel_rfl) (by kernel_rfl) (fun _ _ _ h => h) (Or.inl ⟨by rfl, ?rhy5⟩) (by assumption) ?rrest5
 case rhy5 => (intro w hSw; (try dsimp only at hSw); go_simp; (try with_reducible rfl))
 try simp only [Act.put, fpA, fpZ, fpN]
 refine wpAnyH_done (by kernel_rfl) ?_ _
 go_wp2_with fail
 go_ret2
 unfold EnvPost
 rw [if_pos HE.out, hSZ.out, hEQ.out, ← HB.out]
 exact ⟨bb2, _, _, rfl, hM2.mono (by omega)⟩
theorem Print_any (x : Env) (hx : x.Ok) (w : World) : Calls Tryz.prog 52 #[.agg x.cs.toArray] w (EnvPost x w) := by
 by_cases hv : x.v = 1 ∨ x.v = 2
 ·by_cases he : 0 ≤ x.e ∧ x.e ≤ 4294967295
  ·by_cases h1 : x.v = 1
   ·by_cases ho : x.o = List.replicate 16 0
    ·by_cases hc : x.c = List.replicate 32 0
     ·exact Print_D x hx w h1 he ho hc
     ·exact Print_C2 x hx w h1 he ho hc
    ·exact Print_C1 x hx w h1 he ho
   ·exact Print_E x hx w (hv.resolve_left h1) he
  ·exact Print_B x hx w hv he
 ·exact Print_A x hx w hv
end Go.Proofs.YtbjmadcbhkeenaaGreat.wr
