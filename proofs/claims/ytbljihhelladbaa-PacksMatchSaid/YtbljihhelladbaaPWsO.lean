/-
  Contract of wrap.packFault: packE. Conditions: parts of octets that lie in memory.
-/
import Derived.Test.YtbljihhelladbaaPWsN
namespace Go.Proofs.Ytbljihhelladbaa.wr
open Go.RowKit Go.Proofs.Ytbljihhelladbaa.st Go.Proofs.Ytbljihhelladbaa.hs Go.Proofs.Ytbljihhelladbaa.shr Go.Proofs.Ytbljihhelladbaa.sh
set_option linter.unusedSimpArgs false
set_option linter.unusedVariables false
set_option pp.maxSteps 6000
/-- the first envelope of version 2, as packFault keeps it -/
def FirstP (B : Nat) (w : World) (fp : Value) (f : Option (List Int)) : Prop := (f = none ∧ fp = .pointer none) ∨ ∃ (g : Nat) (x : Env), f = some x.o ∧ fp = .pointer (some ⟨g, 0, none⟩) ∧ B < g ∧ x.Ok ∧ BlkV 107 w g x.cs
theorem FirstP.keep {B : Nat} {w w' : World} {fp : Value} {f : Option (List Int)} (h : FirstP B w fp f) (hb : ∀ g, g ≠ B → g < w.heap.size → w'.heap[g]? = w.heap[g]?) : FirstP B w' fp f := by
  rcases h with h | ⟨g, x, a, b, c, d, e⟩
  · exact Or.inl h
  · exact Or.inr ⟨g, x, a, b, c, d, (hb g (by omega) e.lt).trans e⟩
set_option maxRecDepth 100000 in
set_option maxHeartbeats 4000000 in
theorem packFault_mid (po : Option Addr) (cap n : Nat) (ps : List Pt) (w : World) (hn : n = ps.length) (h0 : 0 < n) (h1 : n ≤ 100) (hrow : RowV w po (ps.map Pt.v)) (hps : ∀ x ∈ ps, 4 ≤ x.l.length → x.Ok w) :
    Calls Try.prog 146 #[.slice po n cap] w fun e w' => e = .returned (.int .i64 (packGo (ps.map Pt.l) [] none)) ∧ Below w.heap.size w w' := by
  obtain ⟨B, HB⟩ : ∃ B, Hid (B = w.heap.size) := ⟨_, rfl⟩
  have hsz : w.heap.size = B := HB.out.symm
  obtain ⟨V, HV⟩ : ∃ V, Hid (V = packGo (ps.map Pt.l) [] none) := ⟨_, rfl⟩
  rw [← HV.out]
  have HN := hid hn
  have hzE := hid zeroEnv
  obtain ⟨ZE, HZE⟩ : ∃ Z, Hid (Z = env0.cs) := ⟨_, rfl⟩
  rw [← HZE.out] at hzE
  have hZEl : ZE.length = 130 := by rw [HZE.out]; exact env0_ok.csl
  have hZE1 : ∀ u ∈ ZE, u.oneCell' = true := by rw [HZE.out]; exact env0.cs_one
  have hn0 : ¬ (n : Int) = 0 := by omega
  have hn1 : ¬ (100 : Int) < (n : Int) := by omega
  clear hn
  go_enter Try.func146, Try.ntmps146
  go_wp2_with (refine wl_makeMap rfl 183 rfl B hsz ?_; intro w0 hM0 hb0 hs0)
  go_loopw [4, 18] (fun fp i wr => ∃ (j : Nat) (seen : List (List Int)) (f : Option (List Int)) (es : List MapEntry) (clock : Nat), j ≤ n ∧ i = .int .i64 j ∧ wr.heap[B]? = some (.map es.toArray clock) ∧ IdKeys es seen ∧ Below B w wr ∧ B + 1 ≤ wr.heap.size ∧ FirstP B wr fp f ∧ packGo ((ps.map Pt.l).drop j) seen f = V) (fun _ i _ => n - (intOf i).toNat)
  case atStart => exact ⟨0, [], none, [], 0, by omega, rfl, hM0, IdKeys.nil, hb0, by omega, Or.inl ⟨rfl, rfl⟩, by rw [HV.out]; rfl⟩
  case round =>
    obtain ⟨j, seen, f, es, clock, hj, rfl, hMp, hI, hb, hszr, hF, hGo⟩ := hrel
    by_cases hjn : j < n
    · have hjI : (j : Int) < (n : Int) := by omega
      have hjp : j < ps.length := by have := HN.out; omega
      have hjm : j < (ps.map Pt.v).length := by rw [List.length_map]; exact hjp
      obtain ⟨b, off, rfl, hbw, hcell⟩ := hrow.resolve_left (by intro e; rw [e] at hjm; cases hjm)
      have hx := hps ps[j] (List.getElem_mem hjp)
      have hc := hcell j _ (List.getElem?_eq_getElem hjm)
      rw [List.getElem_map] at hc
      obtain ⟨xa, HXA⟩ : ∃ xa, Hid (xa = (ps[j]'hjp).a) := ⟨_, rfl⟩
      obtain ⟨xc, HXC⟩ : ∃ xc, Hid (xc = (ps[j]'hjp).c) := ⟨_, rfl⟩
      obtain ⟨xl, HXL⟩ : ∃ xl : List Int, Hid (xl = (ps[j]'hjp).l) := ⟨_, rfl⟩
      obtain ⟨mx, HM⟩ : ∃ m, Hid (m = xl.length) := ⟨_, rfl⟩
      have hv : Pt.v ps[j] = .slice xa mx xc := by rw [HM.out, HXA.out, HXC.out, HXL.out]; rfl
      rw [hv] at hc
      have hcw : wr.cell? ⟨b, off + j, none⟩ = some (.slice xa mx xc) := by rw [hb.cell (p := ⟨b, off + j, none⟩) (by rw [HB.out]; exact hbw)]; exact hc
      have hPx : 4 ≤ mx → Pt.Ok wr ⟨xa, xc, xl⟩ := fun h4 => by
        have h5 := hx (by rw [← HXL.out, ← HM.out]; exact h4)
        rw [HXA.out, HXL.out, HXC.out]; exact h5.below (by rw [← HB.out]; exact hb)
      have hdrop : (ps.map Pt.l).drop j = xl :: (ps.map Pt.l).drop (j + 1) := by rw [HXL.out, List.drop_eq_getElem_cons (by rw [List.length_map]; exact hjp), List.getElem_map]
      rw [hdrop] at hGo
      have hrd := hid (Read_any xa xc mx xl wr HM.out hPx)
      clear hc hcell hv hx hjm hdrop
      by_cases hE : readE xl = 0
      · have hx := readX_ok (hPx (by rw [HM.out]; exact (readE_zero hE).1)).oct hE
        rw [readV_ok hE] at hrd
        obtain ⟨x, Hx⟩ : ∃ x, Hid (x = readX xl) := ⟨_, rfl⟩
        have hxv : x.v = 1 ∨ x.v = 2 := by rw [Hx.out]; exact readX_v
        rw [← Hx.out] at hx hrd
        obtain ⟨XB, HXB⟩ : ∃ V, Hid (V = x.b.map (Value.int .u8)) := ⟨_, rfl⟩
        have hXBl : XB.length = 16 := by rw [HXB.out, List.length_map, hx.bl]
        have fB : Hid (∀ w G, BlkV 107 w G x.cs → At w ⟨G, 2, none⟩ XB) := hid (fun w G h => by rw [HXB.out]; exact env_b h)
        have hid16 : Value.agg XB.toArray = idV x.b := by rw [HXB.out]; rfl
        have HID := hid hid16
        have hcv := hid x.cv
        obtain ⟨CS, HCS⟩ : ∃ C, Hid (C = x.cs) := ⟨_, rfl⟩
        have hCl : CS.length = 130 := by rw [HCS.out]; exact hx.csl
        have hC1 : ∀ u ∈ CS, u.oneCell' = true := by rw [HCS.out]; exact x.cs_one
        rw [← HCS.out] at hrd fB hcv
        have HMp := hid (fun (y : World) (h : Below wr.heap.size wr y) => (h.block B (by omega)).trans hMp)
        have hbl := hx.bl
        clear hid16 hPx hMp
        by_cases hs : x.b ∈ seen
        · have hV8 : V = 8 := by rw [← hGo]; exact packGo_twice hE (by rw [← Hx.out]; exact hs)
          have hdec : decide (x.b ∈ seen) = true := by simp [hs]
          have HDEC := hid hdec
          clear hGo hE hF hs hdec
          go_wp2_with (first | (refine wl_lookupID rfl _ _ rfl B clock es seen x.b hI hbl rfl HID.out (HMp.out w4 bb4) true HDEC.out ?_) | (refine wl_load rfl 57 _ rfl ⟨M, 2, none⟩ rfl XB (by rw [hXBl]; exact aggID) (fB.out _ _ hX4) ?_) | (refine wl_storeV rfl 107 _ _ rfl 107 M rfl CS rfl 130 aggEnv hCl ZE hG3 hZEl hC1 ?_; intro w4 hX4 hb4 hs4; have bb4 : Below wr.heap.size wr w4 := bb3.trans (hb4.mono hMr); clear hb4 hG3 bb3) | (refine wl_allocV rfl 107 rfl ZE hzE.out w2.heap.size rfl ?_; intro w3 hG3 hb3 hs3; obtain ⟨M, HMM⟩ : ∃ g, Hid (g = w2.heap.size) := ⟨_, rfl⟩; rw [← HMM.out] at hG3 hb3 hs3; rw [← HMM.out]; have hMr : wr.heap.size ≤ M := (by rw [HMM.out]; exact bb2.size); have hMB : B + 1 ≤ M := Nat.le_trans hszr hMr; have bb3 := bb2.trans (hb3.mono hMr); clear bb2 hb3) | (go_at_call 71; refine hrd.out.mono ?_; rintro r w2 ⟨rfl, bb2⟩))
          go_ret
          exact ⟨by rw [hV8]; rfl, by rw [← HB.out]; exact hb.trans (bb4.mono (by omega))⟩
        · have hdec : decide (x.b ∈ seen) = false := by simp [hs]
          have HDEC := hid hdec
          have HS := hid hs
          by_cases hv2 : x.v = 2
          · obtain ⟨XO, HXO⟩ : ∃ V, Hid (V = x.o.map (Value.int .u8)) := ⟨_, rfl⟩
            have hXOl : XO.length = 16 := by rw [HXO.out, List.length_map, hx.ol]
            have fO : Hid (∀ w G, BlkV 107 w G CS → At w ⟨G, 18, none⟩ XO) := hid (fun w G h => by rw [HXO.out]; rw [HCS.out] at h; exact env_o hx h)
            have huI := Try.underlying57
            have hiI : (Try.prog.info? 57).map (·.size) = some XO.length := by rw [hXOl]; exact aggID.2
            rw [hv2] at hcv
            rcases hF with ⟨rfl, rfl⟩ | ⟨g1, x1, rfl, rfl, hg1, hx1, hX1⟩
            · rw [packGo_first hE (by rw [← Hx.out]; exact hs) (by rw [← Hx.out]; exact hv2), ← Hx.out] at hGo
              have HGo := hid hGo
              have heO : Hid (∀ w, (Op.equalIn 10000 57 (.agg XO.toArray) (.agg XO.toArray)).run Try.prog w = .ok true w) := hid (fun w => by
                rw [HXO.out, run_eq_id w x.o x.o hx.ol hx.ol]
                have : (x.o == x.o) = true := by simp
                rw [this])
              have HX := hid hx
              clear hE hs hdec hGo hv2 hxv hx
              go_wp2_with (first | (refine wl_updateID rfl _ _ _ rfl B clock es seen x.b hI hbl rfl HID.out rfl (HMp.out w4 bb4) HS.out ?_; intro w5 es5 hM5 hI5 hb5 hs5 hg5; have hX5 := hX4.grown hg5 (by intro e; injection e with e; omega); have c0 := (hX5.cell 0).trans hcv.out; have hk5 : ∀ g, g ≠ B → g < wr.heap.size → w5.heap[g]? = wr.heap[g]? := (fun g hg hl => (hg5.block g (Nat.lt_of_lt_of_le hl bb4.size) (fun e => hg (by injection e))).trans (bb4.block g hl)); have bb5 : Below B w w5 := (hb.trans (bb4.mono (by omega))).grown hg5 (by omega) (fun k hk => by injection hk with hk; omega); have hs5' : B + 1 ≤ w5.heap.size := (by rw [hs5]; exact Nat.le_trans hszr bb4.size); clear hg5 hb5) | (refine wl_lookupID rfl _ _ rfl B clock es seen x.b hI hbl rfl HID.out (HMp.out w4 bb4) false HDEC.out ?_) | (refine wl_load rfl 57 _ rfl ⟨M, 2, none⟩ rfl XB (by rw [hXBl]; exact aggID) (fB.out _ _ hX4) ?_) | (refine wl_storeV rfl 107 _ _ rfl 107 M rfl CS rfl 130 aggEnv hCl ZE hG3 hZEl hC1 ?_; intro w4 hX4 hb4 hs4; have bb4 : Below wr.heap.size wr w4 := bb3.trans (hb4.mono hMr); clear hb4 hG3 bb3) | (refine wl_allocV rfl 107 rfl ZE hzE.out w2.heap.size rfl ?_; intro w3 hG3 hb3 hs3; obtain ⟨M, HMM⟩ : ∃ g, Hid (g = w2.heap.size) := ⟨_, rfl⟩; rw [← HMM.out] at hG3 hb3 hs3; rw [← HMM.out]; have hMr : wr.heap.size ≤ M := (by rw [HMM.out]; exact bb2.size); have hMB : B + 1 ≤ M := Nat.le_trans hszr hMr; have bb3 := bb2.trans (hb3.mono hMr); clear bb2 hb3) | (go_at_call 71; refine hrd.out.mono ?_; rintro r w2 ⟨rfl, bb2⟩))
              refine wp_region_held_drew (S := (fun w' => BlkV 107 w' M CS ∧ BlkV 107 w' M CS)) (by kernel_rfl) ⟨(show BlkV 107 w5.drew M CS from hX5), (show BlkV 107 w5.drew M CS from hX5)⟩ (fun hHeld => ?_)
              refine take_l (i := 0) (v := ?rv1) rfl (by kernel_rfl) (by kernel_rfl) (by kernel_rfl) (fun _ _ _ h => h) (Or.inl ⟨by rfl, ?rhy1⟩) (by assumption) ?rrest1
              case rhy1 => (intro w hSw; (try dsimp only at hSw); go_simp; (try with_reducible rfl))
              try simp only [Act.put, List.setIfInBounds_toArray, List.set_cons_zero, List.set_cons_succ]
              refine take_l (i := 1) (v := _) rfl (by kernel_rfl) (by kernel_rfl) (by kernel_rfl) (fun _ _ _ h => h) (yieldsIf_load_mid (by rfl) 57 _ rfl M 18 rfl XO _ (fun w hS => at_range (fO.out w _ hS.1)) huI rfl hiI) (by assumption) ?_
              try simp only [Act.put, List.setIfInBounds_toArray, List.set_cons_zero, List.set_cons_succ]
              refine take_l (i := 2) (v := ?rv3) rfl (by kernel_rfl) (by kernel_rfl) (by kernel_rfl) (fun _ _ _ h => h) (Or.inl ⟨by rfl, ?rhy3⟩) (by assumption) ?rrest3
              case rhy3 => (intro w hSw; (try dsimp only at hSw); go_simp; (try with_reducible rfl))
              try simp only [Act.put, List.setIfInBounds_toArray, List.set_cons_zero, List.set_cons_succ]
              refine take_l (i := 3) (v := ?rv4) rfl (by kernel_rfl) (by kernel_rfl) (by kernel_rfl) (fun _ _ _ h => h) (Or.inl ⟨by rfl, ?rhy4⟩) (by assumption) ?rrest4
              case rhy4 => (intro w hSw; (try dsimp only at hSw); go_simp; (try with_reducible rfl))
              try simp only [Act.put, List.setIfInBounds_toArray, List.set_cons_zero, List.set_cons_succ]
              refine take_l (i := 4) (v := ?rv5) rfl (by kernel_rfl) (by kernel_rfl) (by kernel_rfl) (fun _ _ _ h => h) (Or.inl ⟨by rfl, ?rhy5⟩) (by assumption) ?rrest5
              case rhy5 => (intro w hSw; (try dsimp only at hSw); go_simp; (try with_reducible rfl))
              try simp only [Act.put, List.setIfInBounds_toArray, List.set_cons_zero, List.set_cons_succ]
              refine take_l (i := 5) (v := _) rfl (by kernel_rfl) (by kernel_rfl) (by kernel_rfl) (fun _ _ _ h => h) (yieldsIf_load_mid (by rfl) 57 _ rfl M 18 rfl XO _ (fun w hS => at_range (fO.out w _ hS.2)) huI rfl hiI) (by assumption) ?_
              try simp only [Act.put, List.setIfInBounds_toArray, List.set_cons_zero, List.set_cons_succ]
              refine take_l (i := 6) (v := _) rfl (by kernel_rfl) (by kernel_rfl) (by kernel_rfl) (fun _ _ _ h => h) (yieldsIf_neM (by rfl) 57 _ _ _ rfl XO.toArray XO.toArray rfl rfl true heO.out (by kernel_rfl)) (by assumption) ?_
              try simp only [Act.put, List.setIfInBounds_toArray, List.set_cons_zero, List.set_cons_succ]
              refine wpAnyH_done (by kernel_rfl) ?_ _
              clear hHeld
              go_wp2
              go_roundw
              case rel => exact ⟨j + 1, seen ++ [x.b], (some x.o), es5, clock + 1, by omega, by go_num, hM5, hI5, bb5.drew, hs5', Or.inr ⟨M, x, rfl, rfl, by omega, HX.out, (HCS.out ▸ hX5 : BlkV 107 w5 M x.cs)⟩, HGo.out⟩
              case measure => simp [intOf] <;> omega
            · obtain ⟨XO1, HXO1⟩ : ∃ V, Hid (V = x1.o.map (Value.int .u8)) := ⟨_, rfl⟩
              have huJ := huI
              have hXO1l : XO1.length = 16 := by rw [HXO1.out, List.length_map, hx1.ol]
              have hiJ : (Try.prog.info? 57).map (·.size) = some XO1.length := by rw [hXO1l]; exact aggID.2
              have fO1 : Hid (∀ w G, BlkV 107 w G x1.cs → At w ⟨G, 18, none⟩ XO1) := hid (fun w G h => by rw [HXO1.out]; exact env_o hx1 h)
              obtain ⟨C1, HC1⟩ : ∃ C, Hid (C = x1.cs) := ⟨_, rfl⟩
              rw [← HC1.out] at fO1 hX1
              by_cases h4 : x.o = x1.o
              · rw [packGo_same hE (by rw [← Hx.out]; exact hs) (by rw [← Hx.out]; exact hv2) (by rw [← Hx.out]; exact h4), ← Hx.out] at hGo
                have HGo := hid hGo
                have heO : Hid (∀ w, (Op.equalIn 10000 57 (.agg XO.toArray) (.agg XO1.toArray)).run Try.prog w = .ok true w) := hid (fun w => by
                  rw [HXO.out, HXO1.out, run_eq_id w x.o x1.o hx.ol hx1.ol]
                  have : (x.o == x1.o) = true := by simp [h4]
                  rw [this])
                have HX := hid hx
                clear hE hs hdec hGo hv2 hxv hx h4
                go_wp2_with (first | (refine wl_updateID rfl _ _ _ rfl B clock es seen x.b hI hbl rfl HID.out rfl (HMp.out w4 bb4) HS.out ?_; intro w5 es5 hM5 hI5 hb5 hs5 hg5; have hX5 := hX4.grown hg5 (by intro e; injection e with e; omega); have c0 := (hX5.cell 0).trans hcv.out; have hk5 : ∀ g, g ≠ B → g < wr.heap.size → w5.heap[g]? = wr.heap[g]? := (fun g hg hl => (hg5.block g (Nat.lt_of_lt_of_le hl bb4.size) (fun e => hg (by injection e))).trans (bb4.block g hl)); have hX1' : BlkV 107 w5 g1 C1 := (hk5 g1 (by omega) hX1.lt).trans hX1; have bb5 : Below B w w5 := (hb.trans (bb4.mono (by omega))).grown hg5 (by omega) (fun k hk => by injection hk with hk; omega); have hs5' : B + 1 ≤ w5.heap.size := (by rw [hs5]; exact Nat.le_trans hszr bb4.size); clear hg5 hb5) | (refine wl_lookupID rfl _ _ rfl B clock es seen x.b hI hbl rfl HID.out (HMp.out w4 bb4) false HDEC.out ?_) | (refine wl_load rfl 57 _ rfl ⟨M, 2, none⟩ rfl XB (by rw [hXBl]; exact aggID) (fB.out _ _ hX4) ?_) | (refine wl_storeV rfl 107 _ _ rfl 107 M rfl CS rfl 130 aggEnv hCl ZE hG3 hZEl hC1 ?_; intro w4 hX4 hb4 hs4; have bb4 : Below wr.heap.size wr w4 := bb3.trans (hb4.mono hMr); clear hb4 hG3 bb3) | (refine wl_allocV rfl 107 rfl ZE hzE.out w2.heap.size rfl ?_; intro w3 hG3 hb3 hs3; obtain ⟨M, HMM⟩ : ∃ g, Hid (g = w2.heap.size) := ⟨_, rfl⟩; rw [← HMM.out] at hG3 hb3 hs3; rw [← HMM.out]; have hMr : wr.heap.size ≤ M := (by rw [HMM.out]; exact bb2.size); have hMB : B + 1 ≤ M := Nat.le_trans hszr hMr; have bb3 := bb2.trans (hb3.mono hMr); clear bb2 hb3) | (go_at_call 71; refine hrd.out.mono ?_; rintro r w2 ⟨rfl, bb2⟩))
                refine wp_region_held_drew (S := (fun w' => BlkV 107 w' M CS ∧ BlkV 107 w' g1 C1)) (by kernel_rfl) ⟨(show BlkV 107 w5.drew M CS from hX5), (show BlkV 107 w5.drew g1 C1 from hX1')⟩ (fun hHeld => ?_)
                refine take_l (i := 0) (v := ?rv8) rfl (by kernel_rfl) (by kernel_rfl) (by kernel_rfl) (fun _ _ _ h => h) (Or.inl ⟨by rfl, ?rhy8⟩) (by assumption) ?rrest8
                case rhy8 => (intro w hSw; (try dsimp only at hSw); go_simp; (try with_reducible rfl))
                try simp only [Act.put, List.setIfInBounds_toArray, List.set_cons_zero, List.set_cons_succ]
                refine take_l (i := 1) (v := _) rfl (by kernel_rfl) (by kernel_rfl) (by kernel_rfl) (fun _ _ _ h => h) (yieldsIf_load_mid (by rfl) 57 _ rfl M 18 rfl XO _ (fun w hS => at_range (fO.out w _ hS.1)) huI rfl hiI) (by assumption) ?_
                try simp only [Act.put, List.setIfInBounds_toArray, List.set_cons_zero, List.set_cons_succ]
                refine take_l (i := 2) (v := ?rv10) rfl (by kernel_rfl) (by kernel_rfl) (by kernel_rfl) (fun _ _ _ h => h) (Or.inl ⟨by rfl, ?rhy10⟩) (by assumption) ?rrest10
                case rhy10 => (intro w hSw; (try dsimp only at hSw); go_simp; (try with_reducible rfl))
                try simp only [Act.put, List.setIfInBounds_toArray, List.set_cons_zero, List.set_cons_succ]
                refine take_l (i := 3) (v := ?rv11) rfl (by kernel_rfl) (by kernel_rfl) (by kernel_rfl) (fun _ _ _ h => h) (Or.inl ⟨by rfl, ?rhy11⟩) (by assumption) ?rrest11
                case rhy11 => (intro w hSw; (try dsimp only at hSw); go_simp; (try with_reducible rfl))
                try simp only [Act.put, List.setIfInBounds_toArray, List.set_cons_zero, List.set_cons_succ]
                refine take_l (i := 4) (v := ?rv12) rfl (by kernel_rfl) (by kernel_rfl) (by kernel_rfl) (fun _ _ _ h => h) (Or.inl ⟨by rfl, ?rhy12⟩) (by assumption) ?rrest12
                case rhy12 => (intro w hSw; (try dsimp only at hSw); go_simp; (try with_reducible rfl))
                try simp only [Act.put, List.setIfInBounds_toArray, List.set_cons_zero, List.set_cons_succ]
                refine take_l (i := 5) (v := _) rfl (by kernel_rfl) (by kernel_rfl) (by kernel_rfl) (fun _ _ _ h => h) (yieldsIf_load_mid (by rfl) 57 _ rfl g1 18 rfl XO1 _ (fun w hS => at_range (fO1.out w _ hS.2)) huJ rfl hiJ) (by assumption) ?_
                try simp only [Act.put, List.setIfInBounds_toArray, List.set_cons_zero, List.set_cons_succ]
                refine take_l (i := 6) (v := _) rfl (by kernel_rfl) (by kernel_rfl) (by kernel_rfl) (fun _ _ _ h => h) (yieldsIf_neM (by rfl) 57 _ _ _ rfl XO.toArray XO1.toArray rfl rfl true heO.out (by kernel_rfl)) (by assumption) ?_
                try simp only [Act.put, List.setIfInBounds_toArray, List.set_cons_zero, List.set_cons_succ]
                refine wpAnyH_done (by kernel_rfl) ?_ _
                clear hHeld
                go_wp2
                go_roundw
                case rel => exact ⟨j + 1, seen ++ [x.b], (some x1.o), es5, clock + 1, by omega, by go_num, hM5, hI5, bb5.drew, hs5', Or.inr ⟨g1, x1, rfl, rfl, hg1, hx1, (HC1.out ▸ hX1' : BlkV 107 w5 g1 x1.cs)⟩, HGo.out⟩
                case measure => simp [intOf] <;> omega
              · rw [packGo_unlike hE (by rw [← Hx.out]; exact hs) (by rw [← Hx.out]; exact hv2) (by rw [← Hx.out]; exact h4)] at hGo
                have HGo := hid hGo
                have heO : Hid (∀ w, (Op.equalIn 10000 57 (.agg XO.toArray) (.agg XO1.toArray)).run Try.prog w = .ok false w) := hid (fun w => by
                  rw [HXO.out, HXO1.out, run_eq_id w x.o x1.o hx.ol hx1.ol]
                  have : (x.o == x1.o) = false := by simp [h4]
                  rw [this])
                have HX := hid hx
                clear hE hs hdec hGo hv2 hxv hx h4
                go_wp2_with (first | (refine wl_updateID rfl _ _ _ rfl B clock es seen x.b hI hbl rfl HID.out rfl (HMp.out w4 bb4) HS.out ?_; intro w5 es5 hM5 hI5 hb5 hs5 hg5; have hX5 := hX4.grown hg5 (by intro e; injection e with e; omega); have c0 := (hX5.cell 0).trans hcv.out; have hk5 : ∀ g, g ≠ B → g < wr.heap.size → w5.heap[g]? = wr.heap[g]? := (fun g hg hl => (hg5.block g (Nat.lt_of_lt_of_le hl bb4.size) (fun e => hg (by injection e))).trans (bb4.block g hl)); have hX1' : BlkV 107 w5 g1 C1 := (hk5 g1 (by omega) hX1.lt).trans hX1; have bb5 : Below B w w5 := (hb.trans (bb4.mono (by omega))).grown hg5 (by omega) (fun k hk => by injection hk with hk; omega); have hs5' : B + 1 ≤ w5.heap.size := (by rw [hs5]; exact Nat.le_trans hszr bb4.size); clear hg5 hb5) | (refine wl_lookupID rfl _ _ rfl B clock es seen x.b hI hbl rfl HID.out (HMp.out w4 bb4) false HDEC.out ?_) | (refine wl_load rfl 57 _ rfl ⟨M, 2, none⟩ rfl XB (by rw [hXBl]; exact aggID) (fB.out _ _ hX4) ?_) | (refine wl_storeV rfl 107 _ _ rfl 107 M rfl CS rfl 130 aggEnv hCl ZE hG3 hZEl hC1 ?_; intro w4 hX4 hb4 hs4; have bb4 : Below wr.heap.size wr w4 := bb3.trans (hb4.mono hMr); clear hb4 hG3 bb3) | (refine wl_allocV rfl 107 rfl ZE hzE.out w2.heap.size rfl ?_; intro w3 hG3 hb3 hs3; obtain ⟨M, HMM⟩ : ∃ g, Hid (g = w2.heap.size) := ⟨_, rfl⟩; rw [← HMM.out] at hG3 hb3 hs3; rw [← HMM.out]; have hMr : wr.heap.size ≤ M := (by rw [HMM.out]; exact bb2.size); have hMB : B + 1 ≤ M := Nat.le_trans hszr hMr; have bb3 := bb2.trans (hb3.mono hMr); clear bb2 hb3) | (go_at_call 71; refine hrd.out.mono ?_; rintro r w2 ⟨rfl, bb2⟩))
                refine wp_region_held_drew (S := (fun w' => BlkV 107 w' M CS ∧ BlkV 107 w' g1 C1)) (by kernel_rfl) ⟨(show BlkV 107 w5.drew M CS from hX5), (show BlkV 107 w5.drew g1 C1 from hX1')⟩ (fun hHeld => ?_)
                refine take_l (i := 0) (v := ?rv15) rfl (by kernel_rfl) (by kernel_rfl) (by kernel_rfl) (fun _ _ _ h => h) (Or.inl ⟨by rfl, ?rhy15⟩) (by assumption) ?rrest15
                case rhy15 => (intro w hSw; (try dsimp only at hSw); go_simp; (try with_reducible rfl))
                try simp only [Act.put, List.setIfInBounds_toArray, List.set_cons_zero, List.set_cons_succ]
                refine take_l (i := 1) (v := _) rfl (by kernel_rfl) (by kernel_rfl) (by kernel_rfl) (fun _ _ _ h => h) (yieldsIf_load_mid (by rfl) 57 _ rfl M 18 rfl XO _ (fun w hS => at_range (fO.out w _ hS.1)) huI rfl hiI) (by assumption) ?_
                try simp only [Act.put, List.setIfInBounds_toArray, List.set_cons_zero, List.set_cons_succ]
                refine take_l (i := 2) (v := ?rv17) rfl (by kernel_rfl) (by kernel_rfl) (by kernel_rfl) (fun _ _ _ h => h) (Or.inl ⟨by rfl, ?rhy17⟩) (by assumption) ?rrest17
                case rhy17 => (intro w hSw; (try dsimp only at hSw); go_simp; (try with_reducible rfl))
                try simp only [Act.put, List.setIfInBounds_toArray, List.set_cons_zero, List.set_cons_succ]
                refine take_l (i := 3) (v := ?rv18) rfl (by kernel_rfl) (by kernel_rfl) (by kernel_rfl) (fun _ _ _ h => h) (Or.inl ⟨by rfl, ?rhy18⟩) (by assumption) ?rrest18
                case rhy18 => (intro w hSw; (try dsimp only at hSw); go_simp; (try with_reducible rfl))
                try simp only [Act.put, List.setIfInBounds_toArray, List.set_cons_zero, List.set_cons_succ]
                refine take_l (i := 4) (v := ?rv19) rfl (by kernel_rfl) (by kernel_rfl) (by kernel_rfl) (fun _ _ _ h => h) (Or.inl ⟨by rfl, ?rhy19⟩) (by assumption) ?rrest19
                case rhy19 => (intro w hSw; (try dsimp only at hSw); go_simp; (try with_reducible rfl))
                try simp only [Act.put, List.setIfInBounds_toArray, List.set_cons_zero, List.set_cons_succ]
                refine take_l (i := 5) (v := _) rfl (by kernel_rfl) (by kernel_rfl) (by kernel_rfl) (fun _ _ _ h => h) (yieldsIf_load_mid (by rfl) 57 _ rfl g1 18 rfl XO1 _ (fun w hS => at_range (fO1.out w _ hS.2)) huJ rfl hiJ) (by assumption) ?_
                try simp only [Act.put, List.setIfInBounds_toArray, List.set_cons_zero, List.set_cons_succ]
                refine take_l (i := 6) (v := _) rfl (by kernel_rfl) (by kernel_rfl) (by kernel_rfl) (fun _ _ _ h => h) (yieldsIf_neM (by rfl) 57 _ _ _ rfl XO.toArray XO1.toArray rfl rfl false heO.out (by kernel_rfl)) (by assumption) ?_
                try simp only [Act.put, List.setIfInBounds_toArray, List.set_cons_zero, List.set_cons_succ]
                refine wpAnyH_done (by kernel_rfl) ?_ _
                clear hHeld
                go_wp2
                go_ret
                exact ⟨by rw [← HGo.out]; rfl, by rw [← HB.out]; exact bb5.drew⟩
          · have hv1 : x.v = 1 := hxv.resolve_right hv2
            rw [packGo_one hE (by rw [← Hx.out]; exact hs) (by rw [← Hx.out]; exact hv2), ← Hx.out] at hGo
            rw [hv1] at hcv
            have HGo := hid hGo
            clear hE hs hdec hGo hv1 hv2 hxv
            go_wp2_with (first | (refine wl_updateID rfl _ _ _ rfl B clock es seen x.b hI hbl rfl HID.out rfl (HMp.out w4 bb4) HS.out ?_; intro w5 es5 hM5 hI5 hb5 hs5 hg5; have hX5 := hX4.grown hg5 (by intro e; injection e with e; omega); have c0 := (hX5.cell 0).trans hcv.out; have hk5 : ∀ g, g ≠ B → g < wr.heap.size → w5.heap[g]? = wr.heap[g]? := (fun g hg hl => (hg5.block g (Nat.lt_of_lt_of_le hl bb4.size) (fun e => hg (by injection e))).trans (bb4.block g hl)); have hF5 := hF.keep hk5; have bb5 : Below B w w5 := (hb.trans (bb4.mono (by omega))).grown hg5 (by omega) (fun k hk => by injection hk with hk; omega); have hs5' : B + 1 ≤ w5.heap.size := (by rw [hs5]; exact Nat.le_trans hszr bb4.size); clear hg5 hb5) | (refine wl_lookupID rfl _ _ rfl B clock es seen x.b hI hbl rfl HID.out (HMp.out w4 bb4) false HDEC.out ?_) | (refine wl_load rfl 57 _ rfl ⟨M, 2, none⟩ rfl XB (by rw [hXBl]; exact aggID) (fB.out _ _ hX4) ?_) | (refine wl_storeV rfl 107 _ _ rfl 107 M rfl CS rfl 130 aggEnv hCl ZE hG3 hZEl hC1 ?_; intro w4 hX4 hb4 hs4; have bb4 : Below wr.heap.size wr w4 := bb3.trans (hb4.mono hMr); clear hb4 hG3 bb3) | (refine wl_allocV rfl 107 rfl ZE hzE.out w2.heap.size rfl ?_; intro w3 hG3 hb3 hs3; obtain ⟨M, HMM⟩ : ∃ g, Hid (g = w2.heap.size) := ⟨_, rfl⟩; rw [← HMM.out] at hG3 hb3 hs3; rw [← HMM.out]; have hMr : wr.heap.size ≤ M := (by rw [HMM.out]; exact bb2.size); have hMB : B + 1 ≤ M := Nat.le_trans hszr hMr; have bb3 := bb2.trans (hb3.mono hMr); clear bb2 hb3) | (go_at_call 71; refine hrd.out.mono ?_; rintro r w2 ⟨rfl, bb2⟩))
            go_roundw
            case rel => exact ⟨j + 1, seen ++ [x.b], f, es5, clock + 1, by omega, by go_num, hM5, hI5, bb5, hs5', hF5, HGo.out⟩
            case measure => simp [intOf] <;> omega
      · rw [packGo_err hE] at hGo
        rw [readV_err hGo (by rw [← hGo]; exact hE), ← HZE.out] at hrd
        have hV0 : ¬ V = 0 := by rw [← hGo]; exact hE
        clear hGo hE hF hPx
        go_wp2_with (first | (refine wl_storeV rfl 107 _ _ rfl 107 M rfl ZE rfl 130 aggEnv hZEl ZE hG3 hZEl hZE1 ?_; intro w4 hX4 hb4 hs4; have bb4 := bb3.trans (hb4.mono (by omega : B + 1 ≤ _)); clear hb4 hG3 bb3) | (refine wl_allocV rfl 107 rfl ZE hzE.out w2.heap.size rfl ?_; intro w3 hG3 hb3 hs3; obtain ⟨M, HM⟩ : ∃ g, Hid (g = w2.heap.size) := ⟨_, rfl⟩; rw [← HM.out] at hG3 hb3 hs3; rw [← HM.out]; have hMB : B + 1 ≤ M := (by rw [HM.out]; exact hs2); have bb3 := bb2.trans (hb3.mono (by omega : B + 1 ≤ _)); clear bb2 hb3) | (go_at_call 71; refine hrd.out.mono ?_; rintro r w2 ⟨rfl, bb2'⟩; have bb2 : Below (B + 1) wr w2 := bb2'.mono hszr; have hs2 : B + 1 ≤ w2.heap.size := Nat.le_trans hszr bb2'.size; clear bb2'))
        go_ret
        exact ⟨rfl, by rw [← HB.out]; exact hb.trans (bb4.mono (by omega))⟩
    · obtain rfl : j = n := by omega
      have hV0 : V = 0 := by rw [← hGo, List.drop_of_length_le (by rw [List.length_map, ← HN.out]; exact Nat.le_refl _)]; rfl
      clear hGo hF
      go_wp2
      go_ret
      exact ⟨by rw [hV0]; rfl, by rw [← HB.out]; exact hb⟩
set_option maxRecDepth 100000 in
set_option maxHeartbeats 4000000 in
theorem packFault_any (po : Option Addr) (cap n : Nat) (ps : List Pt) (w : World) (hn : n = ps.length) (hrow : RowV w po (ps.map Pt.v)) (hps : ∀ x ∈ ps, 4 ≤ x.l.length → x.Ok w) :
    Calls Try.prog 146 #[.slice po n cap] w fun e w' => e = .returned (.int .i64 (packE (ps.map Pt.l))) ∧ Below w.heap.size w w' := by
  by_cases h0 : n = 0
  · have hE : packE (ps.map Pt.l) = 10 := by unfold packE; rw [if_pos (by rw [List.length_map]; omega)]
    rw [hE]
    subst h0
    clear hE hn hrow hps
    go_enter Try.func146, Try.ntmps146
    go_wp2
    go_ret
    exact ⟨rfl, Below.refl _ _⟩
  · by_cases h1 : n ≤ 100
    · have hE : packE (ps.map Pt.l) = packGo (ps.map Pt.l) [] none := by unfold packE; rw [if_neg (by rw [List.length_map]; omega), if_neg (by rw [List.length_map]; omega)]
      rw [hE]
      exact packFault_mid po cap n ps w hn (by omega) h1 hrow hps
    · have hE : packE (ps.map Pt.l) = 5 := by unfold packE; rw [if_neg (by rw [List.length_map]; omega), if_pos (by rw [List.length_map]; omega)]
      rw [hE]
      have hn0 : ¬ (n : Int) = 0 := by omega
      have hn1 : (100 : Int) < (n : Int) := by omega
      clear hE hn hrow hps h0 h1
      go_enter Try.func146, Try.ntmps146
      go_wp2
      go_ret
      exact ⟨rfl, Below.refl _ _⟩
end Go.Proofs.Ytbljihhelladbaa.wr
