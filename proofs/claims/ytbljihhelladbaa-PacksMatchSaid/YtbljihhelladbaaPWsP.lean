/-
  Contract of keyref2.PackError: packE. Conditions: parts of octets that lie in memory.
-/
import Derived.Test.YtbljihhelladbaaPWsN
import Derived.Test.YtbljihhelladbaaPEqA
namespace Go.Proofs.Ytbljihhelladbaa.wr
open Go.RowKit Go.Proofs.Ytbljihhelladbaa.st Go.Proofs.Ytbljihhelladbaa.hs Go.Proofs.Ytbljihhelladbaa.shr Go.Proofs.Ytbljihhelladbaa.sh
set_option linter.unusedSimpArgs false
set_option linter.unusedVariables false
set_option pp.maxSteps 6000
def zID : List Value := (List.replicate 16 (0 : Int)).map (Value.int .u8)
theorem infoID : Info Try.prog 57 (.agg zID.toArray) 16 16 := by unfold Info; kernel_rfl
/-- the keys of version 2, as PackError keeps them -/
def FirstR (B j : Nat) (w : World) (v : Value) (f : Option (List Int)) : Prop := (f = none ∧ v = .slice none 0 0) ∨ ∃ (g m cap : Nat) (o : List Int) (rest : List Value), f = some o ∧ o.length = 16 ∧ v = .slice (some ⟨g, 0, none⟩) m cap ∧ 0 < m ∧ m ≤ j ∧ w.ownsRow (B + 1) 57 16 v m (o.map (Value.int .u8) ++ rest)
theorem owns_keep {base n : Nat} {e : TypeId} {size : Nat} {w w' : World} {v : Value} {xs : List Value} (h : w.ownsRow base e size v n xs) (hb : ∀ g, base ≤ g → g < w.heap.size → w'.heap[g]? = w.heap[g]?) : w'.ownsRow base e size v n xs := by
  obtain ⟨h0, h | ⟨g, cap, cur, hv, hg, hh, r⟩⟩ := h
  · exact ⟨h0, Or.inl h⟩
  · exact ⟨h0, Or.inr ⟨g, cap, cur, hv, hg, (hb g hg (lt_of_block hh)).trans hh, r⟩⟩
theorem owns_at {base m cap g : Nat} {e : TypeId} {size : Nat} {w : World} {xs : List Value} (h : w.ownsRow base e size (.slice (some ⟨g, 0, none⟩) m cap) m xs) : At w ⟨g, 0, none⟩ xs := fun j u hu => h.cells (g := g) rfl j u hu
theorem at_left {w : World} {a : Addr} {xs ys : List Value} (h : At w a (xs ++ ys)) : At w a xs := fun j u hu => h j u (by rw [List.getElem?_append_left (List.getElem?_eq_some_iff.1 hu).1]; exact hu)
theorem FirstR.keep {B j j' : Nat} {w w' : World} {v : Value} {f : Option (List Int)} (h : FirstR B j w v f) (hj : j ≤ j') (hb : ∀ g, B + 1 ≤ g → g < w.heap.size → w'.heap[g]? = w.heap[g]?) : FirstR B j' w' v f := by
  rcases h with h | ⟨g, m, cap, o, rest, a, b, c, d, e, r⟩
  · exact Or.inl h
  · exact Or.inr ⟨g, m, cap, o, rest, a, b, c, d, by omega, owns_keep r hb⟩
set_option maxRecDepth 100000 in
set_option maxHeartbeats 4000000 in
theorem PackError_mid (po : Option Addr) (cap n : Nat) (ps : List Pt) (w : World) (hn : n = ps.length) (h0 : 0 < n) (h1 : n ≤ 100) (hrow : RowV w po (ps.map Pt.v)) (hps : ∀ x ∈ ps, 4 ≤ x.l.length → x.Ok w) :
    Calls Try.prog 80 #[.slice po n cap] w fun e w' => e = .returned (.int .i64 (packGo (ps.map Pt.l) [] none)) ∧ Below w.heap.size w w' := by
  obtain ⟨B, HB⟩ : ∃ B, Hid (B = w.heap.size) := ⟨_, rfl⟩
  have hsz : w.heap.size = B := HB.out.symm
  obtain ⟨V, HV⟩ : ∃ V, Hid (V = packGo (ps.map Pt.l) [] none) := ⟨_, rfl⟩
  rw [← HV.out]
  have HN := hid hn
  have hzE := hid zeroEnv
  obtain ⟨ZE, HZE⟩ : ∃ Z, Hid (Z = env0.cs) := ⟨_, rfl⟩
  rw [← HZE.out] at hzE
  have hZEl : ZE.length = 130 := by rw [HZE.out]; exact env0_ok.csl
  have hZE1 : ∀ u ∈ ZE, u.oneCell' = true := by rw [HZE.out]; exact env0.cs_one
  have hn0 : ¬ (n : Int) = 0 := by omega
  have hn1 : ¬ (100 : Int) < (n : Int) := by omega
  clear hn
  go_enter Try.func80, Try.ntmps80
  go_wp2_with (refine wl_makeMap rfl 183 rfl B hsz ?_; intro w0 hM0 hb0 hs0)
  go_loopw [4, 18] (fun fv i wr => ∃ (j : Nat) (seen : List (List Int)) (f : Option (List Int)) (es : List MapEntry) (clock : Nat), j ≤ n ∧ i = .int .i64 j ∧ wr.heap[B]? = some (.map es.toArray clock) ∧ IdKeys es seen ∧ Below B w wr ∧ B + 1 ≤ wr.heap.size ∧ FirstR B j wr fv f ∧ packGo ((ps.map Pt.l).drop j) seen f = V) (fun _ i _ => n - (intOf i).toNat)
  case atStart => exact ⟨0, [], none, [], 0, by omega, rfl, hM0, IdKeys.nil, hb0, by omega, Or.inl ⟨rfl, rfl⟩, by rw [HV.out]; rfl⟩
  case round =>
    obtain ⟨j, seen, f, es, clock, hj, rfl, hMp, hI, hb, hszr, hF, hGo⟩ := hrel
    by_cases hjn : j < n
    · have hjI : (j : Int) < (n : Int) := by omega
      have hjp : j < ps.length := by have := HN.out; omega
      have hjm : j < (ps.map Pt.v).length := by rw [List.length_map]; exact hjp
      obtain ⟨b, off, rfl, hbw, hcell⟩ := hrow.resolve_left (by intro e; rw [e] at hjm; cases hjm)
      have hx := hps ps[j] (List.getElem_mem hjp)
      have hc := hcell j _ (List.getElem?_eq_getElem hjm)
      rw [List.getElem_map] at hc
      obtain ⟨xa, HXA⟩ : ∃ xa, Hid (xa = (ps[j]'hjp).a) := ⟨_, rfl⟩
      obtain ⟨xc, HXC⟩ : ∃ xc, Hid (xc = (ps[j]'hjp).c) := ⟨_, rfl⟩
      obtain ⟨xl, HXL⟩ : ∃ xl : List Int, Hid (xl = (ps[j]'hjp).l) := ⟨_, rfl⟩
      obtain ⟨mx, HM⟩ : ∃ m, Hid (m = xl.length) := ⟨_, rfl⟩
      have hv : Pt.v ps[j] = .slice xa mx xc := by rw [HM.out, HXA.out, HXC.out, HXL.out]; rfl
      rw [hv] at hc
      have hcw : wr.cell? ⟨b, off + j, none⟩ = some (.slice xa mx xc) := by rw [hb.cell (p := ⟨b, off + j, none⟩) (by rw [HB.out]; exact hbw)]; exact hc
      have hPx : 4 ≤ mx → Pt.Ok wr ⟨xa, xc, xl⟩ := fun h4 => by
        have h5 := hx (by rw [← HXL.out, ← HM.out]; exact h4)
        rw [HXA.out, HXL.out, HXC.out]; exact h5.below (by rw [← HB.out]; exact hb)
      have hdrop : (ps.map Pt.l).drop j = xl :: (ps.map Pt.l).drop (j + 1) := by rw [HXL.out, List.drop_eq_getElem_cons (by rw [List.length_map]; exact hjp), List.getElem_map]
      rw [hdrop] at hGo
      have hrd := hid (RefRead_any xa xc mx xl wr HM.out hPx)
      clear hc hcell hv hx hjm hdrop
      by_cases hE : readE xl = 0
      · have hx := readX_ok (hPx (by rw [HM.out]; exact (readE_zero hE).1)).oct hE
        rw [readV_ok hE] at hrd
        obtain ⟨x, Hx⟩ : ∃ x, Hid (x = readX xl) := ⟨_, rfl⟩
        have hxv : x.v = 1 ∨ x.v = 2 := by rw [Hx.out]; exact readX_v
        rw [← Hx.out] at hx hrd
        obtain ⟨XB, HXB⟩ : ∃ V, Hid (V = x.b.map (Value.int .u8)) := ⟨_, rfl⟩
        have hXBl : XB.length = 16 := by rw [HXB.out, List.length_map, hx.bl]
        have fB : Hid (∀ w G, BlkV 107 w G x.cs → At w ⟨G, 2, none⟩ XB) := hid (fun w G h => by rw [HXB.out]; exact env_b h)
        have hid16 : Value.agg XB.toArray = idV x.b := by rw [HXB.out]; rfl
        have HID := hid hid16
        have hcv := hid x.cv
        obtain ⟨CS, HCS⟩ : ∃ C, Hid (C = x.cs) := ⟨_, rfl⟩
        have hCl : CS.length = 130 := by rw [HCS.out]; exact hx.csl
        have hC1 : ∀ u ∈ CS, u.oneCell' = true := by rw [HCS.out]; exact x.cs_one
        rw [← HCS.out] at hrd fB hcv
        have HMp := hid (fun (y : World) (h : Below wr.heap.size wr y) => (h.block B (by omega)).trans hMp)
        have hbl := hx.bl
        clear hid16 hPx hMp
        by_cases hs : x.b ∈ seen
        · have hV8 : V = 8 := by rw [← hGo]; exact packGo_twice hE (by rw [← Hx.out]; exact hs)
          have hdec : decide (x.b ∈ seen) = true := by simp [hs]
          have HDEC := hid hdec
          clear hGo hE hF hs hdec
          go_wp2_with (first | (refine wl_lookupID rfl _ _ rfl B clock es seen x.b hI hbl rfl HID.out (HMp.out w4 bb4) true HDEC.out ?_) | (refine wl_load rfl 57 _ rfl ⟨M, 2, none⟩ rfl XB (by rw [hXBl]; exact aggID) (fB.out _ _ hX4) ?_) | (refine wl_storeV rfl 107 _ _ rfl 107 M rfl CS rfl 130 aggEnv hCl ZE hG3 hZEl hC1 ?_; intro w4 hX4 hb4 hs4; have bb4 : Below wr.heap.size wr w4 := bb3.trans (hb4.mono hMr); clear hb4 hG3 bb3) | (refine wl_allocV rfl 107 rfl ZE hzE.out w2.heap.size rfl ?_; intro w3 hG3 hb3 hs3; obtain ⟨M, HMM⟩ : ∃ g, Hid (g = w2.heap.size) := ⟨_, rfl⟩; rw [← HMM.out] at hG3 hb3 hs3; rw [← HMM.out]; have hMr : wr.heap.size ≤ M := (by rw [HMM.out]; exact bb2.size); have hMB : B + 1 ≤ M := Nat.le_trans hszr hMr; have bb3 := bb2.trans (hb3.mono hMr); clear bb2 hb3) | (go_at_call 72; refine hrd.out.mono ?_; rintro r w2 ⟨rfl, bb2⟩))
          go_ret
          exact ⟨by rw [hV8]; rfl, by rw [← HB.out]; exact hb.trans (bb4.mono (by omega))⟩
        · have hdec : decide (x.b ∈ seen) = false := by simp [hs]
          have HDEC := hid hdec
          have HS := hid hs
          by_cases hv2 : x.v = 2
          · obtain ⟨XO, HXO⟩ : ∃ V, Hid (V = x.o.map (Value.int .u8)) := ⟨_, rfl⟩
            have hXOl : XO.length = 16 := by rw [HXO.out, List.length_map, hx.ol]
            have hXO1 : ∀ u ∈ XO, u.oneCell' = true := by rw [HXO.out]; exact ints_one _ _
            have fO : Hid (∀ w G, BlkV 107 w G CS → At w ⟨G, 18, none⟩ XO) := hid (fun w G h => by rw [HXO.out]; rw [HCS.out] at h; exact env_o hx h)
            have huI := Try.underlying57
            have hiI : (Try.prog.info? 57).map (·.size) = some XO.length := by rw [hXOl]; exact aggID.2
            rw [hv2] at hcv
            rcases hF with ⟨rfl, rfl⟩ | ⟨g1, m1, cap1, o1, rest1, rfl, ho1, rfl, hm1', hmj, hR⟩
            · rw [packGo_first hE (by rw [← Hx.out]; exact hs) (by rw [← Hx.out]; exact hv2), ← Hx.out] at hGo
              have HGo := hid hGo
              have HX := hid hx
              have HXOL := hid hx.ol
              clear hE hs hdec hGo hv2 hxv hx
              go_wp2_with (first | (refine wl_updateID rfl _ _ _ rfl B clock es seen x.b hI hbl rfl HID.out rfl (HMp.out w4 bb4) HS.out ?_; intro w5 es5 hM5 hI5 hb5 hs5 hg5; have hX5 := hX4.grown hg5 (by intro e; injection e with e; omega); have c0 := (hX5.cell 0).trans hcv.out; have hk5 : ∀ g, B + 1 ≤ g → g < wr.heap.size → w5.heap[g]? = wr.heap[g]? := (fun g hg hl => (hg5.block g (Nat.lt_of_lt_of_le hl bb4.size) (fun e => by injection e with e; omega)).trans (bb4.block g hl)); have bb5 : Below B w w5 := (hb.trans (bb4.mono (by omega))).grown hg5 (by omega) (fun k hk => by injection hk with hk; omega); have hs5' : B + 1 ≤ w5.heap.size := (by rw [hs5]; exact Nat.le_trans hszr bb4.size); clear hg5 hb5) | (refine wl_lookupID rfl _ _ rfl B clock es seen x.b hI hbl rfl HID.out (HMp.out w4 bb4) false HDEC.out ?_) | (refine wl_load rfl 57 _ rfl ⟨M, 2, none⟩ rfl XB (by rw [hXBl]; exact aggID) (fB.out _ _ hX4) ?_) | (refine wl_storeV rfl 107 _ _ rfl 107 M rfl CS rfl 130 aggEnv hCl ZE hG3 hZEl hC1 ?_; intro w4 hX4 hb4 hs4; have bb4 : Below wr.heap.size wr w4 := bb3.trans (hb4.mono hMr); clear hb4 hG3 bb3) | (refine wl_allocV rfl 107 rfl ZE hzE.out w2.heap.size rfl ?_; intro w3 hG3 hb3 hs3; obtain ⟨M, HMM⟩ : ∃ g, Hid (g = w2.heap.size) := ⟨_, rfl⟩; rw [← HMM.out] at hG3 hb3 hs3; rw [← HMM.out]; have hMr : wr.heap.size ≤ M := (by rw [HMM.out]; exact bb2.size); have hMB : B + 1 ≤ M := Nat.le_trans hszr hMr; have bb3 := bb2.trans (hb3.mono hMr); clear bb2 hb3) | (go_at_call 72; refine hrd.out.mono ?_; rintro r w2 ⟨rfl, bb2⟩))
              refine wp_region_held_drew (S := (fun w' => BlkV 107 w' M CS)) (by kernel_rfl) (show BlkV 107 w5.drew M CS from hX5) (fun hHeld => ?_)
              refine take_l (i := 0) (v := ?rv1) rfl (by kernel_rfl) (by kernel_rfl) (by kernel_rfl) (fun _ _ _ h => h) (Or.inl ⟨by rfl, ?rhy1⟩) (by assumption) ?rrest1
              case rhy1 => (intro w hSw; (try dsimp only at hSw); go_simp; (try with_reducible rfl))
              try simp only [Act.put, List.setIfInBounds_toArray, List.set_cons_zero, List.set_cons_succ]
              refine take_l (i := 1) (v := ?rv2) rfl (by kernel_rfl) (by kernel_rfl) (by kernel_rfl) (fun _ _ _ h => h) (Or.inl ⟨by rfl, ?rhy2⟩) (by assumption) ?rrest2
              case rhy2 => (intro w hSw; (try dsimp only at hSw); go_simp; (try with_reducible rfl))
              try simp only [Act.put, List.setIfInBounds_toArray, List.set_cons_zero, List.set_cons_succ]
              refine take_l (i := 2) (v := ?rv3) rfl (by kernel_rfl) (by kernel_rfl) (by kernel_rfl) (fun _ _ _ h => h) (Or.inl ⟨by rfl, ?rhy3⟩) (by assumption) ?rrest3
              case rhy3 => (intro w hSw; (try dsimp only at hSw); go_simp; (try with_reducible rfl))
              try simp only [Act.put, List.setIfInBounds_toArray, List.set_cons_zero, List.set_cons_succ]
              refine take_l (i := 3) (v := ?rv4) rfl (by kernel_rfl) (by kernel_rfl) (by kernel_rfl) (fun _ _ _ h => h) (Or.inl ⟨by rfl, ?rhy4⟩) (by assumption) ?rrest4
              case rhy4 => (intro w hSw; (try dsimp only at hSw); go_simp; (try with_reducible rfl))
              try simp only [Act.put, List.setIfInBounds_toArray, List.set_cons_zero, List.set_cons_succ]
              refine take_l (i := 4) (v := _) rfl (by kernel_rfl) (by kernel_rfl) (by kernel_rfl) (fun _ _ _ h => h) (Or.inr ⟨by kernel_rfl, rfl⟩) (by assumption) ?_
              try simp only [Act.put, List.setIfInBounds_toArray, List.set_cons_zero, List.set_cons_succ]
              refine take_l (i := 5) (v := _) rfl (by kernel_rfl) (by kernel_rfl) (by kernel_rfl) (fun _ _ _ h => h) (Or.inr ⟨by kernel_rfl, rfl⟩) (by assumption) ?_
              try simp only [Act.put, List.setIfInBounds_toArray, List.set_cons_zero, List.set_cons_succ]
              refine take_l (i := 6) (v := _) rfl (by kernel_rfl) (by kernel_rfl) (by kernel_rfl) (fun _ _ _ h => h) (Or.inr ⟨by kernel_rfl, rfl⟩) (by assumption) ?_
              try simp only [Act.put, List.setIfInBounds_toArray, List.set_cons_zero, List.set_cons_succ]
              refine take_l (i := 7) (v := _) rfl (by kernel_rfl) (by kernel_rfl) (by kernel_rfl) (fun _ _ _ h => h) (Or.inr ⟨by kernel_rfl, rfl⟩) (by assumption) ?_
              try simp only [Act.put, List.setIfInBounds_toArray, List.set_cons_zero, List.set_cons_succ]
              refine take_l (i := 8) (v := _) rfl (by kernel_rfl) (by kernel_rfl) (by kernel_rfl) (fun _ _ _ h => h) (Or.inr ⟨by kernel_rfl, rfl⟩) (by assumption) ?_
              try simp only [Act.put, List.setIfInBounds_toArray, List.set_cons_zero, List.set_cons_succ]
              refine take_l (i := 9) (v := _) rfl (by kernel_rfl) (by kernel_rfl) (by kernel_rfl) (fun _ _ _ h => h) (Or.inr ⟨by kernel_rfl, rfl⟩) (by assumption) ?_
              try simp only [Act.put, List.setIfInBounds_toArray, List.set_cons_zero, List.set_cons_succ]
              refine take_l (i := 10) (v := ?rv11) rfl (by kernel_rfl) (by kernel_rfl) (by kernel_rfl) (fun _ _ _ h => h) (Or.inl ⟨by rfl, ?rhy11⟩) (by assumption) ?rrest11
              case rhy11 => (intro w hSw; (try dsimp only at hSw); go_simp; (try with_reducible rfl))
              try simp only [Act.put, List.setIfInBounds_toArray, List.set_cons_zero, List.set_cons_succ]
              refine wpAnyH_done (by kernel_rfl) ?_ _
              clear hHeld
              obtain ⟨w6, HW6⟩ : ∃ y, Hid (y = w5.drew) := ⟨_, rfl⟩
              rw [← HW6.out]
              have hX6 : BlkV 107 w6 M CS := by rw [HW6.out]; exact hX5
              have hM6 : w6.heap[B]? = some (.map es5.toArray (clock + 1)) := by rw [HW6.out]; exact hM5
              have bb6 : Below B w w6 := by rw [HW6.out]; exact bb5.drew
              have hs6 : B + 1 ≤ w6.heap.size := by rw [HW6.out]; exact hs5'
              clear hX5 hM5 bb5 hs5' hs5 hk5
              go_wp2_with (first | (at_builtin; refine wl_appendS rfl _ _ 64 rfl 57 (.agg zID.toArray) 16 16 Try.underlying64 infoID (by simp [zID, Value.cells]) (by decide) (B + 1) (.slice none 0 0) 0 [] rfl (Mine.nil _ _ _ _) (some ⟨w6.heap.size, 0, none⟩) 1 1 rfl (fun h => by cases h) XO hXOl (at_row hgl hA7) hXO1 (by unfold maxLen; omega) (by omega) (by omega) 1 rfl ?_; intro ao8 cap8 w8 row8 hc8 hM8 hr8 hg8 hw8; have hM8B : w8.heap[B]? = some (.map es5.toArray (clock + 1)) := (hg8.block B (by omega) (fun e => by have := (hw8 _ e.symm).1; omega)).trans hM7; have bb8 := bb7.grown hg8 (by omega) (fun k hk => by have := (hw8 _ hk).1; omega); have hs8 : B + 1 ≤ w8.heap.size := Nat.le_trans (by omega) hg8.size) | (refine wl_slice1 rfl 64 57 _ rfl Try.underlying64 16 zID (by kernel_rfl) (by simp [zID]) (by decide) (by decide) XO rfl hXOl w6.heap.size rfl ?_; intro w7 hG7 hb7 hs7; have hX7 := hX6.below hb7 hX6.lt; have bb7 := bb6.trans (hb7.mono (by omega : B ≤ _)); have hM7 : w7.heap[B]? = some (.map es5.toArray (clock + 1)) := (hb7.block B (by omega)).trans hM6; have hA7 := hG7.at0; have hgl := hG7.lt) | (refine wl_load rfl 57 _ rfl ⟨M, 18, none⟩ rfl XO (by rw [hXOl]; exact aggID) (fO.out _ _ hX6) ?_))
              go_roundw
              case rel =>
                obtain ⟨g8, rfl⟩ : ∃ g8, ao8 = some ⟨g8, 0, none⟩ := by
                  obtain ⟨_, h | ⟨g, cap, cur, hv, _⟩⟩ := mine_own hM8 (by omega)
                  · simp at h
                  · cases hv; exact ⟨g, rfl⟩
                exact ⟨j + 1, seen ++ [x.b], some x.o, es5, clock + 1, by omega, by go_num, hM8B, hI5, bb8, hs8, Or.inr ⟨g8, 1, cap8, x.o, [], rfl, HXOL.out, rfl, by omega, by omega, by rw [List.append_nil, ← HXO.out]; exact mine_own hM8 (by omega)⟩, HGo.out⟩
              case measure => simp [intOf] <;> omega
            · have hm1 : (0 : Int) < (m1 : Int) := by omega
              obtain ⟨O1, HO1⟩ : ∃ V, Hid (V = o1.map (Value.int .u8)) := ⟨_, rfl⟩
              rw [← HO1.out] at hR
              have huJ := huI
              have hO1l : O1.length = 16 := by rw [HO1.out, List.length_map, ho1]
              have hiJ : (Try.prog.info? 57).map (·.size) = some O1.length := by rw [hO1l]; exact aggID.2
              by_cases h4 : x.o = o1
              · rw [packGo_same hE (by rw [← Hx.out]; exact hs) (by rw [← Hx.out]; exact hv2) (by rw [← Hx.out]; exact h4), ← Hx.out] at hGo
                have HGo := hid hGo
                have heO : Hid (∀ w, (Op.equalIn 10000 57 (.agg O1.toArray) (.agg XO.toArray)).run Try.prog w = .ok true w) := hid (fun w => by
                  rw [HXO.out, HO1.out, run_eq_id w o1 x.o ho1 hx.ol]
                  have : (o1 == x.o) = true := by simp [h4]
                  rw [this])
                have HX := hid hx
                have HXOL := hid hx.ol
                clear hE hs hdec hGo hv2 hxv hx h4
                go_wp2_with (first | (refine wl_updateID rfl _ _ _ rfl B clock es seen x.b hI hbl rfl HID.out rfl (HMp.out w4 bb4) HS.out ?_; intro w5 es5 hM5 hI5 hb5 hs5 hg5; have hX5 := hX4.grown hg5 (by intro e; injection e with e; omega); have c0 := (hX5.cell 0).trans hcv.out; have hk5 : ∀ g, B + 1 ≤ g → g < wr.heap.size → w5.heap[g]? = wr.heap[g]? := (fun g hg hl => (hg5.block g (Nat.lt_of_lt_of_le hl bb4.size) (fun e => by injection e with e; omega)).trans (bb4.block g hl)); have hR5 := owns_keep hR hk5; have bb5 : Below B w w5 := (hb.trans (bb4.mono (by omega))).grown hg5 (by omega) (fun k hk => by injection hk with hk; omega); have hs5' : B + 1 ≤ w5.heap.size := (by rw [hs5]; exact Nat.le_trans hszr bb4.size); clear hg5 hb5) | (refine wl_lookupID rfl _ _ rfl B clock es seen x.b hI hbl rfl HID.out (HMp.out w4 bb4) false HDEC.out ?_) | (refine wl_load rfl 57 _ rfl ⟨M, 2, none⟩ rfl XB (by rw [hXBl]; exact aggID) (fB.out _ _ hX4) ?_) | (refine wl_storeV rfl 107 _ _ rfl 107 M rfl CS rfl 130 aggEnv hCl ZE hG3 hZEl hC1 ?_; intro w4 hX4 hb4 hs4; have bb4 : Below wr.heap.size wr w4 := bb3.trans (hb4.mono hMr); clear hb4 hG3 bb3) | (refine wl_allocV rfl 107 rfl ZE hzE.out w2.heap.size rfl ?_; intro w3 hG3 hb3 hs3; obtain ⟨M, HMM⟩ : ∃ g, Hid (g = w2.heap.size) := ⟨_, rfl⟩; rw [← HMM.out] at hG3 hb3 hs3; rw [← HMM.out]; have hMr : wr.heap.size ≤ M := (by rw [HMM.out]; exact bb2.size); have hMB : B + 1 ≤ M := Nat.le_trans hszr hMr; have bb3 := bb2.trans (hb3.mono hMr); clear bb2 hb3) | (go_at_call 72; refine hrd.out.mono ?_; rintro r w2 ⟨rfl, bb2⟩))
                have hA5 : At w5.drew ⟨g1, 0, none⟩ O1 := at_left (owns_at hR5)
                refine wp_region_held_drew (S := (fun w' => BlkV 107 w' M CS ∧ At w' ⟨g1, 0, none⟩ O1)) (by kernel_rfl) ⟨(show BlkV 107 w5.drew M CS from hX5), hA5⟩ (fun hHeld => ?_)
                refine take_l (i := 0) (v := ?rv12) rfl (by kernel_rfl) (by kernel_rfl) (by kernel_rfl) (fun _ _ _ h => h) (Or.inl ⟨by rfl, ?rhy12⟩) (by assumption) ?rrest12
                case rhy12 => (intro w hSw; (try dsimp only at hSw); go_simp; (try with_reducible rfl))
                try simp only [Act.put, List.setIfInBounds_toArray, List.set_cons_zero, List.set_cons_succ]
                refine take_l (i := 1) (v := ?rv13) rfl (by kernel_rfl) (by kernel_rfl) (by kernel_rfl) (fun _ _ _ h => h) (Or.inl ⟨by rfl, ?rhy13⟩) (by assumption) ?rrest13
                case rhy13 => (intro w hSw; (try dsimp only at hSw); go_simp; (try with_reducible rfl))
                try simp only [Act.put, List.setIfInBounds_toArray, List.set_cons_zero, List.set_cons_succ]
                refine take_l (i := 2) (v := .bool true) rfl (by kernel_rfl) (by kernel_rfl) (by kernel_rfl) (fun _ _ _ h => h) (Or.inl ⟨by rfl, ?rhy14⟩) (by assumption) ?rrest14
                case rhy14 => (intro w hSw; (try dsimp only at hSw); go_simp; (try simp [hm1]))
                try simp only [Act.put, List.setIfInBounds_toArray, List.set_cons_zero, List.set_cons_succ]
                refine take_l (i := 3) (v := ?rv15) rfl (by kernel_rfl) (by kernel_rfl) (by kernel_rfl) (fun _ _ _ h => h) (Or.inl ⟨by rfl, ?rhy15⟩) (by assumption) ?rrest15
                case rhy15 => (intro w hSw; (try dsimp only at hSw); go_simp; (try with_reducible rfl))
                try simp only [Act.put, List.setIfInBounds_toArray, List.set_cons_zero, List.set_cons_succ]
                refine take_l (i := 4) (v := ?rv16) rfl (by kernel_rfl) (by kernel_rfl) (by kernel_rfl) (fun _ _ _ h => h) (Or.inl ⟨by rfl, ?rhy16⟩) (by assumption) ?rrest16
                case rhy16 => (intro w hSw; (try dsimp only at hSw); go_simp; (try with_reducible rfl))
                try simp only [Act.put, List.setIfInBounds_toArray, List.set_cons_zero, List.set_cons_succ]
                refine take_l (i := 5) (v := ?rv17) rfl (by kernel_rfl) (by kernel_rfl) (by kernel_rfl) (fun _ _ _ h => h) (Or.inl ⟨by rfl, ?rhy17⟩) (by assumption) ?rrest17
                case rhy17 => (intro w hSw; (try dsimp only at hSw); go_simp; (try with_reducible rfl))
                try simp only [Act.put, List.setIfInBounds_toArray, List.set_cons_zero, List.set_cons_succ]
                refine take_l (i := 6) (v := _) rfl (by kernel_rfl) (by kernel_rfl) (by kernel_rfl) (fun _ _ _ h => h) (yieldsIf_load_mid (by rfl) 57 _ rfl g1 0 rfl O1 _ (fun w hS => at_range hS.2) huJ rfl hiJ) (by assumption) ?_
                try simp only [Act.put, List.setIfInBounds_toArray, List.set_cons_zero, List.set_cons_succ]
                refine take_l (i := 7) (v := ?rv19) rfl (by kernel_rfl) (by kernel_rfl) (by kernel_rfl) (fun _ _ _ h => h) (Or.inl ⟨by rfl, ?rhy19⟩) (by assumption) ?rrest19
                case rhy19 => (intro w hSw; (try dsimp only at hSw); go_simp; (try with_reducible rfl))
                try simp only [Act.put, List.setIfInBounds_toArray, List.set_cons_zero, List.set_cons_succ]
                refine take_l (i := 8) (v := _) rfl (by kernel_rfl) (by kernel_rfl) (by kernel_rfl) (fun _ _ _ h => h) (yieldsIf_load_mid (by rfl) 57 _ rfl M 18 rfl XO _ (fun w hS => at_range (fO.out w _ hS.1)) huI rfl hiI) (by assumption) ?_
                try simp only [Act.put, List.setIfInBounds_toArray, List.set_cons_zero, List.set_cons_succ]
                refine take_l (i := 9) (v := _) rfl (by kernel_rfl) (by kernel_rfl) (by kernel_rfl) (fun _ _ _ h => h) (yieldsIf_neM (by rfl) 57 _ _ _ rfl O1.toArray XO.toArray rfl rfl true heO.out (by kernel_rfl)) (by assumption) ?_
                try simp only [Act.put, List.setIfInBounds_toArray, List.set_cons_zero, List.set_cons_succ]
                refine take_l (i := 10) (v := ?rv22) rfl (by kernel_rfl) (by kernel_rfl) (by kernel_rfl) (fun _ _ _ h => h) (Or.inl ⟨by rfl, ?rhy22⟩) (by assumption) ?rrest22
                case rhy22 => (intro w hSw; (try dsimp only at hSw); go_simp; (try with_reducible rfl))
                try simp only [Act.put, List.setIfInBounds_toArray, List.set_cons_zero, List.set_cons_succ]
                refine wpAnyH_done (by kernel_rfl) ?_ _
                clear hHeld
                obtain ⟨w6, HW6⟩ : ∃ y, Hid (y = w5.drew) := ⟨_, rfl⟩
                rw [← HW6.out]
                have hX6 : BlkV 107 w6 M CS := by rw [HW6.out]; exact hX5
                have hM6 : w6.heap[B]? = some (.map es5.toArray (clock + 1)) := by rw [HW6.out]; exact hM5
                have bb6 : Below B w w6 := by rw [HW6.out]; exact bb5.drew
                have hs6 : B + 1 ≤ w6.heap.size := by rw [HW6.out]; exact hs5'
                have hR6 := owns_keep (w' := w6) hR5 (fun g _ _ => by rw [HW6.out]; rfl)
                clear hX5 hM5 bb5 hs5' hs5 hR5 hA5 hk5
                go_wp2_with (first | (at_builtin; refine wl_appendS rfl _ _ 64 rfl 57 (.agg zID.toArray) 16 16 Try.underlying64 infoID (by simp [zID, Value.cells]) (by decide) (B + 1) (.slice (some ⟨g1, 0, none⟩) m1 cap1) m1 (O1 ++ rest1) rfl (Or.inl hR7) (some ⟨w6.heap.size, 0, none⟩) 1 1 rfl (fun h => by cases h) XO hXOl (at_row hgl hA7) hXO1 (by unfold maxLen; omega) (by omega) (by omega) (m1 + 1) rfl ?_; intro ao8 cap8 w8 row8 hc8 hM8 hr8 hg8 hw8; have hM8B : w8.heap[B]? = some (.map es5.toArray (clock + 1)) := (hg8.block B (by omega) (fun e => by have := (hw8 _ e.symm).1; omega)).trans hM7; have bb8 := bb7.grown hg8 (by omega) (fun k hk => by have := (hw8 _ hk).1; omega); have hs8 : B + 1 ≤ w8.heap.size := Nat.le_trans (by omega) hg8.size) | (refine wl_slice1 rfl 64 57 _ rfl Try.underlying64 16 zID (by kernel_rfl) (by simp [zID]) (by decide) (by decide) XO rfl hXOl w6.heap.size rfl ?_; intro w7 hG7 hb7 hs7; have hX7 := hX6.below hb7 hX6.lt; have hR7 := owns_keep hR6 (fun g hg hl => hb7.block g hl); have bb7 := bb6.trans (hb7.mono (by omega : B ≤ _)); have hM7 : w7.heap[B]? = some (.map es5.toArray (clock + 1)) := (hb7.block B (by omega)).trans hM6; have hA7 := hG7.at0; have hgl := hG7.lt) | (refine wl_load rfl 57 _ rfl ⟨M, 18, none⟩ rfl XO (by rw [hXOl]; exact aggID) (fO.out _ _ hX6) ?_))
                go_roundw
                case rel =>
                  obtain ⟨g8, rfl⟩ : ∃ g8, ao8 = some ⟨g8, 0, none⟩ := by
                    obtain ⟨_, h | ⟨g, cap, cur, hv, _⟩⟩ := mine_own hM8 (by omega)
                    · simp at h
                    · cases hv; exact ⟨g, rfl⟩
                  exact ⟨j + 1, seen ++ [x.b], some o1, es5, clock + 1, by omega, by go_num, hM8B, hI5, bb8, hs8, Or.inr ⟨g8, (m1 + 1), cap8, o1, rest1 ++ XO, rfl, ho1, rfl, by omega, by omega, by rw [← List.append_assoc, ← HO1.out]; exact mine_own hM8 (by omega)⟩, HGo.out⟩
                case measure => simp [intOf] <;> omega
              · rw [packGo_unlike hE (by rw [← Hx.out]; exact hs) (by rw [← Hx.out]; exact hv2) (by rw [← Hx.out]; exact h4)] at hGo
                have HGo := hid hGo
                have heO : Hid (∀ w, (Op.equalIn 10000 57 (.agg O1.toArray) (.agg XO.toArray)).run Try.prog w = .ok false w) := hid (fun w => by
                  rw [HXO.out, HO1.out, run_eq_id w o1 x.o ho1 hx.ol]
                  have : (o1 == x.o) = false := beq_eq_false_iff_ne.2 (fun e => h4 e.symm)
                  rw [this])
                have HX := hid hx
                have HXOL := hid hx.ol
                clear hE hs hdec hGo hv2 hxv hx h4
                go_wp2_with (first | (refine wl_updateID rfl _ _ _ rfl B clock es seen x.b hI hbl rfl HID.out rfl (HMp.out w4 bb4) HS.out ?_; intro w5 es5 hM5 hI5 hb5 hs5 hg5; have hX5 := hX4.grown hg5 (by intro e; injection e with e; omega); have c0 := (hX5.cell 0).trans hcv.out; have hk5 : ∀ g, B + 1 ≤ g → g < wr.heap.size → w5.heap[g]? = wr.heap[g]? := (fun g hg hl => (hg5.block g (Nat.lt_of_lt_of_le hl bb4.size) (fun e => by injection e with e; omega)).trans (bb4.block g hl)); have hR5 := owns_keep hR hk5; have bb5 : Below B w w5 := (hb.trans (bb4.mono (by omega))).grown hg5 (by omega) (fun k hk => by injection hk with hk; omega); have hs5' : B + 1 ≤ w5.heap.size := (by rw [hs5]; exact Nat.le_trans hszr bb4.size); clear hg5 hb5) | (refine wl_lookupID rfl _ _ rfl B clock es seen x.b hI hbl rfl HID.out (HMp.out w4 bb4) false HDEC.out ?_) | (refine wl_load rfl 57 _ rfl ⟨M, 2, none⟩ rfl XB (by rw [hXBl]; exact aggID) (fB.out _ _ hX4) ?_) | (refine wl_storeV rfl 107 _ _ rfl 107 M rfl CS rfl 130 aggEnv hCl ZE hG3 hZEl hC1 ?_; intro w4 hX4 hb4 hs4; have bb4 : Below wr.heap.size wr w4 := bb3.trans (hb4.mono hMr); clear hb4 hG3 bb3) | (refine wl_allocV rfl 107 rfl ZE hzE.out w2.heap.size rfl ?_; intro w3 hG3 hb3 hs3; obtain ⟨M, HMM⟩ : ∃ g, Hid (g = w2.heap.size) := ⟨_, rfl⟩; rw [← HMM.out] at hG3 hb3 hs3; rw [← HMM.out]; have hMr : wr.heap.size ≤ M := (by rw [HMM.out]; exact bb2.size); have hMB : B + 1 ≤ M := Nat.le_trans hszr hMr; have bb3 := bb2.trans (hb3.mono hMr); clear bb2 hb3) | (go_at_call 72; refine hrd.out.mono ?_; rintro r w2 ⟨rfl, bb2⟩))
                have hA5 : At w5.drew ⟨g1, 0, none⟩ O1 := at_left (owns_at hR5)
                refine wp_region_held_drew (S := (fun w' => BlkV 107 w' M CS ∧ At w' ⟨g1, 0, none⟩ O1)) (by kernel_rfl) ⟨(show BlkV 107 w5.drew M CS from hX5), hA5⟩ (fun hHeld => ?_)
                refine take_l (i := 0) (v := ?rv23) rfl (by kernel_rfl) (by kernel_rfl) (by kernel_rfl) (fun _ _ _ h => h) (Or.inl ⟨by rfl, ?rhy23⟩) (by assumption) ?rrest23
                case rhy23 => (intro w hSw; (try dsimp only at hSw); go_simp; (try with_reducible rfl))
                try simp only [Act.put, List.setIfInBounds_toArray, List.set_cons_zero, List.set_cons_succ]
                refine take_l (i := 1) (v := ?rv24) rfl (by kernel_rfl) (by kernel_rfl) (by kernel_rfl) (fun _ _ _ h => h) (Or.inl ⟨by rfl, ?rhy24⟩) (by assumption) ?rrest24
                case rhy24 => (intro w hSw; (try dsimp only at hSw); go_simp; (try with_reducible rfl))
                try simp only [Act.put, List.setIfInBounds_toArray, List.set_cons_zero, List.set_cons_succ]
                refine take_l (i := 2) (v := .bool true) rfl (by kernel_rfl) (by kernel_rfl) (by kernel_rfl) (fun _ _ _ h => h) (Or.inl ⟨by rfl, ?rhy25⟩) (by assumption) ?rrest25
                case rhy25 => (intro w hSw; (try dsimp only at hSw); go_simp; (try simp [hm1]))
                try simp only [Act.put, List.setIfInBounds_toArray, List.set_cons_zero, List.set_cons_succ]
                refine take_l (i := 3) (v := ?rv26) rfl (by kernel_rfl) (by kernel_rfl) (by kernel_rfl) (fun _ _ _ h => h) (Or.inl ⟨by rfl, ?rhy26⟩) (by assumption) ?rrest26
                case rhy26 => (intro w hSw; (try dsimp only at hSw); go_simp; (try with_reducible rfl))
                try simp only [Act.put, List.setIfInBounds_toArray, List.set_cons_zero, List.set_cons_succ]
                refine take_l (i := 4) (v := ?rv27) rfl (by kernel_rfl) (by kernel_rfl) (by kernel_rfl) (fun _ _ _ h => h) (Or.inl ⟨by rfl, ?rhy27⟩) (by assumption) ?rrest27
                case rhy27 => (intro w hSw; (try dsimp only at hSw); go_simp; (try with_reducible rfl))
                try simp only [Act.put, List.setIfInBounds_toArray, List.set_cons_zero, List.set_cons_succ]
                refine take_l (i := 5) (v := ?rv28) rfl (by kernel_rfl) (by kernel_rfl) (by kernel_rfl) (fun _ _ _ h => h) (Or.inl ⟨by rfl, ?rhy28⟩) (by assumption) ?rrest28
                case rhy28 => (intro w hSw; (try dsimp only at hSw); go_simp; (try with_reducible rfl))
                try simp only [Act.put, List.setIfInBounds_toArray, List.set_cons_zero, List.set_cons_succ]
                refine take_l (i := 6) (v := _) rfl (by kernel_rfl) (by kernel_rfl) (by kernel_rfl) (fun _ _ _ h => h) (yieldsIf_load_mid (by rfl) 57 _ rfl g1 0 rfl O1 _ (fun w hS => at_range hS.2) huJ rfl hiJ) (by assumption) ?_
                try simp only [Act.put, List.setIfInBounds_toArray, List.set_cons_zero, List.set_cons_succ]
                refine take_l (i := 7) (v := ?rv30) rfl (by kernel_rfl) (by kernel_rfl) (by kernel_rfl) (fun _ _ _ h => h) (Or.inl ⟨by rfl, ?rhy30⟩) (by assumption) ?rrest30
                case rhy30 => (intro w hSw; (try dsimp only at hSw); go_simp; (try with_reducible rfl))
                try simp only [Act.put, List.setIfInBounds_toArray, List.set_cons_zero, List.set_cons_succ]
                refine take_l (i := 8) (v := _) rfl (by kernel_rfl) (by kernel_rfl) (by kernel_rfl) (fun _ _ _ h => h) (yieldsIf_load_mid (by rfl) 57 _ rfl M 18 rfl XO _ (fun w hS => at_range (fO.out w _ hS.1)) huI rfl hiI) (by assumption) ?_
                try simp only [Act.put, List.setIfInBounds_toArray, List.set_cons_zero, List.set_cons_succ]
                refine take_l (i := 9) (v := _) rfl (by kernel_rfl) (by kernel_rfl) (by kernel_rfl) (fun _ _ _ h => h) (yieldsIf_neM (by rfl) 57 _ _ _ rfl O1.toArray XO.toArray rfl rfl false heO.out (by kernel_rfl)) (by assumption) ?_
                try simp only [Act.put, List.setIfInBounds_toArray, List.set_cons_zero, List.set_cons_succ]
                refine take_l (i := 10) (v := ?rv33) rfl (by kernel_rfl) (by kernel_rfl) (by kernel_rfl) (fun _ _ _ h => h) (Or.inl ⟨by rfl, ?rhy33⟩) (by assumption) ?rrest33
                case rhy33 => (intro w hSw; (try dsimp only at hSw); go_simp; (try with_reducible rfl))
                try simp only [Act.put, List.setIfInBounds_toArray, List.set_cons_zero, List.set_cons_succ]
                refine wpAnyH_done (by kernel_rfl) ?_ _
                clear hHeld
                go_wp2
                go_ret
                exact ⟨by rw [← HGo.out]; rfl, by rw [← HB.out]; exact bb5.drew⟩
          · have hv1 : x.v = 1 := hxv.resolve_right hv2
            rw [packGo_one hE (by rw [← Hx.out]; exact hs) (by rw [← Hx.out]; exact hv2), ← Hx.out] at hGo
            rw [hv1] at hcv
            have HGo := hid hGo
            clear hE hs hdec hGo hv1 hv2 hxv
            go_wp2_with (first | (refine wl_updateID rfl _ _ _ rfl B clock es seen x.b hI hbl rfl HID.out rfl (HMp.out w4 bb4) HS.out ?_; intro w5 es5 hM5 hI5 hb5 hs5 hg5; have hX5 := hX4.grown hg5 (by intro e; injection e with e; omega); have c0 := (hX5.cell 0).trans hcv.out; have hk5 : ∀ g, B + 1 ≤ g → g < wr.heap.size → w5.heap[g]? = wr.heap[g]? := (fun g hg hl => (hg5.block g (Nat.lt_of_lt_of_le hl bb4.size) (fun e => by injection e with e; omega)).trans (bb4.block g hl)); have hF5 := hF.keep (Nat.le_succ j) hk5; have bb5 : Below B w w5 := (hb.trans (bb4.mono (by omega))).grown hg5 (by omega) (fun k hk => by injection hk with hk; omega); have hs5' : B + 1 ≤ w5.heap.size := (by rw [hs5]; exact Nat.le_trans hszr bb4.size); clear hg5 hb5) | (refine wl_lookupID rfl _ _ rfl B clock es seen x.b hI hbl rfl HID.out (HMp.out w4 bb4) false HDEC.out ?_) | (refine wl_load rfl 57 _ rfl ⟨M, 2, none⟩ rfl XB (by rw [hXBl]; exact aggID) (fB.out _ _ hX4) ?_) | (refine wl_storeV rfl 107 _ _ rfl 107 M rfl CS rfl 130 aggEnv hCl ZE hG3 hZEl hC1 ?_; intro w4 hX4 hb4 hs4; have bb4 : Below wr.heap.size wr w4 := bb3.trans (hb4.mono hMr); clear hb4 hG3 bb3) | (refine wl_allocV rfl 107 rfl ZE hzE.out w2.heap.size rfl ?_; intro w3 hG3 hb3 hs3; obtain ⟨M, HMM⟩ : ∃ g, Hid (g = w2.heap.size) := ⟨_, rfl⟩; rw [← HMM.out] at hG3 hb3 hs3; rw [← HMM.out]; have hMr : wr.heap.size ≤ M := (by rw [HMM.out]; exact bb2.size); have hMB : B + 1 ≤ M := Nat.le_trans hszr hMr; have bb3 := bb2.trans (hb3.mono hMr); clear bb2 hb3) | (go_at_call 72; refine hrd.out.mono ?_; rintro r w2 ⟨rfl, bb2⟩))
            go_roundw
            case rel => exact ⟨j + 1, seen ++ [x.b], f, es5, clock + 1, by omega, by go_num, hM5, hI5, bb5, hs5', hF5, HGo.out⟩
            case measure => simp [intOf] <;> omega
      · rw [packGo_err hE] at hGo
        rw [readV_err hGo (by rw [← hGo]; exact hE), ← HZE.out] at hrd
        have hV0 : ¬ V = 0 := by rw [← hGo]; exact hE
        clear hGo hE hF hPx
        go_wp2_with (first | (refine wl_storeV rfl 107 _ _ rfl 107 M rfl ZE rfl 130 aggEnv hZEl ZE hG3 hZEl hZE1 ?_; intro w4 hX4 hb4 hs4; have bb4 := bb3.trans (hb4.mono (by omega : B + 1 ≤ _)); clear hb4 hG3 bb3) | (refine wl_allocV rfl 107 rfl ZE hzE.out w2.heap.size rfl ?_; intro w3 hG3 hb3 hs3; obtain ⟨M, HM⟩ : ∃ g, Hid (g = w2.heap.size) := ⟨_, rfl⟩; rw [← HM.out] at hG3 hb3 hs3; rw [← HM.out]; have hMB : B + 1 ≤ M := (by rw [HM.out]; exact hs2); have bb3 := bb2.trans (hb3.mono (by omega : B + 1 ≤ _)); clear bb2 hb3) | (go_at_call 72; refine hrd.out.mono ?_; rintro r w2 ⟨rfl, bb2'⟩; have bb2 : Below (B + 1) wr w2 := bb2'.mono hszr; have hs2 : B + 1 ≤ w2.heap.size := Nat.le_trans hszr bb2'.size; clear bb2'))
        go_ret
        exact ⟨rfl, by rw [← HB.out]; exact hb.trans (bb4.mono (by omega))⟩
    · obtain rfl : j = n := by omega
      have hV0 : V = 0 := by rw [← hGo, List.drop_of_length_le (by rw [List.length_map, ← HN.out]; exact Nat.le_refl _)]; rfl
      clear hGo hF
      go_wp2
      go_ret
      exact ⟨by rw [hV0]; rfl, by rw [← HB.out]; exact hb⟩
set_option maxRecDepth 100000 in
set_option maxHeartbeats 4000000 in
theorem PackError_any (po : Option Addr) (cap n : Nat) (ps : List Pt) (w : World) (hn : n = ps.length) (hrow : RowV w po (ps.map Pt.v)) (hps : ∀ x ∈ ps, 4 ≤ x.l.length → x.Ok w) :
    Calls Try.prog 80 #[.slice po n cap] w fun e w' => e = .returned (.int .i64 (packE (ps.map Pt.l))) ∧ Below w.heap.size w w' := by
  by_cases h0 : n = 0
  · have hE : packE (ps.map Pt.l) = 10 := by unfold packE; rw [if_pos (by rw [List.length_map]; omega)]
    rw [hE]
    subst h0
    clear hE hn hrow hps
    go_enter Try.func80, Try.ntmps80
    go_wp2
    go_ret
    exact ⟨rfl, Below.refl _ _⟩
  · by_cases h1 : n ≤ 100
    · have hE : packE (ps.map Pt.l) = packGo (ps.map Pt.l) [] none := by unfold packE; rw [if_neg (by rw [List.length_map]; omega), if_neg (by rw [List.length_map]; omega)]
      rw [hE]
      exact PackError_mid po cap n ps w hn (by omega) h1 hrow hps
    · have hE : packE (ps.map Pt.l) = 5 := by unfold packE; rw [if_neg (by rw [List.length_map]; omega), if_pos (by rw [List.length_map]; omega)]
      rw [hE]
      have hn0 : ¬ (n : Int) = 0 := by omega
      have hn1 : (100 : Int) < (n : Int) := by omega
      clear hE hn hrow hps h0 h1
      go_enter Try.func80, Try.ntmps80
      go_wp2
      go_ret
      exact ⟨rfl, Below.refl _ _⟩
end Go.Proofs.Ytbljihhelladbaa.wr
