/-
  Contract of share.mended. Conditions: numbers from 0 to 256, at most 64 unknowns.
-/
import Derived.Test.YtbjmadcbhkeenaaSMkX
namespace Go.Proofs.Ytbjmadcbhkeenaa.gs
open Go.RowKit Go.Proofs.Ytbjmadcbhkeenaa.Fld Go.Proofs.Ytbjmadcbhkeenaa.sh Go.Proofs.Ytbjmadcbhkeenaa.shr Go.Proofs.Ytbjmadcbhkeenaa.slInt
open Go.Proofs.Ytbjmadcbhkeenaa.wr (step_lit step_appendS)
set_option linter.unusedSimpArgs false
set_option linter.unusedVariables false
set_option pp.maxSteps 6000
def MendedPost (need wr : Nat) (xs ys : List Int) (w : World) (e : Ending) (w' : World) : Prop := Below w.heap.size w w' ∧ ((mendL need wr xs ys = none ∧ ∃ v, e = .returned (.tuple #[v, .bool false])) ∨
  ∃ p g c n, mendL need wr xs ys = some p ∧ e = .returned (.tuple #[.slice (some ⟨g, 0, none⟩) n c, .bool true]) ∧ n = p.length ∧ n ≤ c ∧ w.heap.size ≤ g ∧ RowB 3 w' g (p.map (Value.int .i64)))
theorem div_res {a b : List Int} {w w' : World} {e : Ending} (h : (divL a b = none ∧ ∃ v, e = .returned (.tuple #[v, .bool false])) ∨
  ∃ p g c n, divL a b = some p ∧ e = .returned (.tuple #[.slice (some ⟨g, 0, none⟩) n c, .bool true]) ∧ n = p.length ∧ n ≤ c ∧ w.heap.size ≤ g ∧ RowB 3 w' g (p.map (Value.int .i64))) :
    ∃ vd bd, e = .returned (.tuple #[vd, .bool bd]) ∧ Hid ((divL a b = none ∧ bd = false) ∨ ∃ p g c n, divL a b = some p ∧ vd = .slice (some ⟨g, 0, none⟩) n c ∧ bd = true ∧ n = p.length ∧ n ≤ c ∧ w.heap.size ≤ g ∧ RowB 3 w' g (p.map (Value.int .i64))) := by
  rcases h with ⟨h1, v, h2⟩ | ⟨p, g, c, n, h1, h2, h3⟩
  · exact ⟨v, false, h2, hid (Or.inl ⟨h1, rfl⟩)⟩
  · exact ⟨_, true, h2, hid (Or.inr ⟨p, g, c, n, h1, rfl, rfl, h3⟩)⟩
set_option maxRecDepth 100000 in
set_option maxHeartbeats 1000000 in
theorem mended_any (need wg n cx cy : Nat) (xs ys : List Int) (ax ay : Option Addr) (w : World) (hnx : n = xs.length) (hny : n = ys.length) (hn1 : 1 ≤ need) (hn : need + 2 * wg ≤ n) (hn2 : n ≤ 64) (rx : Rng xs) (ry : Rng ys) (hX : RowI .i64 w ax xs) (hY : RowI .i64 w ay ys) :
    Calls Try.prog 31 #[.slice ax n cx, .slice ay n cy, .int .i64 need, .int .i64 wg] w (MendedPost need wg xs ys w) := by
  obtain ⟨B, HB⟩ : ∃ B, Hid (B = w.heap.size) := ⟨_, rfl⟩
  have hsz : w.heap.size = B := HB.out.symm
  obtain ⟨gx, ox, rfl, hgx, hcx⟩ := hX.resolve_left (by intro e; rw [e] at hnx; simp at hnx; omega)
  obtain ⟨gy, oy, rfl, hgy, hcy⟩ := hY.resolve_left (by intro e; rw [e] at hny; simp at hny; omega)
  rw [hsz] at hgx hgy
  have HNX := hid hnx
  have HNY := hid hny
  obtain ⟨u, HU⟩ : ∃ u, Hid (u = need + wg + wg) := ⟨_, rfl⟩
  obtain ⟨q, HQ⟩ : ∃ q, Hid (q = need + wg) := ⟨_, rfl⟩
  have huI : (need : Int) + 2 * (wg : Int) = (u : Int) := by have := HU.out; omega
  have hqI : (need : Int) + (wg : Int) = (q : Int) := by have := HQ.out; omega
  have hu : q + wg = u := by rw [HU.out, HQ.out]
  have hu64 : u ≤ 64 := by have := HU.out; omega
  clear hX hY hnx hny
  go_enter Try.func31, Try.ntmps31
  go_wp2_with fail
  go_loopw [10, 18] (fun rv i wr => ∃ (k : Nat) (rs : List Rw) (pa : Option Addr) (pc : Nat), k ≤ n ∧ i = .int .i64 k ∧ rv = .slice pa k pc ∧ Hid (rs.map (·.l) = (bwM q wg xs ys).take k) ∧ Hid (rs.length = k) ∧ RowsOk B wr.heap.size wr u rs ∧ wr.ownsRow B 24 1 (.slice pa k pc) k (rs.map (Rw.v u)) ∧ Below B w wr) (fun _ i _ => n - (intOf i).toNat)
  case atStart => exact ⟨0, [], none, 0, by omega, rfl, rfl, rfl, rfl, RowsOk.nil _ _ _ _, World.ownsRow_nil _ _ _ _, Below.refl _ _⟩
  case round =>
    obtain ⟨k, rs, pa, pc, hk, rfl, rfl, HM, HL, hO, hP, hb⟩ := hrel
    rename World => wo
    by_cases hkn : k < n
    · have hkI : (k : Int) < (n : Int) := by omega
      have hk0 : (0 : Int) ≤ (k : Int) := by omega
      have hdk : decide ((k : Int) < (n : Int)) = true := decide_eq_true hkI
      obtain ⟨x, HX⟩ : ∃ x, Hid (x = xs.getD k 0) := ⟨_, rfl⟩
      obtain ⟨y, HY⟩ : ∃ y, Hid (y = ys.getD k 0) := ⟨_, rfl⟩
      have bx : 0 ≤ x ∧ x ≤ 256 := by rw [HX.out]; exact rx.getD k
      have by' : 0 ≤ y ∧ y ≤ 256 := by rw [HY.out]; exact ry.getD k
      have cx0 : ∀ z, Below B w z → z.cell? ⟨gx, ox + k, none⟩ = some (.int .i64 x) := fun z hz => (hz.cell (p := ⟨gx, ox + k, none⟩) hgx).trans (by rw [HX.out]; exact hcx k (by rw [← HNX.out]; exact hkn))
      have cy0 : ∀ z, Below B w z → z.cell? ⟨gy, oy + k, none⟩ = some (.int .i64 y) := fun z hz => (hz.cell (p := ⟨gy, oy + k, none⟩) hgy).trans (by rw [HY.out]; exact hcy k (by rw [← HNY.out]; exact hkn))
      have HCX := hid cx0
      have HCY := hid cy0
      obtain ⟨Bi, HBi⟩ : ∃ Bi, Hid (Bi = wo.heap.size) := ⟨_, rfl⟩
      have hBi : B ≤ Bi := by rw [HBi.out, ← hsz]; exact hb.size
      have hu1 : (u : Int) + 1 ≤ 65 := by omega
      go_wp2_with (refine wl_makeC rfl _ _ rfl (u + 1) (by omega) rfl (by go_num) Bi HBi.out.symm ?_; intro w1 hM1 hb1 hs1)
      go_loopw [12, 13, 30] (fun rv p i wk => ∃ (j : Nat) (ra : Option Addr) (rc : Nat) (P : Int), j ≤ q ∧ i = .int .i64 j ∧ p = .int .i64 P ∧ Hid (P = pw x j) ∧ rv = .slice ra j rc ∧ Mine wk Bi 3 1 (.slice ra j rc) j ((pwL x j).map (Value.int .i64)) ∧ Below Bi wo wk) (fun _ _ i _ => q - (intOf i).toNat)
      case atStart => exact ⟨0, _, _, 1, by omega, rfl, rfl, rfl, rfl, hM1, by have h := hb1; rwa [HBi.out] at h ⊢⟩
      case round =>
        clear hM1 hb1
        obtain ⟨j, ra, rc, P, hj, rfl, rfl, HP, rfl, hR1, hbk⟩ := hrel
        rename World => wk
        have hsk : Bi ≤ wk.heap.size := by rw [HBi.out]; exact hbk.size
        have hbw : Below B w wk := hb.trans (hbk.mono hBi)
        have bP : 0 ≤ P ∧ P ≤ 256 := by rw [HP.out]; exact pw_rng x j
        by_cases hjq : j < q
        · have hjI : (j : Int) < (q : Int) := by omega
          have hj0 : (0 : Int) ≤ (j : Int) := by omega
          have hdj : decide ((j : Int) < (q : Int)) = true := decide_eq_true hjI
          have hpx : 0 ≤ P * x ∧ P * x ≤ 65536 := mul_bd bP bx
          have hw1 : RowKit.wrap64 (P * x) = P * x := by unfold RowKit.wrap64; omega
          have ht1 : (P * x).tmod 257 = P * x % 257 := Int.tmod_eq_emod_of_nonneg hpx.1
          have HN : Hid (P * x % 257 = pw x (j + 1)) := hid (by rw [pw, ← HP.out])
          have HV : Hid ((pwL x j).map (Value.int .i64) ++ [.int .i64 P] = (pwL x (j + 1)).map (Value.int .i64)) := hid (by rw [pwL_succ, List.map_append, ← HP.out]; rfl)
          go_wp2_with (at_builtin; refine wl_appendS rfl _ _ 24 rfl 3 (.int .i64 0) 1 8 Try.underlying24 slInt.info rfl (by decide) Bi (.slice ra j rc) j _ rfl (hR1.belowAll ((Below.refl _ _).alloc (Nat.le_refl _) _)) (some ⟨wk.heap.size, 0, none⟩) 1 1 rfl (fun h => by cases h) [.int .i64 P] rfl (RowI.v (l := [P]) (BlkI.new .i64 3 wk [P]).row) (by simp [Value.oneCell']) (by unfold maxLen; omega) (by omega) (by simp; omega) (j + 1) rfl ?_; intro rb rd w5 row hcap hM hR hg hrow; have hbz : Below Bi wo w5 := (hbk.alloc (by omega) _).grown hg (by simp; omega) (fun k hk => by have := (hrow k hk).1; omega); clear hg hrow hR; have c5 := HCX.out _ (hb.trans (hbz.mono hBi)))
          go_roundw
          case rel =>
            (try simp only [hw1, ht1])
            rw [HV.out] at hM
            exact ⟨j + 1, rb, rd, _, by omega, by go_num, rfl, HN, rfl, hM, hbz⟩
          case measure => simp [intOf] <;> omega
        · obtain rfl : q = j := by omega
          go_wp2_with fail
          go_loopw [12, 13, 45] (fun rv p i wk => ∃ (j : Nat) (ra : Option Addr) (rc : Nat) (P : Int), j ≤ wg ∧ i = .int .i64 j ∧ p = .int .i64 P ∧ Hid (P = pw x j) ∧ rv = .slice ra (q + j) rc ∧ Mine wk Bi 3 1 (.slice ra (q + j) rc) (q + j) ((pwL x q ++ npL x y j).map (Value.int .i64)) ∧ Below Bi wo wk) (fun _ _ i _ => wg - (intOf i).toNat)
          case atStart => exact ⟨0, ra, rc, 1, by omega, rfl, rfl, rfl, rfl, by unfold npL; simpa using hR1, hbk⟩
          case round =>
            clear hR1 hbk hsk hbw HP bP
            obtain ⟨j, ra, rc, P, hj, rfl, rfl, HP, rfl, hR1, hbk⟩ := hrel
            rename World => wk
            have hsk : Bi ≤ wk.heap.size := by rw [HBi.out]; exact hbk.size
            have hbw : Below B w wk := hb.trans (hbk.mono hBi)
            have bP : 0 ≤ P ∧ P ≤ 256 := by rw [HP.out]; exact pw_rng x j
            by_cases hjq : j < wg
            · have hjI : (j : Int) < (wg : Int) := by omega
              have hj0 : (0 : Int) ≤ (j : Int) := by omega
              have hdj : decide ((j : Int) < (wg : Int)) = true := decide_eq_true hjI
              have hpx : 0 ≤ P * x ∧ P * x ≤ 65536 := mul_bd bP bx
              have hw1 : RowKit.wrap64 (P * x) = P * x := by unfold RowKit.wrap64; omega
              have ht1 : (P * x).tmod 257 = P * x % 257 := Int.tmod_eq_emod_of_nonneg hpx.1
              have HN : Hid (P * x % 257 = pw x (j + 1)) := hid (by rw [pw, ← HP.out])
              obtain ⟨g, HGG⟩ : ∃ g, Hid (g = 257 - y) := ⟨_, rfl⟩
              have bg : 1 ≤ g ∧ g ≤ 257 := by rw [HGG.out]; omega
              have hgp : 0 ≤ g * P ∧ g * P ≤ 65792 := ⟨Int.mul_nonneg (by omega) bP.1, by have := Int.mul_le_mul (a := g) (c := 257) (b := P) (d := 256) (by omega) bP.2 bP.1 (by omega); omega⟩
              have hw0 : RowKit.wrap64 (257 - y) = g := by rw [HGG.out]; unfold RowKit.wrap64; omega
              have hw2 : RowKit.wrap64 (g * P) = g * P := by unfold RowKit.wrap64; omega
              have hw2' : RowKit.wrap64 ((257 - y) * P) = g * P := by rw [← HGG.out]; exact hw2
              have ht2 : (g * P).tmod 257 = g * P % 257 := Int.tmod_eq_emod_of_nonneg hgp.1
              have cyk := HCY.out wk hbw
              have HV : Hid ((pwL x q ++ npL x y j).map (Value.int .i64) ++ [.int .i64 (g * P % 257)] = (pwL x q ++ npL x y (j + 1)).map (Value.int .i64)) := hid (by simp [npL_succ, ← HP.out, ← HGG.out])
              go_wp2_with (at_builtin; refine wl_appendS rfl _ _ 24 rfl 3 (.int .i64 0) 1 8 Try.underlying24 slInt.info rfl (by decide) Bi (.slice ra (q + j) rc) (q + j) _ rfl (hR1.belowAll ((Below.refl _ _).alloc (Nat.le_refl _) _)) (some ⟨wk.heap.size, 0, none⟩) 1 1 rfl (fun h => by cases h) [.int .i64 (g * P % 257)] rfl (RowI.v (l := [(g * P % 257)]) (BlkI.new .i64 3 wk [(g * P % 257)]).row) (by simp [Value.oneCell']) (by unfold maxLen; omega) (by omega) (by simp; omega) ((q + j) + 1) rfl ?_; intro rb rd w5 row hcap hM hR hg hrow; have hbz : Below Bi wo w5 := (hbk.alloc (by omega) _).grown hg (by simp; omega) (fun k hk => by have := (hrow k hk).1; omega); clear hg hrow hR; have c5 := HCX.out _ (hb.trans (hbz.mono hBi)))
              go_roundw
              case rel =>
                (try simp only [hw0, hw1, hw2, ht1, ht2])
                rw [HV.out] at hM
                exact ⟨j + 1, rb, rd, _, by omega, by go_num, rfl, HN, rfl, hM, hbz⟩
              case measure => simp [intOf] <;> omega
            · obtain rfl : wg = j := by omega
              have hyp : 0 ≤ y * P ∧ y * P ≤ 65536 := mul_bd by' bP
              have hwy : RowKit.wrap64 (y * P) = y * P := by unfold RowKit.wrap64; omega
              have hty : (y * P).tmod 257 = y * P % 257 := Int.tmod_eq_emod_of_nonneg hyp.1
              have cyk := HCY.out wk hbw
              have HV : Hid ((pwL x q ++ npL x y wg).map (Value.int .i64) ++ [.int .i64 (y * P % 257)] = (bwRow q wg x y).map (Value.int .i64)) := hid (by simp [bwRow, ← HP.out])
              go_wp2_with (first | (at_builtin; refine wl_appendS rfl _ _ 80 rfl 24 (.slice none 0 0) 1 24 Try.underlying80 infoRow rfl (by decide) B (.slice pa k pc) k _ rfl (Or.inl hP5) (some ⟨w5.heap.size, 0, none⟩) 1 1 rfl (fun h => by cases h) [.slice (some ⟨b, 0, none⟩) (u + 1) rd] rfl (RowB.row (cs := [.slice (some ⟨b, 0, none⟩) (u + 1) rd]) ⟨[.slice (some ⟨b, 0, none⟩) (u + 1) rd], BlkV.new 24 w5 [.slice (some ⟨b, 0, none⟩) (u + 1) rd] rfl, rfl⟩) (by simp [Value.oneCell']) (by unfold maxLen; omega) (by omega) (by simp; omega) (k + 1) rfl ?_; intro pb pd w7 row7 hcap7 hM7 hR7 hg7 hrow7) | (at_builtin; refine wl_appendS rfl _ _ 24 rfl 3 (.int .i64 0) 1 8 Try.underlying24 slInt.info rfl (by decide) Bi (.slice ra (q + wg) rc) (q + wg) _ rfl (hR1.belowAll ((Below.refl _ _).alloc (Nat.le_refl _) _)) (some ⟨wk.heap.size, 0, none⟩) 1 1 rfl (fun h => by cases h) [.int .i64 (y * P % 257)] rfl (RowI.v (l := [(y * P % 257)]) (BlkI.new .i64 3 wk [(y * P % 257)]).row) (by simp [Value.oneCell']) (by unfold maxLen; omega) (by omega) (by simp; omega) (u + 1) (by omega) ?_; intro rb rd w5 row hcap hM hR hg hrow; have hbz : Below Bi wo w5 := (hbk.alloc (by omega) _).grown hg (by simp; omega) (fun k hk => by have := (hrow k hk).1; omega); rw [HV.out] at hM; obtain ⟨b, rfl, hbb, hrd, hRB⟩ := rowOf hM (by omega); have hsz5 : wo.heap.size ≤ w5.heap.size := hbz.size; have hP5 : (w5.alloc (.cells #[.slice (some ⟨b, 0, none⟩) (u + 1) rd] 24)).ownsRow B 24 1 (.slice pa k pc) k (rs.map (Rw.v u)) := ownsRow_below hP Bi HBi.out.symm (hbz.alloc (by have := HBi.out; omega) _); have hs5 : B ≤ w5.heap.size := (by have := (hb.trans (hbz.mono hBi)).size; omega); clear hg hrow hR hM))
              have hO5 : RowsOk B Bi w5 u rs := (HBi.out ▸ hO : RowsOk B Bi wo u rs).below hbz
              have hlB := HL.out
              obtain ⟨LN, HLN⟩ : ∃ L, Hid (L = bwRow q wg x y) := ⟨_, rfl⟩
              rw [← HLN.out] at hRB
              have hLl : LN.length = u + 1 := by rw [HLN.out, bwRow_length]; omega
              have hLr : Rng LN := by rw [HLN.out]; exact bwRow_rng _ _ _ _
              have hbl : b < w5.heap.size := hRB.lt
              have hO6 : RowsOk B w5.heap.size w5 u (rs ++ [⟨b, rd, LN⟩]) := hO5.snoc hBi hbb hbl hRB hLl hLr hrd
              have hO7 : RowsOk B w7.heap.size w7 u (rs ++ [⟨b, rd, LN⟩]) := ((hO6.below ((Below.refl _ _).alloc (Nat.le_refl _) _)).grown hg7 (fun k hk => ownsBlk hP5 (hrow7 k hk).2)).more (by have := hg7.size; simp at this; omega)
              have hb7 : Below B w w7 := ((hb.trans (hbz.mono hBi)).alloc hs5 _).grown hg7 (by simp; omega) (fun k hk => (hrow7 k hk).1)
              go_roundw
              case rel =>
                refine ⟨k + 1, rs ++ [⟨b, rd, LN⟩], pb, pd, by omega, by go_num, rfl, ?_, ?_, hO7, ?_, hb7⟩
                · show _ = _
                  rw [bwM_take_succ q wg xs ys k (by rw [← HNX.out]; exact hkn), List.map_append, HM.out, HLN.out, HX.out, HY.out]; rfl
                · show _ = _
                  rw [List.length_append, HL.out]; rfl
                · rw [List.map_append]
                  rcases hM7 with h | ⟨h, _⟩
                  · exact h
                  · omega
              case measure => simp [intOf] <;> omega
    · obtain rfl : n = k := by omega
      obtain ⟨R, rfl, hR0, hcapR, hhd⟩ := rowOf (Or.inl hP) (by omega)
      have hMW : MatW B wo.heap.size wo R u rs := hO.mat hhd ⟨hR0, hhd.lt⟩ (Nat.le_refl _)
      have HMM : Hid (rs.map (·.l) = bwM q wg xs ys) := hid (by rw [HM.out, List.take_of_length_le (by rw [bwM_length, ← HNX.out]; omega)])
      have hsv := solve_any B n pc u R rs wo HL.out.symm (by omega) hn2 (by omega) hu64 hcapR hMW
      rw [HMM.out] at hsv
      have HSV := hid hsv
      have HMD : Hid (mendL need wg xs ys = (solveL (bwM q wg xs ys) u).bind fun s => divL (s.take q) (s.drop q ++ [1])) := hid (by unfold mendL; rw [HU.out, HQ.out])
      have hn0 : (0 : Int) ≤ (n : Int) := by omega
      go_wp2_with fail
      refine HSV.out.mono ?_
      rintro e w6 ⟨hb6, ⟨HS, rfl⟩ | ⟨g, s, HS, rfl, hg6, hG6⟩⟩
      · have hbw : Below B w w6 := hb.trans hb6
        have HSN := hid HS
        clear HS
        go_wp2_with fail
        go_ret2
        exact ⟨by rw [hsz]; exact hbw, Or.inl ⟨by rw [HMD.out, HSN.out]; rfl, _, rfl⟩⟩
      · have hbw : Below B w w6 := hb.trans hb6
        have HSN := hid HS
        clear HS
        have HSS := hid (solveL_some (bwM_wid q wg xs ys) (show solveL (bwM q wg xs ys) (q + wg) = some s by rw [hu]; exact HSN.out))
        obtain ⟨W6, HW6⟩ : ∃ W, Hid (W = w6.heap.size) := ⟨_, rfl⟩
        have hgW : g < W6 := by rw [HW6.out]; exact hG6.lt
        have HSL : Hid (s.length = u) := hid (by rw [HSS.out.2.1]; exact hu)
        have hRS : ∀ z, Below W6 w6 z → BlkI .i64 3 z g s := fun z hz => hG6.below hz hgW
        obtain ⟨SD, HSD⟩ : ∃ S, Hid (S = (s.drop q).map (Value.int .i64)) := ⟨_, rfl⟩
        obtain ⟨BV, HBVd⟩ : ∃ S : List Int, Hid (S = s.drop q ++ [(1 : Int)]) := ⟨s.drop q ++ [(1 : Int)], hid rfl⟩
        have HBV : Hid (SD ++ [.int .i64 1] = BV.map (Value.int .i64)) := hid (by rw [HSD.out, HBVd.out, List.map_append]; rfl)
        obtain ⟨AV, HAV⟩ : ∃ S, Hid (S = s.take q) := ⟨_, rfl⟩
        have HDL : Hid (mendL need wg xs ys = divL AV BV) := hid (by rw [HMD.out, HSN.out, HAV.out, HBVd.out]; rfl)
        have hdv := fun (z : World) (gb cb : Nat) (hz : Below W6 w6 z) (hB : RowB 3 z gb (BV.map (Value.int .i64))) => hid (divide_any AV BV q wg (need - 1) u cb g gb z (by rw [HAV.out, List.length_take, HSL.out]; omega) (by rw [HBVd.out, List.length_append, List.length_drop, HSL.out]; simp; omega) (by have := HQ.out; omega) (by omega) (by rw [HAV.out]; exact fun c hc => HSS.out.2.2 c (List.mem_of_mem_take hc)) (by rw [HBVd.out]; intro c hc; rcases List.mem_append.1 hc with hc | hc; exact HSS.out.2.2 c (List.mem_of_mem_drop hc); rw [List.mem_singleton] at hc; rw [hc]; decide) ⟨_, hRS z hz, by rw [HAV.out, List.length_map, List.length_take, HSL.out, List.map_take, show min q u = q by omega]⟩ hB)
        have hwQ : IntKind.i64.wrap (q : Int) = (q : Int) := IntWalk.i64_in _ (by omega)
        have hq0 : (0 : Int) ≤ (q : Int) := by omega
        have hqu : (q : Int) ≤ (u : Int) := by omega
        have huq : u - q = wg := by omega
        obtain ⟨ad, hif, HAD⟩ : ∃ ad : Addr, (if u = q then some (⟨g, 0, none⟩ : Addr) else some ⟨g, q, none⟩) = some ad ∧ Hid (∀ z, Below W6 w6 z → RowV z (some ad) SD) := by
          by_cases e : u = q
          · exact ⟨⟨g, 0, none⟩, by rw [if_pos e], hid (fun z hz => Or.inl (by rw [HSD.out]; apply List.eq_nil_of_length_eq_zero; rw [List.length_map, List.length_drop, HSL.out]; omega))⟩
          · refine ⟨⟨g, q, none⟩, by rw [if_neg e], hid (fun z hz => Or.inr ⟨g, q, rfl, (hRS z hz).lt, fun j v hj => ?_⟩)⟩
            rw [HSD.out, List.getElem?_map, List.getElem?_drop] at hj
            by_cases hl : q + j < s.length
            · rw [List.getElem?_eq_getElem hl] at hj
              cases hj
              have := (hRS z hz).cell hl
              rwa [getD_lt' s 0 hl] at this
            · rw [List.getElem?_eq_none (by omega)] at hj; cases hj
        have hcl := fun (z : World) (hz : Below W6 w6 z) => hid (Clone_any (some ad) wg wg SD z (HAD.out z hz) (by rw [HSD.out, List.length_map, List.length_drop, HSL.out]; omega) (by rw [HSD.out]; exact ints_one _ _) (fun h => by cases h) (by omega))
        clear hP hO hhd hMW hG6 HSV hsv
        go_wp2_with fail
        refine wp_region_held_drew (S := fun _ => True) (by kernel_rfl) trivial (fun hHeld => ?_)
        obtain ⟨y6, HY6⟩ : ∃ y, Hid (y = w6.drew) := ⟨_, rfl⟩
        rw [← HY6.out]
        have hw6 : Below W6 w6 y6 := by rw [HY6.out, HW6.out]; exact (Below.refl _ _).drew
        refine tkP 0 rfl (by assumption) ⟨?_, ?_, ?_⟩
        rotate_left
        · intro w hSw; (try dsimp only at hSw); go_simp; (try with_reducible rfl)
        try simp only [Act.put, sArr, sZ, sS]
        refine tkP 1 rfl (by assumption) ⟨?_, ?_, ?_⟩
        rotate_left
        · intro w hSw; (try dsimp only at hSw); go_simp; (try with_reducible rfl)
        try simp only [Act.put, sArr, sZ, sS]
        refine tkP 2 rfl (by assumption) ⟨?_, ?_, ?_⟩
        rotate_left
        · intro w hSw; (try dsimp only at hSw); go_simp; (try with_reducible rfl)
        try simp only [Act.put, sArr, sZ, sS]
        refine tkP 3 rfl (by assumption) ⟨?_, ?_, ?_⟩
        rotate_left
        · intro w hSw; (try dsimp only at hSw); go_simp; (try with_reducible rfl)
        try simp only [Act.put, sArr, sZ, sS]
        refine tkP 4 rfl (by assumption) ⟨?_, ?_, ?_⟩
        rotate_left
        · intro w hSw; go_simp; (try simp only [hwQ, hq0, hqu, and_self, if_true, Int.toNat_natCast, hif, huq]); (try with_reducible rfl)
        try simp only [Act.put, sArr, sZ, sS]
        refine tkP 5 rfl (by assumption) ⟨?_, ?_, ?_⟩
        rotate_left
        · intro w hSw; (try dsimp only at hSw); go_simp; (try with_reducible rfl)
        try simp only [Act.put, sArr, sZ, sS]
        refine tkP 6 rfl (by assumption) ⟨?_, ?_, ?_⟩
        rotate_left
        · intro w hSw; (try dsimp only at hSw); go_simp; (try with_reducible rfl)
        try simp only [Act.put, sArr, sZ, sS]
        refine tkP 7 rfl (by assumption) ⟨?_, ?_, ?_⟩
        rotate_left
        · intro w hSw; (try dsimp only at hSw); go_simp; (try with_reducible rfl)
        try simp only [Act.put, sArr, sZ, sS]
        refine tkP 8 rfl (by assumption) ⟨?_, ?_, ?_⟩
        rotate_left
        · intro w hSw; (try dsimp only at hSw); go_simp; (try with_reducible rfl)
        try simp only [Act.put, sArr, sZ, sS]
        refine tkP 9 rfl (by assumption) ⟨?_, ?_, ?_⟩
        rotate_left
        · intro w hSw; go_simp; (try simp only [hwQ, hq0, hqu, and_self, if_true, Int.toNat_natCast, hif, huq]); (try with_reducible rfl)
        try simp only [Act.put, sArr, sZ, sS]
        refine wpAnyH_ready (rs := [10, 11]) (by kernel_rfl) (by simp) (cons_l rfl (fun K' hK' => ?_) (cons_l rfl (fun K' hK' => ?_) AllReadyH.nil))
        · rw [if_pos (by kernel_rfl)]
          go_simp
          go_at_call 41
          refine (hcl y6 hw6).out.mono ?_
          rintro e y7 ⟨v7, rfl, hM0, hbx7⟩
          have hM7 := hM0.mono (by have := hw6.size; have := HW6.out; omega : W6 ≤ y6.heap.size)
          clear hM0
          have hw7 : Below W6 w6 y7 := hw6.trans (hbx7.mono (by have := hw6.size; have := HW6.out; omega))
          refine hK'.out _ _ trivial (fun hHeld => ?_)
          clear hK' K'
          try simp only [Act.put, sArr, sZ, sS]
          refine wpAnyH_ready (rs := [11]) (by kernel_rfl) (by simp) (cons_l rfl (fun K' hK' => ?_) AllReadyH.nil)
          obtain ⟨N, HNN⟩ : ∃ g, Hid (g = y7.heap.size) := ⟨_, rfl⟩
          refine step_lit rfl 24 3 1 _ rfl Try.underlying24 (.int .i64 0) 1 8 slInt.info (by decide) (by decide) [.int .i64 1] (by kernel_rfl) N HNN.out.symm ?_
          intro y8 hN8 hbx8 hsx8
          rw [HNN.out] at hbx8
          have hw8 : Below W6 w6 y8 := hw7.trans (hbx8.mono (by have := hw7.size; have := HW6.out; omega))
          have hM8 := hM7.belowAll hbx8
          refine hK'.out _ _ trivial (fun hHeld => ?_)
          clear hK' K'
          try simp only [Act.put, sArr, sZ, sS]
          refine wpAnyH_ready (rs := [12]) (by kernel_rfl) (by simp) (cons_l rfl (fun K' hK' => ?_) AllReadyH.nil)
          refine step_appendS rfl _ _ 24 rfl 3 (.int .i64 0) 1 8 Try.underlying24 slInt.info rfl (by decide) W6 v7 wg _ rfl hM8 (some ⟨N, 0, none⟩) 1 1 rfl (fun h => by cases h) [.int .i64 1] rfl (RowB.row (cs := [.int .i64 1]) ⟨_, hN8, rfl⟩) (by simp [Value.oneCell']) (by unfold maxLen; omega) (by omega) (by have := hw8.size; have := HW6.out; omega) (wg + 1) rfl ?_
          intro ao9 ca9 y9 row9 hc9 hA9 hR9 hg9 hr9
          have hw9 : Below W6 w6 y9 := hw8.grown hg9 (by have := hw8.size; have := HW6.out; omega) (fun k hk => (hr9 k hk).1)
          obtain ⟨gb, rfl, hgb, hcb, hRB⟩ := rowOf hA9 (by omega)
          have hRB9 := hRB
          rw [HBV.out] at hRB9
          clear hRB hA9 hR9 hg9 hr9
          refine hK'.out _ _ trivial (fun hHeld => ?_)
          clear hK' K'
          try simp only [Act.put, sArr, sZ, sS]
          refine wpAnyH_ready (rs := [13]) (by kernel_rfl) (by simp) (cons_l rfl (fun K' hK' => ?_) AllReadyH.nil)
          rw [if_pos (by kernel_rfl)]
          go_simp
          go_at_call 40
          refine (hdv y9 gb ca9 hw9 hRB9).out.mono ?_
          rintro e y10 ⟨hbx10, hres⟩
          obtain ⟨vd, bd, rfl, HRES⟩ := div_res hres
          clear hres
          have hw10 : Below W6 w6 y10 := hw9.trans (hbx10.mono (by have := hw9.size; have := HW6.out; omega))
          have hz10 : W6 ≤ y9.heap.size := (by have := hw9.size; have := HW6.out; omega)
          refine hK'.out _ _ trivial (fun hHeld => ?_)
          clear hK' K'
          try simp only [Act.put, sArr, sZ, sS]
          refine tkP 14 rfl (by assumption) ⟨?_, ?_, ?_⟩
          rotate_left
          · intro w hSw; (try dsimp only at hSw); go_simp; (try with_reducible rfl)
          try simp only [Act.put, sArr, sZ, sS]
          refine tkP 15 rfl (by assumption) ⟨?_, ?_, ?_⟩
          rotate_left
          · intro w hSw; (try dsimp only at hSw); go_simp; (try with_reducible rfl)
          try simp only [Act.put, sArr, sZ, sS]
          refine tkP 16 rfl (by assumption) ⟨?_, ?_, ?_⟩
          rotate_left
          · intro w hSw; (try dsimp only at hSw); go_simp; (try with_reducible rfl)
          try simp only [Act.put, sArr, sZ, sS]
          refine tkP 17 rfl (by assumption) ⟨?_, ?_, ?_⟩
          rotate_left
          · intro w hSw; (try dsimp only at hSw); go_simp; (try with_reducible rfl)
          try simp only [Act.put, sArr, sZ, sS]
          refine wpAnyH_done (by kernel_rfl) ?_ _
          clear hHeld
          go_wp2_with fail
          go_ret2
          have hbF : Below B w y10 := hbw.trans (hw10.mono (by have := hbw.size; have := HW6.out; omega))
          refine ⟨by rw [hsz]; exact hbF, ?_⟩
          rcases HRES.out with ⟨h1, rfl⟩ | ⟨p, g7, c7, n7, h1, rfl, rfl, h2, h3, h4, h5⟩
          · exact Or.inl ⟨by rw [HDL.out]; exact h1, _, rfl⟩
          · exact Or.inr ⟨p, g7, c7, n7, by rw [HDL.out]; exact h1, rfl, h2, h3, by have := hbw.size; have := HW6.out; omega, h5⟩
        · obtain ⟨N, HNN⟩ : ∃ g, Hid (g = y6.heap.size) := ⟨_, rfl⟩
          refine step_lit rfl 24 3 1 _ rfl Try.underlying24 (.int .i64 0) 1 8 slInt.info (by decide) (by decide) [.int .i64 1] (by kernel_rfl) N HNN.out.symm ?_
          intro y7 hN7 hbx7 hsx7
          rw [HNN.out] at hbx7
          have hw7 : Below W6 w6 y7 := hw6.trans (hbx7.mono (by have := hw6.size; have := HW6.out; omega))
          refine hK'.out _ _ trivial (fun hHeld => ?_)
          clear hK' K'
          try simp only [Act.put, sArr, sZ, sS]
          refine wpAnyH_ready (rs := [10]) (by kernel_rfl) (by simp) (cons_l rfl (fun K' hK' => ?_) AllReadyH.nil)
          rw [if_pos (by kernel_rfl)]
          go_simp
          go_at_call 41
          refine (hcl y7 hw7).out.mono ?_
          rintro e y8 ⟨v8, rfl, hM0, hbx8⟩
          have hM8 := hM0.mono (by have := hw7.size; have := HW6.out; omega : W6 ≤ y7.heap.size)
          clear hM0
          have hw8 : Below W6 w6 y8 := hw7.trans (hbx8.mono (by have := hw7.size; have := HW6.out; omega))
          have hN8 := hN7.below hbx8 hN7.lt
          refine hK'.out _ _ trivial (fun hHeld => ?_)
          clear hK' K'
          try simp only [Act.put, sArr, sZ, sS]
          refine wpAnyH_ready (rs := [12]) (by kernel_rfl) (by simp) (cons_l rfl (fun K' hK' => ?_) AllReadyH.nil)
          refine step_appendS rfl _ _ 24 rfl 3 (.int .i64 0) 1 8 Try.underlying24 slInt.info rfl (by decide) W6 v8 wg _ rfl hM8 (some ⟨N, 0, none⟩) 1 1 rfl (fun h => by cases h) [.int .i64 1] rfl (RowB.row (cs := [.int .i64 1]) ⟨_, hN8, rfl⟩) (by simp [Value.oneCell']) (by unfold maxLen; omega) (by omega) (by have := hw8.size; have := HW6.out; omega) (wg + 1) rfl ?_
          intro ao9 ca9 y9 row9 hc9 hA9 hR9 hg9 hr9
          have hw9 : Below W6 w6 y9 := hw8.grown hg9 (by have := hw8.size; have := HW6.out; omega) (fun k hk => (hr9 k hk).1)
          obtain ⟨gb, rfl, hgb, hcb, hRB⟩ := rowOf hA9 (by omega)
          have hRB9 := hRB
          rw [HBV.out] at hRB9
          clear hRB hA9 hR9 hg9 hr9
          refine hK'.out _ _ trivial (fun hHeld => ?_)
          clear hK' K'
          try simp only [Act.put, sArr, sZ, sS]
          refine wpAnyH_ready (rs := [13]) (by kernel_rfl) (by simp) (cons_l rfl (fun K' hK' => ?_) AllReadyH.nil)
          rw [if_pos (by kernel_rfl)]
          go_simp
          go_at_call 40
          refine (hdv y9 gb ca9 hw9 hRB9).out.mono ?_
          rintro e y10 ⟨hbx10, hres⟩
          obtain ⟨vd, bd, rfl, HRES⟩ := div_res hres
          clear hres
          have hw10 : Below W6 w6 y10 := hw9.trans (hbx10.mono (by have := hw9.size; have := HW6.out; omega))
          have hz10 : W6 ≤ y9.heap.size := (by have := hw9.size; have := HW6.out; omega)
          refine hK'.out _ _ trivial (fun hHeld => ?_)
          clear hK' K'
          try simp only [Act.put, sArr, sZ, sS]
          refine tkP 14 rfl (by assumption) ⟨?_, ?_, ?_⟩
          rotate_left
          · intro w hSw; (try dsimp only at hSw); go_simp; (try with_reducible rfl)
          try simp only [Act.put, sArr, sZ, sS]
          refine tkP 15 rfl (by assumption) ⟨?_, ?_, ?_⟩
          rotate_left
          · intro w hSw; (try dsimp only at hSw); go_simp; (try with_reducible rfl)
          try simp only [Act.put, sArr, sZ, sS]
          refine tkP 16 rfl (by assumption) ⟨?_, ?_, ?_⟩
          rotate_left
          · intro w hSw; (try dsimp only at hSw); go_simp; (try with_reducible rfl)
          try simp only [Act.put, sArr, sZ, sS]
          refine tkP 17 rfl (by assumption) ⟨?_, ?_, ?_⟩
          rotate_left
          · intro w hSw; (try dsimp only at hSw); go_simp; (try with_reducible rfl)
          try simp only [Act.put, sArr, sZ, sS]
          refine wpAnyH_done (by kernel_rfl) ?_ _
          clear hHeld
          go_wp2_with fail
          go_ret2
          have hbF : Below B w y10 := hbw.trans (hw10.mono (by have := hbw.size; have := HW6.out; omega))
          refine ⟨by rw [hsz]; exact hbF, ?_⟩
          rcases HRES.out with ⟨h1, rfl⟩ | ⟨p, g7, c7, n7, h1, rfl, rfl, h2, h3, h4, h5⟩
          · exact Or.inl ⟨by rw [HDL.out]; exact h1, _, rfl⟩
          · exact Or.inr ⟨p, g7, c7, n7, by rw [HDL.out]; exact h1, rfl, h2, h3, by have := hbw.size; have := HW6.out; omega, h5⟩
end Go.Proofs.Ytbjmadcbhkeenaa.gs
