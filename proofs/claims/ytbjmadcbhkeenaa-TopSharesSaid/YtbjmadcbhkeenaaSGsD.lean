/-
  Contract of share.solve: the elimination. Conditions: a matrix that lies in memory, of at most 64 rows.
-/
import Derived.Test.YtbjmadcbhkeenaaSShXY
namespace Go.Proofs.Ytbjmadcbhkeenaa.gs
open Go.RowKit Go.Proofs.Ytbjmadcbhkeenaa.Fld Go.Proofs.Ytbjmadcbhkeenaa.sh Go.Proofs.Ytbjmadcbhkeenaa.shr
set_option linter.unusedSimpArgs false
set_option linter.unusedVariables false
set_option pp.maxSteps 6000
def SolvePost (B : Nat) (M : List (List Int)) (u : Nat) (w : World) (e : Ending) (w' : World) : Prop := Below B w w' ∧
  ((solveL M u = none ∧ e = .returned (.tuple #[.slice none 0 0, .bool false])) ∨ ∃ g s, solveL M u = some s ∧ e = .returned (.tuple #[.slice (some ⟨g, 0, none⟩) u u, .bool true]) ∧ w.heap.size ≤ g ∧ BlkI .i64 3 w' g s)
theorem mine_keep {w w' : World} {base : Nat} {e : TypeId} {size n : Nat} {v : Value} {xs : List Value} (h : Mine w base e size v n xs) (hb : ∀ g, base ≤ g → g < w.heap.size → w'.heap[g]? = w.heap[g]?) : Mine w' base e size v n xs := by
  rcases h with ⟨h0, h | ⟨g, cap, cur, hv, hg, hh, r⟩⟩ | h
  · exact Or.inl ⟨h0, Or.inl h⟩
  · exact Or.inl ⟨h0, Or.inr ⟨g, cap, cur, hv, hg, (hb g hg (lt_of_block hh)).trans hh, r⟩⟩
  · exact Or.inr h
theorem gauss_found {M M' : List (List Int)} {ps : List Nat} {ci r0 kk m : Nat} (HG : (M', ps) = gauss M ci) (hl : M.length = m) (hl' : M'.length = m) (hps : ps.length = r0) (hr : r0 < m) (hk1 : r0 ≤ kk) (hk : kk < m) (hz : ∀ i, r0 ≤ i → i < kk → at2 M' i ci = 0) (hx : at2 M' kk ci ≠ 0) : gauss M (ci + 1) = (stepM M' r0 ci kk, ps ++ [ci]) := by
  have hf := findK_eq M' ci r0 kk hk1 (by omega) hz (fun _ => hx)
  rw [gauss, ← HG]
  dsimp only
  rw [if_pos (by omega)]
  unfold gstep
  dsimp only
  rw [hps, hf, if_pos (by omega)]
theorem gauss_none {M M' : List (List Int)} {ps : List Nat} {ci r0 m : Nat} (HG : (M', ps) = gauss M ci) (hl : M.length = m) (hl' : M'.length = m) (hps : ps.length = r0) (hr : r0 < m) (hz : ∀ i, r0 ≤ i → i < m → at2 M' i ci = 0) : gauss M (ci + 1) = (M', ps) := by
  have hf := findK_eq M' ci r0 m (by omega) (by omega) hz (fun h => absurd h (by omega))
  rw [gauss, ← HG]
  dsimp only
  rw [if_pos (by omega)]
  unfold gstep
  dsimp only
  rw [hps, hf, if_neg (by omega)]
theorem gauss_full {M M' : List (List Int)} {ps : List Nat} {ci u m : Nat} (HG : (M', ps) = gauss M ci) (hl : M.length = m) (hps : ps.length = m) (hu : ci ≤ u) : (M', ps) = gauss M u := by
  rw [gauss_stop M ci (by rw [← HG]; dsimp only; omega) u hu]; exact HG
def natV (p : Nat) : Value := .int .i64 (p : Int)
set_option maxRecDepth 10000000 in
set_option maxHeartbeats 8000000 in
theorem solve_any (B m capR u R : Nat) (rs : List Rw) (w : World) (hm : m = rs.length) (hm1 : 1 ≤ m) (hm2 : m ≤ 64) (hu1 : 1 ≤ u) (hu : u ≤ 64) (hcap : m ≤ capR) (hM : MatW B w.heap.size w R u rs) :
    Calls Try.prog 39 #[.slice (some ⟨R, 0, none⟩) m capR, .int .i64 u] w (SolvePost B (rs.map (·.l)) u w) := by
  obtain ⟨B2, HB⟩ : ∃ B2, Hid (B2 = w.heap.size) := ⟨_, rfl⟩
  have hsz : w.heap.size = B2 := HB.out.symm
  rw [hsz] at hM
  obtain ⟨M, HMM⟩ : ∃ M, Hid (M = rs.map (·.l)) := ⟨_, rfl⟩
  rw [← HMM.out]
  have hlM : Hid (M.length = m) := hid (by rw [HMM.out, List.length_map, hm])
  have HmR := hid hm
  have hBB : B ≤ B2 := by have := hM.R0; omega
  have HWD : Hid (Wid u M) := hid (by
    intro i hi
    rw [HMM.out, List.length_map] at hi
    have e : rs[i]? = some rs[i] := List.getElem?_eq_getElem hi
    rw [HMM.out, mat_getD e]
    exact ⟨(hM.row i _ e).2.1, (hM.row i _ e).2.2.1⟩)
  clear hm
  go_enter Try.func39, Try.ntmps39
  go_wp2_with fail
  go_loopw [6, 7, 8] (fun pv r c wr => ∃ (ci r0 : Nat) (rr : List Rw) (ps : List Nat) (pa : Option Addr) (pc : Nat), ci ≤ u ∧ r0 ≤ m ∧ c = .int .i64 ci ∧ r = .int .i64 r0 ∧ pv = .slice pa r0 pc ∧ Hid (ps.length = r0) ∧ Hid ((rr.map (·.l), ps) = gauss M ci) ∧ Hid (rr.length = m) ∧ MatW B B2 wr R u rr ∧ Mine wr B2 3 1 (.slice pa r0 pc) r0 (ps.map natV) ∧ Below B w wr) (fun _ _ c _ => u - (intOf c).toNat)
  case atStart => exact ⟨0, 0, rs, [], some ⟨B2, 0, none⟩, 0, by omega, by omega, rfl, rfl, rfl, rfl, by show _ = _; rw [HMM.out]; rfl, HmR.out.symm, hM.below ((Below.refl B2 w).alloc (by omega) _), Or.inr ⟨rfl, rfl, _, rfl⟩, (Below.refl B w).alloc (by omega) _⟩
  case round =>
    obtain ⟨ci, r0, rr, ps, pa, pc, hcu, hrm, rfl, rfl, rfl, HPS, HG, HRR, hW, hP, hb⟩ := hrel
    clear hM
    rename World => wo
    by_cases hc : ci < u
    · have hcI : (ci : Int) < (u : Int) := by omega
      have hcI0 : (0 : Int) ≤ (ci : Int) := by omega
      have hd1 : decide ((ci : Int) < (u : Int)) = true := decide_eq_true hcI
      by_cases hr : r0 < m
      · have hrI : (r0 : Int) < (m : Int) := by omega
        have hrI0 : (0 : Int) ≤ (r0 : Int) := by omega
        have hd2 : decide ((r0 : Int) < (m : Int)) = true := decide_eq_true hrI
        go_wp2_with fail
        go_loopw [9] (fun k wk => ∃ kk : Nat, r0 ≤ kk ∧ kk ≤ m ∧ k = .int .i64 kk ∧ wk = wo ∧ Hid (∀ i, r0 ≤ i → i < kk → at2 (rr.map (·.l)) i ci = 0)) (fun k _ => m - (intOf k).toNat)
        case atStart => exact ⟨r0, Nat.le_refl _, by omega, rfl, rfl, fun i h1 h2 => absurd h2 (by omega)⟩
        case round =>
          obtain ⟨kk, hk1, hk2, rfl, rfl, HZ⟩ := hrel
          by_cases hkm : kk < m
          · have hkI : (kk : Int) < (m : Int) := by omega
            have hkI0 : (0 : Int) ≤ (kk : Int) := by omega
            have hkne : ¬ (kk : Int) = (m : Int) := by omega
            obtain ⟨y, hy⟩ : ∃ y, rr[kk]? = some y := ⟨_, List.getElem?_eq_getElem (by rw [HRR.out]; exact hkm)⟩
            obtain ⟨x, HX, bx, cx⟩ := hW.cell hy (j := ci) (by omega)
            have chk := hW.hdr hy
            have hci1 : (ci : Int) < (u : Int) + 1 := by omega
            by_cases hx0 : x = 0
            · subst hx0
              have HZ' := hid (show ∀ i, r0 ≤ i → i < kk + 1 → at2 (rr.map (·.l)) i ci = 0 from fun i h1 h2 => by
                by_cases e : i = kk
                · rw [e, at2, mat_getD hy, ← HX.out]
                · exact HZ.out i h1 (by omega))
              clear hy
              go_wp2_with fail
              go_roundw
              case rel => exact ⟨kk + 1, by omega, by omega, by go_num, by trivial, HZ'⟩
              case measure => simp [intOf] <;> omega
            · have hxb : (x == 0) = false := by simp [hx0]
              have hkb : ((kk : Int) == (m : Int)) = false := by simp; omega
              obtain ⟨z, hz⟩ : ∃ z, rr[r0]? = some z := ⟨_, List.getElem?_eq_getElem (by rw [HRR.out]; exact hr)⟩
              have chr := hW.hdr hz
              have fk := hW.hd.frozen kk
              have fr := hW.hd.frozen r0
              have hS1 := hW.hd.set r0 (.slice (some ⟨y.b, 0, none⟩) (u + 1) y.c)
              have cS1 : (wr.setCell ⟨R, r0, none⟩ (.slice (some ⟨y.b, 0, none⟩) (u + 1) y.c)).cell? ⟨R, kk, none⟩ = some (.slice (some ⟨y.b, 0, none⟩) (u + 1) y.c) := hS1.cell (by
                rw [List.getElem?_set]
                by_cases e : r0 = kk
                · rw [if_pos e, if_pos (by rw [List.length_map, HRR.out]; exact hr)]
                · rw [if_neg e, List.getElem?_map, hy]; rfl)
              have fS1 := hS1.frozen kk
              go_wp2_with fail
              go_region
              obtain ⟨w1, HW1⟩ : ∃ w1, Hid (w1 = ((wr.setCell ⟨R, r0, none⟩ (.slice (some ⟨y.b, 0, none⟩) (u + 1) y.c)).setCell ⟨R, kk, none⟩ (.slice (some ⟨z.b, 0, none⟩) (u + 1) z.c)).drew) := ⟨_, rfl⟩
              rw [← HW1.out]
              obtain ⟨rr1, HR1⟩ : ∃ rr1, Hid (rr1 = (rr.set r0 y).set kk z) := ⟨_, rfl⟩
              have hW1 : MatW B B2 w1 R u rr1 := by rw [HW1.out, HR1.out]; exact (hW.swap hz hy).keep (fun _ _ => rfl)
              have hR2 := hW.R0.2
              have hP1 : Mine w1 B2 3 1 (.slice pa r0 pc) r0 (ps.map natV) := mine_keep hP fun g hg hl => by
                rw [HW1.out]
                exact (heap_setCell_other _ ⟨R, kk, none⟩ g _ (show g ≠ R by omega)).trans (heap_setCell_other wr ⟨R, r0, none⟩ g _ (show g ≠ R by omega))
              have hb1 : Below B w w1 := by rw [HW1.out]; exact ((hb.setCell hW.R0.1 _).setCell hW.R0.1 _).drew
              have hl1 : Hid (rr1.length = m) := hid (by rw [HR1.out]; simp; exact HRR.out)
              have hy1 : Hid (rr1[r0]? = some y) := hid (by
                rw [HR1.out, List.getElem?_set]
                by_cases e : kk = r0
                · subst e
                  rw [if_pos rfl, if_pos (by rw [List.length_set, HRR.out]; exact hr)]
                  rw [hz] at hy; exact hy
                · rw [if_neg e, List.getElem?_set, if_pos rfl, if_pos (by rw [HRR.out]; exact hr)])
              have HM1 : Hid (rr1.map (·.l) = swapM (rr.map (·.l)) r0 kk) := hid (by
                rw [HR1.out, List.map_set, List.map_set]
                unfold swapM
                rw [mat_getD hy, mat_getD hz])
              have HNE : Hid (at2 (rr.map (·.l)) kk ci ≠ 0) := hid (by rw [at2, mat_getD hy, ← HX.out]; exact hx0)
              have HGN := hid (gauss_found HG.out hlM.out (by rw [List.length_map]; exact HRR.out) HPS.out hr hk1 hkm HZ.out HNE.out)
              clear hW hP hb cx chk chr fk fr hS1 cS1 fS1 hz hy hx0 hxb
              obtain ⟨x', HX', bx', cx'⟩ := hW1.cell hy1.out (j := ci) (by omega)
              obtain rfl : x' = x := HX'.out.trans HX.out.symm
              have ch1 := hW1.hdr hy1.out
              go_wp2_with fail
              refine (over_any _ _ _ (by omega) (by omega)).mono ?_
              rintro e w2 ⟨rfl, rfl⟩
              have hf := overP_range 1 x'
              have HFX : Hid (overP 1 x' = overP 1 (at2 (rr1.map (·.l)) r0 ci)) := hid (by rw [at2, mat_getD hy1.out, HX'.out])
              obtain ⟨f, HF⟩ : ∃ f, Hid (f = overP 1 x') := ⟨_, rfl⟩
              rw [← HF.out] at hf ⊢
              have hyl := hid (hW1.len hy1.out)
              go_wp2_with fail
              have hlen1 : rr1.length = m := hl1.out
              go_loopw [80] (fun k wk => ∃ j : Nat, j ≤ u + 1 ∧ k = .int .i64 j ∧ MatW B B2 wk R u (rr1.set r0 ⟨y.b, y.c, scTo f y.l j⟩) ∧ Mine wk B2 3 1 (.slice pa r0 pc) r0 (ps.map natV) ∧ Below B w wk) (fun k _ => u + 1 - (intOf k).toNat)
              case atStart =>
                refine ⟨0, by omega, rfl, ?_, hP1, hb1⟩
                have e : rr1.set r0 ⟨y.b, y.c, scTo f y.l 0⟩ = rr1 := by
                  apply List.ext_getElem?
                  intro k
                  rw [List.getElem?_set]
                  by_cases e : r0 = k
                  · subst e; rw [if_pos rfl, if_pos (by omega), hy1.out]; rfl
                  · rw [if_neg e]
                rw [e]; exact hW1
              case round =>
                clear hW1 hP1 hb1 cx' ch1
                obtain ⟨j, hj, rfl, hW2, hP2, hb2⟩ := hrel
                have hyj : (rr1.set r0 ⟨y.b, y.c, scTo f y.l j⟩)[r0]? = some ⟨y.b, y.c, scTo f y.l j⟩ := by rw [List.getElem?_set, if_pos rfl, if_pos (by omega)]
                by_cases hju : j < u + 1
                · have hjI : (j : Int) < (u : Int) + 1 := by omega
                  have hjI0 : (0 : Int) ≤ (j : Int) := by omega
                  obtain ⟨v, HV, bv, cv⟩ := hW2.cell hyj (j := j) hju
                  have ch2 := hW2.hdr hyj
                  have fv := (hW2.row r0 _ hyj).1.frozen j
                  dsimp only at HV cv ch2 fv
                  have hvf := mul_bd bv hf
                  go_wp2_with fail
                  go_region
                  go_wp2_with fail
                  go_roundw
                  case rel =>
                    refine ⟨j + 1, by omega, by go_num, ?_, ?_, ?_⟩
                    · have h := (hW2.setI hyj (j := j) (v * f % 257) (by omega)).keep (w' := (wr.setCell ⟨y.b, j, none⟩ (.int .i64 (v * f % 257))).drew) (fun _ _ => rfl)
                      rw [List.set_set] at h
                      dsimp only at h
                      have e : scTo f y.l (j + 1) = (scTo f y.l j).set j (v * f % 257) := by rw [scTo, ← HV.out]
                      rw [e]; exact h
                    · refine mine_keep hP2 fun g hg hl => heap_setCell_other _ ⟨y.b, j, none⟩ g _ ?_
                      have := (hW2.nR r0 _ hyj).2.2
                      dsimp only at this ⊢
                      omega
                    · exact (hb2.setCell (hW2.nR r0 _ hyj).2.1 _).drew
                  case measure => simp [intOf] <;> omega
                · obtain rfl : j = u + 1 := by omega
                  obtain ⟨PL, HPL⟩ : ∃ PL, Hid (PL = scTo f y.l (u + 1)) := ⟨_, rfl⟩
                  rw [← HPL.out] at hW2 hyj
                  obtain ⟨rr2, HR2⟩ : ∃ rr2, Hid (rr2 = rr1.set r0 ⟨y.b, y.c, PL⟩) := ⟨_, rfl⟩
                  rw [← HR2.out] at hW2 hyj
                  obtain ⟨MS, HMS⟩ : ∃ MS, Hid (MS = scaleM (swapM (rr.map (·.l)) r0 kk) r0 ci) := ⟨_, rfl⟩
                  have HM2 : Hid (rr2.map (·.l) = MS) := hid (by
                    rw [HR2.out, HMS.out, mat_set, HM1.out]
                    unfold scaleM
                    rw [HPL.out, HF.out, HFX.out, HM1.out, ← HM1.out, mat_getD hy1.out, hyl.out])
                  have HST : Hid (stepM (rr.map (·.l)) r0 ci kk = elimTo MS r0 ci m) := hid (by unfold stepM; rw [← HMS.out, List.length_map, HRR.out])
                  have hl2 : Hid (rr2.length = m) := hid (by rw [HR2.out, List.length_set]; exact hlen1)
                  have hyr : Hid (rr2[r0]? = some ⟨y.b, y.c, PL⟩) := hid hyj
                  have HPG : Hid (MS.getD r0 [] = PL) := hid (by rw [← HM2.out, mat_getD hyj])
                  clear hyj HMS HM1 HFX HR2 HR1 HW1
                  go_wp2_with fail
                  go_loopw [102] (fun k wk => ∃ (i : Nat) (rr3 : List Rw), i ≤ m ∧ k = .int .i64 i ∧ Hid (rr3.map (·.l) = elimTo MS r0 ci i) ∧ Hid (rr3.length = m) ∧ Hid (rr3[r0]? = some ⟨y.b, y.c, PL⟩) ∧ MatW B B2 wk R u rr3 ∧ Mine wk B2 3 1 (.slice pa r0 pc) r0 (ps.map natV) ∧ Below B w wk) (fun k _ => m - (intOf k).toNat)
                  case atStart => exact ⟨0, rr2, by omega, rfl, HM2, hl2, hyr, hW2, hP2, hb2⟩
                  case round =>
                    clear hW2 hP2 hb2 hyr hl2
                    obtain ⟨i, rr3, hi, rfl, HM3, hl3, hyr, hW3, hP3, hb3⟩ := hrel
                    rename World => w3
                    by_cases him : i < m
                    · have hiI : (i : Int) < (m : Int) := by omega
                      have hiI0 : (0 : Int) ≤ (i : Int) := by omega
                      have hdi : decide ((i : Int) < (m : Int)) = true := decide_eq_true hiI
                      by_cases hir : i = r0
                      · subst hir
                        have HE : Hid (rr3.map (·.l) = elimTo MS i ci (i + 1)) := hid (by rw [elimTo, elim1, if_pos (Or.inl rfl)]; exact HM3.out)
                        go_wp2_with fail
                        go_roundw
                        case rel => exact ⟨i + 1, rr3, by omega, by go_num, HE, hl3, hyr, hW3, hP3, hb3⟩
                        case measure => simp [intOf] <;> omega
                      · have hiN : ¬ (i : Int) = (r0 : Int) := by omega
                        have hib : ((i : Int) == (r0 : Int)) = false := by simp; omega
                        obtain ⟨zi, hzi⟩ : ∃ zi, rr3[i]? = some zi := ⟨_, List.getElem?_eq_getElem (by rw [hl3.out]; exact him)⟩
                        obtain ⟨xi, HXI, bxi, cxi⟩ := hW3.cell hzi (j := ci) (by omega)
                        have chi := hW3.hdr hzi
                        have HAT : Hid (at2 (elimTo MS r0 ci i) i ci = xi) := hid (by rw [← HM3.out, at2, mat_getD hzi, HXI.out])
                        by_cases hx0 : xi = 0
                        · subst hx0
                          have HE : Hid (rr3.map (·.l) = elimTo MS r0 ci (i + 1)) := hid (by rw [elimTo, elim1, if_pos (Or.inr HAT.out)]; exact HM3.out)
                          clear hzi
                          go_wp2_with fail
                          go_roundw
                          case rel => exact ⟨i + 1, rr3, by omega, by go_num, HE, hl3, hyr, hW3, hP3, hb3⟩
                          case measure => simp [intOf] <;> omega
                        · have hxib : (xi == 0) = false := by simp [hx0]
                          obtain ⟨g, HGG⟩ : ∃ g, Hid (g = 257 - xi) := ⟨_, rfl⟩
                          have bg : 1 ≤ g ∧ g ≤ 257 := by rw [HGG.out]; omega
                          have hzl := hid (hW3.len hzi)
                          go_wp2_with fail
                          rw [← HGG.out]
                          go_loopw [131] (fun k wk => ∃ j : Nat, j ≤ u + 1 ∧ k = .int .i64 j ∧ MatW B B2 wk R u (rr3.set i ⟨zi.b, zi.c, inO g PL zi.l j⟩) ∧ Mine wk B2 3 1 (.slice pa r0 pc) r0 (ps.map natV) ∧ Below B w wk) (fun k _ => u + 1 - (intOf k).toNat)
                          case atStart =>
                            refine ⟨0, by omega, rfl, ?_, hP3, hb3⟩
                            have e : rr3.set i ⟨zi.b, zi.c, inO g PL zi.l 0⟩ = rr3 := by
                              apply List.ext_getElem?
                              intro k
                              rw [List.getElem?_set]
                              by_cases e : i = k
                              · subst e; rw [if_pos rfl, if_pos (by rw [hl3.out]; exact him), hzi]; rfl
                              · rw [if_neg e]
                            rw [e]; exact hW3
                          case round =>
                            clear hW3 hP3 hb3 cxi chi
                            obtain ⟨j, hj, rfl, hW4, hP4, hb4⟩ := hrel
                            rename World => w4
                            have hzj : (rr3.set i ⟨zi.b, zi.c, inO g PL zi.l j⟩)[i]? = some ⟨zi.b, zi.c, inO g PL zi.l j⟩ := by rw [List.getElem?_set, if_pos rfl, if_pos (by rw [hl3.out]; exact him)]
                            have hrj : (rr3.set i ⟨zi.b, zi.c, inO g PL zi.l j⟩)[r0]? = some ⟨y.b, y.c, PL⟩ := by rw [List.getElem?_set, if_neg hir]; exact hyr.out
                            by_cases hju : j < u + 1
                            · have hjI : (j : Int) < (u : Int) + 1 := by omega
                              have hjI0 : (0 : Int) ≤ (j : Int) := by omega
                              obtain ⟨v, HV, bv, cv⟩ := hW4.cell hzj (j := j) hju
                              obtain ⟨q, HQ, bq, cq⟩ := hW4.cell hrj (j := j) hju
                              have ch4 := hW4.hdr hzj
                              have ch5 := hW4.hdr hrj
                              have fv := (hW4.row i _ hzj).1.frozen j
                              dsimp only at HV cv ch4 fv HQ cq ch5
                              have hgq : 0 ≤ g * q ∧ g * q ≤ 65792 := ⟨Int.mul_nonneg (by omega) bq.1, by have := Int.mul_le_mul (a := g) (c := 257) (b := q) (d := 256) (by omega) bq.2 bq.1 (by omega); omega⟩
                              go_wp2_with fail
                              go_region
                              go_wp2_with fail
                              go_roundw
                              case rel =>
                                refine ⟨j + 1, by omega, by go_num, ?_, ?_, ?_⟩
                                · have h := (hW4.setI hzj (j := j) ((v + g * q) % 257) (by omega)).keep (w' := (w4.setCell ⟨zi.b, j, none⟩ (.int .i64 ((v + g * q) % 257))).drew) (fun _ _ => rfl)
                                  rw [List.set_set] at h
                                  dsimp only at h
                                  have e : inO g PL zi.l (j + 1) = (inO g PL zi.l j).set j ((v + g * q) % 257) := by rw [inO, ← HV.out, ← HQ.out]
                                  rw [e]; exact h
                                · refine mine_keep hP4 fun a hg hl => heap_setCell_other _ ⟨zi.b, j, none⟩ a _ ?_
                                  have := (hW4.nR i _ hzj).2.2
                                  dsimp only at this ⊢
                                  omega
                                · exact (hb4.setCell (hW4.nR i _ hzj).2.1 _).drew
                              case measure => simp [intOf] <;> omega
                            · obtain rfl : j = u + 1 := by omega
                              have HE : Hid ((rr3.set i ⟨zi.b, zi.c, inO g PL zi.l (u + 1)⟩).map (·.l) = elimTo MS r0 ci (i + 1)) := hid (by
                                have hne : at2 (elimTo MS r0 ci i) i ci ≠ 0 := by rw [HAT.out]; exact hx0
                                rw [mat_set, elimTo, elim1, if_neg (fun h => h.elim hir hne), HAT.out, ← HGG.out, ← HM3.out, mat_getD hyr.out, mat_getD hzi, hzl.out])
                              have hl4 : Hid ((rr3.set i ⟨zi.b, zi.c, inO g PL zi.l (u + 1)⟩).length = m) := hid (by rw [List.length_set]; exact hl3.out)
                              have HRJ := hid hrj
                              clear hzi hzj hrj
                              go_wp2_with fail
                              go_roundw
                              case rel => exact ⟨i + 1, _, by omega, by go_num, HE, hl4, HRJ, hW4, hP4, hb4⟩
                              case measure => simp [intOf] <;> omega
                    · obtain rfl : i = m := by omega
                      have hs3 : B2 ≤ w3.heap.size := by rw [← hsz]; exact hb3.size
                      go_wp2_with (at_builtin; refine wl_appendS rfl _ _ 24 rfl 3 (.int .i64 0) 1 8 Try.underlying24 slInt.info rfl (by decide) B2 (.slice pa r0 pc) r0 _ rfl (hP3.belowAll ((Below.refl _ _).alloc (Nat.le_refl _) _)) (some ⟨w3.heap.size, 0, none⟩) 1 1 rfl (fun h => by cases h) [.int .i64 ci] rfl (RowI.v (l := [(ci : Int)]) (BlkI.new .i64 3 w3 [(ci : Int)]).row) (by simp [Value.oneCell']) (by unfold maxLen; omega) (by omega) (by simp; omega) (r0 + 1) rfl ?_; intro pa5 pc5 w5 row5 hcap5 hM5 hR5 hg5 hrow5)
                      go_roundw
                      case rel =>
                        refine ⟨ci + 1, r0 + 1, rr3, ps ++ [ci], pa5, pc5, by omega, by omega, by go_num, by go_num, rfl, ?_, ?_, hl3, ?_, ?_, ?_⟩
                        · show _ = _
                          rw [List.length_append, HPS.out]; rfl
                        · show _ = _
                          rw [HGN.out, HST.out, HM3.out]
                        · refine hW3.keep fun g hg => ?_
                          refine (hg5.block g (by simp; omega) (fun e => by have := (hrow5 _ e.symm).1; omega)).trans (Below.heap_alloc _ _ _ (by omega))
                        · rw [List.map_append]; exact hM5
                        · exact (hb3.alloc (by omega) _).grown hg5 (by simp; omega) (fun k hk => by have := (hrow5 k hk).1; omega)
                      case measure => simp [intOf] <;> omega
          · obtain rfl : kk = m := by omega
            have HGN := hid (gauss_none HG.out hlM.out (by rw [List.length_map]; exact HRR.out) HPS.out hr HZ.out)
            go_wp2_with fail
            go_roundw
            case rel => exact ⟨ci + 1, r0, rr, ps, pa, pc, by omega, by omega, by go_num, rfl, rfl, HPS, HGN.out.symm, HRR, hW, hP, hb⟩
            case measure => simp [intOf] <;> omega
      · obtain rfl : r0 = m := by omega
        have HGF := hid (gauss_full HG.out hlM.out HPS.out hcu)
        have hmk := run_make_row' (P := Try.prog) 24 3 (.int .i64 0) 8 Try.underlying24 infoInt rfl .i64 .i64 u (by omega) (by omega)
        have hs0 : B2 ≤ wo.heap.size := by rw [← hsz]; exact hb.size
        obtain ⟨MF, HMF⟩ : ∃ MF, Hid (MF = rr.map (·.l)) := ⟨_, rfl⟩
        have HGI := hid (gauss_inv HWD.out u (Nat.le_refl _))
        rw [← HGF.out] at HGI
        have HPB : Hid (∀ p ∈ ps, p < u) := hid HGI.out.pc
        have hRV : Hid (RowV wo pa (ps.map natV)) := hid (by
          obtain ⟨ao', cap', e, _, h⟩ := Mine.row hP
          injection e with e1 e2 e3
          rw [e1]; exact h)
        have HS : Hid (solveL M u = some (outTo MF ps u r0)) := hid (by
          have ho : okM (gauss M u) u = true := by
            rw [okM_iff, ← HGF.out]
            intro i h1 h2
            dsimp only at h1 h2
            rw [List.length_map, HRR.out] at h2
            rw [HPS.out] at h1
            omega
          unfold solveL
          rw [if_pos ho, ← HGF.out]
          dsimp only
          rw [HPS.out, HMF.out])
        go_wp2_with fail
        all_goals
          go_loopw [170] (fun i wk => i = .int .i64 0 ∧ wk = wo) (fun _ _ => 0)
          case atStart => exact ⟨rfl, rfl⟩
          case round =>
            obtain ⟨rfl, rfl⟩ := hrel
            rename World => wo
            go_wp2_with fail
            go_loopw [184] (fun i wk => ∃ k : Nat, k ≤ r0 ∧ i = .int .i64 k ∧ BlkI .i64 3 wk wo.heap.size (outTo MF ps u k) ∧ Below wo.heap.size wo wk) (fun i _ => r0 - (intOf i).toNat)
            case atStart => exact ⟨0, by omega, rfl, BlkI.made' .i64 3 wo u rfl, (Below.refl _ _).alloc (Nat.le_refl _) _⟩
            case round =>
              obtain ⟨k, hk, rfl, hO, hbk⟩ := hrel
              rename World => wk
              by_cases h0 : k < r0
              · have kI : (k : Int) < (r0 : Int) := by omega
                have kI0 : (0 : Int) ≤ (k : Int) := by omega
                obtain ⟨b, off, e5, hbb, hcc⟩ := hRV.out.resolve_left (by intro e; have h7 : ps.length = r0 := HPS.out; rw [List.map_eq_nil_iff.1 e, List.length_nil] at h7; omega)
                subst e5
                obtain ⟨p, Hp⟩ : ∃ p, Hid (p = ps.getD k 0) := ⟨_, rfl⟩
                have cp := (hbk.cell (p := ⟨b, off + k, none⟩) hbb).trans (hcc k (natV p) (by rw [List.getElem?_map, List.getElem?_eq_getElem (by rw [HPS.out]; exact h0), Hp.out, getD_lt' ps 0 (by rw [HPS.out]; exact h0)]; rfl))
                unfold natV at cp
                have hpu : p < u := by rw [Hp.out]; exact HPB.out _ (getDN_lt ps (by rw [HPS.out]; exact h0))
                have hpI : (p : Int) < (u : Int) := by omega
                have hpI0 : (0 : Int) ≤ (p : Int) := by omega
                obtain ⟨zk, hzk⟩ : ∃ zk, rr[k]? = some zk := ⟨_, List.getElem?_eq_getElem (by rw [HRR.out]; omega)⟩
                have hWk := hW.below (hbk.mono hs0)
                have chk := hWk.hdr hzk
                obtain ⟨v, HV, bv, cv⟩ := hWk.cell hzk (j := u) (by omega)
                have cO := hO.cell (i := p) (by rw [outTo_length]; exact hpu)
                have fO := hO.frozen p
                have HAT : Hid (at2 MF k u = v) := hid (by rw [HMF.out, at2, mat_getD hzk, HV.out])
                have huI : (u : Int) < (u : Int) + 1 := by omega
                clear hzk
                go_wp2_with fail
                go_roundw
                case rel =>
                  refine ⟨k + 1, by omega, by go_num, ?_, hbk.setCell (Nat.le_refl _) _⟩
                  rw [outTo, ← Hp.out, HAT.out]
                  exact hO.set p v
                case measure => simp [intOf] <;> omega
              · obtain rfl : k = r0 := by omega
                go_wp2_with fail
                go_ret2
                exact ⟨hb.trans (hbk.mono (by omega)), Or.inr ⟨wo.heap.size, _, HS.out, rfl, by omega, hO⟩⟩
    · obtain rfl : u = ci := by omega
      have HGF := HG
      have hmk := run_make_row' (P := Try.prog) 24 3 (.int .i64 0) 8 Try.underlying24 infoInt rfl .i64 .i64 u (by omega) (by omega)
      by_cases hr : r0 < m
      · skip
        have hrI : (r0 : Int) < (m : Int) := by omega
        have hrc : ¬ r0 = capR := by omega
        have hs0 : B2 ≤ wo.heap.size := by rw [← hsz]; exact hb.size
        obtain ⟨MF, HMF⟩ : ∃ MF, Hid (MF = rr.map (·.l)) := ⟨_, rfl⟩
        have HGI := hid (gauss_inv HWD.out u (Nat.le_refl _))
        rw [← HGF.out] at HGI
        have HPB : Hid (∀ p ∈ ps, p < u) := hid HGI.out.pc
        have hRV : Hid (RowV wo pa (ps.map natV)) := hid (by
          obtain ⟨ao', cap', e, _, h⟩ := Mine.row hP
          injection e with e1 e2 e3
          rw [e1]; exact h)
        go_wp2_with fail
        go_loopw [170] (fun i wk => ∃ k : Nat, k ≤ m - r0 ∧ i = .int .i64 k ∧ wk = wo ∧ Hid (∀ j, j < k → at2 MF (r0 + j) u = 0)) (fun i _ => m - r0 - (intOf i).toNat)
        case atStart => exact ⟨0, by omega, rfl, rfl, fun j hj => absurd hj (Nat.not_lt_zero _)⟩
        case round =>
          obtain ⟨k, hk, rfl, rfl, HZ⟩ := hrel
          rename World => wo
          by_cases hkd : k < m - r0
          · have kI : (k : Int) < ((m - r0 : Nat) : Int) := by omega
            have kI0 : (0 : Int) ≤ (k : Int) := by omega
            obtain ⟨zk, hzk⟩ : ∃ zk, rr[r0 + k]? = some zk := ⟨_, List.getElem?_eq_getElem (by rw [HRR.out]; omega)⟩
            have chk := hW.hdr hzk
            obtain ⟨v, HV, bv, cv⟩ := hW.cell hzk (j := u) (by omega)
            have HAT : Hid (at2 MF (r0 + k) u = v) := hid (by rw [HMF.out, at2, mat_getD hzk, HV.out])
            have huI : (u : Int) < (u : Int) + 1 := by omega
            clear hzk
            by_cases hv0 : v = 0
            · subst hv0
              have HZ' : Hid (∀ j, j < k + 1 → at2 MF (r0 + j) u = 0) := hid (fun j hj => by
                by_cases e : j = k
                · rw [e]; exact HAT.out
                · exact HZ.out j (by omega))
              go_wp2_with fail
              go_roundw
              case rel => exact ⟨k + 1, by omega, by go_num, by trivial, HZ'⟩
              case measure => simp [intOf] <;> omega
            · have hvb : (v != 0) = true := by simp [hv0]
              have HN : Hid (solveL M u = none) := hid (by
                unfold solveL
                rw [if_neg]
                intro ho
                rw [okM_iff, ← HGF.out] at ho
                have := ho (r0 + k) (by dsimp only; rw [HPS.out]; omega) (by dsimp only; rw [List.length_map, HRR.out]; omega)
                dsimp only at this
                rw [← HMF.out, HAT.out] at this
                exact hv0 this)
              go_wp2_with fail
              go_ret2
              exact ⟨hb, Or.inl ⟨HN.out, rfl⟩⟩
          · obtain rfl : k = m - r0 := by omega
            have HS : Hid (solveL M u = some (outTo MF ps u r0)) := hid (by
              have ho : okM (gauss M u) u = true := by
                rw [okM_iff, ← HGF.out]
                intro i h1 h2
                dsimp only at h1 h2
                rw [List.length_map, HRR.out] at h2
                rw [HPS.out] at h1
                have := HZ.out (i - r0) (by omega)
                rw [show r0 + (i - r0) = i by omega, HMF.out] at this
                exact this
              unfold solveL
              rw [if_pos ho, ← HGF.out]
              dsimp only
              rw [HPS.out, HMF.out])
            go_wp2_with fail
            go_loopw [184] (fun i wk => ∃ k : Nat, k ≤ r0 ∧ i = .int .i64 k ∧ BlkI .i64 3 wk wo.heap.size (outTo MF ps u k) ∧ Below wo.heap.size wo wk) (fun i _ => r0 - (intOf i).toNat)
            case atStart => exact ⟨0, by omega, rfl, BlkI.made' .i64 3 wo u rfl, (Below.refl _ _).alloc (Nat.le_refl _) _⟩
            case round =>
              obtain ⟨k, hk, rfl, hO, hbk⟩ := hrel
              rename World => wk
              by_cases h0 : k < r0
              · have kI : (k : Int) < (r0 : Int) := by omega
                have kI0 : (0 : Int) ≤ (k : Int) := by omega
                have kmI : (k : Int) < (m : Int) := by omega
                obtain ⟨b, off, e5, hbb, hcc⟩ := hRV.out.resolve_left (by intro e; have h7 : ps.length = r0 := HPS.out; rw [List.map_eq_nil_iff.1 e, List.length_nil] at h7; omega)
                subst e5
                obtain ⟨p, Hp⟩ : ∃ p, Hid (p = ps.getD k 0) := ⟨_, rfl⟩
                have cp := (hbk.cell (p := ⟨b, off + k, none⟩) hbb).trans (hcc k (natV p) (by rw [List.getElem?_map, List.getElem?_eq_getElem (by rw [HPS.out]; exact h0), Hp.out, getD_lt' ps 0 (by rw [HPS.out]; exact h0)]; rfl))
                unfold natV at cp
                have hpu : p < u := by rw [Hp.out]; exact HPB.out _ (getDN_lt ps (by rw [HPS.out]; exact h0))
                have hpI : (p : Int) < (u : Int) := by omega
                have hpI0 : (0 : Int) ≤ (p : Int) := by omega
                obtain ⟨zk, hzk⟩ : ∃ zk, rr[k]? = some zk := ⟨_, List.getElem?_eq_getElem (by rw [HRR.out]; omega)⟩
                have hWk := hW.below (hbk.mono hs0)
                have chk := hWk.hdr hzk
                obtain ⟨v, HV, bv, cv⟩ := hWk.cell hzk (j := u) (by omega)
                have cO := hO.cell (i := p) (by rw [outTo_length]; exact hpu)
                have fO := hO.frozen p
                have HAT : Hid (at2 MF k u = v) := hid (by rw [HMF.out, at2, mat_getD hzk, HV.out])
                have huI : (u : Int) < (u : Int) + 1 := by omega
                clear hzk
                go_wp2_with fail
                go_roundw
                case rel =>
                  refine ⟨k + 1, by omega, by go_num, ?_, hbk.setCell (Nat.le_refl _) _⟩
                  rw [outTo, ← Hp.out, HAT.out]
                  exact hO.set p v
                case measure => simp [intOf] <;> omega
              · obtain rfl : k = r0 := by omega
                go_wp2_with fail
                go_ret2
                exact ⟨hb.trans (hbk.mono (by omega)), Or.inr ⟨wo.heap.size, _, HS.out, rfl, by omega, hO⟩⟩
      · obtain rfl : r0 = m := by omega
        have hs0 : B2 ≤ wo.heap.size := by rw [← hsz]; exact hb.size
        obtain ⟨MF, HMF⟩ : ∃ MF, Hid (MF = rr.map (·.l)) := ⟨_, rfl⟩
        have HGI := hid (gauss_inv HWD.out u (Nat.le_refl _))
        rw [← HGF.out] at HGI
        have HPB : Hid (∀ p ∈ ps, p < u) := hid HGI.out.pc
        have hRV : Hid (RowV wo pa (ps.map natV)) := hid (by
          obtain ⟨ao', cap', e, _, h⟩ := Mine.row hP
          injection e with e1 e2 e3
          rw [e1]; exact h)
        have HS : Hid (solveL M u = some (outTo MF ps u r0)) := hid (by
          have ho : okM (gauss M u) u = true := by
            rw [okM_iff, ← HGF.out]
            intro i h1 h2
            dsimp only at h1 h2
            rw [List.length_map, HRR.out] at h2
            rw [HPS.out] at h1
            omega
          unfold solveL
          rw [if_pos ho, ← HGF.out]
          dsimp only
          rw [HPS.out, HMF.out])
        go_wp2_with fail
        all_goals
          go_loopw [170] (fun i wk => i = .int .i64 0 ∧ wk = wo) (fun _ _ => 0)
          case atStart => exact ⟨rfl, rfl⟩
          case round =>
            obtain ⟨rfl, rfl⟩ := hrel
            rename World => wo
            go_wp2_with fail
            go_loopw [184] (fun i wk => ∃ k : Nat, k ≤ r0 ∧ i = .int .i64 k ∧ BlkI .i64 3 wk wo.heap.size (outTo MF ps u k) ∧ Below wo.heap.size wo wk) (fun i _ => r0 - (intOf i).toNat)
            case atStart => exact ⟨0, by omega, rfl, BlkI.made' .i64 3 wo u rfl, (Below.refl _ _).alloc (Nat.le_refl _) _⟩
            case round =>
              obtain ⟨k, hk, rfl, hO, hbk⟩ := hrel
              rename World => wk
              by_cases h0 : k < r0
              · have kI : (k : Int) < (r0 : Int) := by omega
                have kI0 : (0 : Int) ≤ (k : Int) := by omega
                obtain ⟨b, off, e5, hbb, hcc⟩ := hRV.out.resolve_left (by intro e; have h7 : ps.length = r0 := HPS.out; rw [List.map_eq_nil_iff.1 e, List.length_nil] at h7; omega)
                subst e5
                obtain ⟨p, Hp⟩ : ∃ p, Hid (p = ps.getD k 0) := ⟨_, rfl⟩
                have cp := (hbk.cell (p := ⟨b, off + k, none⟩) hbb).trans (hcc k (natV p) (by rw [List.getElem?_map, List.getElem?_eq_getElem (by rw [HPS.out]; exact h0), Hp.out, getD_lt' ps 0 (by rw [HPS.out]; exact h0)]; rfl))
                unfold natV at cp
                have hpu : p < u := by rw [Hp.out]; exact HPB.out _ (getDN_lt ps (by rw [HPS.out]; exact h0))
                have hpI : (p : Int) < (u : Int) := by omega
                have hpI0 : (0 : Int) ≤ (p : Int) := by omega
                obtain ⟨zk, hzk⟩ : ∃ zk, rr[k]? = some zk := ⟨_, List.getElem?_eq_getElem (by rw [HRR.out]; omega)⟩
                have hWk := hW.below (hbk.mono hs0)
                have chk := hWk.hdr hzk
                obtain ⟨v, HV, bv, cv⟩ := hWk.cell hzk (j := u) (by omega)
                have cO := hO.cell (i := p) (by rw [outTo_length]; exact hpu)
                have fO := hO.frozen p
                have HAT : Hid (at2 MF k u = v) := hid (by rw [HMF.out, at2, mat_getD hzk, HV.out])
                have huI : (u : Int) < (u : Int) + 1 := by omega
                clear hzk
                go_wp2_with fail
                go_roundw
                case rel =>
                  refine ⟨k + 1, by omega, by go_num, ?_, hbk.setCell (Nat.le_refl _) _⟩
                  rw [outTo, ← Hp.out, HAT.out]
                  exact hO.set p v
                case measure => simp [intOf] <;> omega
              · obtain rfl : k = r0 := by omega
                go_wp2_with fail
                go_ret2
                exact ⟨hb.trans (hbk.mono (by omega)), Or.inr ⟨wo.heap.size, _, HS.out, rfl, by omega, hO⟩⟩
end Go.Proofs.Ytbjmadcbhkeenaa.gs
