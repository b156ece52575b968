/-
  Contract of keyref2.WayOf. Conditions: at most 200 envelopes that lie in memory.
-/
import Derived.Test.YtbjmadcbhkeenaaGreatCLkC
set_option maxRecDepth 100000
set_option linter.unusedSimpArgs false
set_option linter.unusedVariables false
namespace Go.Proofs.YtbjmadcbhkeenaaGreat.lk
open Go.RowKit wr st hs shr sh
theorem zeroInts (w : World) : (zeroValue 29).run Tryz.prog w = .ok (.slice none 0 0) w := by kernel_rfl
theorem zeroID : (Tryz.prog.info? 27).map (·.zero) = some (some (.agg ((List.replicate 16 (0 : Int)).map (Value.int .u8)).toArray)) := by kernel_rfl
theorem cell_map {w : World} {r i : Nat} {D : Mp Value} (h : MapD w r D) : w.cell? ⟨r, i, none⟩ = none := by
 obtain ⟨es, c, h, _⟩ := h
 unfold World.cell?
 rw [h]
theorem cell_iter {w : World} {b r i : Nat} {D : Mp Value} {left : Id → Prop} {cnt : Nat} (h : IterD w b r D left cnt) : w.cell? ⟨r, i, none⟩ = none := by
 obtain ⟨es, clock, since, seen, c0, _, _, h, _⟩ := h
 unfold World.cell?
 rw [h]
theorem rowI_grown {k : IntKind} {w w' : World} {ao : Option Addr} {l : List Int} {r : Nat} (h : RowI k w ao l) (hg : w.grownBy w' (some r)) (hr : ∀ i, w.cell? ⟨r, i, none⟩ = none) : RowI k w' ao l := by
 rcases h with h | ⟨b, off, h1, h2, h3⟩
 ·exact Or.inl h
 ·refine Or.inr ⟨b, off, h1, Nat.lt_of_lt_of_le h2 hg.size, fun i hi => ?_⟩
  exact hg.cell (h3 i hi) (fun e => by
   have e2 : b = r := by injection e
   have := h3 i hi
   rw [e2, hr] at this
   cases this)
theorem rowI_gm {k : IntKind} {w w' : World} {ao : Option Addr} {l : List Int} {r : Nat} {D : Mp Value} (h : RowI k w ao l) (hg : w.grownBy w' (some r)) (hr : MapD w r D) : RowI k w' ao l := rowI_grown h hg (fun i => cell_map hr)
theorem rowI_no {w : World} {ao : Option Addr} {l : List Nat} {c n : Nat} (h : RowI .i64 w ao (intsN l)) (hl : l ≠ []) (e : ao = none) : c = 0 ∧ n = 0 := by
 rcases h with h | ⟨b, off, h, _⟩
 ·exact absurd (List.map_eq_nil_iff.1 h) hl
 ·rw [e] at h; cases h
def Holds (w : World) (D : Mp Value) (G : Mp (List Nat)) : Prop := (∀ k, G k = none → D k = none) ∧ ∀ k l, G k = some l → ∃ (ao : Option Addr) (c n : Nat), D k = some (.slice ao n c) ∧ Hid (n = l.length) ∧ RowI .i64 w ao (intsN l) ∧ (ao = none → c = 0 ∧ n = 0)
theorem Holds.map {w w' : World} {D : Mp Value} {G : Mp (List Nat)} (h : Holds w D G) (hr : ∀ ao l, RowI .i64 w ao l → RowI .i64 w' ao l) : Holds w' D G :=
 ⟨h.1, fun k l hk => by
  obtain ⟨ao, c, n, h1, h2, h3, h4⟩ := h.2 k l hk
  exact ⟨ao, c, n, h1, h2, hr _ _ h3, h4⟩⟩
theorem Holds.below {w w' : World} {D : Mp Value} {G : Mp (List Nat)} (h : Holds w D G) (hb : Below w.heap.size w w') : Holds w' D G := h.map fun _ _ h => h.below hb
theorem Holds.grownMap {w w' : World} {D D2 : Mp Value} {G : Mp (List Nat)} {r : Nat} (h : Holds w D G) (hg : w.grownBy w' (some r)) (hr : MapD w r D2) : Holds w' D G := h.map fun _ _ h => rowI_grown h hg (fun i => cell_map hr)
theorem Holds.grownIter {w w' : World} {D D2 : Mp Value} {G : Mp (List Nat)} {b r : Nat} {left : Id → Prop} {cnt : Nat} (h : Holds w D G) (hg : w.grownBy w' (some r)) (hr : IterD w b r D2 left cnt) : Holds w' D G := h.map fun _ _ h => rowI_grown h hg (fun i => cell_iter hr)
theorem Holds.empty (w : World) : Holds w (fun _ => none) (fun _ => none) := ⟨fun _ _ => rfl, fun k l h => by cases h⟩
theorem Holds.upd {w : World} {D : Mp Value} {G : Mp (List Nat)} (h : Holds w D G) (k : Id) {ao : Option Addr} {n c : Nat} {l : List Nat} (hn : n = l.length) (hr : RowI .i64 w ao (intsN l)) (hno : ao = none → c = 0 ∧ n = 0) : Holds w (lk.upd D k (.slice ao n c)) (lk.upd G k l) := by
 refine ⟨fun j hj => ?_, fun j m hj => ?_⟩
 ·by_cases hjk : j = k
  ·rw [hjk, upd_same] at hj; cases hj
  ·rw [upd_other _ _ hjk] at hj ⊢; exact h.1 j hj
 ·by_cases hjk : j = k
  ·rw [hjk, upd_same] at hj
   cases hj
   exact ⟨ao, c, n, by rw [hjk, upd_same], hn, hr, hno⟩
  ·rw [upd_other _ _ hjk] at hj ⊢; exact h.2 j m hj
theorem Holds.start (w : World) (k : Id) : Holds w (lk.upd (fun _ => none) k (.slice none 0 0)) (lk.upd (fun _ => none) k []) := (Holds.empty w).upd k rfl (Or.inl rfl) (fun _ => ⟨rfl, rfl⟩)
theorem Holds.join {w : World} {D D2 : Mp Value} {G G2 : Mp (List Nat)} (h : Holds w D G) (h2 : Holds w D2 G2) : Holds w (lk.join D D2) (lk.join G G2) := by
 refine ⟨fun k hk => ?_, fun k l hk => ?_⟩
 ·unfold lk.join at hk ⊢
  cases hg : G2 k with
  | none => rw [hg] at hk; rw [h2.1 k hg]; exact h.1 k hk
  | some l => rw [hg] at hk; cases hk
 ·unfold lk.join at hk ⊢
  cases hg : G2 k with
  | none => rw [hg] at hk; rw [h2.1 k hg]; exact h.2 k l hk
  | some m =>
   rw [hg] at hk
   cases hk
   obtain ⟨ao, c, n, h3, h4⟩ := h2.2 k l hg
   rw [h3]
   exact ⟨ao, c, n, rfl, h4⟩
theorem join_start {DB DN : Mp Value} {k : Id} (h : ¬ (DN k).isSome = true) : DB k = join DB DN k := by
 unfold join
 cases hk : DN k with
 | none => rfl
 | some v => rw [hk] at h; exact absurd rfl h
theorem join_step {DB DN DC : Mp Value} {left : Id → Prop} (h : ∀ k, ¬ left k → DC k = join DB DN k) {k : Id} {v : Value} (hk : DN k = some v) (i : Id) (hi : ¬ (left i ∧ i ≠ k)) : upd DC k v i = join DB DN i := by
 by_cases hik : i = k
 ·rw [hik, upd_same]; unfold join; rw [hk]
 ·rw [upd_other _ _ hik]; exact h i fun hl => hi ⟨hl, hik⟩
set_option maxHeartbeats 8000000 in
theorem WayOf_any (lo : Option Addr) (cap n : Nat) (es : List Env) (from_ want : Id) (w : World) (hn : n = es.length) (h1 : n ≤ 200) (hrow : RowE w lo es) (hok : ∀ x ∈ es, x.Ok) (hf : from_.length = 16) (hw : want.length = 16) :
  Calls Tryz.prog 11 #[.slice lo n cap, idV from_, idV want] w (WayPost (wofN (es.map lnk) from_ n want) w) := by
 obtain ⟨B, HB⟩ : ∃ B, Hid (B = w.heap.size) := ⟨_, rfl⟩
 have hsz : w.heap.size = B := HB.out.symm
 have HN := hid hn
 obtain ⟨W, HW⟩ : ∃ W, Hid (W = want.map (Value.int .u8)) := ⟨_, rfl⟩
 have hWl : W.length = 16 := by rw [HW.out, List.length_map, hw]
 have HIDW : Hid (Value.agg W.toArray = idV want) := hid (by rw [HW.out]; rfl)
 obtain ⟨R, HR⟩ : ∃ W, Hid (W = from_.map (Value.int .u8)) := ⟨_, rfl⟩
 have hRl : R.length = 16 := by rw [HR.out, List.length_map, hf]
 have HIDR : Hid (Value.agg R.toArray = idV from_) := hid (by rw [HR.out]; rfl)
 have hzE := hid zeroEnv
 obtain ⟨ZE, HZE⟩ : ∃ Z, Hid (Z = env0.cs) := ⟨_, rfl⟩
 rw [← HZE.out] at hzE
 have hZEl : ZE.length = 130 := by rw [HZE.out]; exact env0_ok.csl
 obtain ⟨ZI, HZI⟩ : ∃ Z, Hid (Z = (List.replicate 16 (0 : Int)).map (Value.int .u8)) := ⟨_, rfl⟩
 have hzI := hid zeroID
 rw [← HZI.out] at hzI
 have hZIl : ZI.length = 16 := by rw [HZI.out]; simp
 have hinfo := slInt.info
 have HF0 : Hid (wofN (es.map lnk) from_ 0 = upd (fun _ => none) from_ []) := rfl
 have HSP := hid (fun m k l h => (wofN_spec (es.map lnk) from_ m).1 k l h)
 rw [← HIDW.out, ← HIDR.out]
 clear hn
 go_enter Tryz.func11, Tryz.ntmps11
 go_wp2_with (first | (refine wl_insD rfl 69 29 _ _ _ rfl Tryz.underlying69 (B + 2) _ (MapD.new hM2) from_ hf rfl HIDR.out (.slice none 0 0) rfl ?_; intro w3 hM3 hb3 hs3 hg3; have hB3 := hB2.grown hg3 (by intro e; injection e with e; omega); have bb3 : Below B w w3 := bb2.grown hg3 (by omega) (fun k hk => by injection hk with hk; omega); have hs3b : B + 3 ≤ w3.heap.size := (by omega); clear hM2 hb3 hg3 bb2 hB2 hs3) | (refine wl_load rfl 27 _ rfl ⟨B, 0, none⟩ rfl R (by rw [hRl]; exact aggID) hA2.at0 ?_) | (refine wl_makeMap rfl 69 rfl (B + 2) hs1 ?_; intro w2 hM2 hb2 hs2; have hA2 := hA1.below hb2 (by omega); have hB2 := hB1.below hb2 (by omega); have bb2 := bb1.trans (hb2.mono (by omega : B ≤ _)); clear hA1 hB1 bb1 hb2) | (refine wl_boxV rfl 27 _ rfl W rfl (B + 1) hs0 ?_; intro w1 hB1 hb1 hs1; have hA1 := hA0.below hb1 (by omega); have bb1 := hb0.trans (hb1.mono (by omega : B ≤ _)); clear hA0 hb0 hb1) | (refine wl_boxV rfl 27 _ rfl R rfl B hsz ?_; intro w0 hA0 hb0 hs0))
 go_loopw [28] (fun i wr => ∃ (m : Nat) (DB : Mp Value), m ≤ n ∧ i = .int .i64 m ∧ MapD wr (B + 2) DB ∧ Holds wr DB (wofN (es.map lnk) from_ m) ∧ Below B w wr ∧ BlkV 27 wr (B + 1) W ∧ B + 3 ≤ wr.heap.size) (fun i _ => n - (intOf i).toNat)
 case atStart => exact ⟨0, _, by omega, rfl, hM3, by rw [HF0.out]; exact Holds.start w3 from_, bb3, hB3, hs3b⟩
 case round =>
  clear hM3 bb3 hB3 hs3b HF0
  obtain ⟨m, DB, hm, rfl, hMo, hHo, hbo, hBo, hszo⟩ := hrel
  by_cases hmn : m < n
  ·have hmI : (m : Int) < (n : Int) := by omega
   obtain ⟨GB, HGB⟩ : ∃ G, Hid (G = wofN (es.map lnk) from_ m) := ⟨_, rfl⟩
   rw [← HGB.out] at hHo
   have HGL : Hid (∀ k l, GB k = some l → l.length ≤ m) := hid (fun k l h => by rw [HGB.out] at h; exact (HSP.out m k l h).2)
   have HF1 : Hid (join GB (wofR GB (es.map lnk) 0 (fun _ => none)) = wofN (es.map lnk) from_ (m + 1)) := hid (by rw [HGB.out]; rfl)
   obtain ⟨GE, HGE⟩ : ∃ G, Hid (G = wofR GB (es.map lnk) 0 (fun _ => none)) := ⟨_, rfl⟩
   rw [← HGE.out] at HF1
   have HF1' := HF1
   clear HGB
   go_wp2_with (refine wl_makeMap rfl 69 rfl wr.heap.size rfl ?_; intro w1 hM1 hb1 hs1; obtain ⟨g, HGG⟩ : ∃ g, Hid (g = wr.heap.size) := ⟨_, rfl⟩; rw [← HGG.out] at hM1 hs1; rw [← HGG.out]; have hgB : B + 3 ≤ g := (by rw [HGG.out]; exact hszo); have hMo1 := hMo.below hb1 hMo.lt; have hHo1 := hHo.below hb1; have hBo1 := hBo.below hb1 hBo.lt; have hbo1 : Below B w w1 := hbo.trans (hb1.mono (by omega)); clear hMo hHo hBo hbo hb1)
   go_loopw [33] (fun i wr => ∃ (j : Nat) (DN : Mp Value) (GN : Mp (List Nat)), j ≤ n ∧ i = .int .i64 j ∧ MapD wr (B + 2) DB ∧ MapD wr g DN ∧ Holds wr DB GB ∧ Holds wr DN GN ∧ Below B w wr ∧ BlkV 27 wr (B + 1) W ∧ B + 3 ≤ wr.heap.size ∧ Hid (wofR GB ((es.map lnk).drop j) j GN = GE)) (fun i _ => n - (intOf i).toNat)
   case atStart => exact ⟨0, _, _, by omega, rfl, hMo1, MapD.new hM1, hHo1, Holds.empty w1, hbo1, hBo1, by omega, hid (by rw [List.drop_zero, HGE.out])⟩
   case round =>
    clear hMo1 hM1 hHo1 hbo1 hBo1 hs1 HGE HF1
    rename World => wr
    obtain ⟨j, DN, GN, hj, rfl, hMB, hMN, hH, hHN, hb, hBx, hszr, HG⟩ := hrel
    by_cases hjn : j < n
    ·have hjI : (j : Int) < (n : Int) := by omega
     have hje : j < es.length := by have := HN.out; omega
     have hMBl := hMB.lt
     have hMNl := hMN.lt
     have hszr0 : B ≤ wr.heap.size := by omega
     obtain ⟨b, off, rfl, hbw, hat, hC130⟩ := (hrow.below (by rw [← HB.out]; exact hb)).at (k := j) hje
     obtain ⟨x, Hx⟩ : ∃ x, Hid (x = es.getD j env0) := ⟨_, rfl⟩
     have hx : x.Ok := by rw [Hx.out]; exact hok _ (by rw [getD_lt' es _ hje]; exact List.getElem_mem hje)
     rw [← Hx.out] at hat hC130
     have HEJ : Hid ((es.map lnk)[j]'(by rw [List.length_map]; exact hje) = (x.b, x.o)) := hid (by rw [List.getElem_map, Hx.out, getD_lt' es _ hje]; rfl)
     obtain ⟨CS, HCS⟩ : ∃ C, Hid (C = x.cs) := ⟨_, rfl⟩
     have hCl : CS.length = 130 := by rw [HCS.out]; exact hC130
     have hC1 : ∀ u ∈ CS, u.oneCell' = true := by rw [HCS.out]; exact x.cs_one
     rw [← HCS.out] at hat
     obtain ⟨XB, HXB⟩ : ∃ V, Hid (V = x.b.map (Value.int .u8)) := ⟨_, rfl⟩
     have hXBl : XB.length = 16 := by rw [HXB.out, List.length_map, hx.bl]
     obtain ⟨XO, HXO⟩ : ∃ V, Hid (V = x.o.map (Value.int .u8)) := ⟨_, rfl⟩
     have hXOl : XO.length = 16 := by rw [HXO.out, List.length_map, hx.ol]
     have fB : Hid (∀ w G, BlkV 57 w G CS → At w ⟨G, 2, none⟩ XB) := hid (fun w G h => by rw [HXB.out]; rw [HCS.out] at h; exact env_b h)
     have fO : Hid (∀ w G, BlkV 57 w G CS → At w ⟨G, 18, none⟩ XO) := hid (fun w G h => by rw [HXO.out]; rw [HCS.out] at h; exact env_o hx h)
     have HIDB : Hid (Value.agg XB.toArray = idV x.b) := hid (by rw [HXB.out]; rfl)
     have HIDO : Hid (Value.agg XO.toArray = idV x.o) := hid (by rw [HXO.out]; rfl)
     have hxbl := hx.bl
     have hxol := hx.ol
     have HGD : Hid (wofR GB ((es.map lnk).drop (j + 1)) (j + 1) (wofX GB GN j (x.b, x.o)) = GE) := hid (by
      have h := HG.out
      rw [wofR_drop _ _ _ _ (by rw [List.length_map]; exact hje), HEJ.out] at h
      exact h)
     clear hx hC130 HEJ hje HG hrow
     cases hgb : GB x.b with
     | none =>
      have HV1 := hid (look_none (z := .slice none 0 0) (hH.1 _ hgb))
      have HX : Hid (wofX GB GN j (x.b, x.o) = GN) := hid (by unfold wofX; rw [hgb])
      obtain ⟨v2, k2, HV2⟩ : ∃ v2 k2, Hid ((if true = true then Value.tuple #[(DB x.o).getD (.slice none 0 0), .bool (DB x.o).isSome] else (DB x.o).getD (.slice none 0 0)) = .tuple #[v2, .bool k2]) := ⟨_, _, rfl⟩
      clear hgb
      go_wp2_with (first | (refine wl_lookD (by kernel_rfl) 69 29 _ _ true rfl Tryz.underlying69 (.slice none 0 0) (zeroInts _) (B + 2) _ hM3 x.o hxol rfl HIDO.out _ HV2.out ?_) | (refine wl_lookD (by kernel_rfl) 69 29 _ _ true rfl Tryz.underlying69 (.slice none 0 0) (zeroInts _) (B + 2) _ hM3 x.b hxbl rfl HIDB.out _ HV1.out ?_) | (refine wl_load rfl 27 _ rfl ⟨M, 18, none⟩ rfl XO (by rw [hXOl]; exact aggID) (fO.out _ _ hX3) ?_) | (refine wl_load rfl 27 _ rfl ⟨M, 2, none⟩ rfl XB (by rw [hXBl]; exact aggID) (fB.out _ _ hX3) ?_) | (refine wl_storeV rfl 57 _ _ rfl 57 M rfl CS rfl 130 aggEnv hCl ZE hG2 hZEl hC1 ?_; intro w3 hX3 hb3 hs3; have bb3 : Below wr.heap.size wr w3 := bb2.trans (hb3.mono (by rw [HMM.out]; exact Nat.le_refl _)); have hM3 := hMB.below bb3 hMBl; have hN3 := hMN.below bb3 hMNl; clear hb3 hG2 bb2 hs2 hs3) | (refine wl_allocV rfl 57 rfl ZE hzE.out wr.heap.size rfl ?_; intro w2 hG2 bb2 hs2; obtain ⟨M, HMM⟩ : ∃ g, Hid (g = wr.heap.size) := ⟨_, rfl⟩; rw [← HMM.out] at hG2; rw [← HMM.out]) | (refine wl_load rfl 57 _ rfl ⟨b, off + j * 130, none⟩ rfl CS (by rw [hCl]; exact aggEnv) hat ?_))
      go_roundw
      case rel => exact ⟨j + 1, DN, GN, by omega, by go_num, hM3, hN3, hH.below bb3, hHN.below bb3, hb.trans (bb3.mono hszr0), hBx.below bb3 hBx.lt, by have := bb3.size; omega, hid (by rw [← HGD.out, HX.out])⟩
      case measure => simp [intOf] <;> omega
     | some way =>
      obtain ⟨ao1, c1, nw, hdb, HNW, hRw, hno1⟩ := hH.2 _ _ hgb
      have HV1 := hid (look_some (z := .slice none 0 0) hdb)
      have HWM := HGL.out _ _ hgb
      cases hgo : GB x.o with
      | some way2 =>
       obtain ⟨ao2, c2, n2, hdo, HN2, _, _⟩ := hH.2 _ _ hgo
       have HV2 := hid (look_some (z := .slice none 0 0) hdo)
       have HX : Hid (wofX GB GN j (x.b, x.o) = GN) := hid (by unfold wofX; rw [hgb, hgo])
       clear hgb hgo hdb hdo HWM hRw hno1
       go_wp2_with (first | (refine wl_lookD (by kernel_rfl) 69 29 _ _ true rfl Tryz.underlying69 (.slice none 0 0) (zeroInts _) (B + 2) _ hM3 x.o hxol rfl HIDO.out _ HV2.out ?_) | (refine wl_lookD (by kernel_rfl) 69 29 _ _ true rfl Tryz.underlying69 (.slice none 0 0) (zeroInts _) (B + 2) _ hM3 x.b hxbl rfl HIDB.out _ HV1.out ?_) | (refine wl_load rfl 27 _ rfl ⟨M, 18, none⟩ rfl XO (by rw [hXOl]; exact aggID) (fO.out _ _ hX3) ?_) | (refine wl_load rfl 27 _ rfl ⟨M, 2, none⟩ rfl XB (by rw [hXBl]; exact aggID) (fB.out _ _ hX3) ?_) | (refine wl_storeV rfl 57 _ _ rfl 57 M rfl CS rfl 130 aggEnv hCl ZE hG2 hZEl hC1 ?_; intro w3 hX3 hb3 hs3; have bb3 : Below wr.heap.size wr w3 := bb2.trans (hb3.mono (by rw [HMM.out]; exact Nat.le_refl _)); have hM3 := hMB.below bb3 hMBl; have hN3 := hMN.below bb3 hMNl; clear hb3 hG2 bb2 hs2 hs3) | (refine wl_allocV rfl 57 rfl ZE hzE.out wr.heap.size rfl ?_; intro w2 hG2 bb2 hs2; obtain ⟨M, HMM⟩ : ∃ g, Hid (g = wr.heap.size) := ⟨_, rfl⟩; rw [← HMM.out] at hG2; rw [← HMM.out]) | (refine wl_load rfl 57 _ rfl ⟨b, off + j * 130, none⟩ rfl CS (by rw [hCl]; exact aggEnv) hat ?_))
       go_roundw
       case rel => exact ⟨j + 1, DN, GN, by omega, by go_num, hM3, hN3, hH.below bb3, hHN.below bb3, hb.trans (bb3.mono hszr0), hBx.below bb3 hBx.lt, by have := bb3.size; omega, hid (by rw [← HGD.out, HX.out])⟩
       case measure => simp [intOf] <;> omega
      | none =>
       have HV2 := hid (look_none (z := .slice none 0 0) (hH.1 _ hgo))
       have hnw : nw ≤ 1000 := by have := HNW.out; omega
       have hcl : Hid (∀ y, RowI .i64 y ao1 (intsN way) → Calls Tryz.prog 29 #[.slice ao1 nw c1] y fun e w' => ∃ v, e = .returned v ∧ Mine w' y.heap.size 3 1 v nw ((intsN way).map (Value.int .i64)) ∧ Below y.heap.size y w') := hid (fun y hy => slInt.Clone_any ao1 nw c1 _ y hy.v (by rw [List.length_map, intsN_length, HNW.out]; simp) (ints_one _ _) (fun h => by have := hno1 h; have := HNW.out; omega) (by omega))
       have HWL : Hid (nw + 1 = (way ++ [j]).length) := hid (by rw [List.length_append, HNW.out]; rfl)
       cases hgn : GN x.o with
       | none =>
        have HV3 := hid (look_none (z := .slice none 0 0) (hHN.1 _ hgn))
        have HX : Hid (wofX GB GN j (x.b, x.o) = upd GN x.o (way ++ [j])) := hid (by unfold wofX; rw [hgb, hgo]; dsimp only; rw [hgn])
        clear hgb hgo hdb hgn HWM hno1
        go_wp2_with (first | (refine wl_updD rfl 69 29 _ _ _ rfl Tryz.underlying69 g _ hN5 x.o hxol rfl HIDO.out (.slice ao5 (nw + 1) cap5) rfl ?_; intro w6 hN6 hb6 hs6 hg6; have bb6 : Below B w w6 := (hb.trans (b35.mono hszr0)).grown hg6 (Nat.le_trans hszr0 b35.size) (fun k hk => by injection hk with hk; omega); have hM6 := hM5.grown hg6 (by intro e; injection e with e; omega); have hH6 := ((hH.below b35).grownMap hg6 hN5); have hHN6 := (((hHN.below b35).grownMap hg6 hN5)).upd (c := cap5) x.o (HWL.out) (rowI_gm hRI5 hg6 hN5) (rowI_no (l := way ++ [j]) hRI5 (List.append_ne_nil_of_right_ne_nil _ (List.cons_ne_nil _ _))); have hBx6 := (hBx.below b35 hBx.lt).grown hg6 (by intro e; injection e with e; omega); have hs6b : B + 3 ≤ w6.heap.size := (by have := b35.size; omega); clear hb6 hg6 hM5 hN5 hs6) | (refine wl_lookD (by kernel_rfl) 69 29 _ _ true rfl Tryz.underlying69 (.slice none 0 0) (zeroInts _) g _ hN5 x.o hxol rfl HIDO.out _ HV3.out ?_) | (at_builtin; refine wl_appendS rfl _ _ 29 rfl 3 (.int .i64 0) 1 8 Tryz.underlying29 hinfo rfl (by decide) w3.heap.size _ nw ((intsN way).map (Value.int .i64)) rfl (hMi4.belowAll ((Below.refl _ _).alloc (Nat.le_refl _) _)) (some ⟨w4.heap.size, 0, none⟩) 1 1 rfl (fun h => by cases h) [.int .i64 j] rfl (at_row (by simp) (at_new' _ _ _ rfl)) (by intro u hu; rw [List.mem_singleton.1 hu]; rfl) (by unfold maxLen; omega) (by omega) (by have := bb4.size; simp; omega) (nw + 1) rfl ?_; intro ao5 cap5 w5 row5 hcap5 hMi5 hR5 hg5 hrow5; have bb5 : Below w3.heap.size w3 w5 := (bb4.alloc bb4.size _).grown hg5 (by have := bb4.size; simp; omega) (fun k hk => (hrow5 k hk).1); have hX5 := hX3.below bb5 hX3.lt; have hM5 := hM3.below bb5 hM3.lt; have hN5 := hN3.below bb5 hN3.lt; have hRI5 := RowV.i (show RowV w5 ao5 ((intsN (way ++ [j])).map (Value.int .i64)) from by rw [intsN_snoc]; exact hR5); have b35 : Below wr.heap.size wr w5 := bb3.trans (bb5.mono bb3.size); clear hMi4 hg5 hrow5 hMi5 hR5 hR4) | (go_at_call 29; refine (hcl.out w3 (hRw.below bb3)).mono ?_; rintro r w4 ⟨v4, rfl, hMi4, bb4⟩; obtain ⟨ao4, cap4, rfl, hcap4, hR4⟩ := hMi4.row) | (refine wl_lookD (by kernel_rfl) 69 29 _ _ true rfl Tryz.underlying69 (.slice none 0 0) (zeroInts _) (B + 2) _ hM3 x.o hxol rfl HIDO.out _ HV2.out ?_) | (refine wl_lookD (by kernel_rfl) 69 29 _ _ true rfl Tryz.underlying69 (.slice none 0 0) (zeroInts _) (B + 2) _ hM3 x.b hxbl rfl HIDB.out _ HV1.out ?_) | (refine wl_load rfl 27 _ rfl ⟨M, 18, none⟩ rfl XO (by rw [hXOl]; exact aggID) (fO.out _ _ hX5) ?_) | (refine wl_load rfl 27 _ rfl ⟨M, 18, none⟩ rfl XO (by rw [hXOl]; exact aggID) (fO.out _ _ hX3) ?_) | (refine wl_load rfl 27 _ rfl ⟨M, 2, none⟩ rfl XB (by rw [hXBl]; exact aggID) (fB.out _ _ hX3) ?_) | (refine wl_storeV rfl 57 _ _ rfl 57 M rfl CS rfl 130 aggEnv hCl ZE hG2 hZEl hC1 ?_; intro w3 hX3 hb3 hs3; have bb3 : Below wr.heap.size wr w3 := bb2.trans (hb3.mono (by rw [HMM.out]; exact Nat.le_refl _)); have hM3 := hMB.below bb3 hMBl; have hN3 := hMN.below bb3 hMNl; clear hb3 hG2 bb2 hs2 hs3) | (refine wl_allocV rfl 57 rfl ZE hzE.out wr.heap.size rfl ?_; intro w2 hG2 bb2 hs2; obtain ⟨M, HMM⟩ : ∃ g, Hid (g = wr.heap.size) := ⟨_, rfl⟩; rw [← HMM.out] at hG2; rw [← HMM.out]) | (refine wl_load rfl 57 _ rfl ⟨b, off + j * 130, none⟩ rfl CS (by rw [hCl]; exact aggEnv) hat ?_))
        go_roundw
        case rel => exact ⟨j + 1, _, _, by omega, by go_num, hM6, hN6, hH6, hHN6, bb6, hBx6, hs6b, hid (by rw [← HGD.out, HX.out])⟩
        case measure => simp [intOf] <;> omega
       | some old =>
        obtain ⟨ao3, c3, n3, hdn, HN3, hR3, _⟩ := hHN.2 _ _ hgn
        have HV3 := hid (look_some (z := .slice none 0 0) hdn)
        obtain ⟨cc, HCC⟩ : ∃ c, Hid (c = cmpN (way ++ [j]) old) := ⟨_, rfl⟩
        by_cases hcc : cc < 0
        ·have HX : Hid (wofX GB GN j (x.b, x.o) = upd GN x.o (way ++ [j])) := hid (by unfold wofX; rw [hgb, hgo]; dsimp only; rw [hgn]; dsimp only; rw [if_pos (by rw [← HCC.out]; exact hcc)])
         clear hgb hgo hdb hgn hdn HWM hno1
         go_wp2_with (first | (refine wl_updD rfl 69 29 _ _ _ rfl Tryz.underlying69 g _ hN5 x.o hxol rfl HIDO.out (.slice ao5 (nw + 1) cap5) rfl ?_; intro w6 hN6 hb6 hs6 hg6; have bb6 : Below B w w6 := (hb.trans (b35.mono hszr0)).grown hg6 (Nat.le_trans hszr0 b35.size) (fun k hk => by injection hk with hk; omega); have hM6 := hM5.grown hg6 (by intro e; injection e with e; omega); have hH6 := ((hH.below b35).grownMap hg6 hN5); have hHN6 := (((hHN.below b35).grownMap hg6 hN5)).upd (c := cap5) x.o (HWL.out) (rowI_gm hRI5 hg6 hN5) (rowI_no (l := way ++ [j]) hRI5 (List.append_ne_nil_of_right_ne_nil _ (List.cons_ne_nil _ _))); have hBx6 := (hBx.below b35 hBx.lt).grown hg6 (by intro e; injection e with e; omega); have hs6b : B + 3 ≤ w6.heap.size := (by have := b35.size; omega); clear hb6 hg6 hM5 hN5 hs6) | (go_at_call 30; refine (Compare_ints ao5 ao3 cap5 c3 (nw + 1) n3 (way ++ [j]) old w5 HWL.out HN3.out hRI5 (hR3.below b35) (by omega) cc HCC).mono ?_; rintro r w5 ⟨rfl, rfl⟩) | (refine wl_lookD (by kernel_rfl) 69 29 _ _ true rfl Tryz.underlying69 (.slice none 0 0) (zeroInts _) g _ hN5 x.o hxol rfl HIDO.out _ HV3.out ?_) | (at_builtin; refine wl_appendS rfl _ _ 29 rfl 3 (.int .i64 0) 1 8 Tryz.underlying29 hinfo rfl (by decide) w3.heap.size _ nw ((intsN way).map (Value.int .i64)) rfl (hMi4.belowAll ((Below.refl _ _).alloc (Nat.le_refl _) _)) (some ⟨w4.heap.size, 0, none⟩) 1 1 rfl (fun h => by cases h) [.int .i64 j] rfl (at_row (by simp) (at_new' _ _ _ rfl)) (by intro u hu; rw [List.mem_singleton.1 hu]; rfl) (by unfold maxLen; omega) (by omega) (by have := bb4.size; simp; omega) (nw + 1) rfl ?_; intro ao5 cap5 w5 row5 hcap5 hMi5 hR5 hg5 hrow5; have bb5 : Below w3.heap.size w3 w5 := (bb4.alloc bb4.size _).grown hg5 (by have := bb4.size; simp; omega) (fun k hk => (hrow5 k hk).1); have hX5 := hX3.below bb5 hX3.lt; have hM5 := hM3.below bb5 hM3.lt; have hN5 := hN3.below bb5 hN3.lt; have hRI5 := RowV.i (show RowV w5 ao5 ((intsN (way ++ [j])).map (Value.int .i64)) from by rw [intsN_snoc]; exact hR5); have b35 : Below wr.heap.size wr w5 := bb3.trans (bb5.mono bb3.size); clear hMi4 hg5 hrow5 hMi5 hR5 hR4) | (go_at_call 29; refine (hcl.out w3 (hRw.below bb3)).mono ?_; rintro r w4 ⟨v4, rfl, hMi4, bb4⟩; obtain ⟨ao4, cap4, rfl, hcap4, hR4⟩ := hMi4.row) | (refine wl_lookD (by kernel_rfl) 69 29 _ _ true rfl Tryz.underlying69 (.slice none 0 0) (zeroInts _) (B + 2) _ hM3 x.o hxol rfl HIDO.out _ HV2.out ?_) | (refine wl_lookD (by kernel_rfl) 69 29 _ _ true rfl Tryz.underlying69 (.slice none 0 0) (zeroInts _) (B + 2) _ hM3 x.b hxbl rfl HIDB.out _ HV1.out ?_) | (refine wl_load rfl 27 _ rfl ⟨M, 18, none⟩ rfl XO (by rw [hXOl]; exact aggID) (fO.out _ _ hX5) ?_) | (refine wl_load rfl 27 _ rfl ⟨M, 18, none⟩ rfl XO (by rw [hXOl]; exact aggID) (fO.out _ _ hX3) ?_) | (refine wl_load rfl 27 _ rfl ⟨M, 2, none⟩ rfl XB (by rw [hXBl]; exact aggID) (fB.out _ _ hX3) ?_) | (refine wl_storeV rfl 57 _ _ rfl 57 M rfl CS rfl 130 aggEnv hCl ZE hG2 hZEl hC1 ?_; intro w3 hX3 hb3 hs3; have bb3 : Below wr.heap.size wr w3 := bb2.trans (hb3.mono (by rw [HMM.out]; exact Nat.le_refl _)); have hM3 := hMB.below bb3 hMBl; have hN3 := hMN.below bb3 hMNl; clear hb3 hG2 bb2 hs2 hs3) | (refine wl_allocV rfl 57 rfl ZE hzE.out wr.heap.size rfl ?_; intro w2 hG2 bb2 hs2; obtain ⟨M, HMM⟩ : ∃ g, Hid (g = wr.heap.size) := ⟨_, rfl⟩; rw [← HMM.out] at hG2; rw [← HMM.out]) | (refine wl_load rfl 57 _ rfl ⟨b, off + j * 130, none⟩ rfl CS (by rw [hCl]; exact aggEnv) hat ?_))
         go_roundw
         case rel => exact ⟨j + 1, _, _, by omega, by go_num, hM6, hN6, hH6, hHN6, bb6, hBx6, hs6b, hid (by rw [← HGD.out, HX.out])⟩
         case measure => simp [intOf] <;> omega
        ·have HX : Hid (wofX GB GN j (x.b, x.o) = GN) := hid (by unfold wofX; rw [hgb, hgo]; dsimp only; rw [hgn]; dsimp only; rw [if_neg (by rw [← HCC.out]; exact hcc)])
         clear hgb hgo hdb hgn hdn HWM hno1
         go_wp2_with (first | (go_at_call 30; refine (Compare_ints ao5 ao3 cap5 c3 (nw + 1) n3 (way ++ [j]) old w5 HWL.out HN3.out hRI5 (hR3.below b35) (by omega) cc HCC).mono ?_; rintro r w5 ⟨rfl, rfl⟩) | (refine wl_lookD (by kernel_rfl) 69 29 _ _ true rfl Tryz.underlying69 (.slice none 0 0) (zeroInts _) g _ hN5 x.o hxol rfl HIDO.out _ HV3.out ?_) | (at_builtin; refine wl_appendS rfl _ _ 29 rfl 3 (.int .i64 0) 1 8 Tryz.underlying29 hinfo rfl (by decide) w3.heap.size _ nw ((intsN way).map (Value.int .i64)) rfl (hMi4.belowAll ((Below.refl _ _).alloc (Nat.le_refl _) _)) (some ⟨w4.heap.size, 0, none⟩) 1 1 rfl (fun h => by cases h) [.int .i64 j] rfl (at_row (by simp) (at_new' _ _ _ rfl)) (by intro u hu; rw [List.mem_singleton.1 hu]; rfl) (by unfold maxLen; omega) (by omega) (by have := bb4.size; simp; omega) (nw + 1) rfl ?_; intro ao5 cap5 w5 row5 hcap5 hMi5 hR5 hg5 hrow5; have bb5 : Below w3.heap.size w3 w5 := (bb4.alloc bb4.size _).grown hg5 (by have := bb4.size; simp; omega) (fun k hk => (hrow5 k hk).1); have hX5 := hX3.below bb5 hX3.lt; have hM5 := hM3.below bb5 hM3.lt; have hN5 := hN3.below bb5 hN3.lt; have hRI5 := RowV.i (show RowV w5 ao5 ((intsN (way ++ [j])).map (Value.int .i64)) from by rw [intsN_snoc]; exact hR5); have b35 : Below wr.heap.size wr w5 := bb3.trans (bb5.mono bb3.size); clear hMi4 hg5 hrow5 hMi5 hR5 hR4) | (go_at_call 29; refine (hcl.out w3 (hRw.below bb3)).mono ?_; rintro r w4 ⟨v4, rfl, hMi4, bb4⟩; obtain ⟨ao4, cap4, rfl, hcap4, hR4⟩ := hMi4.row) | (refine wl_lookD (by kernel_rfl) 69 29 _ _ true rfl Tryz.underlying69 (.slice none 0 0) (zeroInts _) (B + 2) _ hM3 x.o hxol rfl HIDO.out _ HV2.out ?_) | (refine wl_lookD (by kernel_rfl) 69 29 _ _ true rfl Tryz.underlying69 (.slice none 0 0) (zeroInts _) (B + 2) _ hM3 x.b hxbl rfl HIDB.out _ HV1.out ?_) | (refine wl_load rfl 27 _ rfl ⟨M, 18, none⟩ rfl XO (by rw [hXOl]; exact aggID) (fO.out _ _ hX5) ?_) | (refine wl_load rfl 27 _ rfl ⟨M, 18, none⟩ rfl XO (by rw [hXOl]; exact aggID) (fO.out _ _ hX3) ?_) | (refine wl_load rfl 27 _ rfl ⟨M, 2, none⟩ rfl XB (by rw [hXBl]; exact aggID) (fB.out _ _ hX3) ?_) | (refine wl_storeV rfl 57 _ _ rfl 57 M rfl CS rfl 130 aggEnv hCl ZE hG2 hZEl hC1 ?_; intro w3 hX3 hb3 hs3; have bb3 : Below wr.heap.size wr w3 := bb2.trans (hb3.mono (by rw [HMM.out]; exact Nat.le_refl _)); have hM3 := hMB.below bb3 hMBl; have hN3 := hMN.below bb3 hMNl; clear hb3 hG2 bb2 hs2 hs3) | (refine wl_allocV rfl 57 rfl ZE hzE.out wr.heap.size rfl ?_; intro w2 hG2 bb2 hs2; obtain ⟨M, HMM⟩ : ∃ g, Hid (g = wr.heap.size) := ⟨_, rfl⟩; rw [← HMM.out] at hG2; rw [← HMM.out]) | (refine wl_load rfl 57 _ rfl ⟨b, off + j * 130, none⟩ rfl CS (by rw [hCl]; exact aggEnv) hat ?_))
         go_roundw
         case rel => exact ⟨j + 1, DN, GN, by omega, by go_num, hM5, hN5, hH.below b35, hHN.below b35, hb.trans (b35.mono hszr0), hBx.below b35 hBx.lt, by have := b35.size; omega, hid (by rw [← HGD.out, HX.out])⟩
         case measure => simp [intOf] <;> omega
    ·obtain rfl : j = n := by omega
     have HE : Hid (GN = GE) := hid (by
      have h := HG.out
      rw [List.drop_eq_nil_of_le (by rw [List.length_map, ← HN.out]; exact Nat.le_refl _)] at h
      exact h)
     have HF1 : Hid (join GB GE = wofN (es.map lnk) from_ (m + 1)) := HF1'
     clear HG hjn
     go_wp2_with (first | (at_range; refine wl_rangeD rfl 69 29 _ rfl Tryz.underlying69 g _ hMN rfl wr.heap.size rfl ?_; intro w7 cnt7 hI7 hb7 hs7; obtain ⟨r, HRR⟩ : ∃ g, Hid (g = wr.heap.size) := ⟨_, rfl⟩; rw [← HRR.out] at hI7 hs7; rw [← HRR.out]; have hM7 := hMB.below hb7 hMB.lt; have hH7 := hH.below hb7; have hHN7 := hHN.below hb7; have hBx7 := hBx.below hb7 hBx.lt; have bb7 : Below B w w7 := hb.trans (hb7.mono (by omega)); have hrB : B + 3 ≤ r := (by rw [HRR.out]; exact hszr); clear hb7) | fail)
     go_frame
     go_loopw [20] (fun _ wq => ∃ (left : Id → Prop) (cnt : Nat) (DC : Mp Value), IterD wq g r DN left cnt ∧ MapD wq (B + 2) DC ∧ Holds wq DB GB ∧ Holds wq DN GN ∧ Below B w wq ∧ BlkV 27 wq (B + 1) W ∧ B + 3 ≤ wq.heap.size ∧ Hid (∀ k, left k → DC k = DB k) ∧ Hid (∀ k, ¬ left k → DC k = join DB DN k)) (fun _ wq => wq.rangeLeft g r)
     case atStart => exact ⟨_, _, DB, hI7, hM7, hH7, hHN7, bb7, hBx7, by omega, hid (fun _ _ => rfl), hid (fun k hk => join_start hk)⟩
     case round =>
      clear hI7 hM7 hH7 hHN7 bb7 hBx7 hs7 hMB hMN hH hHN hb hBx hszr
      rename World => wq
      obtain ⟨left, cnt, DC, hIt, hMC, hHB, hHN, hbq, hBq, hszq, HL1, HL2⟩ := hrel
      go_wp2_with (first | (at_next; refine wl_nextD rfl _ rfl g r DN left cnt rfl hIt ?_ ?_) | fail)
      ·intro hc0 hl0
       have hMF : MapD wq (B + 2) (join DB DN) := hMC.iff (fun k => HL2.out k (hl0 k))
       have hHF : Holds wq (join DB DN) (wofN (es.map lnk) from_ (m + 1)) := by rw [← HF1.out, ← HE.out]; exact Holds.join hHB hHN
       clear hMC hIt HL1 HL2
       go_wp2
       go_roundw
       case rel => exact ⟨m + 1, _, by omega, by go_num, hMF, hHF, hbq, hBq, hszq⟩
       case measure => simp [intOf] <;> omega
      ·intro k v w8 cnt8 hk hkv hI8 hlt hg8 hs8 hen
       obtain ⟨KS, HKS⟩ : ∃ KS, Hid (KS = k.map (Value.int .u8)) := ⟨_, rfl⟩
       have HIDK : Hid (idV k = .agg KS.toArray) := hid (by rw [HKS.out]; rfl)
       have hk16 : k.length = 16 := hIt.map.len hkv
       have hKl : KS.length = 16 := by rw [HKS.out, List.length_map, hk16]
       have hK1 : ∀ u ∈ KS, u.oneCell' = true := by rw [HKS.out]; exact ints_one _ _
       rw [HIDK.out] at hen ⊢
       have hM8 := hMC.grown hg8 (by intro e; injection e with e; omega)
       have hHB8 := hHB.grownIter hg8 hIt
       have hHN8 := hHN.grownIter hg8 hIt
       have hB8 := hBq.grown hg8 (by intro e; injection e with e; omega)
       have bb8 : Below B w w8 := hbq.grown hg8 (by omega) (fun k hk => by injection hk with hk; omega)
       have hsz8 : B + 3 ≤ w8.heap.size := by rw [hs8]; exact hszq
       clear hMC hHB hHN hg8 hBq hbq hs8 hszq
       go_wp2_with (first | (refine wl_updD rfl 69 29 _ _ _ rfl Tryz.underlying69 (B + 2) _ hM10 k hk16 rfl HIDK.out.symm v rfl ?_; intro w11 hM11 hb11 hs11 hg11; have hI11 := hI10.grown hg11 (by intro e; injection e with e; omega) (by intro e; injection e with e; omega); have hHB11 := hHB10.grownMap hg11 hM10; have hHN11 := hHN10.grownMap hg11 hM10; have hB11 := hB10.grown hg11 (by intro e; injection e with e; omega); have bb11 : Below B w w11 := bb10.grown hg11 (by omega) (fun k hk => by injection hk with hk; omega); have hs11b : B + 3 ≤ w11.heap.size := (by rw [hs11]; exact hsz10); clear hM10 hb11 hg11) | (refine wl_load rfl 27 _ rfl ⟨K, 0, none⟩ rfl KS (by rw [hKl]; exact aggID) hK10.at0 ?_) | (refine wl_storeV rfl 27 _ _ rfl 27 K rfl KS rfl 16 aggID hKl ZI hG9 hZIl hK1 ?_; intro w10 hK10 hb10 hs10; have b810 : Below w8.heap.size w8 w10 := bb9.trans (hb10.mono (by rw [HKK.out]; exact Nat.le_refl _)); have hI10 := hI8.below b810 hI8.map.lt hI8.lt; have hM10 := hM8.below b810 hM8.lt; have hHB10 := hHB8.below b810; have hHN10 := hHN8.below b810; have hB10 := hB8.below b810 hB8.lt; have bb10 : Below B w w10 := bb8.trans (b810.mono (by omega)); have hsz10 : B + 3 ≤ w10.heap.size := Nat.le_trans hsz8 b810.size; clear hb10 hG9 bb9 hs9 hs10) | (refine wl_allocV rfl 27 rfl ZI hzI.out w8.heap.size rfl ?_; intro w9 hG9 bb9 hs9; obtain ⟨K, HKK⟩ : ∃ g, Hid (g = w8.heap.size) := ⟨_, rfl⟩; rw [← HKK.out] at hG9; rw [← HKK.out]))
       (try simp only [Act.put])
       go_roundw
       case rel => exact ⟨_, cnt8, _, hI11, hM11, hHB11, hHN11, bb11, hB11, hs11b, hid (fun i hi => by rw [upd_other _ _ hi.2]; exact HL1.out i hi.1), hid (fun i hi => join_step HL2.out hkv i hi)⟩
       case measure => rw [hI11.left_eq, hIt.left_eq]; exact hlt
  ·obtain rfl : m = n := by omega
   clear hmn
   cases hgw : wofN (es.map lnk) from_ m want with
   | none =>
    have HV := hid (look_none (z := .slice none 0 0) (hHo.1 _ hgw))
    have HGW := hid hgw
    clear hgw
    go_wp2_with (first | (refine wl_lookD (by kernel_rfl) 69 29 _ _ true rfl Tryz.underlying69 (.slice none 0 0) (zeroInts _) (B + 2) _ hMo want hw rfl HIDW.out _ HV.out ?_) | (refine wl_load rfl 27 _ rfl ⟨B + 1, 0, none⟩ rfl W (by rw [hWl]; exact aggID) hBo.at0 ?_))
    go_ret2
    exact ⟨by rw [hsz]; exact hbo, none, 0, 0, by rw [HGW.out]; rfl, by rw [HGW.out]; rfl, by rw [HGW.out]; exact Or.inl rfl⟩
   | some l =>
    obtain ⟨ao1, c1, nw, hdb, HNW, hRw, hno1⟩ := hHo.2 _ _ hgw
    have HV := hid (look_some (z := .slice none 0 0) hdb)
    have HGW := hid hgw
    clear hgw hdb
    go_wp2_with (first | (refine wl_lookD (by kernel_rfl) 69 29 _ _ true rfl Tryz.underlying69 (.slice none 0 0) (zeroInts _) (B + 2) _ hMo want hw rfl HIDW.out _ HV.out ?_) | (refine wl_load rfl 27 _ rfl ⟨B + 1, 0, none⟩ rfl W (by rw [hWl]; exact aggID) hBo.at0 ?_))
    go_ret2
    exact ⟨by rw [hsz]; exact hbo, ao1, nw, c1, by rw [HGW.out]; rfl, by rw [HGW.out]; exact HNW.out, by rw [HGW.out]; exact hRw⟩
end Go.Proofs.YtbjmadcbhkeenaaGreat.lk
