/-
  HousesFound, the reference: State.Apply at the first entry and the first state. Conditions: the entry lies in memory; the founder is not zero. HousesFound, the reference: House.write at the first entry. Conditions: a new house; the roles lie in memory; the founder is not zero. HousesFound, the reference: NewHouse. Conditions: the roles lie in memory.
-/
import Derived.Test.YtdhipjoplkpgmaaGreatDoorHHgI
set_option maxRecDepth 100000
set_option linter.unusedSimpArgs false
set_option linter.unusedVariables false
set_option maxHeartbeats 16000000
namespace Go.Proofs.YtdhipjoplkpgmaaGreatDoor.hf
open Go.RowKit st hs wr shr sh lk
theorem rsC_count {c d tm : Int} {lv gv : List Value} {mm mk mv : Nat} : (rsC c tm lv gv mm mk mv).set 0 (.int .i64 d) = rsC d tm lv gv mm mk mv := rfl
theorem rsC_time {c tm um : Int} {lv gv : List Value} {mm mk mv : Nat} : (rsC c tm lv gv mm mk mv).set 1 (.int .i64 um) = rsC c um lv gv mm mk mv := rfl
theorem rsC_last {c tm : Int} {lv gv sv : List Value} {mm mk mv : Nat} (hl : lv.length = 32) : (rsC c tm lv gv mm mk mv).take 2 ++ sv ++ (rsC c tm lv gv mm mk mv).drop (2 + 32) = rsC c tm sv gv mm mk mv := by
 unfold rsC
 rw [List.take_succ_cons, List.take_succ_cons, List.take_zero, show 2 + 32 = 32 + 1 + 1 from rfl, List.drop_succ_cons, List.drop_succ_cons, ← hl, List.drop_left]
 rfl
theorem rsC_founder {c tm : Int} {lv gv hv : List Value} {mm mk mv : Nat} (hl : lv.length = 32) (hg : gv.length = 16) : (rsC c tm lv gv mm mk mv).take 34 ++ hv ++ (rsC c tm lv gv mm mk mv).drop (34 + 16) = rsC c tm lv hv mm mk mv := by
 unfold rsC
 rw [List.take_succ_cons, List.take_succ_cons, show 34 + 16 = 48 + 1 + 1 from rfl, List.drop_succ_cons, List.drop_succ_cons, show (32 : Nat) = lv.length from hl.symm, List.take_left, show 48 = lv.length + gv.length by omega, ← List.drop_drop, List.drop_left, List.drop_left]
 simp
structure RsAfter (w : World) (g mm mk mv : Nat) (cnt tm : Int) (lv fv : List Value) (f : List Int) (ro : Value) : Prop where
 blk : BlkV 92 w g (rsC cnt tm lv fv mm mk mv)
 mem : MapD w mm (upd (fun _ => none) f ro)
 keys : MapD w mk (fun _ => none)
 vot : w.heap[mv]? = some (.map #[] 0)
structure AF (w : World) (B X g mm mk mv : Nat) (CS BS ST : List Value) (D : Mp Value) (ra : Option Addr) (rs : List ByteArray) (x : World) : Prop where
 ent : BlkV 83 x B CS
 bod : BlkV 42 x X BS
 sta : BlkV 92 x g ST
 mem : MapD x mm D
 keys : MapD x mk (fun _ => none)
 vot : x.heap[mv]? = some (.map #[] 0)
 row : RowS x ra rs
 onl : Only B [g, mm, mv] w x
 lt : B < X ∧ g < B ∧ mm < B ∧ mk < B ∧ mv < B
 ne : g ≠ mm ∧ g ≠ mk ∧ g ≠ mv ∧ mm ≠ mk ∧ mm ≠ mv ∧ mk ≠ mv
 rl : ∀ b, ra = some b → rs ≠ [] → B ≤ b.block ∧ b.block < X
section
variable {w x x' : World} {B X g mm mk mv : Nat} {CS BS ST ST' : List Value} {D D' : Mp Value} {ra : Option Addr} {rs : List ByteArray}
theorem AF.drew (h : AF w B X g mm mk mv CS BS ST D ra rs x) : AF w B X g mm mk mv CS BS ST D ra rs x.drew := ⟨h.ent, h.bod, h.sta, h.mem, h.keys, h.vot, h.row, ⟨h.onl.os, h.onl.tape, h.onl.output, h.onl.size, h.onl.block⟩, h.lt, h.ne, h.rl⟩
theorem AF.step {M : Nat} (h : AF w B X g mm mk mv CS BS ST D ra rs x) (hb : Below M x x') (hM : X < M) : AF w B X g mm mk mv CS BS ST D ra rs x' := by
 obtain ⟨l1, l2, l3, l4, l5⟩ := h.lt
 exact ⟨h.ent.below hb (by omega), h.bod.below hb hM, h.sta.below hb (by omega), h.mem.below hb (by omega), h.keys.below hb (by omega), (hb.block _ (by omega)).trans h.vot,
  rowS_only (Only.of (ks := []) hb (Nat.le_refl _)) h.row (fun b e ne => ⟨Nat.lt_trans (h.rl b e ne).2 hM, by simp⟩), h.onl.trans (Only.of hb (by omega)), h.lt, h.ne, h.rl⟩
theorem AF.set {k : Nat} (h : AF w B X g mm mk mv CS BS ST D ra rs x) (hk : k = g ∨ k = mm ∨ k = mv) (hg : x.grownBy x' (some k)) (hs : k = g → BlkV 92 x' g ST') (hs' : k ≠ g → ST' = ST) (hm : k = mm → MapD x' mm D') (hm' : k ≠ mm → D' = D) (hv : k = mv → x'.heap[mv]? = some (.map #[] 0)) :
  AF w B X g mm mk mv CS BS ST' D' ra rs x' := by
 obtain ⟨l1, l2, l3, l4, l5⟩ := h.lt
 obtain ⟨n1, n2, n3, n4, n5, n6⟩ := h.ne
 have hkB : k < B := by omega
 have kp : ∀ j : Nat, j ≠ k → ¬ (some k = some j) := fun j hj e => hj (by injection e with e; exact e.symm)
 have hks : k ∈ [g, mm, mv] := by rcases hk with rfl | rfl | rfl <;> simp
 have hw := h.onl.size
 have hBx := h.ent.lt
 refine ⟨h.ent.grown hg (kp _ (by omega)), h.bod.grown hg (kp _ (by omega)), ?_, ?_, h.keys.grown hg (kp _ (by omega)), ?_, rowS_grown h.row hg (fun b e ne => by have := (h.rl b e ne).1; omega), h.onl.trans (Only.ofG hg (by omega) (fun j e => by injection e with e; subst e; exact Or.inr hks)), h.lt, h.ne, h.rl⟩
 ·by_cases e : k = g
  ·exact hs e
  ·rw [hs' e]; exact h.sta.grown hg (kp _ (fun q => e q.symm))
 ·by_cases e : k = mm
  ·exact hm e
  ·rw [hm' e]; exact h.mem.grown hg (kp _ (fun q => e q.symm))
 ·by_cases e : k = mv
  ·exact hv e
  ·exact (hg.block _ (Array.getElem?_eq_some_iff.1 h.vot).1 (fun q => by injection q with q; exact e q.symm)).trans h.vot
end
def RApplyPost (g mm mk mv : Nat) (t : Int) (f : List Int) (rs : List ByteArray) (w : World) (e : Ending) (w' : World) : Prop := e = .returned (.int .i64 0) ∧ (∃ ra rc, RsAfter w' g mm mk mv 1 t ((entryS f t (bodyB f rs)).map (Value.int .u8)) (f.map (Value.int .u8)) f (.slice ra rs.length rc) ∧ RowS w' ra rs ∧ (∀ b, ra = some b → rs ≠ [] → w.heap.size ≤ b.block)) ∧ Only w.heap.size [g, mm, mv] w w'
theorem RefApply_ok (g mm mk mv : Nat) (t : Int) (f : List Int) (rs : List ByteArray) (ao : Option Addr) (n c : Nat) (w : World) (h : EntOk w t f rs ao n c) (h0 : f ≠ List.replicate 16 0) (hS : RsOk w g mm mk mv) (hd : g ≠ mm ∧ g ≠ mk ∧ g ≠ mv ∧ mm ≠ mk ∧ mm ≠ mv ∧ mk ≠ mv) (hao : ∀ b, ao = some b → b.block ∉ [g, mm, mv]) :
  Calls Tryz.prog 39 #[.pointer (some ⟨g, 0, none⟩), .agg (entC t (f.map (Value.int .u8)) (.slice ao n c)).toArray] w (RApplyPost g mm mk mv t f rs w) := by
 have hf := h.hf
 have hFl : (f.map (Value.int .u8)).length = 16 := by rw [List.length_map, h.hf]
 have hrf := fun (w' : World) (hb : Below w.heap.size w w') => hid (refused_ok g mm mk mv t f rs ao n c w' (h.below hb) h0 (hS.below hb (Nat.le_refl _)))
 have hpb := fun (w' : World) (hb : Below w.heap.size w w') => hid (RefParseBody_ok f rs ao n c w' h.hf h0 h.hE h.hn (h.pt.below hb))
 have hask := fun (w' : World) (hb : Below w.heap.size w w') => hid (Refask_ok g mm mk mv t f rs ao n c w' (h.below hb) (hS.below hb (Nat.le_refl _)))
 have hsm := fun (w' : World) => hid (RefAskSum_ok t f (sumL 0 (bodyB f rs)) h.hf h.of (sumL_length _ _) (sumL_octs _ _) w')
 have hes := fun (w' : World) (ho : Only w.heap.size [g, mm, mv] w w') => hid (RefEntrySum_ok t f rs ao n c w' (h.only ho hao))
 have hSb := fun (w' : World) (hb : Below w.heap.size w w') => hid (hS.below hb (Nat.le_refl _))
 have hgw := hS.blk.lt
 have hmmw := hS.mem.lt
 have hmkw := hS.keys.lt
 have hmvw := (Array.getElem?_eq_some_iff.1 hS.vot).1
 have hCl := entC_len (t := t) (bo := .slice ao n c) hFl
 have hcells := fun (w : World) (g : Nat) (h : BlkV 83 w g (entC t (f.map (Value.int .u8)) (.slice ao n c))) => hid (ent_cells hFl h)
 have hact := fun (w : World) (g : Nat) (h : BlkV 83 w g (entC t (f.map (Value.int .u8)) (.slice ao n c))) => hid (ent_actor hFl h)
 have hkey := fun (w : World) (g : Nat) (h : BlkV 83 w g (entC t (f.map (Value.int .u8)) (.slice ao n c))) => hid (ent_key hFl h)
 have hmem := fun (v : Value) (w : World) (g : Nat) (h : BlkV 42 w g (bodyC (f.map (Value.int .u8)) v)) => hid (body_member hFl h)
 have hrol := fun (v : Value) (w : World) (g : Nat) (h : BlkV 42 w g (bodyC (f.map (Value.int .u8)) v)) => hid ((body_cells hFl h).2.1)
 obtain ⟨CS, HCS⟩ := hidE (entC t (f.map (Value.int .u8)) (.slice ao n c))
 rw [← HCS.out] at hrf hask hes hCl hcells hact hkey ⊢
 have HCL := fun v => hid (bodyC_len (ro := v) hFl)
 have HC1 := fun v hv => hid (bodyC_one (fv := f.map (Value.int .u8)) (ro := v) (ints_one _ _) hv)
 obtain ⟨AS, HAS⟩ := hidE (askC t (f.map (Value.int .u8)) ((sumL 0 (bodyB f rs)).map (Value.int .u8)))
 rw [← HAS.out] at hask hsm
 have HP : Hid (∀ ra rc w', RsAfter w' g mm mk mv 1 t ((entryS f t (bodyB f rs)).map (Value.int .u8)) (f.map (Value.int .u8)) f (.slice ra rs.length rc) → RowS w' ra rs → (∀ b, ra = some b → rs ≠ [] → w.heap.size ≤ b.block) → Only w.heap.size [g, mm, mv] w w' → RApplyPost g mm mk mv t f rs w (.returned (.int .i64 0)) w') := hid (fun ra rc w' h1 h2 h3 h4 => ⟨rfl, ⟨ra, rc, h1, h2, h3⟩, h4⟩)
 obtain ⟨Q, HQ⟩ := hidE (RApplyPost g mm mk mv t f rs w)
 rw [← HQ.out] at HP ⊢
 obtain ⟨SI, HSI⟩ := hidE (entryS f t (bodyB f rs))
 have hSIl : SI.length = 32 := by rw [HSI.out, entryS_length]
 rw [← HSI.out] at hes HP
 obtain ⟨S, HS⟩ := hidE (SI.map (Value.int .u8))
 have hSl : S.length = 32 := by rw [HS.out, List.length_map, hSIl]
 have hS1 : ∀ u ∈ S, u.oneCell' = true := by rw [HS.out]; exact ints_one _ _
 rw [← HS.out] at hes HP
 obtain ⟨F, HF⟩ := hidE (f.map (Value.int .u8))
 have hF1 : ∀ u ∈ F, u.oneCell' = true := by rw [HF.out]; exact ints_one _ _
 have HFI : Hid (Value.agg F.toArray = idV f) := hid (by rw [HF.out]; rfl)
 rw [← HF.out] at hact hmem hrol HCL HC1 HP hFl
 have hpb2 := fun (w' : World) (hb : Below w.heap.size w w') => hid (show Calls Tryz.prog 96 #[.int .i64 2, .slice ao n c] w' (fun e w'' => ∃ ra rc, e = .returned (.tuple #[.agg (bodyC F (.slice ra rs.length rc)).toArray, .int .i64 0]) ∧ RowS w'' ra rs ∧ (∀ b, ra = some b → rs ≠ [] → w'.heap.size ≤ b.block) ∧ Below w'.heap.size w' w'') by rw [HF.out]; exact (hpb w' hb).out)
 clear hpb
 have HC0l := hid (rsC_len (cnt := 0) (tm := 0) (lv := zSum) (gv := zID) (mm := mm) (mk := mk) (mv := mv) rfl rfl)
 have HC1l := hid (rsC_len (cnt := 0) (tm := 0) (lv := zSum) (gv := F) (mm := mm) (mk := mk) (mv := mv) rfl hFl)
 have HC2l := hid (rsC_len (cnt := 1) (tm := 0) (lv := zSum) (gv := F) (mm := mm) (mk := mk) (mv := mv) rfl hFl)
 have HC3l := hid (rsC_len (cnt := 1) (tm := t) (lv := zSum) (gv := F) (mm := mm) (mk := mk) (mv := mv) rfl hFl)
 have HQ0 := hid (rsC_founder (c := 0) (tm := 0) (lv := zSum) (gv := zID) (hv := F) (mm := mm) (mk := mk) (mv := mv) rfl rfl)
 have HQ1 := hid (rsC_count (c := 0) (d := 1) (tm := 0) (lv := zSum) (gv := F) (mm := mm) (mk := mk) (mv := mv))
 have HQ2 := hid (rsC_time (c := 1) (tm := 0) (um := t) (lv := zSum) (gv := F) (mm := mm) (mk := mk) (mv := mv))
 have HQ3 := hid (rsC_last (c := 1) (tm := t) (lv := zSum) (gv := F) (sv := S) (mm := mm) (mk := mk) (mv := mv) rfl)
 have hc0 := fun (w' : World) (h : RsOk w' g mm mk mv) => hid ((rs_cells rfl rfl h.blk).1)
 have hc1 := fun (w' : World) (h : BlkV 92 w' g (rsC 0 0 zSum F mm mk mv)) => hid (rs_cells rfl hFl h)
 have hSbb := fun (w' : World) (hb : Below w.heap.size w w') => hid ((hSb w' hb).out.blk)
 obtain ⟨C0, HC0⟩ := hidE (rsC 0 0 zSum zID mm mk mv)
 obtain ⟨C1, HC1x⟩ := hidE (rsC 0 0 zSum F mm mk mv)
 obtain ⟨C2, HC2⟩ := hidE (rsC 1 0 zSum F mm mk mv)
 obtain ⟨C3, HC3⟩ := hidE (rsC 1 t zSum F mm mk mv)
 rw [← HC0.out] at hSbb HC0l HQ0
 rw [← HC1x.out] at hc1 HC1l HQ0 HQ1
 rw [← HC2.out] at HC2l HQ1 HQ2
 rw [← HC3.out] at HC3l HQ2 HQ3
 obtain ⟨ZS, HZS⟩ := hidE zSum
 have hzs := hid zeroSumZ
 have hZSl : ZS.length = 32 := by rw [HZS.out]; rfl
 rw [← HZS.out] at hzs
 obtain ⟨ZI, HZI⟩ := hidE zID
 have hZIl : ZI.length = 16 := by rw [HZI.out]; rfl
 have HZV : Hid (Value.agg ZI.toArray = idV (List.replicate 16 0)) := hid (by rw [HZI.out]; rfl)
 rw [← HZI.out] at hkey
 have hzb := hid zeroBody
 have HZB : Hid ((bodyC zID (.slice none 0 0)).length = 58) := hid (bodyC_len rfl)
 obtain ⟨ZB, HZBB⟩ := hidE (bodyC zID (.slice none 0 0))
 rw [← HZBB.out] at HZB hzb
 have hKl : keyZ.length = 84 := by rfl
 have hK1 : ∀ u ∈ keyZ, u.oneCell' = true := by decide
 have hzk := hid zeroKeySt
 obtain ⟨KZ, HKZ⟩ := hidE keyZ
 have hzKS := hid zeroKeyS
 rw [← HKZ.out] at hKl hK1 hzk hzKS
 have hiF : (Tryz.prog.info? 25).map (·.size) = some F.length := by rw [hFl]; exact aggIDT.2
 have hiZI : (Tryz.prog.info? 25).map (·.size) = some ZI.length := by rw [hZIl]; exact aggIDT.2
 have hiZS : (Tryz.prog.info? 39).map (·.size) = some 32 := aggSumT.2
 obtain ⟨B, hsz⟩ := szE w
 rw [hsz] at hrf hask hes hpb2 hSb hSbb HP hgw hmmw hmkw hmvw
 obtain ⟨m, Hm⟩ := hidE rs.length
 rw [← Hm.out] at HP hpb2
 have HNE := hid hd
 obtain ⟨hd1, hd2, hd3, hd4, hd5, hd6⟩ := hd
 clear h h0 hS hao
 go_enter Tryz.func39, Tryz.ntmps39
 go_wp2_with (first
  | (refine wl_storeP rfl 25 _ _ rfl 92 g 34 rfl F rfl 16 aggIDT hFl C0 (hSbb _ bb9).out (by rw [HC0l.out]; decide) hF1 C1 HQ0.out ?_; intro w10 hS10 hb10 hg10 hs10)
  | (refine wl_loadG (by rfl) 25 _ rfl ⟨B, 3, none⟩ rfl 16 F hFl aggIDT (hact _ _ hE9).out ?_)
  | (refine wl_storeV rfl 39 _ _ rfl 39 A rfl SV rfl 32 aggSumT hSVl ZS hA8 hZSl hSV1 ?_; intro w9 hA9 hb9 hs9; have hE9 := hE8.below hb9 (by omega); have hY9 := hY8.below hb9 (by omega); have hR9 := hRWb w9 (hx8.trans (hb9.mono (by omega))); have bb9 : Below B w w9 := bb8.trans (hb9.mono (by omega)); have s0 := (hc0 _ (hSb _ bb9).out).out)
  | (obtain ⟨A, HA⟩ := hidE w7.heap.size; have hXA : X < A := (by rw [HA.out]; have := hb7.size; have := hY6.lt; omega); refine wl_allocV rfl 39 rfl ZS hzs.out A HA.out.symm ?_; intro w8 hA8 hb8 hs8; have hE8 := hE7.below hb8 (by omega); have hY8 := hY7.below hb8 (by omega); have hx8 : Below X w4 w8 := hx7.trans (hb8.mono (by omega)); have bb8 : Below B w w8 := bb7.trans (hb8.mono (by omega)))
  | (go_at_call 94; refine (hsm w6).out.mono ?_; rintro e w7 ⟨⟨SA, hSAl, rfl⟩, hb7⟩; have hE7 := hE6.below hb7 hE6.lt; have hY7 := hY6.below hb7 hY6.lt; have hx7 : Below X w4 w7 := hx6.trans (hb7.mono (by have := hY6.lt; omega)); have bb7 : Below B w w7 := bb6.trans (hb7.mono (by have := hE6.lt; omega)); obtain ⟨SV, HSV⟩ := hidE (SA.map (Value.int .u8)); have hSVl : SV.length = 32 := (by rw [HSV.out, List.length_map, hSAl]); have hSV1 : ∀ u ∈ SV, u.oneCell' = true := (by rw [HSV.out]; exact ints_one _ _); have HSS : Hid (Value.agg SV.toArray = sumVV SA) := hid (by rw [HSV.out]; rfl); rw [← HSV.out])
  | (go_at_call 90; refine (hask w5b bb5b).out.mono ?_; rintro e w6 ⟨rfl, hb6⟩; have hE6 := hE5b.below hb6 hE5b.lt; have hY6 := hY5b.below hb6 hY5b.lt; have hx6 : Below X w4 w6 := hx5b.trans (hb6.mono (by have := hY5b.lt; omega)); have bb6 : Below B w w6 := bb5b.trans (hb6.mono (by have := hE5b.lt; omega)))
  | (refine wl_loadG (by rfl) 83 _ rfl ⟨B, 0, none⟩ rfl 68 CS hCl aggEntry hE5b.at0 ?_)
  | (refine wl_storeV rfl 42 _ _ rfl 42 X rfl YS rfl 58 aggBody hYl ZB hY5 HZB.out hY1 ?_; intro w5b hY5b hb5b hs5b; have hE5b := hE5.below hb5b (by omega); have hx5b : Below X w4 w5b := hb5.trans (hb5b.mono (by omega)); have bb5b : Below B w w5b := bb5.trans (hb5b.mono (by omega)))
  | (obtain ⟨X, HX⟩ := hidE w4.heap.size; have hBX : B < X := (by rw [HX.out]; exact hE4.lt); refine wl_allocV rfl 42 rfl ZB hzb.out X HX.out.symm ?_; intro w5 hY5 hb5 hs5; have hE5 := hE4.below hb5 (by omega); have bb5 : Below B w w5 := bb4.trans (hb5.mono (by omega)); have hRWb := fun (w' : World) (hb : Below X w4 w') => hRW4.below (HX.out ▸ hb); have HRL : Hid (∀ b, ra = some b → rs ≠ [] → B ≤ b.block ∧ b.block < X) := hid (fun b hb hne => ⟨by have := hlow4 b hb hne; have := hE3.lt; omega, by rw [HX.out]; exact rowS_lt hRW4 hb hne⟩))
  | (go_at_call 96; refine (hpb2 w3 bb3).out.mono ?_; rintro e w4 ⟨ra, rc, rfl, hRW4, hlow4, hb4⟩; have hE4 := hE3.below hb4 hE3.lt; have bb4 : Below B w w4 := bb3.trans (hb4.mono (by have := hE3.lt; omega)); have hYl := (HCL (.slice ra m rc)).out; have hY1 := (HC1 (.slice ra m rc) rfl).out; have hmem2 := hmem (.slice ra m rc); have hrol2 := hrol (.slice ra m rc); obtain ⟨RO, HRO⟩ := hidE (Value.slice ra m rc); have HRO1 : Hid (RO.cells = #[RO]) := hid (by rw [HRO.out]; rfl); rw [← HRO.out] at hYl hY1 hmem2 hrol2; obtain ⟨YS, HYS⟩ := hidE (bodyC F RO); (rw [← HYS.out] at hYl hY1); (rw [← HYS.out] at hmem2); (rw [← HYS.out] at hrol2); rw [← HRO.out, ← HYS.out])
  | (go_at_call 95; refine (hrf w1 bb1).out.mono ?_; rintro e w3 ⟨rfl, hb3⟩; have hE3 := hE1.below hb3 hE1.lt; have bb3 : Below B w w3 := bb1.trans (hb3.mono (by have := hE1.lt; omega)); obtain ⟨c0, c1, c2, c67⟩ := (hcells _ _ hE3).out)
  | (refine wl_loadG (by rfl) 83 _ rfl ⟨B, 0, none⟩ rfl 68 CS hCl aggEntry hE1.at0 ?_)
  | (refine wl_boxV rfl 83 _ rfl CS rfl B hsz ?_; intro w1 hE1 bb1 hs1))
 have hR10 : AF w B X g mm mk mv CS YS C1 (fun _ => none) ra rs w10 := by
  have hne := HNE.out
  have ks := hid (hSb _ bb9).out
  have h9 : AF w B X g mm mk mv CS YS C0 (fun _ => none) ra rs w9 := ⟨hE9, hY9, (hSbb _ bb9).out, ks.out.mem, ks.out.keys, ks.out.vot, hR9, Only.of bb9 (Nat.le_refl _), ⟨hBX, hgw, hmmw, hmkw, hmvw⟩, hne, HRL.out⟩
  exact h9.set (Or.inl rfl) hg10 (fun _ => hS10) (fun e => absurd rfl e) (fun e => absurd e hne.1) (fun _ => rfl) (fun e => absurd e hne.2.2.1)
 have hA10 := hA9.grown hg10 (by intro e; injection e with e; omega)
 clear hE1 hE3 hE4 hE5 hE5b hE6 hE7 hE8 hE9 hY5 hY5b hY6 hY7 hY8 hY9 hA8 hA9 hR9 hRW4 hRWb hx6 hx5b hx7 hx8 bb1 bb3 bb4 bb5 bb5b bb6 bb7 bb8 bb9 hb3 hb4 hb5 hb5b hb6 hb7 hb8 hb9 hb10 hg10 hS10 s0 c0 c1 c2 c67 hrf hask hsm hpb2 hSb hSbb HCL HC1 hc0 hmem hrol
 have hSS : ∀ w', AF w B X g mm mk mv CS YS C1 (fun _ => none) ra rs w' → (fun w' => w'.cell? ⟨g, 52, none⟩ = some (.map (some mk)) ∧ w'.rangeAt B 19 ZI ∧ MapD w' mk (fun _ => none)) w' := fun w' h => by
  exact ⟨(hc1 _ h.sta).out.2.2.2.2.1, at_range (hkey _ _ h.ent).out, h.keys⟩
 refine wp_region_held_drew (S := fun w' => w'.cell? ⟨g, 52, none⟩ = some (.map (some mk)) ∧ w'.rangeAt B 19 ZI ∧ MapD w' mk (fun _ => none)) (by kernel_rfl) (hSS _ hR10.drew) (fun hHeld => ?_)
 obtain ⟨x, HXX⟩ := hidE w10.drew
 rw [← HXX.out] at hHeld ⊢
 have hR : AF w B X g mm mk mv CS YS C1 (fun _ => none) ra rs x := by rw [HXX.out]; exact hR10.drew
 have hAx : BlkV 39 x A SV := by rw [HXX.out]; exact hA10
 clear hR10 hA10
 repeat' (first
  | ((with_reducible refine isEff ?_); first
   | (obtain ⟨K, HK⟩ := hidE x.heap.size; have hXK : X < K := (by rw [HK.out]; exact hR.bod.lt); have hAK : A < K := (by rw [HK.out]; exact hAx.lt); refine step_allocV rfl 70 rfl KZ hzk.out K HK.out.symm ?_; intro x hK hb hsz2; have hR := hR.step hb hXK; have hAx := hAx.below hb hAK; refine hK'.out _ _ (hSS _ hR) (fun hHeld => ?_); clear hK' K'; (try simp only [Act.put, fpA, fpZ, fpN]))
   | (refine step_storeV rfl 70 _ _ rfl 70 K rfl KZ rfl 84 aggKeyS hKl KZ hK hKl hK1 ?_; intro x hK hb hsz2; have hR := hR.step hb hXK; have hAx := hAx.below hb hAK; refine hK'.out _ _ (hSS _ hR) (fun hHeld => ?_); clear hK' K'; (try simp only [Act.put, fpA, fpZ, fpN])))
  | ((with_reducible refine isAny ?_); first
   | refine tq 0 rfl ?_ (by decide +kernel)
   | refine tq 1 rfl ?_ (by decide +kernel)
   | refine tq 2 rfl ?_ (by decide +kernel)
   | refine tq 3 rfl ?_ (by decide +kernel)
   | refine tq 4 rfl ?_ (by decide +kernel)
   | refine tk 5 rfl (yieldsIf_load_mid (by rfl) 25 _ rfl B 19 rfl ZI _ (fun w hS => hS.2.1) Tryz.underlying25 rfl hiZI) ?_ (by decide +kernel)
   | refine tk 6 rfl (yieldsIf_lookD (by rfl) _ 70 _ _ false rfl (by kernel_rfl) (.agg KZ.toArray) hzKS.out mk (fun _ => none) (fun w hS => hS.2.2) (List.replicate 16 0) (by simp) (.agg ZI.toArray) HZV.out rfl rfl (.agg KZ.toArray) rfl) ?_ (by decide +kernel)
   | refine wpAnyH_ready (rs := [7]) (by decide +kernel) (by simp) (cons_l rfl (fun K' hK' => ?_) AllReadyH.nil)
   | refine wpAnyH_ready (rs := [8]) (by decide +kernel) (by simp) (cons_l rfl (fun K' hK' => ?_) AllReadyH.nil)))
 refine wpAnyH_done (by kernel_rfl) ?_ _
 clear hHeld hSS
 obtain ⟨c0, c1, c2, c67⟩ := (hcells _ _ hR.ent).out
 go_wp2_with fail
 clear c0 c1 c2 c67 hK
 have hQ := hR
 have hAq := hAx
 clear hR hAx
 rename World => w11
 have hSS : ∀ w', AF w B X g mm mk mv CS YS C1 (fun _ => none) ra rs w' → (fun w' => w'.cell? ⟨g, 51, none⟩ = some (.map (some mm)) ∧ w'.rangeAt X 1 F ∧ w'.cell? ⟨X, 17, none⟩ = some RO) w' := fun w' h => by
  exact ⟨(hc1 _ h.sta).out.2.2.2.1, at_range (hmem2 _ _ h.bod).out, (hrol2 _ _ h.bod).out⟩
 refine wp_region_held_drew (S := fun w' => w'.cell? ⟨g, 51, none⟩ = some (.map (some mm)) ∧ w'.rangeAt X 1 F ∧ w'.cell? ⟨X, 17, none⟩ = some RO) (by kernel_rfl) (hSS _ hQ.drew) (fun hHeld => ?_)
 obtain ⟨x, HXX⟩ := hidE w11.drew
 rw [← HXX.out] at hHeld ⊢
 have hR : AF w B X g mm mk mv CS YS C1 (fun _ => none) ra rs x := by rw [HXX.out]; exact hQ.drew
 have hAx : BlkV 39 x A SV := by rw [HXX.out]; exact hAq
 clear hQ hAq
 refine tq 0 rfl ?_
 refine tq 1 rfl ?_
 refine tq 2 rfl ?_
 refine tq 3 rfl ?_
 refine tq 4 rfl ?_
 refine tk 5 rfl (yieldsIf_load_mid (by rfl) 25 _ rfl X 1 rfl F _ (fun w hS => hS.2.1) Tryz.underlying25 rfl hiF) ?_
 refine tq 6 rfl ?_
 refine tq 7 rfl ?_
 refine e1 8 rfl fun K' hK' => ?_
 refine step_updD rfl _ 26 _ _ _ rfl (by kernel_rfl) mm (fun _ => none) hR.mem f hf (.agg F.toArray) HFI.out rfl rfl RO rfl ?_
 intro y hmm8 hbm8 hs8 hg8
 have hR8 : AF w B X g mm mk mv CS YS C1 (upd (fun _ => none) f RO) ra rs y := hR.set (Or.inr (Or.inl rfl)) hg8 (fun e => absurd e.symm hd1) (fun _ => rfl) (fun _ => hmm8) (fun e => absurd rfl e) (fun e => absurd e hd5)
 have hAy := hAx.grown hg8 (by intro e; injection e with e; omega)
 have hS8 : (fun w' => w'.cell? ⟨g, 51, none⟩ = some (.map (some mm)) ∧ w'.rangeAt X 1 F ∧ w'.cell? ⟨X, 17, none⟩ = some RO) y := ⟨(hc1 _ hR8.sta).out.2.2.2.1, at_range (hmem2 _ _ hR8.bod).out, (hrol2 _ _ hR8.bod).out⟩
 refine ko hK' hS8 fun hHeld => ?_
 clear hK' K'
 refine wpAnyH_done (by kernel_rfl) ?_ _
 clear hHeld hSS hR hAx hmm8 hbm8 hg8 hs8
 obtain ⟨c0, c1, c2, c67⟩ := (hcells _ _ hR8.ent).out
 go_wp2_with fail
 clear c0 c1 c2 c67
 have hiSV : (Tryz.prog.info? 39).map (·.size) = some SV.length := by rw [hSVl]; exact aggSumT.2
 have hSS : ∀ w', AF w B X g mm mk mv CS YS C1 (upd (fun _ => none) f RO) ra rs w' → BlkV 39 w' A SV → (fun w' => w'.cell? ⟨g, 53, none⟩ = some (.map (some mv)) ∧ w'.rangeAt A 0 SV) w' := fun w' h1 h2 => ⟨(hc1 _ h1.sta).out.2.2.2.2.2, at_range h2.at0⟩
 refine wp_region_held_drew (S := fun w' => w'.cell? ⟨g, 53, none⟩ = some (.map (some mv)) ∧ w'.rangeAt A 0 SV) (by kernel_rfl) (hSS _ hR8.drew hAy) (fun hHeld => ?_)
 obtain ⟨z, HXZ⟩ := hidE y.drew
 rw [← HXZ.out] at hHeld ⊢
 have hR9 : AF w B X g mm mk mv CS YS C1 (upd (fun _ => none) f RO) ra rs z := by rw [HXZ.out]; exact hR8.drew
 have hAz : BlkV 39 z A SV := by rw [HXZ.out]; exact hAy
 clear hR8 hAy
 refine tq 0 rfl ?_
 refine tq 1 rfl ?_
 refine tq 2 rfl ?_
 refine tq 3 rfl ?_
 refine tk 4 rfl (yieldsIf_load_mid (by rfl) 39 _ rfl A 0 rfl SV _ (fun w hS => hS.2) Tryz.underlying39 rfl hiSV) ?_
 refine e1 5 rfl fun K' hK' => ?_
 refine step_delE rfl _ 124 _ _ rfl (by kernel_rfl) mv hR9.vot SA hSAl (.agg SV.toArray) HSS.out rfl rfl ?_
 intro z2 hmvA hgA
 have hRA : AF w B X g mm mk mv CS YS C1 (upd (fun _ => none) f RO) ra rs z2 := hR9.set (Or.inr (Or.inr rfl)) hgA (fun e => absurd e.symm hd3) (fun _ => rfl) (fun e => absurd e.symm hd5) (fun _ => rfl) (fun _ => hmvA)
 have hAz2 := hAz.grown hgA (by intro e; injection e with e; omega)
 refine ko hK' (hSS _ hRA hAz2) fun hHeld => ?_
 clear hK' K'
 refine wpAnyH_done (by kernel_rfl) ?_ _
 clear hHeld hSS hR9 hAz hAz2 hmvA hgA
 have s53 := (hc1 _ hRA.sta).out.2.2.2.2.2
 obtain ⟨RI, HRI⟩ := hidE z2.heap.size
 have hXI : X < RI := by rw [HRI.out]; exact hRA.bod.lt
 go_wp2_with (first | (refine wl_rangeE rfl _ 39 124 _ rfl (by kernel_rfl) mv hRA.vot rfl RI HRI.out.symm ?_; intro z3 hit hb3 hs3))
 have hRB := hRA.step hb3 hXI
 clear hRA s53 hb3
 simp only [Act.put, fpA, fpZ, fpN]
 go_loopw [16, 202, 203] (fun _ _ _ wr => wr = z3) (fun _ _ _ _ => 0)
 case atStart => exact rfl
 case round =>
  subst hrel
  go_wp2_with (first | (refine wl_nextE rfl _ rfl mv RI hRB.vot hit rfl ?_))
  go_wp2_with fail
  have hiE : (Tryz.prog.info? 83).map (·.size) = some CS.length := by rw [hCl]; exact aggEntry.2
  have hSS : ∀ ST w', AF w B X g mm mk mv CS YS ST (upd (fun _ => none) f RO) ra rs w' → (fun w' => w'.cell? ⟨B, 1, none⟩ = some (.int .i64 t) ∧ w'.rangeAt B 0 CS) w' := fun ST w' h => ⟨(hcells _ _ h.ent).out.2.1, at_range h.ent.at0⟩
  refine wp_region_held_drew (S := fun w' => w'.cell? ⟨B, 1, none⟩ = some (.int .i64 t) ∧ w'.rangeAt B 0 CS) (by kernel_rfl) (hSS _ _ hRB.drew) (fun hHeld => ?_)
  obtain ⟨x, HXX⟩ := hidE wr.drew
  rw [← HXX.out] at hHeld ⊢
  have hR : AF w B X g mm mk mv CS YS C1 (upd (fun _ => none) f RO) ra rs x := by rw [HXX.out]; exact hRB.drew
  clear hRB
  repeat' (first
   | ((with_reducible refine isEff ?_); first
    | (refine step_set1 rfl 3 _ _ rfl 92 g 0 rfl (.int .i64 1) rfl rfl rfl (by kernel_rfl) C1 hR.sta (by rw [HC1l.out]; decide) ?_; intro x hSy hg hbl hsy; have hR := hR.set (ST' := C2) (Or.inl rfl) hg (fun _ => (by rw [← HQ1.out]; exact hSy)) (fun e => absurd rfl e) (fun e => absurd e hd1) (fun _ => rfl) (fun e => absurd e hd3); clear hSy; refine hK'.out _ _ (hSS _ _ hR) (fun hHeld => ?_); clear hK' K'; (try simp only [Act.put, fpA, fpZ, fpN]))
    | (refine step_set1 rfl 3 _ _ rfl 92 g 1 rfl (.int .i64 t) rfl rfl rfl (by kernel_rfl) C2 hR.sta (by rw [HC2l.out]; decide) ?_; intro x hSy hg hbl hsy; have hR := hR.set (ST' := C3) (Or.inl rfl) hg (fun _ => (by rw [← HQ2.out]; exact hSy)) (fun e => absurd rfl e) (fun e => absurd e hd1) (fun _ => rfl) (fun e => absurd e hd3); clear hSy; refine hK'.out _ _ (hSS _ _ hR) (fun hHeld => ?_); clear hK' K'; (try simp only [Act.put, fpA, fpZ, fpN]))
    | (refine step_storeP rfl 39 _ _ rfl 92 g 2 rfl S rfl 32 aggSumT hSl C3 hR.sta (by rw [HC3l.out]; decide) hS1 (rsC 1 t S F mm mk mv) HQ3.out ?_; intro x hSy hbl hg hsy; have hR := hR.set (ST' := rsC 1 t S F mm mk mv) (Or.inl rfl) hg (fun _ => hSy) (fun e => absurd rfl e) (fun e => absurd e hd1) (fun _ => rfl) (fun e => absurd e hd3); clear hSy; refine hK'.out _ _ (hSS _ _ hR) (fun hHeld => ?_); clear hK' K'; (try simp only [Act.put, fpA, fpZ, fpN]))
    | (rw [if_pos (by rfl)]; have s0 := (hc1 _ hR.sta).out.1; go_simp; refine hK'.out _ _ (hSS _ _ hR) (fun hHeld => ?_); clear hK' K'; (try simp only [Act.put, fpA, fpZ, fpN]))
    | (rw [if_pos (by rfl)]; go_simp; go_at_call 47; refine (hes x hR.onl).out.mono ?_; rintro e x ⟨rfl, hb⟩; have hR := hR.step hb hR.bod.lt; refine hK'.out _ _ (hSS _ _ hR) (fun hHeld => ?_); clear hK' K'; (try simp only [Act.put, fpA, fpZ, fpN])))
   | ((with_reducible refine isAny ?_); first
    | refine tq 0 rfl ?_ (by decide +kernel)
    | refine tq 1 rfl ?_ (by decide +kernel)
    | refine tq 2 rfl ?_ (by decide +kernel)
    | refine tq 3 rfl ?_ (by decide +kernel)
    | refine tq 4 rfl ?_ (by decide +kernel)
    | refine tq 5 rfl ?_ (by decide +kernel)
    | refine tq 8 rfl ?_ (by decide +kernel)
    | refine tq 9 rfl ?_ (by decide +kernel)
    | refine tk 10 rfl (yieldsIf_load_mid (by rfl) 83 _ rfl B 0 rfl CS _ (fun w hS => hS.2) Tryz.underlying83 rfl hiE) ?_ (by decide +kernel)
    | refine tq 7 rfl ?_ (by decide +kernel)
    | refine tq 12 rfl ?_ (by decide +kernel)
    | refine tq 13 rfl ?_ (by decide +kernel)
    | refine tq 15 rfl ?_ (by decide +kernel)
    | refine tq 16 rfl ?_ (by decide +kernel)
    | refine tq 18 rfl ?_ (by decide +kernel)
    | refine tq 19 rfl ?_ (by decide +kernel)
    | refine wpAnyH_ready (rs := [6, 11]) (by decide +kernel) (by simp) (cons_l rfl (fun K' hK' => ?_) (cons_l rfl (fun K' hK' => ?_) AllReadyH.nil))
    | refine wpAnyH_ready (rs := [11]) (by decide +kernel) (by simp) (cons_l rfl (fun K' hK' => ?_) AllReadyH.nil)
    | refine wpAnyH_ready (rs := [14]) (by decide +kernel) (by simp) (cons_l rfl (fun K' hK' => ?_) AllReadyH.nil)
    | refine wpAnyH_ready (rs := [17]) (by decide +kernel) (by simp) (cons_l rfl (fun K' hK' => ?_) AllReadyH.nil)
    | refine wpAnyH_ready (rs := [20]) (by decide +kernel) (by simp) (cons_l rfl (fun K' hK' => ?_) AllReadyH.nil)
    | refine wpAnyH_ready (rs := [6]) (by decide +kernel) (by simp) (cons_l rfl (fun K' hK' => ?_) AllReadyH.nil)))
  all_goals (
   refine wpAnyH_done (by kernel_rfl) ?_ _
   clear hHeld hSS
   go_wp2_with fail
   exact HP.out ra rc x ⟨hR.sta, by rw [← HRO.out]; exact hR.mem, hR.keys, hR.vot⟩ hR.row (fun b hb hne => (hR.rl b hb hne).1) hR.onl)
end Go.Proofs.YtdhipjoplkpgmaaGreatDoor.hf
namespace Go.Proofs.YtdhipjoplkpgmaaGreatDoor.hf
open Go.RowKit st hs wr shr sh lk
def houR (R : List Value) (g : Nat) (en : Value) (ms : Nat) : List Value := R ++ [.pointer (some ⟨g, 0, none⟩), en, .map (some ms)]
section
variable {R : List Value} {g ms h : Nat} {en : Value} {w : World}
theorem houR_len (hR : R.length = 32) : (houR R g en ms).length = 35 := by simp [houR, hR]
theorem houR_set {v : Value} (hR : R.length = 32) : (houR R g en ms).set 33 v = houR R g v ms := by
 unfold houR
 rw [show 33 = R.length + 1 by rw [hR], List.set_append_right _ _ (by omega), Nat.add_sub_cancel_left]
 rfl
theorem houR_cells (hR : R.length = 32) (hB : BlkV 48 w h (houR R g en ms)) : w.cell? ⟨h, 32, none⟩ = some (.pointer (some ⟨g, 0, none⟩)) ∧ w.cell? ⟨h, 33, none⟩ = some en := by
 refine ⟨(hB.cell 32).trans ?_, (hB.cell 33).trans ?_⟩ <;> unfold houR
 ·rw [← hR, List.getElem?_append_right (Nat.le_refl _), Nat.sub_self]; rfl
 ·rw [show 33 = R.length + 1 by rw [hR], List.getElem?_append_right (by omega), Nat.add_sub_cancel_left]; rfl
theorem houR_root (hB : BlkV 48 w h (houR R g en ms)) : At w ⟨h, 0, none⟩ R := hB.at 0 R fun j u hu => by
 have hj := (List.getElem?_eq_some_iff.1 hu).1
 unfold houR
 rw [Nat.zero_add, List.getElem?_append_left hj]; exact hu
end
theorem infoEnt : Info Tryz.prog 83 (.agg entZ.toArray) 68 112 := by unfold Info; kernel_rfl
theorem infoEnt2 : (Tryz.prog.info? 83).map (fun i => (i.zero, i.size)) = some (some (.agg entZ.toArray), 68) := by kernel_rfl
structure WF (w : World) (B h : Nat) (HC F ZI BS : List Value) (x : World) : Prop where
 hou : BlkV 48 x h HC
 fid : BlkV 25 x B F
 zid : BlkV 25 x (B + 1) ZI
 bod : BlkV 42 x (B + 2) BS
 bel : Below B w x
 lt : h < B
theorem WF.drew {w x : World} {B h : Nat} {HC F ZI BS : List Value} (k : WF w B h HC F ZI BS x) : WF w B h HC F ZI BS x.drew := ⟨k.hou, k.fid, k.zid, k.bod, k.bel.drew, k.lt⟩
theorem WF.sz {w x : World} {B h : Nat} {HC F ZI BS : List Value} (k : WF w B h HC F ZI BS x) : B + 3 ≤ x.heap.size := k.bod.lt
theorem WF.step {w x x' : World} {B h M : Nat} {HC F ZI BS : List Value} (k : WF w B h HC F ZI BS x) (hb : Below M x x') (hM : B + 3 ≤ M) : WF w B h HC F ZI BS x' := by
 have := k.lt
 exact ⟨k.hou.below hb (by omega), k.fid.below hb (by omega), k.zid.below hb (by omega), k.bod.below hb (by omega), k.bel.trans (hb.mono (by omega)), k.lt⟩
structure RFound (w : World) (B h g mm mk mv ms : Nat) (R : List Value) (t : Int) (f : List Int) (rs : List ByteArray) : Prop where
 st : ∃ ra rc, RsAfter w g mm mk mv 1 t ((entryS f t (bodyB f rs)).map (Value.int .u8)) (f.map (Value.int .u8)) f (.slice ra rs.length rc) ∧ RowS w ra rs ∧ (∀ b, ra = some b → rs ≠ [] → B ≤ b.block)
 en : ∃ ea ec gb c, BlkV 48 w h (houR R g (.slice (some ⟨ea, 0, none⟩) 1 ec) ms) ∧ At w ⟨ea, 0, none⟩ (entC t (f.map (Value.int .u8)) (.slice (some ⟨gb, 0, none⟩) (bodyB f rs).length c)) ∧ (B ≤ ea ∧ ea < w.heap.size) ∧ B ≤ gb ∧ EntOk w t f rs (some ⟨gb, 0, none⟩) (bodyB f rs).length c
theorem RefWrite_err (h g mm mk mv ms : Nat) (R : List Value) (hR : R.length = 32) (t : Int) (f : List Int) (hf : f.length = 16) (ao : Option Addr) (cap : Nat) (rs : List ByteArray) (cd : Int) (hcd : cd ≠ 0) (w : World) (hH : BlkV 48 w h (houR R g (.slice none 0 0) ms))
  (hN : ∀ w', Below w.heap.size w w' → Calls Tryz.prog 37 #[.pointer (some ⟨g, 0, none⟩), .int .i64 t, .int .i64 2, .agg (f.map (Value.int .u8)).toArray, .agg zID.toArray, .agg (bodyC (f.map (Value.int .u8)) (.slice ao rs.length cap)).toArray] w' fun e w'' => e = .returned (.tuple #[.agg entZ.toArray, .int .i64 cd]) ∧ Below w'.heap.size w' w'') :
  Calls Tryz.prog 11 #[.pointer (some ⟨h, 0, none⟩), .int .i64 t, .int .i64 2, .agg (f.map (Value.int .u8)).toArray, .agg zID.toArray, .agg (bodyC (f.map (Value.int .u8)) (.slice ao rs.length cap)).toArray] w fun e w' => e = .returned (.int .i64 cd) ∧ Below w.heap.size w w' := by
 have hnx := fun (w' : World) (hb : Below w.heap.size w w') => hid (hN w' hb)
 clear hN
 have hcd' : decide (cd = 0) = false := by simp [hcd]
 obtain ⟨Q, HQ⟩ : ∃ Q : Ending → World → Prop, Hid (Q = fun e w' => e = .returned (.int .i64 cd) ∧ Below w.heap.size w w') := ⟨_, hid rfl⟩
 rw [← HQ.out]
 have HPQ : Hid (∀ w', Below w.heap.size w w' → Q (.returned (.int .i64 cd)) w') := hid (by rw [HQ.out]; exact fun w' h => ⟨rfl, h⟩)
 have hFl : (f.map (Value.int .u8)).length = 16 := by rw [List.length_map, hf]
 have hHc := fun (w' : World) (k : BlkV 48 w' h (houR R g (.slice none 0 0) ms)) => hid (houR_cells hR k)
 obtain ⟨HC, HHC⟩ := hidE (houR R g (.slice none 0 0) ms)
 rw [← HHC.out] at hHc hH
 have hYl := bodyC_len (fv := f.map (Value.int .u8)) (ro := .slice ao rs.length cap) hFl
 obtain ⟨BS, HBS⟩ := hidE (bodyC (f.map (Value.int .u8)) (.slice ao rs.length cap))
 rw [← HBS.out] at hYl hnx ⊢
 obtain ⟨F, HF⟩ := hidE (f.map (Value.int .u8))
 rw [← HF.out] at hFl hnx ⊢
 obtain ⟨ZI, HZI⟩ := hidE zID
 have hZIl : ZI.length = 16 := by rw [HZI.out]; rfl
 rw [← HZI.out] at hnx ⊢
 have hze := hid zeroEntry
 have hZEl : entZ.length = 68 := entZ_len
 have hZE1 : ∀ u ∈ entZ, u.oneCell' = true := by decide
 have hin1 := hid infoEnt
 have hin2 := hid infoEnt2
 obtain ⟨ZE, HZE⟩ := hidE entZ
 rw [← HZE.out] at hze hZEl hZE1 hnx hin1 hin2
 have hiF : (Tryz.prog.info? 25).map (·.size) = some F.length := by rw [hFl]; exact aggIDT.2
 have hiZI : (Tryz.prog.info? 25).map (·.size) = some ZI.length := by rw [hZIl]; exact aggIDT.2
 have hiBS : (Tryz.prog.info? 42).map (·.size) = some BS.length := by rw [hYl]; exact aggBody.2
 have hhw := hH.lt
 obtain ⟨B, hsz⟩ := szE w
 rw [hsz] at hnx HPQ hhw
 go_enter Tryz.func11, Tryz.ntmps11
 go_wp2_with (first
  | (refine wl_boxV rfl 42 _ rfl BS rfl (B + 2) (by omega) ?_; intro w3 hY3 hb3 hs3; have hI3 := hI2.below hb3 (by omega); have hE3 := hE2.below hb3 (by omega); have bb3 : Below B w w3 := bb2.trans (hb3.mono (by omega)))
  | (refine wl_boxV rfl 25 _ rfl ZI rfl (B + 1) (by omega) ?_; intro w2 hI2 hb2 hs2; have hE2 := hE1.below hb2 (by omega); have bb2 : Below B w w2 := bb1.trans (hb2.mono (by omega)))
  | (refine wl_boxV rfl 25 _ rfl F rfl B hsz ?_; intro w1 hE1 bb1 hs1))
 have hR3 : WF w B h HC F ZI BS w3 := ⟨hH.below bb3 hhw, hE3, hI3, hY3, bb3, hhw⟩
 clear hE1 hE2 hE3 hI2 hI3 hY3 bb1 bb2 bb3 hb2 hb3 hH
 have hSS : ∀ w', WF w B h HC F ZI BS w' → (fun w' => w'.cell? ⟨h, 32, none⟩ = some (.pointer (some ⟨g, 0, none⟩)) ∧ w'.rangeAt B 0 F ∧ w'.rangeAt (B + 1) 0 ZI ∧ w'.rangeAt (B + 2) 0 BS) w' := fun w' k => ⟨((hHc _ k.hou).out).1, at_range k.fid.at0, at_range k.zid.at0, at_range k.bod.at0⟩
 refine wp_region_held_drew (S := fun w' => w'.cell? ⟨h, 32, none⟩ = some (.pointer (some ⟨g, 0, none⟩)) ∧ w'.rangeAt B 0 F ∧ w'.rangeAt (B + 1) 0 ZI ∧ w'.rangeAt (B + 2) 0 BS) (by kernel_rfl) (hSS _ hR3.drew) (fun hHeld => ?_)
 obtain ⟨x, HX0⟩ := hidE w3.drew
 rw [← HX0.out] at hHeld ⊢
 have hR : WF w B h HC F ZI BS x := by rw [HX0.out]; exact hR3.drew
 clear hR3 hs1 hs2 hs3
 repeat' (first
  | ((with_reducible refine isEff ?_); first
   | (refine step_storeV rfl 83 _ _ rfl 83 X rfl ZE rfl 68 aggEntry hZEl ZE hD hZEl hZE1 ?_; intro x hD hb hs; have hR := hR.step hb hXB; refine hK'.out _ _ (hSS _ hR) (fun hHeld => ?_); clear hK' K'; (try simp only [Act.put, fpA, fpZ, fpN]))
   | (obtain ⟨X, HX⟩ := hidE x.heap.size; have hXB : B + 3 ≤ X := (by rw [HX.out]; exact hR.sz); have hXe : x.heap.size ≤ X := Nat.le_of_eq HX.out.symm; (try have hne : gb ≠ X := (by omega)); refine step_allocV rfl 83 rfl ZE hze.out X HX.out.symm ?_; intro x hD hb0 hs; have hb := hb0.mono hXe; have hR := hR.step hb0 hXB; (try have hP := hP.below hb); clear hb hb0 hs; refine hK'.out _ _ (hSS _ hR) (fun hHeld => ?_); clear hK' K'; (try simp only [Act.put, fpA, fpZ, fpN]))
   | (rw [if_pos (by rfl)]; go_simp; go_at_call 37; refine (hnx x hR.bel).out.mono ?_; rintro e x ⟨rfl, hb⟩; have hR := hR.step hb hR.sz; (try have hD := hD.below hb hD.lt); refine hK'.out _ _ (hSS _ hR) (fun hHeld => ?_); clear hK' K'; (try simp only [Act.put, fpA, fpZ, fpN])))
  | ((with_reducible refine isAny ?_); first
   | refine tq 0 rfl ?_ (by decide +kernel)
   | refine tq 1 rfl ?_ (by decide +kernel)
   | refine tq 2 rfl ?_ (by decide +kernel)
   | refine tq 3 rfl ?_ (by decide +kernel)
   | refine tq 4 rfl ?_ (by decide +kernel)
   | refine tq 5 rfl ?_ (by decide +kernel)
   | refine tk 6 rfl (yieldsIf_load_mid (by rfl) 25 _ rfl B 0 rfl F _ (fun w hS => hS.2.1) Tryz.underlying25 rfl hiF) ?_ (by decide +kernel)
   | refine tk 7 rfl (yieldsIf_load_mid (by rfl) 25 _ rfl (B + 1) 0 rfl ZI _ (fun w hS => hS.2.2.1) Tryz.underlying25 rfl hiZI) ?_ (by decide +kernel)
   | refine tk 8 rfl (yieldsIf_load_mid (by rfl) 42 _ rfl (B + 2) 0 rfl BS _ (fun w hS => hS.2.2.2) Tryz.underlying42 rfl hiBS) ?_ (by decide +kernel)
   | refine tq 10 rfl ?_ (by decide +kernel)
   | refine tq 11 rfl ?_ (by decide +kernel)
   | refine tq 12 rfl ?_ (by decide +kernel)
   | refine tq 15 rfl ?_ (by decide +kernel)
   | refine wpAnyH_ready (rs := [9, 13]) (by decide +kernel) (by simp) (cons_l rfl (fun K' hK' => ?_) (cons_l rfl (fun K' hK' => ?_) AllReadyH.nil))
   | refine wpAnyH_ready (rs := [13]) (by decide +kernel) (by simp) (cons_l rfl (fun K' hK' => ?_) AllReadyH.nil)
   | refine wpAnyH_ready (rs := [14]) (by decide +kernel) (by simp) (cons_l rfl (fun K' hK' => ?_) AllReadyH.nil)
   | refine wpAnyH_ready (rs := [9]) (by decide +kernel) (by simp) (cons_l rfl (fun K' hK' => ?_) AllReadyH.nil)))
 all_goals (
  refine wpAnyH_done (by kernel_rfl) ?_ _
  clear hHeld
  go_wp2_with fail
  exact HPQ.out _ hR.bel
  )
theorem ptOther {x x' : World} {X gb c : Nat} {T : List Int} (hP : Pt.Ok x ⟨some ⟨gb, 0, none⟩, c, T⟩) (hg : x.grownBy x' (some X)) (hne : gb ≠ X) : Pt.Ok x' ⟨some ⟨gb, 0, none⟩, c, T⟩ :=
 (Only.ofG (B := x.heap.size) (ks := [X]) hg (Nat.le_refl _) (fun k hk => by injection hk with hk; right; rw [← hk]; simp)).pt hP (fun b hb => ⟨hP.lt b hb, by injection hb with hb; subst hb; simpa using hne⟩)
structure OF (w : World) (B h X gb c : Nat) (HC F ZI BS ES : List Value) (T : List Int) (x : World) : Prop where
 wf : WF w B h HC F ZI BS x
 ent : BlkV 83 x X ES
 pt : Pt.Ok x ⟨some ⟨gb, 0, none⟩, c, T⟩
 xb : B + 3 ≤ X
 ge : B ≤ gb
theorem OF.drew {w x : World} {B h X gb c : Nat} {HC F ZI BS ES : List Value} {T : List Int} (k : OF w B h X gb c HC F ZI BS ES T x) : OF w B h X gb c HC F ZI BS ES T x.drew := ⟨k.wf.drew, k.ent, ptDr k.pt, k.xb, k.ge⟩
theorem OF.step {w x x' : World} {B h X gb c M : Nat} {HC F ZI BS ES : List Value} {T : List Int} (k : OF w B h X gb c HC F ZI BS ES T x) (hb : Below M x x') (hX : X < M) (hg : gb < M) : OF w B h X gb c HC F ZI BS ES T x' :=
 ⟨k.wf.step hb (by have := k.xb; omega), k.ent.below hb hX, ptLow k.pt hb (fun b e => by injection e with e; subst e; exact hg), k.xb, k.ge⟩
theorem OF.lts {w x : World} {B h X gb c : Nat} {HC F ZI BS ES : List Value} {T : List Int} (k : OF w B h X gb c HC F ZI BS ES T x) : X < x.heap.size ∧ gb < x.heap.size := ⟨k.ent.lt, k.pt.lt _ rfl⟩
theorem oneRow {w : World} {E0 size : Nat} {e : TypeId} {ao : Option Addr} {c : Nat} {ES : List Value} (hM : Mine w E0 e size (.slice ao 1 c) 1 ES) (hl : ES.length = size) : ∃ ea, Hid (ao = some ⟨ea, 0, none⟩) ∧ E0 ≤ ea ∧ ea < w.heap.size ∧ At w ⟨ea, 0, none⟩ ES := by
 rcases (mine_own hM (by decide)).2 with ⟨_, h⟩ | ⟨g1, cap1, cur1, hv1, k1, k2, _, _, _, k3⟩
 ·cases h
 ·injection hv1 with hv1
  refine ⟨g1, hid hv1, k1, (Array.getElem?_eq_some_iff.1 k2).1, fun j u hu => ?_⟩
  have k4 : cur1.toList.take (1 * size) = ES := k3
  have k5 : (cur1.toList.take (1 * size))[j]? = some u := by rw [k4]; exact hu
  have hj : j < size := by have := (List.getElem?_eq_some_iff.1 hu).1; omega
  rw [List.getElem?_take, if_pos (by omega)] at k5
  rw [addr_add, Nat.zero_add]
  simp only [World.cell?, k2]
  simpa using k5
theorem RsAfter.below {w w' : World} {g mm mk mv : Nat} {cnt tm : Int} {lv fv : List Value} {f : List Int} {ro : Value} (k : RsAfter w g mm mk mv cnt tm lv fv f ro) (hb : Below w.heap.size w w') : RsAfter w' g mm mk mv cnt tm lv fv f ro :=
 ⟨k.blk.below hb k.blk.lt, k.mem.below hb k.mem.lt, k.keys.below hb k.keys.lt, (hb.block _ (Array.getElem?_eq_some_iff.1 k.vot).1).trans k.vot⟩
structure TF (w : World) (B h X gb c g mm mk mv : Nat) (HC ES F S : List Value) (TB f : List Int) (rs : List ByteArray) (t : Int) (u : World) : Prop where
 hou : BlkV 48 u h HC
 ent : BlkV 83 u X ES
 pt : Pt.Ok u ⟨some ⟨gb, 0, none⟩, c, TB⟩
 onl : Only B [g, mm, mv] w u
 aft : ∃ ra rc, RsAfter u g mm mk mv 1 t S F f (.slice ra rs.length rc) ∧ RowS u ra rs ∧ (∀ b, ra = some b → rs ≠ [] → B ≤ b.block)
 sz : B + 3 ≤ u.heap.size
theorem TF.step {w u u' : World} {B h X gb c g mm mk mv : Nat} {HC ES F S : List Value} {TB f : List Int} {rs : List ByteArray} {t : Int} (k : TF w B h X gb c g mm mk mv HC ES F S TB f rs t u) (hb : Below u.heap.size u u') : TF w B h X gb c g mm mk mv HC ES F S TB f rs t u' := by
 have h1 := k.sz
 have h2 := hb.size
 refine ⟨k.hou.below hb k.hou.lt, k.ent.below hb k.ent.lt, k.pt.below hb, k.onl.trans (Only.of hb (by omega)), ?_, by omega⟩
 obtain ⟨ra, rc, k1, k2, k3⟩ := k.aft
 exact ⟨ra, rc, k1.below hb, k2.below hb, k3⟩
theorem RefWrite_ok (h g mm mk mv ms : Nat) (R : List Value) (hR : R.length = 32) (t : Int) (f : List Int) (hf : f.length = 16) (ao : Option Addr) (cap : Nat) (rs : List ByteArray) (of : Octs f) (h0 : f ≠ List.replicate 16 0) (w : World) (hH : BlkV 48 w h (houR R g (.slice none 0 0) ms)) (hS : RsOk w g mm mk mv) (hr : RowS w ao rs) (hs : ∀ i, i < rs.length → (roleAt rs i).size ≤ maxLen) (hn : rs.length ≤ 9223372036854775807) (hE : bodyE rs = 0) (ht : timeE t = 0)
  (hd : g ≠ mm ∧ g ≠ mk ∧ g ≠ mv ∧ mm ≠ mk ∧ mm ≠ mv ∧ mk ≠ mv) (hh : h ≠ g ∧ h ≠ mm ∧ h ≠ mk ∧ h ≠ mv) :
  Calls Tryz.prog 11 #[.pointer (some ⟨h, 0, none⟩), .int .i64 t, .int .i64 2, .agg (f.map (Value.int .u8)).toArray, .agg zID.toArray, .agg (bodyC (f.map (Value.int .u8)) (.slice ao rs.length cap)).toArray] w fun e w' => e = .returned (.int .i64 0) ∧ RFound w' w.heap.size h g mm mk mv ms R t f rs ∧ Only w.heap.size [h, g, mm, mv] w w' := by
 have hnx := fun (w' : World) (hb : Below w.heap.size w w') => hid (RefNext_ok g mm mk mv t f hf of h0 ao cap rs w' (hS.blk.below hb hS.blk.lt) (hr.below hb) hs hn hE ht)
 have hEnt := fun (w' : World) (gb c : Nat) (h : Pt.Ok w' ⟨some ⟨gb, 0, none⟩, c, bodyB f rs⟩) => (⟨hf, of, ht, hE, rfl, h, fun e => by cases e⟩ : EntOk w' t f rs (some ⟨gb, 0, none⟩) (bodyB f rs).length c)
 have hju := fun (w' : World) (gb c : Nat) (h : Pt.Ok w' ⟨some ⟨gb, 0, none⟩, c, bodyB f rs⟩) (hb : Below w.heap.size w w') => hid (RefJudge_ok g mm mk mv t f rs _ _ c w' (hEnt w' gb c h) h0 (hS.below hb (Nat.le_refl _)))
 have hgw := hS.blk.lt
 have hmw := hS.mem.lt
 have hkw := hS.keys.lt
 have hvw := (Array.getElem?_eq_some_iff.1 hS.vot).1
 have hap := fun (w' : World) (gb c : Nat) (h : Pt.Ok w' ⟨some ⟨gb, 0, none⟩, c, bodyB f rs⟩) (hb : Below w.heap.size w w') (hg : w.heap.size ≤ gb) => hid (RefApply_ok g mm mk mv t f rs _ _ c w' (hEnt w' gb c h) h0 (hS.below hb (Nat.le_refl _)) hd (fun b e hm => by
  injection e with e; subst e
  simp only [List.mem_cons, List.not_mem_nil, or_false] at hm
  omega))
 have hNX : Hid (∀ e w' w'', NextPost t f rs w' e w'' → ∃ gb c, e = .returned (.tuple #[.agg (entC t (f.map (Value.int .u8)) (.slice (some ⟨gb, 0, none⟩) (bodyB f rs).length c)).toArray, .int .i64 0]) ∧ w'.heap.size ≤ gb ∧ gb < w''.heap.size ∧ Pt.Ok w'' ⟨some ⟨gb, 0, none⟩, c, bodyB f rs⟩ ∧ Below w'.heap.size w' w'') := hid (fun e w' w'' h => by
  obtain ⟨hb, h | h | h⟩ := h
  ·exact absurd hE h.1
  ·exact absurd ht h.2.1
  ·obtain ⟨_, _, gb, c, rfl, h1, h2, h3⟩ := h
   exact ⟨gb, c, rfl, h1, h2, h3, hb⟩)
 have HEl := fun v => hid (entC_len (t := t) (bo := v) (fv := f.map (Value.int .u8)) (by rw [List.length_map, hf]))
 have HE1 := fun v hv => hid (entC_one (t := t) (bo := v) (fv := f.map (Value.int .u8)) (ints_one _ _) hv)
 obtain ⟨Q, HQ⟩ : ∃ Q : Ending → World → Prop, Hid (Q = fun e w' => e = .returned (.int .i64 0) ∧ RFound w' w.heap.size h g mm mk mv ms R t f rs ∧ Only w.heap.size [h, g, mm, mv] w w') := ⟨_, hid rfl⟩
 rw [← HQ.out]
 have HPQ : Hid (∀ gb c w', (∀ ea ec, BlkV 48 w' h (houR R g (.slice (some ⟨ea, 0, none⟩) 1 ec) ms) → At w' ⟨ea, 0, none⟩ (entC t (f.map (Value.int .u8)) (.slice (some ⟨gb, 0, none⟩) (bodyB f rs).length c)) → w.heap.size ≤ ea → ea < w'.heap.size → w.heap.size ≤ gb → Pt.Ok w' ⟨some ⟨gb, 0, none⟩, c, bodyB f rs⟩ →
   (∃ ra rc, RsAfter w' g mm mk mv 1 t ((entryS f t (bodyB f rs)).map (Value.int .u8)) (f.map (Value.int .u8)) f (.slice ra rs.length rc) ∧ RowS w' ra rs ∧ (∀ b, ra = some b → rs ≠ [] → w.heap.size ≤ b.block)) → Only w.heap.size [h, g, mm, mv] w w' → Q (.returned (.int .i64 0)) w')) := hid (by
  rw [HQ.out]
  exact fun gb c w' ea ec h1 h2 h3 h4 h5 h6 h7 h8 => ⟨rfl, ⟨h7, ⟨ea, ec, gb, c, h1, h2, ⟨h3, h4⟩, h5, hEnt w' gb c h6⟩⟩, h8⟩)
 have HSET := fun v => hid (houR_set (g := g) (ms := ms) (en := .slice none 0 0) (v := v) hR)
 have HHL := hid (houR_len (g := g) (ms := ms) (en := .slice none 0 0) hR)
 have HAP : Hid (∀ e w' w'', RApplyPost g mm mk mv t f rs w' e w'' → e = .returned (.int .i64 0) ∧ (∃ ra rc, RsAfter w'' g mm mk mv 1 t ((entryS f t (bodyB f rs)).map (Value.int .u8)) (f.map (Value.int .u8)) f (.slice ra rs.length rc) ∧ RowS w'' ra rs ∧ (∀ b, ra = some b → rs ≠ [] → w'.heap.size ≤ b.block)) ∧ Only w'.heap.size [g, mm, mv] w' w'') := hid (fun e w' w'' h => h)
 obtain ⟨AP, HAPE⟩ := hidE (RApplyPost g mm mk mv t f rs)
 rw [← HAPE.out] at HAP hap
 obtain ⟨NP, HNPE⟩ := hidE (NextPost t f rs)
 rw [← HNPE.out] at hNX hnx
 obtain ⟨TB, HTB⟩ := hidE (bodyB f rs)
 rw [← HTB.out] at hju hap hNX HPQ HAP
 clear hEnt hS hr hs hn hE ht of h0
 have hFl : (f.map (Value.int .u8)).length = 16 := by rw [List.length_map, hf]
 have hHc := fun (w' : World) (k : BlkV 48 w' h (houR R g (.slice none 0 0) ms)) => hid (houR_cells hR k)
 obtain ⟨HC, HHC⟩ := hidE (houR R g (.slice none 0 0) ms)
 rw [← HHC.out] at hHc hH HSET HHL
 have hYl := bodyC_len (fv := f.map (Value.int .u8)) (ro := .slice ao rs.length cap) hFl
 obtain ⟨BS, HBS⟩ := hidE (bodyC (f.map (Value.int .u8)) (.slice ao rs.length cap))
 rw [← HBS.out] at hYl hnx ⊢
 obtain ⟨F, HF⟩ := hidE (f.map (Value.int .u8))
 rw [← HF.out] at hFl hnx ⊢
 rw [← HF.out] at hNX HAP
 have hju := fun w' gb c h1 h2 => hid (show Calls Tryz.prog 38 #[.pointer (some ⟨g, 0, none⟩), .agg (entC t F (.slice (some ⟨gb, 0, none⟩) TB.length c)).toArray] w' _ by rw [HF.out]; exact (hju w' gb c h1 h2).out)
 have hap := fun w' gb c h1 h2 h3 => hid (show Calls Tryz.prog 39 #[.pointer (some ⟨g, 0, none⟩), .agg (entC t F (.slice (some ⟨gb, 0, none⟩) TB.length c)).toArray] w' _ by rw [HF.out]; exact (hap w' gb c h1 h2 h3).out)
 have HEl := fun v => hid (show (entC t F v).length = 68 by rw [HF.out]; exact (HEl v).out)
 have HE1 := fun v hv => hid (show ∀ u ∈ entC t F v, u.oneCell' = true by rw [HF.out]; exact (HE1 v hv).out)
 have HEND := HPQ
 rw [← HF.out] at HEND
 obtain ⟨ZI, HZI⟩ := hidE zID
 have hZIl : ZI.length = 16 := by rw [HZI.out]; rfl
 rw [← HZI.out] at hnx ⊢
 have hze := hid zeroEntry
 have hZEl : entZ.length = 68 := entZ_len
 have hZE1 : ∀ u ∈ entZ, u.oneCell' = true := by decide
 have hin1 := hid infoEnt
 have hin2 := hid infoEnt2
 obtain ⟨ZE, HZE⟩ := hidE entZ
 rw [← HZE.out] at hze hZEl hZE1 hin1 hin2
 have hiF : (Tryz.prog.info? 25).map (·.size) = some F.length := by rw [hFl]; exact aggIDT.2
 have hiZI : (Tryz.prog.info? 25).map (·.size) = some ZI.length := by rw [hZIl]; exact aggIDT.2
 have hiBS : (Tryz.prog.info? 42).map (·.size) = some BS.length := by rw [hYl]; exact aggBody.2
 have hhw := hH.lt
 obtain ⟨B, hsz⟩ := szE w
 rw [hsz] at hnx hju hap HEND hhw hgw hmw hkw hvw
 go_enter Tryz.func11, Tryz.ntmps11
 go_wp2_with (first
  | (refine wl_boxV rfl 42 _ rfl BS rfl (B + 2) (by omega) ?_; intro w3 hY3 hb3 hs3; have hI3 := hI2.below hb3 (by omega); have hE3 := hE2.below hb3 (by omega); have bb3 : Below B w w3 := bb2.trans (hb3.mono (by omega)))
  | (refine wl_boxV rfl 25 _ rfl ZI rfl (B + 1) (by omega) ?_; intro w2 hI2 hb2 hs2; have hE2 := hE1.below hb2 (by omega); have bb2 : Below B w w2 := bb1.trans (hb2.mono (by omega)))
  | (refine wl_boxV rfl 25 _ rfl F rfl B hsz ?_; intro w1 hE1 bb1 hs1))
 have hR3 : WF w B h HC F ZI BS w3 := ⟨hH.below bb3 hhw, hE3, hI3, hY3, bb3, hhw⟩
 clear hE1 hE2 hE3 hI2 hI3 hY3 bb1 bb2 bb3 hb2 hb3 hH
 have hSS : ∀ w', WF w B h HC F ZI BS w' → (fun w' => w'.cell? ⟨h, 32, none⟩ = some (.pointer (some ⟨g, 0, none⟩)) ∧ w'.rangeAt B 0 F ∧ w'.rangeAt (B + 1) 0 ZI ∧ w'.rangeAt (B + 2) 0 BS) w' := fun w' k => ⟨((hHc _ k.hou).out).1, at_range k.fid.at0, at_range k.zid.at0, at_range k.bod.at0⟩
 refine wp_region_held_drew (S := fun w' => w'.cell? ⟨h, 32, none⟩ = some (.pointer (some ⟨g, 0, none⟩)) ∧ w'.rangeAt B 0 F ∧ w'.rangeAt (B + 1) 0 ZI ∧ w'.rangeAt (B + 2) 0 BS) (by kernel_rfl) (hSS _ hR3.drew) (fun hHeld => ?_)
 obtain ⟨x, HX0⟩ := hidE w3.drew
 rw [← HX0.out] at hHeld ⊢
 have hR : WF w B h HC F ZI BS x := by rw [HX0.out]; exact hR3.drew
 clear hR3 hs1 hs2 hs3
 repeat' (first
  | ((with_reducible refine isEff ?_); first
   | (have HDS : ZE.take 0 ++ ES ++ ZE.drop (0 + 68) = ES := (by rw [List.drop_eq_nil_of_le (by omega)]; simp); refine step_storeP rfl 83 _ _ rfl 83 X 0 rfl ES rfl 68 aggEntry hESl ZE hD (by rw [hZEl]; decide) hES1 ES HDS ?_; intro x hD hb hg hs; have hP := ptOther hP hg hne; have hR := hR.step hb hXB; refine hK'.out _ _ (hSS _ hR) (fun hHeld => ?_); clear hK' K'; (try simp only [Act.put, fpA, fpZ, fpN]))
   | (obtain ⟨X, HX⟩ := hidE x.heap.size; have hXB : B + 3 ≤ X := (by rw [HX.out]; exact hR.sz); have hXe : x.heap.size ≤ X := Nat.le_of_eq HX.out.symm; (try have hne : gb ≠ X := (by omega)); refine step_allocV rfl 83 rfl ZE hze.out X HX.out.symm ?_; intro x hD hb0 hs; have hb := hb0.mono hXe; have hR := hR.step hb0 hXB; (try have hP := hP.below hb); clear hb hb0 hs; refine hK'.out _ _ (hSS _ hR) (fun hHeld => ?_); clear hK' K'; (try simp only [Act.put, fpA, fpZ, fpN]))
   | (rw [if_pos (by rfl)]; go_simp; go_at_call 37; refine (hnx x hR.bel).out.mono ?_; intro e x hNP; obtain ⟨gb, c, rfl, hgb, hgl, hP, hb⟩ := hNX.out _ _ _ hNP; clear hNP; (try have hne : gb ≠ X := Nat.ne_of_gt (Nat.lt_of_lt_of_le hD.lt hgb)); have hBg : B ≤ gb := Nat.le_trans (Nat.le_trans (by omega : B ≤ B + 3) hR.sz) hgb; have hR := hR.step hb hR.sz; (try have hD := hD.below hb hD.lt); have hESl := (HEl (.slice (some ⟨gb, 0, none⟩) TB.length c)).out; have hES1 := (HE1 (.slice (some ⟨gb, 0, none⟩) TB.length c) rfl).out; have hju2 := fun w' => hju w' gb c; have hap2 := fun w' => hap w' gb c; have HEND2 := HEND.out gb c; obtain ⟨ES, HES⟩ := hidE (entC t F (.slice (some ⟨gb, 0, none⟩) TB.length c)); rw [← HES.out] at hESl hES1 hju2 hap2 HEND2 ⊢; have hgl := hgl; clear hgb; refine hK'.out _ _ (hSS _ hR) (fun hHeld => ?_); clear hK' K'; (try simp only [Act.put, fpA, fpZ, fpN])))
  | ((with_reducible refine isAny ?_); first
   | refine tq 0 rfl ?_ (by decide +kernel)
   | refine tq 1 rfl ?_ (by decide +kernel)
   | refine tq 2 rfl ?_ (by decide +kernel)
   | refine tq 3 rfl ?_ (by decide +kernel)
   | refine tq 4 rfl ?_ (by decide +kernel)
   | refine tq 5 rfl ?_ (by decide +kernel)
   | refine tk 6 rfl (yieldsIf_load_mid (by rfl) 25 _ rfl B 0 rfl F _ (fun w hS => hS.2.1) Tryz.underlying25 rfl hiF) ?_ (by decide +kernel)
   | refine tk 7 rfl (yieldsIf_load_mid (by rfl) 25 _ rfl (B + 1) 0 rfl ZI _ (fun w hS => hS.2.2.1) Tryz.underlying25 rfl hiZI) ?_ (by decide +kernel)
   | refine tk 8 rfl (yieldsIf_load_mid (by rfl) 42 _ rfl (B + 2) 0 rfl BS _ (fun w hS => hS.2.2.2) Tryz.underlying42 rfl hiBS) ?_ (by decide +kernel)
   | refine tq 10 rfl ?_ (by decide +kernel)
   | refine tq 11 rfl ?_ (by decide +kernel)
   | refine tq 12 rfl ?_ (by decide +kernel)
   | refine tq 15 rfl ?_ (by decide +kernel)
   | refine wpAnyH_ready (rs := [9, 13]) (by decide +kernel) (by simp) (cons_l rfl (fun K' hK' => ?_) (cons_l rfl (fun K' hK' => ?_) AllReadyH.nil))
   | refine wpAnyH_ready (rs := [13]) (by decide +kernel) (by simp) (cons_l rfl (fun K' hK' => ?_) AllReadyH.nil)
   | refine wpAnyH_ready (rs := [14]) (by decide +kernel) (by simp) (cons_l rfl (fun K' hK' => ?_) AllReadyH.nil)
   | refine wpAnyH_ready (rs := [9]) (by decide +kernel) (by simp) (cons_l rfl (fun K' hK' => ?_) AllReadyH.nil)))
 all_goals (
  refine wpAnyH_done (by kernel_rfl) ?_ _
  clear hHeld hSS
  go_wp2_with fail
  have hO : OF w B h X gb c HC F ZI BS ES TB x := ⟨hR, hD, hP, hXB, hBg⟩
  clear hR hD hP
  have hiES : (Tryz.prog.info? 83).map (·.size) = some ES.length := by rw [hESl]; exact aggEntry.2
  have hSO : ∀ w', OF w B h X gb c HC F ZI BS ES TB w' → (fun w' => w'.cell? ⟨h, 32, none⟩ = some (.pointer (some ⟨g, 0, none⟩)) ∧ w'.rangeAt X 0 ES) w' := fun w' k => ⟨((hHc _ k.wf.hou).out).1, at_range k.ent.at0⟩
  refine wp_region_held_drew (S := fun w' => w'.cell? ⟨h, 32, none⟩ = some (.pointer (some ⟨g, 0, none⟩)) ∧ w'.rangeAt X 0 ES) (by kernel_rfl) (hSO _ hO.drew) (fun hHeld => ?_)
  have hO' := hO.drew
  obtain ⟨y, HY0⟩ := hidE x.drew
  rw [← HY0.out] at hHeld hO' ⊢
  clear hO
  have hO := hO'
  clear hO'
  repeat' (first
   | ((with_reducible refine isEff ?_); first
    | (refine step_storeV rfl 94 _ _ rfl 94 Y rfl decF rfl 4 aggDec rfl decZ hY rfl (by decide) ?_; intro y hY hb hs; have hO := hO.step hb hXY hgY; refine hK'.out _ _ (hSO _ hO) (fun hHeld => ?_); clear hK' K'; (try simp only [Act.put, fpA, fpZ, fpN]))
    | (obtain ⟨Y, HY⟩ := hidE y.heap.size; have hXY : X < Y := (by rw [HY.out]; exact hO.lts.1); have hgY : gb < Y := (by rw [HY.out]; exact hO.lts.2); refine step_allocV rfl 94 rfl decZ zeroDec Y HY.out.symm ?_; intro y hY hb hs; have hO := hO.step hb hXY hgY; refine hK'.out _ _ (hSO _ hO) (fun hHeld => ?_); clear hK' K'; (try simp only [Act.put, fpA, fpZ, fpN]))
    | (rw [if_pos (by rfl)]; go_simp; go_at_call 38; refine (hju2 y hO.pt hO.wf.bel).out.mono ?_; rintro e y ⟨rfl, hb⟩; (try have hY := hY.below hb hY.lt); have hO := hO.step hb hO.lts.1 hO.lts.2; refine hK'.out _ _ (hSO _ hO) (fun hHeld => ?_); clear hK' K'; (try simp only [Act.put, fpA, fpZ, fpN])))
   | ((with_reducible refine isAny ?_); first
    | refine tq 0 rfl ?_ (by decide +kernel)
    | refine tq 1 rfl ?_ (by decide +kernel)
    | refine tq 2 rfl ?_ (by decide +kernel)
    | refine tq 3 rfl ?_ (by decide +kernel)
    | refine tk 4 rfl (yieldsIf_load_mid (by rfl) 83 _ rfl X 0 rfl ES _ (fun w hS => hS.2) Tryz.underlying83 rfl hiES) ?_ (by decide +kernel)
    | refine tq 6 rfl ?_ (by decide +kernel)
    | refine tq 7 rfl ?_ (by decide +kernel)
    | refine tq 8 rfl ?_ (by decide +kernel)
    | refine tq 11 rfl ?_ (by decide +kernel)
    | refine wpAnyH_ready (rs := [5, 9]) (by decide +kernel) (by simp) (cons_l rfl (fun K' hK' => ?_) (cons_l rfl (fun K' hK' => ?_) AllReadyH.nil))
    | refine wpAnyH_ready (rs := [9]) (by decide +kernel) (by simp) (cons_l rfl (fun K' hK' => ?_) AllReadyH.nil)
    | refine wpAnyH_ready (rs := [10]) (by decide +kernel) (by simp) (cons_l rfl (fun K' hK' => ?_) AllReadyH.nil)
    | refine wpAnyH_ready (rs := [5]) (by decide +kernel) (by simp) (cons_l rfl (fun K' hK' => ?_) AllReadyH.nil)))
  all_goals (
   refine wpAnyH_done (by kernel_rfl) ?_ _
   clear hHeld
   go_wp2_with fail
   clear hSO
   have hSO : ∀ w', OF w B h X gb c HC F ZI BS ES TB w' → (fun w' => w'.cell? ⟨h, 32, none⟩ = some (.pointer (some ⟨g, 0, none⟩)) ∧ w'.rangeAt X 0 ES) w' := fun w' k => ⟨((hHc _ k.wf.hou).out).1, at_range k.ent.at0⟩
   refine wp_region_held_drew (S := fun w' => w'.cell? ⟨h, 32, none⟩ = some (.pointer (some ⟨g, 0, none⟩)) ∧ w'.rangeAt X 0 ES) (by kernel_rfl) (hSO _ hO.drew) (fun hHeld => ?_)
   have hO' := hO.drew
   obtain ⟨z, HZ0⟩ := hidE y.drew
   rw [← HZ0.out] at hHeld hO' ⊢
   clear hO
   refine tq 0 rfl ?_
   refine tq 1 rfl ?_
   refine tq 2 rfl ?_
   refine tq 3 rfl ?_
   refine tk 4 rfl (yieldsIf_load_mid (by rfl) 83 _ rfl X 0 rfl ES _ (fun w hS => hS.2) Tryz.underlying83 rfl hiES) ?_
   refine e1 5 rfl fun K' hK' => ?_
   rw [if_pos (by rfl)]
   go_simp
   go_at_call 39
   refine (hap2 z hO'.pt hO'.wf.bel hO'.ge).out.mono ?_
   intro e v hAP0
   obtain ⟨rfl, hAft, hOn⟩ := HAP.out _ _ _ hAP0
   clear hAP0
   have hzs := hO'.wf.sz
   have hzl := hO'.lts
   have hni : ∀ k, B ≤ k → k ∉ [g, mm, mv] := fun k hk hm => by
    simp only [List.mem_cons, List.not_mem_nil, or_false] at hm
    rcases hm with q | q | q <;> omega
   have hHv := hOn.blk hO'.wf.hou (by omega) (by simp [hh.1, hh.2.1, hh.2.2.2])
   have hDv := hOn.blk hO'.ent hzl.1 (hni _ (by have := hO'.xb; omega))
   have hPv := hOn.pt hO'.pt (fun b hb => by injection hb with hb; subst hb; exact ⟨hzl.2, hni _ hO'.ge⟩)
   have hOw : Only B [g, mm, mv] w v := (Only.of hO'.wf.bel (Nat.le_refl _)).trans (hOn.mono (by omega) (fun k hk => Or.inl hk))
   have hAft2 : ∃ ra rc, RsAfter v g mm mk mv 1 t ((entryS f t TB).map (Value.int .u8)) F f (.slice ra rs.length rc) ∧ RowS v ra rs ∧ (∀ b, ra = some b → rs ≠ [] → B ≤ b.block) := by
    obtain ⟨ra, rc, k1, k2, k3⟩ := hAft
    exact ⟨ra, rc, k1, k2, fun b hb hne => by have := k3 b hb hne; omega⟩
   have hvz : B + 3 ≤ v.heap.size := by have := hOn.size; omega
   have hxb := hO'.xb
   have hgb := hO'.ge
   refine hK'.out _ _ ⟨((hHc _ hHv).out).1, at_range hDv.at0⟩ (fun hHeld => ?_)
   clear hK' K' hO' hOn hAft hju2 hap2
   try simp only [Act.put, sArr, sZ, sS]
   refine tq 6 rfl ?_
   refine wpAnyH_done (by kernel_rfl) ?_ _
   clear hHeld hSO
   go_wp2_with fail
   refine wp_region_held_drew (S := fun w' => w'.rangeAt X 0 ES) (by kernel_rfl) (at_range (w := v.drew) hDv.at0) (fun hHeld => ?_)
   obtain ⟨u, HU⟩ := hidE v.drew
   rw [← HU.out] at hHeld ⊢
   have hT : TF w B h X gb c g mm mk mv HC ES F ((entryS f t TB).map (Value.int .u8)) TB f rs t u := by rw [HU.out]; exact ⟨hHv, hDv, ptDr hPv, ⟨hOw.os, hOw.tape, hOw.output, hOw.size, hOw.block⟩, (by obtain ⟨ra, rc, k1, k2, k3⟩ := hAft2; exact ⟨ra, rc, ⟨k1.blk, k1.mem, k1.keys, k1.vot⟩, k2, k3⟩), hvz⟩
   clear hHv hDv hPv hOw hAft2 hvz HU
   repeat' (first
    | ((with_reducible refine isEff ?_); first
     | (refine step_set1 rfl 46 _ _ rfl 48 h 33 rfl (.slice (some ⟨ea, 0, none⟩) 1 c3) rfl rfl rfl (by kernel_rfl) HC hT.hou (by rw [HHL.out]; decide) ?_; intro u3 hH3 hg3 hb4 hs4; rw [(HSET _).out] at hH3; have hD3 := hT.ent.grown hg3 (by intro e; injection e with e; have := hT.sz; omega); refine hK'.out _ _ (at_range hD3.at0) (fun hHeld => ?_); clear hK' K'; (try simp only [Act.put, fpA, fpZ, fpN]))
     | (obtain ⟨E0, HE0⟩ := hidE u.heap.size; refine step_appendS rfl _ _ 46 rfl 83 (.agg ZE.toArray) 68 112 Tryz.underlying46 hin1.out (by show ZE.toArray.size = 68; simpa using hZEl) (by decide) E0 _ 0 [] rfl (Mine.nil _ _ _ _) (some ⟨A, 0, none⟩) 1 1 rfl (fun h => by cases h) ES (by rw [hESl]) (at_row hA.lt hA.at0) hES1 (by unfold maxLen; omega) (by omega) (Nat.le_of_eq HE0.out) 1 rfl ?_; intro ao3 c3 u2 row3 hc3 hM3 hV3 hg3 hr3; rw [List.nil_append] at hM3; have hb3 : Below u.heap.size u u2 := (Below.refl _ _).grown hg3 (Nat.le_refl _) (fun k hk => Nat.le_trans (Nat.le_of_eq HE0.out.symm) (hr3 k hk).1); have hE0B : B + 3 ≤ E0 := (by rw [HE0.out]; exact hT.sz); obtain ⟨ea, HEA, hEA, hEl, hAtE⟩ := oneRow hM3 hESl; have hao := HEA.out; subst hao; have hT := hT.step hb3; clear hM3 hV3 hg3 hr3 hA hb3; refine hK'.out _ _ (at_range hT.ent.at0) (fun hHeld => ?_); clear hK' K'; (try simp only [Act.put, fpA, fpZ, fpN]))
     | (obtain ⟨A, HA⟩ := hidE u.heap.size; refine step_slice1 rfl 46 83 _ rfl Tryz.underlying46 68 ZE hin2.out hZEl (by decide) (by decide) ES rfl hESl A HA.out.symm ?_; intro u hA hb1 hs1; have hT := hT.step (by rw [← HA.out]; exact hb1); clear hb1 hs1; refine hK'.out _ _ (at_range hT.ent.at0) (fun hHeld => ?_); clear hK' K'; (try simp only [Act.put, fpA, fpZ, fpN]))
     | (rw [if_pos (by rfl)]; have c33 := ((hHc _ hT.hou).out).2; go_simp; clear c33; refine hK'.out _ _ (at_range hT.ent.at0) (fun hHeld => ?_); clear hK' K'; (try simp only [Act.put, fpA, fpZ, fpN])))
    | ((with_reducible refine isAny ?_); first
     | refine tq 0 rfl ?_ (by decide +kernel)
     | refine tq 1 rfl ?_ (by decide +kernel)
     | refine tq 2 rfl ?_ (by decide +kernel)
     | refine tq 3 rfl ?_ (by decide +kernel)
     | refine tk 5 rfl (yieldsIf_load_mid (by rfl) 83 _ rfl X 0 rfl ES _ (fun w hS => hS) Tryz.underlying83 rfl hiES) ?_ (by decide +kernel)
     | refine tq 8 rfl ?_ (by decide +kernel)
     | refine tq 9 rfl ?_ (by decide +kernel)
     | refine wpAnyH_ready (rs := [4, 6]) (by decide +kernel) (by simp) (cons_l rfl (fun K' hK' => ?_) (cons_l rfl (fun K' hK' => ?_) AllReadyH.nil))
     | refine wpAnyH_ready (rs := [6]) (by decide +kernel) (by simp) (cons_l rfl (fun K' hK' => ?_) AllReadyH.nil)
     | refine wpAnyH_ready (rs := [7]) (by decide +kernel) (by simp) (cons_l rfl (fun K' hK' => ?_) AllReadyH.nil)
     | refine wpAnyH_ready (rs := [10]) (by decide +kernel) (by simp) (cons_l rfl (fun K' hK' => ?_) AllReadyH.nil)
     | refine wpAnyH_ready (rs := [4]) (by decide +kernel) (by simp) (cons_l rfl (fun K' hK' => ?_) AllReadyH.nil)))
   all_goals (
    refine wpAnyH_done (by kernel_rfl) ?_ _
    clear hHeld
    go_wp2_with fail
    have kp := fun (k : Nat) (hk : k ≠ h) => (fun e => hk (by injection e with e; exact e.symm) : ¬ (some h = some k))
    have hO3 : Only B [h, g, mm, mv] w u3 := (hT.onl.mono (Nat.le_refl _) (fun k hk => Or.inl (List.mem_cons_of_mem _ hk))).trans (Only.ofG hg3 (by have := hT.sz; omega) (fun k hk => by injection hk with hk; right; rw [← hk]; simp))
    have hP3 := ptOther hT.pt hg3 (by omega)
    have hAt3 : At u3 ⟨ea, 0, none⟩ ES := fun j x hx => by
     rw [← hAtE j x hx]
     exact World.cell?_of_block (hg3.block _ (by rw [addr_add]; exact hEl) (by rw [addr_add]; intro e; injection e with e; have e : ea = h := e; omega))
    have hA3 : ∃ ra rc, RsAfter u3 g mm mk mv 1 t ((entryS f t TB).map (Value.int .u8)) F f (.slice ra rs.length rc) ∧ RowS u3 ra rs ∧ (∀ b, ra = some b → rs ≠ [] → B ≤ b.block) := by
     obtain ⟨ra, rc, k1, k2, k3⟩ := hT.aft
     exact ⟨ra, rc, ⟨k1.blk.grown hg3 (kp _ (fun e => hh.1 e.symm)), k1.mem.grown hg3 (kp _ (fun e => hh.2.1 e.symm)), k1.keys.grown hg3 (kp _ (fun e => hh.2.2.1 e.symm)), (hg3.block _ (Array.getElem?_eq_some_iff.1 k1.vot).1 (fun e => by injection e with e; exact hh.2.2.2 e.symm)).trans k1.vot⟩, rowS_grown k2 hg3 (fun b hb hne => by have := k3 b hb hne; omega), k3⟩
    exact HEND2 u3 ea c3 hH3 hAt3 (by omega) (by rw [hs4]; exact hEl) hgb hP3 hA3 hO3
    )
   )
  )
end Go.Proofs.YtdhipjoplkpgmaaGreatDoor.hf
namespace Go.Proofs.YtdhipjoplkpgmaaGreatDoor.hf
open Go.RowKit st hs wr shr sh lk
theorem builtHouR {R : List Value} (hR : R.length = 32) (g ms : Nat) : Tryz.prog.built 48 [(0, .agg R.toArray), (1, .pointer (some ⟨g, 0, none⟩)), (3, .map (some ms))] = some (houR R g (.slice none 0 0) ms).toArray := by
 obtain ⟨a0, a1, a2, a3, a4, a5, a6, a7, a8, a9, a10, a11, a12, a13, a14, a15, b0, b1, b2, b3, b4, b5, b6, b7, b8, b9, b10, b11, b12, b13, b14, b15, rfl⟩ := list32 hR
 kernel_rfl
theorem RFound.low {w : World} {B B' h g mm mk mv ms : Nat} {R : List Value} {t : Int} {f : List Int} {rs : List ByteArray} (k : RFound w B h g mm mk mv ms R t f rs) (hB : B' ≤ B) : RFound w B' h g mm mk mv ms R t f rs := by
 obtain ⟨⟨ra, rc, h1, h2, h3⟩, ⟨ea, ec, gb, c, k1, k2, ⟨k3, k4⟩, k5, k6⟩⟩ := k
 exact ⟨⟨ra, rc, h1, h2, fun b hb hne => Nat.le_trans hB (h3 b hb hne)⟩, ⟨ea, ec, gb, c, k1, k2, ⟨Nat.le_trans hB k3, k4⟩, Nat.le_trans hB k5, k6⟩⟩
structure RNew (B h g mm mk mv : Nat) : Prop where
 low : B ≤ h ∧ B ≤ g ∧ B ≤ mm ∧ B ≤ mk ∧ B ≤ mv
 dis : (g ≠ mm ∧ g ≠ mk ∧ g ≠ mv ∧ mm ≠ mk ∧ mm ≠ mv ∧ mk ≠ mv)
 hdi : h ≠ g ∧ h ≠ mm ∧ h ≠ mk ∧ h ≠ mv
structure NF (w : World) (B : Nat) (R F : List Value) (x : World) : Prop where
 key : BlkV 23 x B R
 fid : BlkV 25 x (B + 1) F
 bel : Below B w x
theorem NF.drew {w x : World} {B : Nat} {R F : List Value} (k : NF w B R F x) : NF w B R F x.drew := ⟨k.key, k.fid, k.bel.drew⟩
theorem NF.sz {w x : World} {B : Nat} {R F : List Value} (k : NF w B R F x) : B + 2 ≤ x.heap.size := k.fid.lt
theorem NF.step {w x x' : World} {B M : Nat} {R F : List Value} (k : NF w B R F x) (hb : Below M x x') (hM : B + 2 ≤ M) : NF w B R F x' := ⟨k.key.below hb (by omega), k.fid.below hb (by omega), k.bel.trans (hb.mono (by omega))⟩
def RNewPost (R : List Value) (f : List Int) (rs : List ByteArray) (t : Int) (w : World) (e : Ending) (w' : World) : Prop := Below w.heap.size w w' ∧ ((foundE f rs t ≠ 0 ∧ e = .returned (.tuple #[.pointer none, .int .i64 (foundE f rs t)])) ∨
 (foundE f rs t = 0 ∧ ∃ h g mm mk mv ms, e = .returned (.tuple #[.pointer (some ⟨h, 0, none⟩), .int .i64 0]) ∧ RNew w.heap.size h g mm mk mv ∧ RFound w' w.heap.size h g mm mk mv ms R t f rs))
theorem RefNew_zero (R : List Value) (hR : R.length = 32) (t : Int) (rv : Value) (w : World) : Calls Tryz.prog 5 #[.agg R.toArray, .agg zID.toArray, rv, .int .i64 t] w fun e w' => e = .returned (.tuple #[.pointer none, .int .i64 2]) ∧ Below w.heap.size w w' := by
 have hzz : Hid (∀ w, (Op.equalIn 10000 25 (.agg zID.toArray) (.agg zID.toArray)).run Tryz.prog w = .ok true w) := hid (fun w => by rw [show zID = (List.replicate 16 (0 : Int)).map (Value.int .u8) from rfl, run_eq_id' w _ _ (by simp) (by simp)]; simp)
 have hbi := hid builtID0
 obtain ⟨ZI, HZI⟩ := hidE zID
 have hZIl : ZI.length = 16 := by rw [HZI.out]; rfl
 rw [← HZI.out] at hzz hbi ⊢
 obtain ⟨B, hsz⟩ := szE w
 rw [hsz]
 go_enter Tryz.func5, Tryz.ntmps5
 go_wp2_with (first
  | (refine wl_eqK 14 rfl (by kernel_rfl) 25 _ _ _ rfl ZI.toArray ZI.toArray rfl rfl true (hzz.out _) (by kernel_rfl) ?_)
  | (refine wl_build0G (by kernel_rfl) 25 rfl ZI hbi.out ?_)
  | (refine wl_loadG (by kernel_rfl) 25 _ rfl ⟨B + 1, 0, none⟩ rfl 16 ZI hZIl aggIDT hE2.at0 ?_)
  | (refine wl_boxV rfl 25 _ rfl ZI rfl (B + 1) (by omega) ?_; intro w2 hE2 hb2 hs2; have bb2 : Below B w w2 := bb1.trans (hb2.mono (by omega)))
  | (refine wl_boxV rfl 23 _ rfl R rfl B hsz ?_; intro w1 hR1 bb1 hs1))
 go_ret2
 exact ⟨rfl, bb2⟩
theorem RefNew_err (R : List Value) (hR : R.length = 32) (t : Int) (f : List Int) (hf : f.length = 16) (h0 : f ≠ List.replicate 16 0) (ao : Option Addr) (cap : Nat) (rs : List ByteArray) (cd : Int) (hcd : cd ≠ 0) (w : World)
  (hN : ∀ g mm mk mv w', Below w.heap.size w w' → RsOk w' g mm mk mv → Calls Tryz.prog 37 #[.pointer (some ⟨g, 0, none⟩), .int .i64 t, .int .i64 2, .agg (f.map (Value.int .u8)).toArray, .agg zID.toArray, .agg (bodyC (f.map (Value.int .u8)) (.slice ao rs.length cap)).toArray] w' (fun e w'' => e = .returned (.tuple #[.agg entZ.toArray, .int .i64 cd]) ∧ Below w'.heap.size w' w'')) :
  Calls Tryz.prog 5 #[.agg R.toArray, .agg (f.map (Value.int .u8)).toArray, .slice ao rs.length cap, .int .i64 t] w fun e w' => e = .returned (.tuple #[.pointer none, .int .i64 cd]) ∧ Below w.heap.size w w' := by
 have hwr := fun (h g mm mk mv ms : Nat) (w' : World) (hb : Below w.heap.size w w') (hS : RsOk w' g mm mk mv) (hH : BlkV 48 w' h (houR R g (.slice none 0 0) ms)) => hid (RefWrite_err h g mm mk mv ms R hR t f hf ao cap rs cd hcd w' hH (fun w'' hb' => hN g mm mk mv w'' (hb.trans (hb'.mono hb.size)) (hS.below hb' (Nat.le_refl _))))
 have hFl : (f.map (Value.int .u8)).length = 16 := by rw [List.length_map, hf]
 have hbb := hid (builtBodyMR hFl ao rs.length cap)
 have hbh := fun g ms => hid (builtHouR hR g ms)
 have hfz : Hid (∀ w, (Op.equalIn 10000 25 (.agg (f.map (Value.int .u8)).toArray) (.agg zID.toArray)).run Tryz.prog w = .ok false w) := hid (fun w => by rw [show zID = (List.replicate 16 (0 : Int)).map (Value.int .u8) from rfl, run_eq_id' w f _ hf (by simp)]; congr 1; simpa using h0)
 have hbi := hid builtID0
 have hiR : (Tryz.prog.info? 23).map (·.size) = some R.length := by rw [hR]; exact aggKey32.2
 obtain ⟨RV, HRV⟩ := hidE (Value.slice ao rs.length cap)
 rw [← HRV.out] at hbb hwr ⊢
 obtain ⟨BS, HBS⟩ := hidE (bodyC (f.map (Value.int .u8)) RV)
 rw [← HBS.out] at hbb hwr
 obtain ⟨F, HF⟩ := hidE (f.map (Value.int .u8))
 rw [← HF.out] at hfz hbb hFl hwr ⊢
 obtain ⟨ZI, HZI⟩ := hidE zID
 rw [← HZI.out] at hfz hbi hwr
 have hHC := fun g ms => hid (show ∃ C, Hid (C = houR R g (.slice none 0 0) ms) from ⟨_, rfl⟩)
 have hcd' : decide (cd = 0) = false := by simp [hcd]
 obtain ⟨B, hsz⟩ := szE w
 rw [hsz] at hwr ⊢
 obtain ⟨Q, HQ⟩ : ∃ Q : Ending → World → Prop, Hid (Q = fun e w' => e = .returned (.tuple #[.pointer none, .int .i64 cd]) ∧ Below B w w') := ⟨_, rfl⟩
 rw [← HQ.out]
 have HPQ : Hid (∀ w', Below B w w' → Q (.returned (.tuple #[.pointer none, .int .i64 cd])) w') := hid (by rw [HQ.out]; exact fun w' h => ⟨rfl, h⟩)
 clear hN
 go_enter Tryz.func5, Tryz.ntmps5
 go_wp2_with (first
  | (refine wl_eqK 14 rfl (by kernel_rfl) 25 _ _ _ rfl F.toArray ZI.toArray rfl rfl false (hfz.out _) (by kernel_rfl) ?_)
  | (refine wl_build0G (by kernel_rfl) 25 rfl ZI hbi.out ?_)
  | (refine wl_loadG (by kernel_rfl) 25 _ rfl ⟨B + 1, 0, none⟩ rfl 16 F hFl aggIDT hE2.at0 ?_)
  | (refine wl_boxV rfl 25 _ rfl F rfl (B + 1) (by omega) ?_; intro w2 hE2 hb2 hs2; have hR2 := hR1.below hb2 (by omega); have bb2 : Below B w w2 := bb1.trans (hb2.mono (by omega)))
  | (refine wl_boxV rfl 23 _ rfl R rfl B hsz ?_; intro w1 hR1 bb1 hs1))
 have hN2 : NF w B R F w2 := ⟨hR2, hE2, bb2⟩
 clear hR1 hE2 hR2 bb1 bb2 hb2 hs1 hs2
 have hSS : ∀ w', NF w B R F w' → (fun w' => w'.rangeAt B 0 R) w' := fun w' k => at_range k.key.at0
 refine wp_region_held_drew (S := fun w' => w'.rangeAt B 0 R) (by kernel_rfl) (hSS _ hN2.drew) (fun hHeld => ?_)
 obtain ⟨x, HX0⟩ := hidE w2.drew
 rw [← HX0.out] at hHeld ⊢
 have hN : NF w B R F x := by rw [HX0.out]; exact hN2.drew
 clear hN2
 repeat' (first
  | ((with_reducible refine isEff ?_); first
   | (obtain ⟨h, HH⟩ := hidE x.heap.size; have hHe : x.heap.size = h := HH.out.symm; have hHB : B + 2 ≤ h := (by rw [HH.out]; exact hN.sz); refine step_boxV rfl 48 _ rfl HC rfl h HH.out.symm ?_; intro x hH hb hs; have hg1 := hS.blk.lt; have hg2 := hS.mem.lt; have hg3 := hS.keys.lt; have hg4 := (Array.getElem?_eq_some_iff.1 hS.vot).1; rw [hHe] at hg1 hg2 hg3 hg4; have hN := hN.step hb hHB; have hS := hS.below hb (Nat.le_of_eq hHe); clear hb hs; refine hK'.out _ _ (hSS _ hN) (fun hHeld => ?_); clear hK' K'; (try simp only [Act.put, fpA, fpZ, fpN]))
   | (obtain ⟨ms, Hms⟩ := hidE x.heap.size; have hme : x.heap.size ≤ ms := Nat.le_of_eq Hms.out.symm; have hMB : B + 2 ≤ ms := (by rw [Hms.out]; exact hN.sz); refine step_makeMap rfl _ rfl ms Hms.out.symm ?_; intro x hM hb hs; have hN := hN.step hb hMB; (try have hS := hS.below hb hme); clear hM hb hs; refine hK'.out _ _ (hSS _ hN) (fun hHeld => ?_); clear hK' K'; (try simp only [Act.put, fpA, fpZ, fpN]))
   | (rw [if_pos (by rfl)]; go_simp; go_at_call 10; refine (RefNewState_ok x).mono ?_; rintro e x ⟨g, mm, mk, mv, rfl, hS, hlo, hdd, hb⟩; have hlo := (⟨Nat.le_trans hN.sz hlo.1, Nat.le_trans hN.sz hlo.2.1, Nat.le_trans hN.sz hlo.2.2.1, Nat.le_trans hN.sz hlo.2.2.2⟩ : B + 2 ≤ g ∧ B + 2 ≤ mm ∧ B + 2 ≤ mk ∧ B + 2 ≤ mv); have hN := hN.step hb hN.sz; clear hb; refine hK'.out _ _ (hSS _ hN) (fun hHeld => ?_); clear hK' K'; (try simp only [Act.put, fpA, fpZ, fpN])))
  | ((with_reducible refine isAny ?_); first
   | refine tk 0 rfl (yieldsIf_load_mid (by rfl) 23 _ rfl B 0 rfl R _ (fun w hS => hS) Tryz.underlying23 rfl hiR) ?_ (by decide +kernel)
   | (obtain ⟨HC, HHC⟩ := (hHC g ms).out; have hbC := (hbh g ms).out; rw [← HHC.out] at hbC; refine tk 3 rfl (yieldsIf_build (by rfl) 48 _ rfl [(0, .agg R.toArray), (1, .pointer (some ⟨g, 0, none⟩)), (3, .map (some ms))] rfl HC hbC) ?_ (by decide +kernel))
   | refine tq 5 rfl ?_ (by decide +kernel)
   | refine wpAnyH_ready (rs := [1, 2]) (by decide +kernel) (by simp) (cons_l rfl (fun K' hK' => ?_) (cons_l rfl (fun K' hK' => ?_) AllReadyH.nil))
   | refine wpAnyH_ready (rs := [2]) (by decide +kernel) (by simp) (cons_l rfl (fun K' hK' => ?_) AllReadyH.nil)
   | refine wpAnyH_ready (rs := [4]) (by decide +kernel) (by simp) (cons_l rfl (fun K' hK' => ?_) AllReadyH.nil)
   | refine wpAnyH_ready (rs := [1]) (by decide +kernel) (by simp) (cons_l rfl (fun K' hK' => ?_) AllReadyH.nil)))
 all_goals (
  refine wpAnyH_done (by kernel_rfl) ?_ _
  clear hHeld hSS
  have hRt := hN.fid
  have bbx := hN.bel
  rw [HHC.out] at hH
  have hwr2 := fun w' hb => hwr h g mm mk mv ms w' hb
  go_wp2_with (first
   | (go_at_call 11; refine (hwr2 x bbx hS hH).out.mono ?_; rintro e x4 ⟨rfl, hb4⟩; have bb4 : Below B w x4 := bbx.trans (hb4.mono (by have := bbx.size; omega)))
   | (refine wl_buildL rfl 42 _ rfl [(1, .agg F.toArray), (2, RV)] rfl BS hbb.out ?_)
   | (refine wl_build0G (by kernel_rfl) 25 rfl ZI hbi.out ?_)
   | (refine wl_loadG (by kernel_rfl) 25 _ rfl ⟨B + 1, 0, none⟩ rfl 16 F hFl aggIDT hRt.at0 ?_))
  (try simp only [Exit.inBlock, Exit.then])
  exact HPQ.out _ bb4
  )
theorem RefNew_ok (R : List Value) (hR : R.length = 32) (t : Int) (f : List Int) (hf : f.length = 16) (of : Octs f) (h0 : f ≠ List.replicate 16 0) (ao : Option Addr) (cap : Nat) (rs : List ByteArray) (w : World) (hr : RowS w ao rs) (hs : ∀ i, i < rs.length → (roleAt rs i).size ≤ maxLen) (hn : rs.length ≤ 9223372036854775807) (hE : bodyE rs = 0) (ht : timeE t = 0) :
  Calls Tryz.prog 5 #[.agg R.toArray, .agg (f.map (Value.int .u8)).toArray, .slice ao rs.length cap, .int .i64 t] w fun e w' => (∃ h g mm mk mv ms, e = .returned (.tuple #[.pointer (some ⟨h, 0, none⟩), .int .i64 0]) ∧ RNew w.heap.size h g mm mk mv ∧ RFound w' w.heap.size h g mm mk mv ms R t f rs) ∧ Below w.heap.size w w' := by
 have hwr := fun (h g mm mk mv ms : Nat) (w' : World) (hb : Below w.heap.size w w') (hS : RsOk w' g mm mk mv) (hH : BlkV 48 w' h (houR R g (.slice none 0 0) ms)) (hd : g ≠ mm ∧ g ≠ mk ∧ g ≠ mv ∧ mm ≠ mk ∧ mm ≠ mv ∧ mk ≠ mv) (hh : h ≠ g ∧ h ≠ mm ∧ h ≠ mk ∧ h ≠ mv) => hid (RefWrite_ok h g mm mk mv ms R hR t f hf ao cap rs of h0 w' hH hS (hr.below hb) hs hn hE ht hd hh)
 have hFl : (f.map (Value.int .u8)).length = 16 := by rw [List.length_map, hf]
 have hbb := hid (builtBodyMR hFl ao rs.length cap)
 have hbh := fun g ms => hid (builtHouR hR g ms)
 have hfz : Hid (∀ w, (Op.equalIn 10000 25 (.agg (f.map (Value.int .u8)).toArray) (.agg zID.toArray)).run Tryz.prog w = .ok false w) := hid (fun w => by rw [show zID = (List.replicate 16 (0 : Int)).map (Value.int .u8) from rfl, run_eq_id' w f _ hf (by simp)]; congr 1; simpa using h0)
 have hbi := hid builtID0
 have hiR : (Tryz.prog.info? 23).map (·.size) = some R.length := by rw [hR]; exact aggKey32.2
 obtain ⟨RV, HRV⟩ := hidE (Value.slice ao rs.length cap)
 rw [← HRV.out] at hbb hwr ⊢
 obtain ⟨BS, HBS⟩ := hidE (bodyC (f.map (Value.int .u8)) RV)
 rw [← HBS.out] at hbb hwr
 obtain ⟨F, HF⟩ := hidE (f.map (Value.int .u8))
 rw [← HF.out] at hfz hbb hFl hwr ⊢
 obtain ⟨ZI, HZI⟩ := hidE zID
 rw [← HZI.out] at hfz hbi hwr
 have hHC := fun g ms => hid (show ∃ C, Hid (C = houR R g (.slice none 0 0) ms) from ⟨_, rfl⟩)
 obtain ⟨B, hsz⟩ := szE w
 rw [hsz] at hwr ⊢
 obtain ⟨Q, HQ⟩ : ∃ Q : Ending → World → Prop, Hid (Q = fun e w' => (∃ h g mm mk mv ms, e = .returned (.tuple #[.pointer (some ⟨h, 0, none⟩), .int .i64 0]) ∧ RNew B h g mm mk mv ∧ RFound w' B h g mm mk mv ms R t f rs) ∧ Below B w w') := ⟨_, rfl⟩
 rw [← HQ.out]
 have HPQ : Hid (∀ w' h g mm mk mv ms, RNew B h g mm mk mv → RFound w' B h g mm mk mv ms R t f rs → Below B w w' → Q (.returned (.tuple #[.pointer (some ⟨h, 0, none⟩), .int .i64 0])) w') := hid (by rw [HQ.out]; exact fun w' h g mm mk mv ms h1 h2 h3 => ⟨⟨h, g, mm, mk, mv, ms, rfl, h1, h2⟩, h3⟩)
 clear hr hs hn hE ht
 go_enter Tryz.func5, Tryz.ntmps5
 go_wp2_with (first
  | (refine wl_eqK 14 rfl (by kernel_rfl) 25 _ _ _ rfl F.toArray ZI.toArray rfl rfl false (hfz.out _) (by kernel_rfl) ?_)
  | (refine wl_build0G (by kernel_rfl) 25 rfl ZI hbi.out ?_)
  | (refine wl_loadG (by kernel_rfl) 25 _ rfl ⟨B + 1, 0, none⟩ rfl 16 F hFl aggIDT hE2.at0 ?_)
  | (refine wl_boxV rfl 25 _ rfl F rfl (B + 1) (by omega) ?_; intro w2 hE2 hb2 hs2; have hR2 := hR1.below hb2 (by omega); have bb2 : Below B w w2 := bb1.trans (hb2.mono (by omega)))
  | (refine wl_boxV rfl 23 _ rfl R rfl B hsz ?_; intro w1 hR1 bb1 hs1))
 have hN2 : NF w B R F w2 := ⟨hR2, hE2, bb2⟩
 clear hR1 hE2 hR2 bb1 bb2 hb2 hs1 hs2
 have hSS : ∀ w', NF w B R F w' → (fun w' => w'.rangeAt B 0 R) w' := fun w' k => at_range k.key.at0
 refine wp_region_held_drew (S := fun w' => w'.rangeAt B 0 R) (by kernel_rfl) (hSS _ hN2.drew) (fun hHeld => ?_)
 obtain ⟨x, HX0⟩ := hidE w2.drew
 rw [← HX0.out] at hHeld ⊢
 have hN : NF w B R F x := by rw [HX0.out]; exact hN2.drew
 clear hN2
 repeat' (first
  | ((with_reducible refine isEff ?_); first
   | (obtain ⟨h, HH⟩ := hidE x.heap.size; have hHe : x.heap.size = h := HH.out.symm; have hHB : B + 2 ≤ h := (by rw [HH.out]; exact hN.sz); refine step_boxV rfl 48 _ rfl HC rfl h HH.out.symm ?_; intro x hH hb hs; have hg1 := hS.blk.lt; have hg2 := hS.mem.lt; have hg3 := hS.keys.lt; have hg4 := (Array.getElem?_eq_some_iff.1 hS.vot).1; rw [hHe] at hg1 hg2 hg3 hg4; have hN := hN.step hb hHB; have hS := hS.below hb (Nat.le_of_eq hHe); clear hb hs; refine hK'.out _ _ (hSS _ hN) (fun hHeld => ?_); clear hK' K'; (try simp only [Act.put, fpA, fpZ, fpN]))
   | (obtain ⟨ms, Hms⟩ := hidE x.heap.size; have hme : x.heap.size ≤ ms := Nat.le_of_eq Hms.out.symm; have hMB : B + 2 ≤ ms := (by rw [Hms.out]; exact hN.sz); refine step_makeMap rfl _ rfl ms Hms.out.symm ?_; intro x hM hb hs; have hN := hN.step hb hMB; (try have hS := hS.below hb hme); clear hM hb hs; refine hK'.out _ _ (hSS _ hN) (fun hHeld => ?_); clear hK' K'; (try simp only [Act.put, fpA, fpZ, fpN]))
   | (rw [if_pos (by rfl)]; go_simp; go_at_call 10; refine (RefNewState_ok x).mono ?_; rintro e x ⟨g, mm, mk, mv, rfl, hS, hlo, hdd, hb⟩; have hlo := (⟨Nat.le_trans hN.sz hlo.1, Nat.le_trans hN.sz hlo.2.1, Nat.le_trans hN.sz hlo.2.2.1, Nat.le_trans hN.sz hlo.2.2.2⟩ : B + 2 ≤ g ∧ B + 2 ≤ mm ∧ B + 2 ≤ mk ∧ B + 2 ≤ mv); have hN := hN.step hb hN.sz; clear hb; refine hK'.out _ _ (hSS _ hN) (fun hHeld => ?_); clear hK' K'; (try simp only [Act.put, fpA, fpZ, fpN])))
  | ((with_reducible refine isAny ?_); first
   | refine tk 0 rfl (yieldsIf_load_mid (by rfl) 23 _ rfl B 0 rfl R _ (fun w hS => hS) Tryz.underlying23 rfl hiR) ?_ (by decide +kernel)
   | (obtain ⟨HC, HHC⟩ := (hHC g ms).out; have hbC := (hbh g ms).out; rw [← HHC.out] at hbC; refine tk 3 rfl (yieldsIf_build (by rfl) 48 _ rfl [(0, .agg R.toArray), (1, .pointer (some ⟨g, 0, none⟩)), (3, .map (some ms))] rfl HC hbC) ?_ (by decide +kernel))
   | refine tq 5 rfl ?_ (by decide +kernel)
   | refine wpAnyH_ready (rs := [1, 2]) (by decide +kernel) (by simp) (cons_l rfl (fun K' hK' => ?_) (cons_l rfl (fun K' hK' => ?_) AllReadyH.nil))
   | refine wpAnyH_ready (rs := [2]) (by decide +kernel) (by simp) (cons_l rfl (fun K' hK' => ?_) AllReadyH.nil)
   | refine wpAnyH_ready (rs := [4]) (by decide +kernel) (by simp) (cons_l rfl (fun K' hK' => ?_) AllReadyH.nil)
   | refine wpAnyH_ready (rs := [1]) (by decide +kernel) (by simp) (cons_l rfl (fun K' hK' => ?_) AllReadyH.nil)))
 all_goals (
  refine wpAnyH_done (by kernel_rfl) ?_ _
  clear hHeld hSS
  have hRt := hN.fid
  have bbx := hN.bel
  rw [HHC.out] at hH
  have hhd : h ≠ g ∧ h ≠ mm ∧ h ≠ mk ∧ h ≠ mv := ⟨by omega, by omega, by omega, by omega⟩
  have hwr2 := fun w' hb => hwr h g mm mk mv ms w' hb
  go_wp2_with (first
   | (go_at_call 11; refine (hwr2 x bbx hS hH hdd hhd).out.mono ?_; rintro e x4 ⟨rfl, hF4, ho4⟩)
   | (refine wl_buildL rfl 42 _ rfl [(1, .agg F.toArray), (2, RV)] rfl BS hbb.out ?_)
   | (refine wl_build0G (by kernel_rfl) 25 rfl ZI hbi.out ?_)
   | (refine wl_loadG (by kernel_rfl) 25 _ rfl ⟨B + 1, 0, none⟩ rfl 16 F hFl aggIDT hRt.at0 ?_))
  (try simp only [Exit.inBlock, Exit.then])
  have hB3 : B ≤ x.heap.size := by have := bbx.size; omega
  exact HPQ.out _ _ _ _ _ _ _ ⟨⟨by omega, by omega, by omega, by omega, by omega⟩, hdd, hhd⟩ (hF4.low hB3) (bbx.trans ((ho4.mono hB3 (fun k hk => Or.inl hk)).below (fun k hk => by simp only [List.mem_cons, List.not_mem_nil, or_false] at hk; omega)))
  )
theorem RefNew_any (R : List Value) (hR : R.length = 32) (t : Int) (f : List Int) (hf : f.length = 16) (of : Octs f) (ao : Option Addr) (cap : Nat) (rs : List ByteArray) (w : World) (hr : RowS w ao rs) (hs : ∀ i, i < rs.length → (roleAt rs i).size ≤ maxLen) (hn : rs.length ≤ 9223372036854775807) :
  Calls Tryz.prog 5 #[.agg R.toArray, .agg (f.map (Value.int .u8)).toArray, .slice ao rs.length cap, .int .i64 t] w (RNewPost R f rs t w) := by
 by_cases h0 : f = List.replicate 16 0
 ·have hz : f.map (Value.int .u8) = zID := by rw [h0]; rfl
  rw [hz]
  refine (RefNew_zero R hR t _ w).mono ?_
  rintro e w' ⟨rfl, hb⟩
  have e : foundE f rs t = 2 := by unfold foundE; rw [if_pos h0]
  exact ⟨hb, Or.inl ⟨by rw [e]; decide, by rw [e]⟩⟩
 by_cases hE : bodyE rs = 0
 ·have e2 : foundE f rs t = timeE t := by unfold foundE timeE; rw [if_neg h0, if_neg (by simp [hE])]
  by_cases ht : timeE t = 0
  ·refine (RefNew_ok R hR t f hf of h0 ao cap rs w hr hs hn hE ht).mono ?_
   rintro e w' ⟨⟨h, g, mm, mk, mv, ms, rfl, h1, h2⟩, hb⟩
   exact ⟨hb, Or.inr ⟨by rw [e2]; exact ht, h, g, mm, mk, mv, ms, rfl, h1, h2⟩⟩
  ·refine (RefNew_err R hR t f hf h0 ao cap rs (timeE t) ht w (fun g mm mk mv w' hb hS => (RefNext_late g mm mk mv t f hf of h0 ao cap rs w' hS.blk (hr.below hb) hs hn hE ht).mono ?_)).mono ?_
   ·rintro e w'' ⟨hb', h | h | h⟩
    ·exact absurd hE h.1
    ·exact ⟨h.2.2, hb'⟩
    ·exact absurd h.2.1 ht
   ·rintro e w' ⟨rfl, hb⟩
    exact ⟨hb, Or.inl ⟨by rw [e2]; exact ht, by rw [e2]⟩⟩
 ·have e2 : foundE f rs t = bodyE rs := by unfold foundE; rw [if_neg h0, if_pos hE]
  refine (RefNew_err R hR t f hf h0 ao cap rs (bodyE rs) hE w (fun g mm mk mv w' hb hS => (RefNext_bad g mm mk mv t f hf of h0 ao cap rs w' hS.blk (hr.below hb) hs hn hE).mono ?_)).mono ?_
  ·rintro e w'' ⟨hb', h | h | h⟩
   ·exact ⟨h.2, hb'⟩
   ·exact absurd h.1 hE
   ·exact absurd h.1 hE
  ·rintro e w' ⟨rfl, hb⟩
   exact ⟨hb, Or.inl ⟨by rw [e2]; exact hE, by rw [e2]⟩⟩
end Go.Proofs.YtdhipjoplkpgmaaGreatDoor.hf
