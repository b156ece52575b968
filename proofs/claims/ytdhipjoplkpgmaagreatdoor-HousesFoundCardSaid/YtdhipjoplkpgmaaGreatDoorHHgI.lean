/-
  HousesFound, the reference: the state's cells, NewState, Next, Judge. Conditions: the entry lies in memory; the founder is not zero. HousesFound, the reference: ask, AskSum, slices.Contains over the keyless acts, refusedMember. Conditions: the entry lies in memory; the founder is not zero. HousesFound, the reference: State.refused at the first entry and the first state. Conditions: the entry lies in memory; the founder is not zero.
-/
import Derived.Test.YtdhipjoplkpgmaaGreatDoorHHld
import Derived.Test.YtdhipjoplkpgmaaGreatDoorHHgG
set_option maxRecDepth 100000
set_option linter.unusedSimpArgs false
set_option linter.unusedVariables false
set_option maxHeartbeats 16000000
namespace Go.Proofs.YtdhipjoplkpgmaaGreatDoor.hf
open Go.RowKit st hs wr shr sh lk
def rsC (cnt tm : Int) (lv gv : List Value) (mm mk mv : Nat) : List Value := .int .i64 cnt :: .int .i64 tm :: (lv ++ (gv ++ [.pointer none, .map (some mm), .map (some mk), .map (some mv)]))
section
variable {cnt tm : Int} {lv gv : List Value} {mm mk mv : Nat} {w : World} {g : Nat}
theorem rsC_len (hl : lv.length = 32) (hg : gv.length = 16) : (rsC cnt tm lv gv mm mk mv).length = 54 := by simp [rsC, hl, hg]
theorem rsC_end (hl : lv.length = 32) (hg : gv.length = 16) (j : Nat) : (rsC cnt tm lv gv mm mk mv)[50 + j]? = ([.pointer none, .map (some mm), .map (some mk), .map (some mv)] : List Value)[j]? := by
 unfold rsC
 rw [show 50 + j = (lv.length + (gv.length + j)) + 1 + 1 by omega, List.getElem?_cons_succ, List.getElem?_cons_succ, List.getElem?_append_right (by omega), Nat.add_sub_cancel_left, List.getElem?_append_right (by omega), Nat.add_sub_cancel_left]
theorem rs_cells (hl : lv.length = 32) (hg : gv.length = 16) (hB : BlkV 92 w g (rsC cnt tm lv gv mm mk mv)) : w.cell? ⟨g, 0, none⟩ = some (.int .i64 cnt) ∧ w.cell? ⟨g, 1, none⟩ = some (.int .i64 tm) ∧ w.cell? ⟨g, 50, none⟩ = some (.pointer none) ∧
  w.cell? ⟨g, 51, none⟩ = some (.map (some mm)) ∧ w.cell? ⟨g, 52, none⟩ = some (.map (some mk)) ∧ w.cell? ⟨g, 53, none⟩ = some (.map (some mv)) :=
 ⟨hB.cell 0, hB.cell 1, (hB.cell 50).trans (rsC_end hl hg 0), (hB.cell 51).trans (rsC_end hl hg 1), (hB.cell 52).trans (rsC_end hl hg 2), (hB.cell 53).trans (rsC_end hl hg 3)⟩
theorem rs_last (hB : BlkV 92 w g (rsC cnt tm lv gv mm mk mv)) : At w ⟨g, 2, none⟩ lv := hB.at 2 lv fun j u hu => by
 have hj := (List.getElem?_eq_some_iff.1 hu).1
 unfold rsC
 rw [Nat.add_comm 2 j, List.getElem?_cons_succ, List.getElem?_cons_succ, List.getElem?_append_left hj]; exact hu
end
structure RsOk (w : World) (g mm mk mv : Nat) : Prop where
 blk : BlkV 92 w g (rsC 0 0 zSum zID mm mk mv)
 mem : MapD w mm (fun _ => none)
 keys : MapD w mk (fun _ => none)
 vot : w.heap[mv]? = some (.map #[] 0)
theorem RsOk.below {w w' : World} {g mm mk mv B : Nat} (h : RsOk w g mm mk mv) (hb : Below B w w') (h1 : w.heap.size ≤ B) : RsOk w' g mm mk mv :=
 ⟨h.blk.below hb (Nat.lt_of_lt_of_le h.blk.lt h1), h.mem.below hb (Nat.lt_of_lt_of_le h.mem.lt h1), h.keys.below hb (Nat.lt_of_lt_of_le h.keys.lt h1), (hb.block _ (Nat.lt_of_lt_of_le (Array.getElem?_eq_some_iff.1 h.vot).1 h1)).trans h.vot⟩
theorem builtRState (mm mk mv : Nat) : Tryz.prog.built 92 [(5, .map (some mm)), (6, .map (some mk)), (7, .map (some mv))] = some (rsC 0 0 zSum zID mm mk mv).toArray := by kernel_rfl
theorem RefNewState_ok (w : World) : Calls Tryz.prog 10 #[] w fun e w' => ∃ g mm mk mv, e = .returned (.pointer (some ⟨g, 0, none⟩)) ∧ RsOk w' g mm mk mv ∧ (w.heap.size ≤ g ∧ w.heap.size ≤ mm ∧ w.heap.size ≤ mk ∧ w.heap.size ≤ mv) ∧ (g ≠ mm ∧ g ≠ mk ∧ g ≠ mv ∧ mm ≠ mk ∧ mm ≠ mv ∧ mk ≠ mv) ∧ Below w.heap.size w w' := by
 obtain ⟨B, hsz⟩ := szE w
 rw [hsz]
 have hb := hid (builtRState B (B + 1) (B + 2))
 obtain ⟨NS, HNS⟩ := hidE (rsC 0 0 zSum zID B (B + 1) (B + 2))
 rw [← HNS.out] at hb
 go_enter Tryz.func10, Tryz.ntmps10
 go_wp2_with (first
  | (refine wl_boxV rfl 92 _ rfl NS rfl (B + 3) (by omega) ?_; intro w4 hS4 hb4 hs4)
  | (refine wl_buildL rfl 92 _ rfl [(5, .map (some B)), (6, .map (some (B + 1))), (7, .map (some (B + 2)))] rfl NS hb.out ?_)
  | (refine wl_makeMap rfl _ rfl (B + 2) (by omega) ?_; intro w3 hV3 hb3 hs3)
  | (refine wl_makeMap rfl _ rfl (B + 1) (by omega) ?_; intro w2 hK2 hb2 hs2)
  | (refine wl_makeMap rfl _ rfl B hsz ?_; intro w1 hM1 hb1 hs1))
 go_ret
 have hM4 : w4.heap[B]? = some (.map #[] 0) := ((hb4.block B (by omega)).trans ((hb3.block B (by omega)).trans (hb2.block B (by omega)))).trans hM1
 have hK4 : w4.heap[B + 1]? = some (.map #[] 0) := ((hb4.block _ (by omega)).trans (hb3.block _ (by omega))).trans hK2
 have hV4 : w4.heap[B + 2]? = some (.map #[] 0) := (hb4.block _ (by omega)).trans hV3
 refine ⟨B + 3, B, B + 1, B + 2, rfl, ⟨?_, MapD.new hM4, MapD.new hK4, hV4⟩, ⟨by omega, by omega, by omega, by omega⟩, ⟨by omega, by omega, by omega, by omega, by omega, by omega⟩, ?_⟩
 ·rw [HNS.out] at hS4; exact hS4
 ·exact hb1.trans ((hb2.mono (by omega)).trans ((hb3.mono (by omega)).trans (hb4.mono (by omega))))
theorem RefNext_bad (g : Nat) (mm mk mv : Nat) (t : Int) (f : List Int) (hf : f.length = 16) (of : Octs f) (h0 : f ≠ List.replicate 16 0) (ao : Option Addr) (cap : Nat) (rs : List ByteArray) (w : World) (hS : BlkV 92 w g (rsC 0 0 zSum zID mm mk mv)) (hr : RowS w ao rs) (hs : ∀ i, i < rs.length → (roleAt rs i).size ≤ maxLen) (hn : rs.length ≤ 9223372036854775807) (hE : bodyE rs ≠ 0) :
  Calls Tryz.prog 37 #[.pointer (some ⟨g, 0, none⟩), .int .i64 t, .int .i64 2, .agg (f.map (Value.int .u8)).toArray, .agg zID.toArray, .agg (bodyC (f.map (Value.int .u8)) (.slice ao rs.length cap)).toArray] w (NextPost t f rs w) := by
 have hFl : (f.map (Value.int .u8)).length = 16 := by rw [List.length_map, hf]
 have HP : Hid (∀ w', Below w.heap.size w w' → NextPost t f rs w (.returned (.tuple #[.agg entZ.toArray, .int .i64 (bodyE rs)])) w') := hid (fun w' hb => ⟨hb, Or.inl ⟨hE, rfl⟩⟩)
 have hpb := fun (w' : World) (hb : Below w.heap.size w w') => hid (RefPrintBody_bad f hf h0 ao cap rs w' (hr.below hb) hs hn hE)
 have hOB := hid (fun (h : bodyE rs = 0) => bodyB_octs of h)
 have hBl := hid (bodyC_len (ro := .slice ao rs.length cap) hFl)
 have HEl := fun bo => hid (entC_len (t := t) (bo := bo) hFl)
 have HE1 := fun bo h => hid (entC_one (t := t) (bo := bo) (ints_one .u8 f) h)
 have HbE := fun ao n c => hid (builtEntry hFl t ao n c)
 obtain ⟨Q, HQ⟩ := hidE (NextPost t f rs w)
 rw [← HQ.out] at HP ⊢
 obtain ⟨BS, HBS⟩ := hidE (bodyC (f.map (Value.int .u8)) (.slice ao rs.length cap))
 rw [← HBS.out] at hpb hBl ⊢
 obtain ⟨F, HF⟩ := hidE (f.map (Value.int .u8))
 have hF1 : ∀ u ∈ F, u.oneCell' = true := by rw [HF.out]; exact ints_one _ _
 rw [← HF.out] at hFl HEl HE1 HbE ⊢
 obtain ⟨ZI, HZI⟩ := hidE zID
 obtain ⟨ZS, HZS⟩ := hidE zSum
 have hZIl : ZI.length = 16 := by rw [HZI.out]; rfl
 have hZSl : ZS.length = 32 := by rw [HZS.out]; rfl
 have hcnt := fun (w' : World) (h : BlkV 92 w' g (rsC 0 0 zSum zID mm mk mv)) => hid (⟨(rs_cells rfl rfl h).1, rs_last h⟩ : w'.cell? ⟨g, 0, none⟩ = some (.int .i64 0) ∧ At w' ⟨g, 2, none⟩ zSum)
 rw [← HZS.out] at hcnt HbE
 rw [← HZI.out] at hcnt HbE hS ⊢
 rw [← HZS.out] at hS
 have hz := hid zeroEntry
 have hbz := hid builtEntry0
 have HZ0 := hid entZ_len
 have HZ1 : Hid (∀ u ∈ entZ, u.oneCell' = true) := hid (by decide)
 obtain ⟨Z, HZ⟩ := hidE entZ
 rw [← HZ.out] at hz hbz HZ0 HZ1
 rw [← HZ.out] at HP
 obtain ⟨B, hsz⟩ := szE w
 have hgB : g < B := by rw [← hsz]; exact hS.lt
 rw [hsz] at HP hpb
 have hSb := fun (w' : World) (hb : Below B w w') => hid (hS.below hb hgB)
 clear hr hs
 go_enter Tryz.func37, Tryz.ntmps37
 go_wp2_with (first
  | (refine wl_storeV rfl 83 _ _ rfl 83 (B + 3) rfl Z rfl 68 aggEntry HZ0.out Z hT5 HZ0.out HZ1.out ?_; intro w6 hT6 hb6 hs6; have bb6 : Below B w w6 := bb5.trans (hb6.mono (by omega)))
  | (refine wl_build0G (by rfl) 83 rfl Z hbz.out ?_)
  | (go_at_call 88; refine (hpb w4 bb4).out.mono ?_; rintro e w5 ⟨hb5, ⟨hE5, rfl⟩ | ⟨hE5, _⟩⟩; rotate_left; exact absurd hE5 hE; have bb5 : Below B w w5 := bb4.trans (hb5.mono (by omega)); have hT5 := hT4.below hb5 (by omega); have hE2 : (bodyE rs == 0) = false := (by simpa using hE))
  | (refine wl_loadG (by rfl) 42 _ rfl ⟨B + 2, 0, none⟩ rfl 58 BS hBl.out aggBody hY4.at0 ?_)
  | (refine wl_allocV rfl 83 rfl Z hz.out (B + 3) (by omega) ?_; intro w4 hT4 hb4 hs4; have hA4 := hA3.below hb4 (by omega); have hK4 := hK3.below hb4 (by omega); have hY4 := hY3.below hb4 (by omega); have bb4 : Below B w w4 := bb3.trans (hb4.mono (by omega)))
  | (refine wl_boxV rfl 42 _ rfl BS rfl (B + 2) (by omega) ?_; intro w3 hY3 hb3 hs3; have hA3 := hA2.below hb3 (by omega); have hK3 := hK2.below hb3 (by omega); have bb3 : Below B w w3 := bb2.trans (hb3.mono (by omega)))
  | (refine wl_boxV rfl 25 _ rfl ZI rfl (B + 1) (by omega) ?_; intro w2 hK2 hb2 hs2; have hA2 := hA1.below hb2 (by omega); have bb2 : Below B w w2 := bb1.trans (hb2.mono (by omega)))
  | (refine wl_boxV rfl 25 _ rfl F rfl B hsz ?_; intro w1 hA1 bb1 hs1))
 (try simp only [Exit.inBlock, Exit.then]); refine bodyPost_ret (results_cell2 rfl _ _ _ _ rfl Z (by rw [HZ0.out]; exact aggEntry) hT6.at0) rfl ?_
 exact HP.out _ bb6
theorem RefNext_late (g : Nat) (mm mk mv : Nat) (t : Int) (f : List Int) (hf : f.length = 16) (of : Octs f) (h0 : f ≠ List.replicate 16 0) (ao : Option Addr) (cap : Nat) (rs : List ByteArray) (w : World) (hS : BlkV 92 w g (rsC 0 0 zSum zID mm mk mv)) (hr : RowS w ao rs) (hs : ∀ i, i < rs.length → (roleAt rs i).size ≤ maxLen) (hn : rs.length ≤ 9223372036854775807) (hE : bodyE rs = 0) (ht : timeE t ≠ 0) :
  Calls Tryz.prog 37 #[.pointer (some ⟨g, 0, none⟩), .int .i64 t, .int .i64 2, .agg (f.map (Value.int .u8)).toArray, .agg zID.toArray, .agg (bodyC (f.map (Value.int .u8)) (.slice ao rs.length cap)).toArray] w (NextPost t f rs w) := by
 have hFl : (f.map (Value.int .u8)).length = 16 := by rw [List.length_map, hf]
 have HP : Hid (∀ w', Below w.heap.size w w' → NextPost t f rs w (.returned (.tuple #[.agg entZ.toArray, .int .i64 (timeE t)])) w') := hid (fun w' hb => ⟨hb, Or.inr (Or.inl ⟨hE, ht, rfl⟩)⟩)
 have hpb := fun (w' : World) (hb : Below w.heap.size w w') => hid (RefPrintBody_ok f hf of h0 ao cap rs w' (hr.below hb) hE)
 have hef := fun (bo : Value) (w' : World) => hid (RefEntryError_bad t f bo w' hf ht)
 have hte : (timeE t == 0) = false := by simpa using ht
 have hOB := hid (fun (h : bodyE rs = 0) => bodyB_octs of h)
 have hBl := hid (bodyC_len (ro := .slice ao rs.length cap) hFl)
 have HEl := fun bo => hid (entC_len (t := t) (bo := bo) hFl)
 have HE1 := fun bo h => hid (entC_one (t := t) (bo := bo) (ints_one .u8 f) h)
 have HbE := fun ao n c => hid (builtEntry hFl t ao n c)
 obtain ⟨Q, HQ⟩ := hidE (NextPost t f rs w)
 rw [← HQ.out] at HP ⊢
 obtain ⟨BS, HBS⟩ := hidE (bodyC (f.map (Value.int .u8)) (.slice ao rs.length cap))
 rw [← HBS.out] at hpb hBl ⊢
 obtain ⟨F, HF⟩ := hidE (f.map (Value.int .u8))
 have hF1 : ∀ u ∈ F, u.oneCell' = true := by rw [HF.out]; exact ints_one _ _
 rw [← HF.out] at hFl HEl HE1 HbE ⊢
 rw [← HF.out] at hef
 obtain ⟨ZI, HZI⟩ := hidE zID
 obtain ⟨ZS, HZS⟩ := hidE zSum
 have hZIl : ZI.length = 16 := by rw [HZI.out]; rfl
 have hZSl : ZS.length = 32 := by rw [HZS.out]; rfl
 have hcnt := fun (w' : World) (h : BlkV 92 w' g (rsC 0 0 zSum zID mm mk mv)) => hid (⟨(rs_cells rfl rfl h).1, rs_last h⟩ : w'.cell? ⟨g, 0, none⟩ = some (.int .i64 0) ∧ At w' ⟨g, 2, none⟩ zSum)
 rw [← HZS.out] at hcnt HbE
 rw [← HZI.out] at hcnt HbE hS ⊢
 rw [← HZS.out] at hS
 have hz := hid zeroEntry
 have hbz := hid builtEntry0
 have HZ0 := hid entZ_len
 have HZ1 : Hid (∀ u ∈ entZ, u.oneCell' = true) := hid (by decide)
 obtain ⟨Z, HZ⟩ := hidE entZ
 rw [← HZ.out] at hz hbz HZ0 HZ1
 rw [← HZ.out] at HP
 obtain ⟨B, hsz⟩ := szE w
 have hgB : g < B := by rw [← hsz]; exact hS.lt
 rw [hsz] at HP hpb
 have hSb := fun (w' : World) (hb : Below B w w') => hid (hS.below hb hgB)
 clear hr hs
 go_enter Tryz.func37, Tryz.ntmps37
 go_wp2_with (first
  | (go_at_call 88; refine (hpb w4 bb4).out.mono ?_; rintro e w5 ⟨hb5, ⟨hE5, rfl⟩ | ⟨_, gb, cb, rfl, hO5⟩⟩; exact absurd hE hE5; have bb5 : Below B w w5 := bb4.trans (hb5.mono (by omega)); have hT5 := hT4.below hb5 (by omega); have hA5 := hA4.below hb5 (by omega); have hK5 := hK4.below hb5 (by omega); have hs5 : B + 4 ≤ w5.heap.size := (by have := hb5.size; omega))
  | (refine wl_loadG (by rfl) 42 _ rfl ⟨B + 2, 0, none⟩ rfl 58 BS hBl.out aggBody hY4.at0 ?_)
  | (refine wl_allocV rfl 83 rfl Z hz.out (B + 3) (by omega) ?_; intro w4 hT4 hb4 hs4; have hA4 := hA3.below hb4 (by omega); have hK4 := hK3.below hb4 (by omega); have hY4 := hY3.below hb4 (by omega); have bb4 : Below B w w4 := bb3.trans (hb4.mono (by omega)))
  | (refine wl_boxV rfl 42 _ rfl BS rfl (B + 2) (by omega) ?_; intro w3 hY3 hb3 hs3; have hA3 := hA2.below hb3 (by omega); have hK3 := hK2.below hb3 (by omega); have bb3 : Below B w w3 := bb2.trans (hb3.mono (by omega)))
  | (refine wl_boxV rfl 25 _ rfl ZI rfl (B + 1) (by omega) ?_; intro w2 hK2 hb2 hs2; have hA2 := hA1.below hb2 (by omega); have bb2 : Below B w w2 := bb1.trans (hb2.mono (by omega)))
  | (refine wl_boxV rfl 25 _ rfl F rfl B hsz ?_; intro w1 hA1 bb1 hs1))
 obtain ⟨_, cb', e5, hlow5, hlt5, hPt5⟩ := hO5.pt (hOB.out hE)
 injection e5 with e5a e5b e5c
 injection e5a with e5a
 injection e5a with e5a
 subst e5a; subst e5c
 obtain ⟨N, HN⟩ := hidE ((bodyB f rs).length)
 have hbE := HbE (some ⟨gb, 0, none⟩) N cb
 have hEl := (HEl (.slice (some ⟨gb, 0, none⟩) N cb)).out
 have hE1 := (HE1 (.slice (some ⟨gb, 0, none⟩) N cb) rfl).out
 have hef' := hef (.slice (some ⟨gb, 0, none⟩) N cb)
 obtain ⟨ES, HES⟩ := hidE (entC t F (.slice (some ⟨gb, 0, none⟩) N cb))
 rw [← HES.out] at hbE hEl hE1 hef'
 rw [← HN.out]
 have hiF : (Tryz.prog.info? 25).map (·.size) = some F.length := by rw [hFl]; exact aggIDT.2
 have hiZI : (Tryz.prog.info? 25).map (·.size) = some ZI.length := by rw [hZIl]; exact aggIDT.2
 have hiZS : (Tryz.prog.info? 39).map (·.size) = some ZS.length := by rw [hZSl]; exact aggSumT.2
 have hSS : ∀ w', Below (B + 4) w5 w' → (w'.cell? ⟨g, 0, none⟩ = some (.int .i64 0) ∧ w'.rangeAt B 0 F ∧ w'.rangeAt (B + 1) 0 ZI ∧ w'.rangeAt g 2 ZS) := fun w' hb => by
  have h1 := (hcnt w' (hSb w' (bb5.trans (hb.mono (by omega)))).out).out
  exact ⟨h1.1, at_range (hA5.below hb (by omega)).at0, at_range (hK5.below hb (by omega)).at0, at_range h1.2⟩
 refine wp_region_held_drew (S := (fun w' => w'.cell? ⟨g, 0, none⟩ = some (.int .i64 0) ∧ w'.rangeAt B 0 F ∧ w'.rangeAt (B + 1) 0 ZI ∧ w'.rangeAt g 2 ZS)) (by kernel_rfl) (hSS _ (bdN (Below.refl _ _) 1)) (fun hHeld => ?_)
 obtain ⟨x0, HX0⟩ := hidE w5.drew
 rw [← HX0.out] at hHeld ⊢
 have bx0 : Below (B + 4) w5 x0 := by rw [HX0.out]; exact (Below.refl _ _).drew
 have hT0 : BlkV 83 x0 (B + 3) Z := by rw [HX0.out]; exact hT5
 have hPt0 : Pt.Ok x0 ⟨some ⟨gb, 0, none⟩, cb, bodyB f rs⟩ := by rw [HX0.out]; exact ptDr hPt5
 have hs0 : x0.heap.size = w5.heap.size := by rw [HX0.out]; rfl
 refine tq 0 rfl ?_
 refine tq 1 rfl ?_
 refine tq 2 rfl ?_
 refine tq 3 rfl ?_
 refine tq 4 rfl ?_
 refine tq 5 rfl ?_
 refine tk 6 rfl (yieldsIf_load_mid (by rfl) 25 _ rfl B 0 rfl F _ (fun w hS => hS.2.1) Tryz.underlying25 rfl hiF) ?_
 refine tk 7 rfl (yieldsIf_load_mid (by rfl) 25 _ rfl (B + 1) 0 rfl ZI _ (fun w hS => hS.2.2.1) Tryz.underlying25 rfl hiZI) ?_
 refine tq 8 rfl ?_
 refine tq 9 rfl ?_
 refine tq 10 rfl ?_
 refine tk 11 rfl (yieldsIf_load_mid (by rfl) 39 _ rfl g 2 rfl ZS _ (fun w hS => hS.2.2.2) Tryz.underlying39 rfl hiZS) ?_
 refine tq 12 rfl ?_
 refine tk 13 rfl (yieldsIf_build (by rfl) 83 _ rfl [(0, .int .i64 0), (1, .int .i64 t), (2, .int .i64 2), (3, .agg F.toArray), (4, .agg ZI.toArray), (5, .agg ZS.toArray), (6, .slice (some ⟨gb, 0, none⟩) N cb)] rfl ES hbE.out) ?_
 refine e1 14 rfl fun K' hK' => ?_
 obtain ⟨X, HX⟩ := hidE x0.heap.size
 refine step_allocV rfl 83 rfl Z hz.out X HX.out.symm ?_
 intro x1 hX1 hb1 hsz1
 have hBX : B + 4 ≤ X := by rw [HX.out]; omega
 have hgX : gb < X := by rw [HX.out]; omega
 have bx1 : Below (B + 4) w5 x1 := bx0.trans (hb1.mono (by omega))
 have hT1 := hT0.below hb1 (by omega)
 have hPt1 := ptLow hPt0 hb1 (fun b e => by injection e with e; subst e; exact hgX)
 refine ko hK' (hSS _ bx1) fun hHeld => ?_
 clear hK' K'
 refine e1 15 rfl fun K' hK' => ?_
 refine step_storeV rfl 83 _ _ rfl 83 X rfl ES rfl 68 aggEntry hEl Z hX1 HZ0.out hE1 ?_
 intro x2 hX2 hb2 hsz2
 have bx2 : Below (B + 4) w5 x2 := bx1.trans (hb2.mono (by omega))
 have hT2 := hT1.below hb2 (by omega)
 have hPt2 := ptLow hPt1 hb2 (fun b e => by injection e with e; subst e; exact hgX)
 refine ko hK' (hSS _ bx2) fun hHeld => ?_
 clear hK' K'
 refine wpAnyH_done (by kernel_rfl) ?_ _
 clear hHeld hSS
 have bb7 : Below B w x2 := bb5.trans (bx2.mono (by omega))
 go_wp2_with (first
  | (refine wl_storeV rfl 83 _ _ rfl 83 (B + 3) rfl Z rfl 68 aggEntry HZ0.out Z hT8 HZ0.out HZ1.out ?_; intro w9 hT9 hb9 hs9; have bb9 : Below B w w9 := bb8.trans (hb9.mono (by omega)))
  | (refine wl_build0G (by rfl) 83 rfl Z hbz.out ?_)
  | (go_at_call 89; refine (hef' x2).out.mono ?_; rintro e w8 ⟨rfl, hb8⟩; have bb8 : Below B w w8 := bb7.trans (hb8.mono (by omega)); have hT8 := hT2.below hb8 (by omega))
  | (refine wl_loadG (by rfl) 83 _ rfl ⟨X, 0, none⟩ rfl 68 ES hEl aggEntry hX2.at0 ?_))
 (try simp only [Exit.inBlock, Exit.then]); refine bodyPost_ret (results_cell2 rfl _ _ _ _ rfl Z (by rw [HZ0.out]; exact aggEntry) hT9.at0) rfl ?_
 exact HP.out _ bb9
theorem RefNext_ok (g : Nat) (mm mk mv : Nat) (t : Int) (f : List Int) (hf : f.length = 16) (of : Octs f) (h0 : f ≠ List.replicate 16 0) (ao : Option Addr) (cap : Nat) (rs : List ByteArray) (w : World) (hS : BlkV 92 w g (rsC 0 0 zSum zID mm mk mv)) (hr : RowS w ao rs) (hs : ∀ i, i < rs.length → (roleAt rs i).size ≤ maxLen) (hn : rs.length ≤ 9223372036854775807) (hE : bodyE rs = 0) (ht : timeE t = 0) :
  Calls Tryz.prog 37 #[.pointer (some ⟨g, 0, none⟩), .int .i64 t, .int .i64 2, .agg (f.map (Value.int .u8)).toArray, .agg zID.toArray, .agg (bodyC (f.map (Value.int .u8)) (.slice ao rs.length cap)).toArray] w (NextPost t f rs w) := by
 have hFl : (f.map (Value.int .u8)).length = 16 := by rw [List.length_map, hf]
 have HP : Hid (∀ gb c w', Below w.heap.size w w' → w.heap.size ≤ gb → gb < w'.heap.size → Pt.Ok w' ⟨some ⟨gb, 0, none⟩, c, bodyB f rs⟩ → NextPost t f rs w (.returned (.tuple #[.agg (entC t (f.map (Value.int .u8)) (.slice (some ⟨gb, 0, none⟩) (bodyB f rs).length c)).toArray, .int .i64 0])) w') := hid (fun gb c w' h1 h2 h3 h4 => ⟨h1, Or.inr (Or.inr ⟨hE, ht, gb, c, rfl, h2, h3, h4⟩)⟩)
 have hpb := fun (w' : World) (hb : Below w.heap.size w w') => hid (RefPrintBody_ok f hf of h0 ao cap rs w' (hr.below hb) hE)
 have hef := fun (gb c : Nat) (w' : World) (h : Pt.Ok w' ⟨some ⟨gb, 0, none⟩, c, bodyB f rs⟩) => hid (RefEntryError_ok t f rs (some ⟨gb, 0, none⟩) (bodyB f rs).length c w' ⟨hf, of, ht, hE, rfl, h, fun e => by cases e⟩ h0)
 have hOB := hid (fun (h : bodyE rs = 0) => bodyB_octs of h)
 have hBl := hid (bodyC_len (ro := .slice ao rs.length cap) hFl)
 have HEl := fun bo => hid (entC_len (t := t) (bo := bo) hFl)
 have HE1 := fun bo h => hid (entC_one (t := t) (bo := bo) (ints_one .u8 f) h)
 have HbE := fun ao n c => hid (builtEntry hFl t ao n c)
 obtain ⟨Q, HQ⟩ := hidE (NextPost t f rs w)
 rw [← HQ.out] at HP ⊢
 obtain ⟨BS, HBS⟩ := hidE (bodyC (f.map (Value.int .u8)) (.slice ao rs.length cap))
 rw [← HBS.out] at hpb hBl ⊢
 obtain ⟨F, HF⟩ := hidE (f.map (Value.int .u8))
 have hF1 : ∀ u ∈ F, u.oneCell' = true := by rw [HF.out]; exact ints_one _ _
 rw [← HF.out] at hFl HEl HE1 HbE ⊢
 rw [← HF.out] at hef HP
 obtain ⟨ZI, HZI⟩ := hidE zID
 obtain ⟨ZS, HZS⟩ := hidE zSum
 have hZIl : ZI.length = 16 := by rw [HZI.out]; rfl
 have hZSl : ZS.length = 32 := by rw [HZS.out]; rfl
 have hcnt := fun (w' : World) (h : BlkV 92 w' g (rsC 0 0 zSum zID mm mk mv)) => hid (⟨(rs_cells rfl rfl h).1, rs_last h⟩ : w'.cell? ⟨g, 0, none⟩ = some (.int .i64 0) ∧ At w' ⟨g, 2, none⟩ zSum)
 rw [← HZS.out] at hcnt HbE
 rw [← HZI.out] at hcnt HbE hS ⊢
 rw [← HZS.out] at hS
 have hz := hid zeroEntry
 have hbz := hid builtEntry0
 have HZ0 := hid entZ_len
 have HZ1 : Hid (∀ u ∈ entZ, u.oneCell' = true) := hid (by decide)
 obtain ⟨Z, HZ⟩ := hidE entZ
 rw [← HZ.out] at hz hbz HZ0 HZ1
 obtain ⟨B, hsz⟩ := szE w
 have hgB : g < B := by rw [← hsz]; exact hS.lt
 rw [hsz] at HP hpb
 have hSb := fun (w' : World) (hb : Below B w w') => hid (hS.below hb hgB)
 clear hr hs
 go_enter Tryz.func37, Tryz.ntmps37
 go_wp2_with (first
  | (go_at_call 88; refine (hpb w4 bb4).out.mono ?_; rintro e w5 ⟨hb5, ⟨hE5, rfl⟩ | ⟨_, gb, cb, rfl, hO5⟩⟩; exact absurd hE hE5; have bb5 : Below B w w5 := bb4.trans (hb5.mono (by omega)); have hT5 := hT4.below hb5 (by omega); have hA5 := hA4.below hb5 (by omega); have hK5 := hK4.below hb5 (by omega); have hs5 : B + 4 ≤ w5.heap.size := (by have := hb5.size; omega))
  | (refine wl_loadG (by rfl) 42 _ rfl ⟨B + 2, 0, none⟩ rfl 58 BS hBl.out aggBody hY4.at0 ?_)
  | (refine wl_allocV rfl 83 rfl Z hz.out (B + 3) (by omega) ?_; intro w4 hT4 hb4 hs4; have hA4 := hA3.below hb4 (by omega); have hK4 := hK3.below hb4 (by omega); have hY4 := hY3.below hb4 (by omega); have bb4 : Below B w w4 := bb3.trans (hb4.mono (by omega)))
  | (refine wl_boxV rfl 42 _ rfl BS rfl (B + 2) (by omega) ?_; intro w3 hY3 hb3 hs3; have hA3 := hA2.below hb3 (by omega); have hK3 := hK2.below hb3 (by omega); have bb3 : Below B w w3 := bb2.trans (hb3.mono (by omega)))
  | (refine wl_boxV rfl 25 _ rfl ZI rfl (B + 1) (by omega) ?_; intro w2 hK2 hb2 hs2; have hA2 := hA1.below hb2 (by omega); have bb2 : Below B w w2 := bb1.trans (hb2.mono (by omega)))
  | (refine wl_boxV rfl 25 _ rfl F rfl B hsz ?_; intro w1 hA1 bb1 hs1))
 obtain ⟨_, cb', e5, hlow5, hlt5, hPt5⟩ := hO5.pt (hOB.out hE)
 injection e5 with e5a e5b e5c
 injection e5a with e5a
 injection e5a with e5a
 subst e5a; subst e5c
 obtain ⟨N, HN⟩ := hidE ((bodyB f rs).length)
 have hbE := HbE (some ⟨gb, 0, none⟩) N cb
 have hEl := (HEl (.slice (some ⟨gb, 0, none⟩) N cb)).out
 have hE1 := (HE1 (.slice (some ⟨gb, 0, none⟩) N cb) rfl).out
 have hef' := hef gb cb
 have HP' := HP.out gb cb
 rw [← HN.out] at hef' HP'
 obtain ⟨ES, HES⟩ := hidE (entC t F (.slice (some ⟨gb, 0, none⟩) N cb))
 rw [← HES.out] at hbE hEl hE1 hef' HP'
 rw [← HN.out]
 have hiF : (Tryz.prog.info? 25).map (·.size) = some F.length := by rw [hFl]; exact aggIDT.2
 have hiZI : (Tryz.prog.info? 25).map (·.size) = some ZI.length := by rw [hZIl]; exact aggIDT.2
 have hiZS : (Tryz.prog.info? 39).map (·.size) = some ZS.length := by rw [hZSl]; exact aggSumT.2
 have hSS : ∀ w', Below (B + 4) w5 w' → (w'.cell? ⟨g, 0, none⟩ = some (.int .i64 0) ∧ w'.rangeAt B 0 F ∧ w'.rangeAt (B + 1) 0 ZI ∧ w'.rangeAt g 2 ZS) := fun w' hb => by
  have h1 := (hcnt w' (hSb w' (bb5.trans (hb.mono (by omega)))).out).out
  exact ⟨h1.1, at_range (hA5.below hb (by omega)).at0, at_range (hK5.below hb (by omega)).at0, at_range h1.2⟩
 refine wp_region_held_drew (S := (fun w' => w'.cell? ⟨g, 0, none⟩ = some (.int .i64 0) ∧ w'.rangeAt B 0 F ∧ w'.rangeAt (B + 1) 0 ZI ∧ w'.rangeAt g 2 ZS)) (by kernel_rfl) (hSS _ (bdN (Below.refl _ _) 1)) (fun hHeld => ?_)
 obtain ⟨x0, HX0⟩ := hidE w5.drew
 rw [← HX0.out] at hHeld ⊢
 have bx0 : Below (B + 4) w5 x0 := by rw [HX0.out]; exact (Below.refl _ _).drew
 have hT0 : BlkV 83 x0 (B + 3) Z := by rw [HX0.out]; exact hT5
 have hPt0 : Pt.Ok x0 ⟨some ⟨gb, 0, none⟩, cb, bodyB f rs⟩ := by rw [HX0.out]; exact ptDr hPt5
 have hs0 : x0.heap.size = w5.heap.size := by rw [HX0.out]; rfl
 refine tq 0 rfl ?_
 refine tq 1 rfl ?_
 refine tq 2 rfl ?_
 refine tq 3 rfl ?_
 refine tq 4 rfl ?_
 refine tq 5 rfl ?_
 refine tk 6 rfl (yieldsIf_load_mid (by rfl) 25 _ rfl B 0 rfl F _ (fun w hS => hS.2.1) Tryz.underlying25 rfl hiF) ?_
 refine tk 7 rfl (yieldsIf_load_mid (by rfl) 25 _ rfl (B + 1) 0 rfl ZI _ (fun w hS => hS.2.2.1) Tryz.underlying25 rfl hiZI) ?_
 refine tq 8 rfl ?_
 refine tq 9 rfl ?_
 refine tq 10 rfl ?_
 refine tk 11 rfl (yieldsIf_load_mid (by rfl) 39 _ rfl g 2 rfl ZS _ (fun w hS => hS.2.2.2) Tryz.underlying39 rfl hiZS) ?_
 refine tq 12 rfl ?_
 refine tk 13 rfl (yieldsIf_build (by rfl) 83 _ rfl [(0, .int .i64 0), (1, .int .i64 t), (2, .int .i64 2), (3, .agg F.toArray), (4, .agg ZI.toArray), (5, .agg ZS.toArray), (6, .slice (some ⟨gb, 0, none⟩) N cb)] rfl ES hbE.out) ?_
 refine e1 14 rfl fun K' hK' => ?_
 obtain ⟨X, HX⟩ := hidE x0.heap.size
 refine step_allocV rfl 83 rfl Z hz.out X HX.out.symm ?_
 intro x1 hX1 hb1 hsz1
 have hBX : B + 4 ≤ X := by rw [HX.out]; omega
 have hgX : gb < X := by rw [HX.out]; omega
 have bx1 : Below (B + 4) w5 x1 := bx0.trans (hb1.mono (by omega))
 have hT1 := hT0.below hb1 (by omega)
 have hPt1 := ptLow hPt0 hb1 (fun b e => by injection e with e; subst e; exact hgX)
 refine ko hK' (hSS _ bx1) fun hHeld => ?_
 clear hK' K'
 refine e1 15 rfl fun K' hK' => ?_
 refine step_storeV rfl 83 _ _ rfl 83 X rfl ES rfl 68 aggEntry hEl Z hX1 HZ0.out hE1 ?_
 intro x2 hX2 hb2 hsz2
 have bx2 : Below (B + 4) w5 x2 := bx1.trans (hb2.mono (by omega))
 have hT2 := hT1.below hb2 (by omega)
 have hPt2 := ptLow hPt1 hb2 (fun b e => by injection e with e; subst e; exact hgX)
 refine ko hK' (hSS _ bx2) fun hHeld => ?_
 clear hK' K'
 refine wpAnyH_done (by kernel_rfl) ?_ _
 clear hHeld hSS
 have bb7 : Below B w x2 := bb5.trans (bx2.mono (by omega))
 go_wp2_with (first
  | (refine wl_storeK rfl 83 _ _ rfl 83 (B + 3) rfl ES rfl 68 aggEntry hEl Z hT8 HZ0.out hE1 ?_; intro w9 hT9 hb9 hg9 hs9; have bb9 : Below B w w9 := bb8.trans (hb9.mono (by omega)); have hPt9 := ptGrown hPt8 hg9 (fun b e h => by injection e with e; subst e; injection h with h; dsimp only at h; omega))
  | (refine wl_loadG (by rfl) 83 _ rfl ⟨X, 0, none⟩ rfl 68 ES hEl aggEntry hX8.at0 ?_)
  | (go_at_call 89; refine (hef' x2 hPt2).out.mono ?_; rintro e w8 ⟨rfl, hb8⟩; have bb8 : Below B w w8 := bb7.trans (hb8.mono (by omega)); have hT8 := hT2.below hb8 (by omega); have hX8 := hX2.below hb8 hX2.lt; have hPt8 := hPt2.below hb8)
  | (refine wl_loadG (by rfl) 83 _ rfl ⟨X, 0, none⟩ rfl 68 ES hEl aggEntry hX2.at0 ?_))
 (try simp only [Exit.inBlock, Exit.then]); refine bodyPost_ret (results_cell2 rfl _ _ _ _ rfl ES (by rw [hEl]; exact aggEntry) hT9.at0) rfl ?_
 exact HP' _ bb9 (by omega) (hPt9.lt _ rfl) hPt9
theorem RefJudge_ok (g mm mk mv : Nat) (t : Int) (f : List Int) (rs : List ByteArray) (ao : Option Addr) (n c : Nat) (w : World) (h : EntOk w t f rs ao n c) (h0 : f ≠ List.replicate 16 0) (hS : RsOk w g mm mk mv) :
  Calls Tryz.prog 38 #[.pointer (some ⟨g, 0, none⟩), .agg (entC t (f.map (Value.int .u8)) (.slice ao n c)).toArray] w fun e w' => e = .returned (.tuple #[.agg decF.toArray, .int .i64 0]) ∧ Below w.heap.size w w' := by
 have hFl : (f.map (Value.int .u8)).length = 16 := by rw [List.length_map, h.hf]
 have hee := fun (w' : World) (hb : Below w.heap.size w w') => hid (RefEntryError_ok t f rs ao n c w' (h.below hb) h0)
 have hSb := fun (w' : World) (hb : Below w.heap.size w w') => hid (hS.below hb (Nat.le_refl _))
 have hCl := entC_len (t := t) (bo := .slice ao n c) hFl
 obtain ⟨CS, HCS⟩ := hidE (entC t (f.map (Value.int .u8)) (.slice ao n c))
 rw [← HCS.out] at hee hCl ⊢
 have hzd := hid zeroDec
 have hbd := hid builtDec
 have hDZl : decZ.length = 4 := by rfl
 have hDFl : decF.length = 4 := by rfl
 have hDF1 : ∀ u ∈ decF, u.oneCell' = true := by decide
 obtain ⟨DZ, HDZ⟩ := hidE decZ
 obtain ⟨DF, HDF⟩ := hidE decF
 rw [← HDZ.out] at hzd hDZl
 rw [← HDF.out] at hbd hDFl hDF1 ⊢
 obtain ⟨B, hsz⟩ := szE w
 rw [hsz] at hee hSb ⊢
 clear h hS
 go_enter Tryz.func38, Tryz.ntmps38
 go_wp2_with (first
  | (refine wl_storeV rfl 94 _ _ rfl 94 X2 rfl DF rfl 4 aggDec hDFl DZ hX6 hDZl hDF1 ?_; intro w7 hX7 hb7 hs7; have hT7 := hT6.below hb7 (by omega); have bb7 : Below B w w7 := bb6.trans (hb7.mono (by omega)); obtain ⟨s0, s1, s50, s51, s52, s53⟩ := rs_cells rfl rfl (hSb w7 bb7).out.blk)
  | (obtain ⟨X2, HX2⟩ := hidE w3.heap.size; have hX12 : B + 1 < X2 := (by rw [HX2.out]; exact hT3.lt); refine wl_allocV rfl 94 rfl DZ hzd.out X2 HX2.out.symm ?_; intro w6 hX6 hb6 hs6; have hT6 := hT3.below hb6 (by omega); have bb6 : Below B w w6 := bb3.trans (hb6.mono (by omega)))
  | (refine wl_buildL rfl 94 _ rfl [(0, .bool true), (1, .int .i64 (-1))] rfl DF hbd.out ?_)
  | (go_at_call 89; refine (hee w2 bb2).out.mono ?_; rintro e w3 ⟨rfl, hb3⟩; have hT3 := hT2.below hb3 hT2.lt; have bb3 : Below B w w3 := bb2.trans (hb3.mono (by omega)))
  | (refine wl_loadG (by rfl) 83 _ rfl ⟨B, 0, none⟩ rfl 68 CS hCl aggEntry hE2.at0 ?_)
  | (refine wl_allocV rfl 94 rfl DZ hzd.out (B + 1) (by omega) ?_; intro w2 hT2 hb2 hs2; have hE2 := hE1.below hb2 (by omega); have bb2 : Below B w w2 := bb1.trans (hb2.mono (by omega)))
  | (refine wl_boxV rfl 83 _ rfl CS rfl B hsz ?_; intro w1 hE1 bb1 hs1))
 refine wp_region_held_drew (S := (fun w' => w'.cell? ⟨g, 0, none⟩ = some (.int .i64 0))) (by kernel_rfl) s0 (fun hHeld => ?_)
 obtain ⟨x0, HX0⟩ := hidE w7.drew
 rw [← HX0.out] at hHeld ⊢
 have hX8 : BlkV 94 x0 X2 DF := by rw [HX0.out]; exact hX7
 have hT8 : BlkV 94 x0 (B + 1) DZ := by rw [HX0.out]; exact hT7
 have bb8 : Below B w x0 := by rw [HX0.out]; exact bb7.drew
 clear hX7 hT7 bb7
 refine tq 0 rfl ?_
 refine tq 1 rfl ?_
 refine tq 2 rfl ?_
 refine tq 3 rfl ?_
 refine tq 4 rfl ?_
 refine tq 5 rfl ?_
 refine tk 6 rfl (Or.inr ⟨by kernel_rfl, rfl⟩) ?_
 refine tk 7 rfl (Or.inr ⟨by kernel_rfl, rfl⟩) ?_
 refine tk 8 rfl (Or.inr ⟨by kernel_rfl, rfl⟩) ?_
 refine tk 9 rfl (Or.inr ⟨by kernel_rfl, rfl⟩) ?_
 refine tk 10 rfl (Or.inr ⟨by kernel_rfl, rfl⟩) ?_
 refine tk 11 rfl (Or.inr ⟨by kernel_rfl, rfl⟩) ?_
 refine tk 12 rfl (Or.inr ⟨by kernel_rfl, rfl⟩) ?_
 refine tk 13 rfl (Or.inr ⟨by kernel_rfl, rfl⟩) ?_
 refine tk 14 rfl (Or.inr ⟨by kernel_rfl, rfl⟩) ?_
 refine tk 15 rfl (Or.inr ⟨by kernel_rfl, rfl⟩) ?_
 refine tk 16 rfl (Or.inr ⟨by kernel_rfl, rfl⟩) ?_
 refine tk 17 rfl (Or.inr ⟨by kernel_rfl, rfl⟩) ?_
 refine tk 18 rfl (Or.inr ⟨by kernel_rfl, rfl⟩) ?_
 refine tk 19 rfl (Or.inr ⟨by kernel_rfl, rfl⟩) ?_
 refine tk 20 rfl (Or.inr ⟨by kernel_rfl, rfl⟩) ?_
 refine tk 21 rfl (Or.inr ⟨by kernel_rfl, rfl⟩) ?_
 refine tk 22 rfl (Or.inr ⟨by kernel_rfl, rfl⟩) ?_
 refine tq 23 rfl ?_
 refine wpAnyH_done (by kernel_rfl) ?_ _
 clear hHeld s0 s1 s50 s51 s52 s53
 go_wp2_with (first
  | (refine wl_storeV rfl 94 _ _ rfl 94 (B + 1) rfl DF rfl 4 aggDec hDFl DZ hT8 hDZl hDF1 ?_; intro w9 hT9 hb9 hs9; have bb9 : Below B w w9 := bb8.trans (hb9.mono (by omega)))
  | (refine wl_loadG (by rfl) 94 _ rfl ⟨X2, 0, none⟩ rfl 4 DF hDFl aggDec hX8.at0 ?_))
 (try simp only [Exit.inBlock, Exit.then]); refine bodyPost_ret (results_cell2 rfl _ _ _ _ rfl DF (by rw [hDFl]; exact aggDec) hT9.at0) rfl ?_
 exact ⟨rfl, bb9⟩
end Go.Proofs.YtdhipjoplkpgmaaGreatDoor.hf
namespace Go.Proofs.YtdhipjoplkpgmaaGreatDoor.hf
open Go.RowKit st hs wr shr sh lk
theorem builtAsk6 {F D : List Value} (hF : F.length = 16) (hD : D.length = 32) (t : Int) : Tryz.prog.built 165 [(0, .agg F.toArray), (1, .slice none 0 0), (2, .int .i64 2), (4, .agg zID.toArray), (5, .int .i64 t), (6, .agg D.toArray)] = some (askC t F D).toArray := by
 obtain ⟨a0, a1, a2, a3, a4, a5, a6, a7, a8, a9, a10, a11, a12, a13, a14, a15, rfl⟩ := list16 hF
 obtain ⟨c0, c1, c2, c3, c4, c5, c6, c7, c8, c9, c10, c11, c12, c13, c14, c15, b0, b1, b2, b3, b4, b5, b6, b7, b8, b9, b10, b11, b12, b13, b14, b15, rfl⟩ := list32 hD
 kernel_rfl
theorem askC_set18 {t : Int} {fv dv : List Value} (h : fv.length = 16) : (askC t fv dv).set 18 (.string ⟨#[]⟩) = askC t fv dv := by
 apply List.ext_getElem?
 intro j
 rw [List.getElem?_set]
 split
 ·rename_i e
  subst e
  rw [show 18 = 16 + 2 from rfl, askC_tail h]
  split
  ·rfl
  ·rename_i q
   exact absurd (by rw [askC]; simp [h, zID]; omega) q
 ·rfl
theorem Contains6 (B : Nat) (w : World) (hB : BlkV 3 w B [.int .i64 1, .int .i64 2, .int .i64 3, .int .i64 8, .int .i64 11, .int .i64 12]) :
  Calls Tryz.prog 167 #[.slice (some ⟨B, 0, none⟩) 6 6, .int .i64 2] w fun e w' => e = .returned (.bool true) ∧ w = w' := by
 have hi := hid (slInt.Index_any (some ⟨B, 0, none⟩) 6 [1, 2, 3, 8, 11, 12] 2 w (Or.inr ⟨B, 0, rfl, hB.lt, fun i hi => by
  rw [Nat.zero_add, hB.cell i]
  simp only [List.length_cons, List.length_nil] at hi
  obtain rfl | rfl | rfl | rfl | rfl | rfl : i = 0 ∨ i = 1 ∨ i = 2 ∨ i = 3 ∨ i = 4 ∨ i = 5 := by omega
  all_goals rfl⟩) (by decide))
 have e1 : slInt.findI (fun y => (2 : Int) == y) [1, 2, 3, 8, 11, 12] 0 = 1 := by decide
 rw [e1] at hi
 go_enter Tryz.func167, Tryz.ntmps167
 go_wp2_with (first | (go_at_call 275; refine hi.out.mono ?_; rintro e w1 ⟨rfl, rfl⟩))
 go_ret
 exact ⟨rfl, rfl⟩
theorem Refask_ok (g mm mk mv : Nat) (t : Int) (f : List Int) (rs : List ByteArray) (ao : Option Addr) (n c : Nat) (w : World) (h : EntOk w t f rs ao n c) (hS : RsOk w g mm mk mv) :
  Calls Tryz.prog 90 #[.pointer (some ⟨g, 0, none⟩), .agg (entC t (f.map (Value.int .u8)) (.slice ao n c)).toArray] w fun e w' => e = .returned (.agg (askC t (f.map (Value.int .u8)) ((sumL 0 (bodyB f rs)).map (Value.int .u8))).toArray) ∧ Below w.heap.size w w' := by
 have hFl : (f.map (Value.int .u8)).length = 16 := by rw [List.length_map, h.hf]
 have HN0 : Hid (0 < n) := hid (by rw [h.hn]; unfold bodyB; rw [List.length_append, h.hf]; omega)
 have hso := fun (w' : World) (hb : Below w.heap.size w w') => hid (sumR 0 ⟨by decide, by decide⟩ ao c n _ w' h.hn (h.below hb).pt (fun e => by obtain ⟨b, off, h1, _⟩ := h.pt.row.at (i := 0) (by have := HN0.out; rw [h.hn] at this; exact this); rw [e] at h1; cases h1) (by have := h.le; omega))
 have hSb := fun (w' : World) (hb : Below w.heap.size w w') => hid (hS.below hb (Nat.le_refl _))
 have hCl := entC_len (t := t) (bo := .slice ao n c) hFl
 have hcells := fun (w : World) (g : Nat) (h : BlkV 83 w g (entC t (f.map (Value.int .u8)) (.slice ao n c))) => hid (ent_cells hFl h)
 have hact := fun (w : World) (g : Nat) (h : BlkV 83 w g (entC t (f.map (Value.int .u8)) (.slice ao n c))) => hid (ent_actor hFl h)
 have hkey := fun (w : World) (g : Nat) (h : BlkV 83 w g (entC t (f.map (Value.int .u8)) (.slice ao n c))) => hid (ent_key hFl h)
 obtain ⟨CS, HCS⟩ := hidE (entC t (f.map (Value.int .u8)) (.slice ao n c))
 rw [← HCS.out] at hcells hact hkey hCl ⊢
 obtain ⟨DV, HDV⟩ := hidE ((sumL 0 (bodyB f rs)).map (Value.int .u8))
 have hDl : DV.length = 32 := by rw [HDV.out, List.length_map, sumL_length]
 have hD1 : ∀ u ∈ DV, u.oneCell' = true := by rw [HDV.out]; exact ints_one _ _
 rw [← HDV.out] at hso ⊢
 have hf := h.hf
 obtain ⟨F, HF⟩ := hidE (f.map (Value.int .u8))
 have hF1 : ∀ u ∈ F, u.oneCell' = true := by rw [HF.out]; exact ints_one _ _
 have HFI : Hid (Value.agg F.toArray = idV f) := hid (by rw [HF.out]; rfl)
 rw [← HF.out] at hFl hact ⊢
 have hb0 := hid (builtAsk6 hFl hDl t)
 have hAl := askC_len (t := t) hFl hDl
 have hA1 := askC_one (t := t) hF1 hD1
 have HSET := hid (askC_set18 (t := t) (dv := DV) hFl)
 obtain ⟨AS, HAS⟩ := hidE (askC t F DV)
 rw [← HAS.out] at hAl hA1 hb0 HSET ⊢
 have hz := hid zeroAsk
 have hZl : askZ.length = 68 := by rfl
 obtain ⟨Z, HZ⟩ := hidE askZ
 rw [← HZ.out] at hz hZl
 obtain ⟨ZI, HZI⟩ := hidE zID
 have hZIl : ZI.length = 16 := by rw [HZI.out]; rfl
 have HZV : Hid (Value.agg ZI.toArray = idV (List.replicate 16 0)) := hid (by rw [HZI.out]; rfl)
 rw [← HZI.out] at hkey hb0
 obtain ⟨B, hsz⟩ := szE w
 rw [hsz] at hso hSb ⊢
 clear h hS
 go_enter Tryz.func90, Tryz.ntmps90
 go_wp2_with (first
  | (refine wl_allocV rfl 165 rfl Z hz.out (B + 1) (by omega) ?_; intro w2 hT2 hb2 hs2; have hE2 := hE1.below hb2 (by omega); have bb2 : Below B w w2 := bb1.trans (hb2.mono (by omega)))
  | (refine wl_boxV rfl 83 _ rfl CS rfl B hsz ?_; intro w1 hE1 bb1 hs1))
 have hiF : (Tryz.prog.info? 25).map (·.size) = some F.length := by rw [hFl]; exact aggIDT.2
 have hiZI : (Tryz.prog.info? 25).map (·.size) = some ZI.length := by rw [hZIl]; exact aggIDT.2
 have hSS : ∀ w', Below B w w' → BlkV 83 w' B CS → (w'.rangeAt B 3 F ∧ w'.rangeAt B 19 ZI ∧ MapD w' mm (fun _ => none) ∧ MapD w' mk (fun _ => none) ∧ w'.cell? ⟨g, 51, none⟩ = some (.map (some mm)) ∧ w'.cell? ⟨g, 52, none⟩ = some (.map (some mk)) ∧ w'.cell? ⟨B, 1, none⟩ = some (.int .i64 t) ∧ w'.cell? ⟨B, 2, none⟩ = some (.int .i64 2) ∧ w'.cell? ⟨B, 67, none⟩ = some (.slice ao n c)) := fun w' hb hE => by
  have hs := (hSb w' hb).out
  have hc := rs_cells rfl rfl hs.blk
  have he := (hcells _ _ hE).out
  exact ⟨at_range (hact _ _ hE).out, at_range (hkey _ _ hE).out, hs.mem, hs.keys, hc.2.2.2.1, hc.2.2.2.2.1, he.2.1, he.2.2.1, he.2.2.2⟩
 refine wp_region_held_drew (S := (fun w' => w'.rangeAt B 3 F ∧ w'.rangeAt B 19 ZI ∧ MapD w' mm (fun _ => none) ∧ MapD w' mk (fun _ => none) ∧ w'.cell? ⟨g, 51, none⟩ = some (.map (some mm)) ∧ w'.cell? ⟨g, 52, none⟩ = some (.map (some mk)) ∧ w'.cell? ⟨B, 1, none⟩ = some (.int .i64 t) ∧ w'.cell? ⟨B, 2, none⟩ = some (.int .i64 2) ∧ w'.cell? ⟨B, 67, none⟩ = some (.slice ao n c))) (by kernel_rfl) (hSS _ bb2.drew hE2) (fun hHeld => ?_)
 obtain ⟨x0, HX0⟩ := hidE w2.drew
 rw [← HX0.out] at hHeld ⊢
 have hE0 : BlkV 83 x0 B CS := by rw [HX0.out]; exact hE2
 have hT0 : BlkV 165 x0 (B + 1) Z := by rw [HX0.out]; exact hT2
 have bb0 : Below B w x0 := by rw [HX0.out]; exact bb2.drew
 have hz0 : B + 2 ≤ x0.heap.size := by rw [HX0.out]; show B + 2 ≤ w2.heap.size; omega
 clear hE1 bb1 hE2 hT2 bb2
 refine tq 0 rfl ?_
 refine tk 1 rfl (yieldsIf_load_mid (by rfl) 25 _ rfl B 3 rfl F _ (fun w hS => hS.1) Tryz.underlying25 rfl hiF) ?_
 refine tq 2 rfl ?_
 refine tq 3 rfl ?_
 refine tq 4 rfl ?_
 refine tq 5 rfl ?_
 refine tq 6 rfl ?_
 refine tk 7 rfl (yieldsIf_load_mid (by rfl) 25 _ rfl B 3 rfl F _ (fun w hS => hS.1) Tryz.underlying25 rfl hiF) ?_
 refine tk 8 rfl (yieldsIf_lookD (by rfl) _ 26 _ _ false rfl (by kernel_rfl) (.slice none 0 0) zeroRoles mm (fun _ => none) (fun w hS => hS.2.2.1) f hf (.agg F.toArray) HFI.out rfl rfl (.slice none 0 0) rfl) ?_
 refine tq 9 rfl ?_
 refine tq 10 rfl ?_
 refine tq 11 rfl ?_
 refine tk 12 rfl (yieldsIf_load_mid (by rfl) 25 _ rfl B 19 rfl ZI _ (fun w hS => hS.2.1) Tryz.underlying25 rfl hiZI) ?_
 refine tq 13 rfl ?_
 refine tq 14 rfl ?_
 refine tq 15 rfl ?_
 refine tq 16 rfl ?_
 refine e2 17 19 rfl rfl (fun K' hK' => ?_) fun K' hK' => ?_
 ·rw [if_pos (by rfl)]
  go_simp
  go_at_call 45
  refine (hso x0 bb0).out.mono ?_
  rintro e x1 ⟨rfl, hb1⟩
  have hE1 := hE0.below hb1 (by omega)
  have hT1 := hT0.below hb1 (by omega)
  have bb1 : Below B w x1 := bb0.trans (hb1.mono (by omega))
  have hz1 : B + 2 ≤ x1.heap.size := by have := hb1.size; omega
  refine ko hK' (hSS _ bb1 hE1) fun hHeld => ?_
  clear hK' K'
  refine tk 18 rfl (yieldsIf_build (by rfl) 165 _ rfl [(0, .agg F.toArray), (1, .slice none 0 0), (2, .int .i64 2), (4, .agg ZI.toArray), (5, .int .i64 t), (6, .agg DV.toArray)] rfl AS hb0.out) ?_
  refine e1 19 rfl fun K' hK' => ?_
  obtain ⟨X, HX⟩ := hidE x1.heap.size
  have hBX : B + 2 ≤ X := by rw [HX.out]; exact hz1
  refine step_allocV rfl 165 rfl Z hz.out X HX.out.symm ?_
  intro x2 hX2 hb2 hs2
  have hE2 := hE1.below hb2 (by omega)
  have hT2 := hT1.below hb2 (by omega)
  have bb2 : Below B w x2 := bb1.trans (hb2.mono (by omega))
  have hz2 : B + 2 ≤ x2.heap.size := by have := hb2.size; omega
  refine ko hK' (hSS _ bb2 hE2) fun hHeld => ?_
  clear hK' K'
  refine e1 20 rfl fun K' hK' => ?_
  refine step_storeV rfl 165 _ _ rfl 165 X rfl AS rfl 68 aggAsk hAl Z hX2 hZl hA1 ?_
  intro x3 hX3 hb3 hs3
  have hE3 := hE2.below hb3 (by omega)
  have hT3 := hT2.below hb3 (by omega)
  have bb3 : Below B w x3 := bb2.trans (hb3.mono (by omega))
  have hz3 : B + 2 ≤ x3.heap.size := by have := hb3.size; omega
  refine ko hK' (hSS _ bb3 hE3) fun hHeld => ?_
  clear hK' K'
  refine wpAnyH_done (by kernel_rfl) ?_ _
  clear hHeld
  obtain ⟨m0, m1, m2, m67⟩ := (hcells _ _ hE3).out
  go_wp2_with fail
  clear m0 m1 m2 m67
  refine wp_region_held_drew (S := (fun w' => w'.rangeAt B 3 F ∧ w'.rangeAt B 19 ZI ∧ MapD w' mm (fun _ => none) ∧ MapD w' mk (fun _ => none) ∧ w'.cell? ⟨g, 51, none⟩ = some (.map (some mm)) ∧ w'.cell? ⟨g, 52, none⟩ = some (.map (some mk)) ∧ w'.cell? ⟨B, 1, none⟩ = some (.int .i64 t) ∧ w'.cell? ⟨B, 2, none⟩ = some (.int .i64 2) ∧ w'.cell? ⟨B, 67, none⟩ = some (.slice ao n c))) (by kernel_rfl) (hSS _ bb3.drew hE3) (fun hHeld => ?_)
  obtain ⟨y0, HY0⟩ := hidE x3.drew
  rw [← HY0.out] at hHeld ⊢
  have hEy0 : BlkV 83 y0 B CS := by rw [HY0.out]; exact hE3
  have hTy0 : BlkV 165 y0 (B + 1) Z := by rw [HY0.out]; exact hT3
  have hXy0 : BlkV 165 y0 X AS := by rw [HY0.out]; exact hX3
  have by0 : Below B w y0 := by rw [HY0.out]; exact bb3.drew
  refine tq 0 rfl ?_
  refine tq 1 rfl ?_
  refine tq 2 rfl ?_
  refine tq 3 rfl ?_
  refine tq 4 rfl ?_
  refine tk 5 rfl (yieldsIf_load_mid (by rfl) 25 _ rfl B 19 rfl ZI _ (fun w hS => hS.2.1) Tryz.underlying25 rfl hiZI) ?_
  refine tk 6 rfl (yieldsIf_lookD (by rfl) _ 70 _ _ false rfl (by kernel_rfl) (.agg keyZ.toArray) zeroKeyS mk (fun _ => none) (fun w hS => hS.2.2.2.1) (List.replicate 16 0) (by simp) (.agg ZI.toArray) HZV.out rfl rfl (.agg keyZ.toArray) rfl) ?_
  refine take_l (i := 7) (v := .string ⟨#[]⟩) rfl (by kernel_rfl) (by kernel_rfl) (by kernel_rfl) (fun _ _ _ h => h) (.inl ⟨by rfl, fun w _ => by kernel_rfl⟩) (by assumption) ?_
  try simp only [Act.put, fpA, fpZ, fpN]
  refine tq 8 rfl ?_
  refine e1 9 rfl fun K' hK' => ?_
  refine step_set1 rfl 9 _ _ rfl 165 X 18 rfl (.string ⟨#[]⟩) rfl rfl rfl (by kernel_rfl) AS hXy0 (by rw [hAl]; decide) ?_
  intro y1 hXy1 hgy1 hby1 hsy1
  rw [HSET.out] at hXy1
  have hEy1 := hEy0.below hby1 (by omega)
  have hTy1 := hTy0.below hby1 (by omega)
  have by1 : Below B w y1 := by0.trans (hby1.mono (by omega))
  refine ko hK' (hSS _ by1 hEy1) fun hHeld => ?_
  clear hK' K'
  refine wpAnyH_done (by kernel_rfl) ?_ _
  clear hHeld
  go_wp2_with (first
   | (refine wl_storeV rfl 165 _ _ rfl 165 (B + 1) rfl AS rfl 68 aggAsk hAl Z hTy1 hZl hA1 ?_; intro y2 hTy2 hby2 hsy2; have by2 : Below B w y2 := by1.trans (hby2.mono (by omega)))
   | (refine wl_loadG (by rfl) 165 _ rfl ⟨X, 0, none⟩ rfl 68 AS hAl aggAsk hXy1.at0 ?_))
  (try simp only [Exit.inBlock, Exit.then]); refine bodyPost_ret (results_cell rfl _ _ _ _ rfl AS (by rw [hAl]; exact aggAsk) hTy2.at0) rfl ?_
  exact ⟨rfl, by2⟩
 ·obtain ⟨X, HX⟩ := hidE x0.heap.size
  have hBX : B + 2 ≤ X := by rw [HX.out]; exact hz0
  refine step_allocV rfl 165 rfl Z hz.out X HX.out.symm ?_
  intro x1 hX1 hb1 hs1
  have hE1 := hE0.below hb1 (by omega)
  have hT1 := hT0.below hb1 (by omega)
  have bb1 : Below B w x1 := bb0.trans (hb1.mono (by omega))
  have hz1 : B + 2 ≤ x1.heap.size := by have := hb1.size; omega
  refine ko hK' (hSS _ bb1 hE1) fun hHeld => ?_
  clear hK' K'
  refine e1 17 rfl fun K' hK' => ?_
  rw [if_pos (by rfl)]
  go_simp
  go_at_call 45
  refine (hso x1 bb1).out.mono ?_
  rintro e x2 ⟨rfl, hb2⟩
  have hE2 := hE1.below hb2 (by omega)
  have hT2 := hT1.below hb2 (by omega)
  have bb2 : Below B w x2 := bb1.trans (hb2.mono (by omega))
  have hz2 : B + 2 ≤ x2.heap.size := by have := hb2.size; omega
  have hX2 := hX1.below hb2 hX1.lt
  refine ko hK' (hSS _ bb2 hE2) fun hHeld => ?_
  clear hK' K'
  refine tk 18 rfl (yieldsIf_build (by rfl) 165 _ rfl [(0, .agg F.toArray), (1, .slice none 0 0), (2, .int .i64 2), (4, .agg ZI.toArray), (5, .int .i64 t), (6, .agg DV.toArray)] rfl AS hb0.out) ?_
  refine e1 20 rfl fun K' hK' => ?_
  refine step_storeV rfl 165 _ _ rfl 165 X rfl AS rfl 68 aggAsk hAl Z hX2 hZl hA1 ?_
  intro x3 hX3 hb3 hs3
  have hE3 := hE2.below hb3 (by omega)
  have hT3 := hT2.below hb3 (by omega)
  have bb3 : Below B w x3 := bb2.trans (hb3.mono (by omega))
  have hz3 : B + 2 ≤ x3.heap.size := by have := hb3.size; omega
  refine ko hK' (hSS _ bb3 hE3) fun hHeld => ?_
  clear hK' K'
  refine wpAnyH_done (by kernel_rfl) ?_ _
  clear hHeld
  obtain ⟨m0, m1, m2, m67⟩ := (hcells _ _ hE3).out
  go_wp2_with fail
  clear m0 m1 m2 m67
  refine wp_region_held_drew (S := (fun w' => w'.rangeAt B 3 F ∧ w'.rangeAt B 19 ZI ∧ MapD w' mm (fun _ => none) ∧ MapD w' mk (fun _ => none) ∧ w'.cell? ⟨g, 51, none⟩ = some (.map (some mm)) ∧ w'.cell? ⟨g, 52, none⟩ = some (.map (some mk)) ∧ w'.cell? ⟨B, 1, none⟩ = some (.int .i64 t) ∧ w'.cell? ⟨B, 2, none⟩ = some (.int .i64 2) ∧ w'.cell? ⟨B, 67, none⟩ = some (.slice ao n c))) (by kernel_rfl) (hSS _ bb3.drew hE3) (fun hHeld => ?_)
  obtain ⟨y0, HY0⟩ := hidE x3.drew
  rw [← HY0.out] at hHeld ⊢
  have hEy0 : BlkV 83 y0 B CS := by rw [HY0.out]; exact hE3
  have hTy0 : BlkV 165 y0 (B + 1) Z := by rw [HY0.out]; exact hT3
  have hXy0 : BlkV 165 y0 X AS := by rw [HY0.out]; exact hX3
  have by0 : Below B w y0 := by rw [HY0.out]; exact bb3.drew
  refine tq 0 rfl ?_
  refine tq 1 rfl ?_
  refine tq 2 rfl ?_
  refine tq 3 rfl ?_
  refine tq 4 rfl ?_
  refine tk 5 rfl (yieldsIf_load_mid (by rfl) 25 _ rfl B 19 rfl ZI _ (fun w hS => hS.2.1) Tryz.underlying25 rfl hiZI) ?_
  refine tk 6 rfl (yieldsIf_lookD (by rfl) _ 70 _ _ false rfl (by kernel_rfl) (.agg keyZ.toArray) zeroKeyS mk (fun _ => none) (fun w hS => hS.2.2.2.1) (List.replicate 16 0) (by simp) (.agg ZI.toArray) HZV.out rfl rfl (.agg keyZ.toArray) rfl) ?_
  refine take_l (i := 7) (v := .string ⟨#[]⟩) rfl (by kernel_rfl) (by kernel_rfl) (by kernel_rfl) (fun _ _ _ h => h) (.inl ⟨by rfl, fun w _ => by kernel_rfl⟩) (by assumption) ?_
  try simp only [Act.put, fpA, fpZ, fpN]
  refine tq 8 rfl ?_
  refine e1 9 rfl fun K' hK' => ?_
  refine step_set1 rfl 9 _ _ rfl 165 X 18 rfl (.string ⟨#[]⟩) rfl rfl rfl (by kernel_rfl) AS hXy0 (by rw [hAl]; decide) ?_
  intro y1 hXy1 hgy1 hby1 hsy1
  rw [HSET.out] at hXy1
  have hEy1 := hEy0.below hby1 (by omega)
  have hTy1 := hTy0.below hby1 (by omega)
  have by1 : Below B w y1 := by0.trans (hby1.mono (by omega))
  refine ko hK' (hSS _ by1 hEy1) fun hHeld => ?_
  clear hK' K'
  refine wpAnyH_done (by kernel_rfl) ?_ _
  clear hHeld
  go_wp2_with (first
   | (refine wl_storeV rfl 165 _ _ rfl 165 (B + 1) rfl AS rfl 68 aggAsk hAl Z hTy1 hZl hA1 ?_; intro y2 hTy2 hby2 hsy2; have by2 : Below B w y2 := by1.trans (hby2.mono (by omega)))
   | (refine wl_loadG (by rfl) 165 _ rfl ⟨X, 0, none⟩ rfl 68 AS hAl aggAsk hXy1.at0 ?_))
  (try simp only [Exit.inBlock, Exit.then]); refine bodyPost_ret (results_cell rfl _ _ _ _ rfl AS (by rw [hAl]; exact aggAsk) hTy2.at0) rfl ?_
  exact ⟨rfl, by2⟩
theorem RefAskSum_ok (t : Int) (f d : List Int) (hf : f.length = 16) (of : Octs f) (hd : d.length = 32) (od : Octs d) (w : World) : Calls Tryz.prog 94 #[.agg (askC t (f.map (Value.int .u8)) (d.map (Value.int .u8))).toArray] w fun e w' => (∃ S : List Int, S.length = 32 ∧ e = .returned (.agg (S.map (Value.int .u8)).toArray)) ∧ Below w.heap.size w w' := by
 have hFl : (f.map (Value.int .u8)).length = 16 := by rw [List.length_map, hf]
 have hDl : (d.map (Value.int .u8)).length = 32 := by rw [List.length_map, hd]
 have hcells := fun (w : World) (g : Nat) (h : BlkV 165 w g (askC t (f.map (Value.int .u8)) (d.map (Value.int .u8)))) => hid (ask_cells hFl h)
 have hact := fun (w : World) (g : Nat) (h : BlkV 165 w g (askC t (f.map (Value.int .u8)) (d.map (Value.int .u8)))) => hid (ask_actor h)
 have hkey := fun (w : World) (g : Nat) (h : BlkV 165 w g (askC t (f.map (Value.int .u8)) (d.map (Value.int .u8)))) => hid (ask_key hFl h)
 have hdet := fun (w : World) (g : Nat) (h : BlkV 165 w g (askC t (f.map (Value.int .u8)) (d.map (Value.int .u8)))) => hid (ask_detail hFl h)
 have HZ16 : Hid (zID = (List.replicate 16 (0 : Int)).map (Value.int .u8)) := hid rfl
 rw [HZ16.out] at hkey
 obtain ⟨CS, HCS⟩ := hidE (askC t (f.map (Value.int .u8)) (d.map (Value.int .u8)))
 rw [← HCS.out] at hcells hact hkey hdet ⊢
 have HFO := hid of
 have HDO := hid od
 have HF16 := hid hf
 have HD32 := hid hd
 obtain ⟨TX, HTX⟩ : ∃ l : List Int, Hid (l = f ++ ([2] ++ (List.replicate 16 0 ++ d))) := ⟨_, hid rfl⟩
 have HTXl : Hid (TX.length = 65) := hid (by rw [HTX.out]; simp [hf, hd])
 have HTXo : Hid (Octs TX) := hid (by rw [HTX.out]; exact octs_app of (octs_app oK1 (octs_app (zeros_oct _) od)))
 have hso := fun (w' : World) (a1 : Option Addr) (c1 : Nat) (h1 : Pt.Ok w' ⟨a1, c1, TX⟩) (h2 : a1 = none → c1 = 0 ∧ 65 = 0) => hid (sumR 5 ⟨by decide, by decide⟩ a1 c1 65 _ w' HTXl.out.symm h1 h2 (by decide))
 obtain ⟨SI, HSI⟩ : ∃ l : List Int, Hid (l = sumL 5 TX) := ⟨_, hid rfl⟩
 have hSIl : SI.length = 32 := by rw [HSI.out, sumL_length]
 rw [← HSI.out] at hso
 obtain ⟨S, HS⟩ := hidE (SI.map (Value.int .u8))
 have hSl : S.length = 32 := by rw [HS.out, List.length_map, hSIl]
 have hS1 : ∀ u ∈ S, u.oneCell' = true := by rw [HS.out]; exact ints_one _ _
 rw [← HS.out] at hso
 obtain ⟨Z, HZ⟩ := hidE zSum
 have hz := hid zeroSumZ
 have hZl : Z.length = 32 := by rw [HZ.out]; rfl
 rw [← HZ.out] at hz
 have hal1 : Tryz.prog.arrayLen 25 = 16 := by kernel_rfl
 have hal2 : Tryz.prog.arrayLen 39 = 32 := by kernel_rfl
 obtain ⟨B, hsz⟩ := szE w
 rw [hsz]
 obtain ⟨Q, HQ⟩ : ∃ Q : Ending → World → Prop, Hid (Q = fun e w' => (∃ S : List Int, S.length = 32 ∧ e = .returned (.agg (S.map (Value.int .u8)).toArray)) ∧ Below B w w') := ⟨_, rfl⟩
 rw [← HQ.out]
 have HPQ : Hid (∀ w', Below B w w' → Q (.returned (.agg S.toArray)) w') := hid (by rw [HQ.out, HS.out]; exact fun w' hb => ⟨⟨SI, hSIl, rfl⟩, hb⟩)
 have HCC : Hid (∀ (x : World) (A5 AL : Nat), BlkV 165 x B CS → Pt.Ok x ⟨some ⟨A5, 0, none⟩, 1, [2]⟩ → BlkV 61 x AL [.slice (some ⟨B, 0, none⟩) 16 16, .slice (some ⟨A5, 0, none⟩) 1 1, .slice (some ⟨B, 19, none⟩) 16 16, .slice (some ⟨B, 36, none⟩) 32 32] →
  Calls Tryz.prog 112 #[.slice (some ⟨AL, 0, none⟩) 4 4] x fun e w' => ∃ a2 c2, e = .returned (.slice a2 65 c2) ∧ Mine w' x.heap.size 5 1 (.slice a2 65 c2) 65 (TX.map (Value.int .u8)) ∧ Below x.heap.size x w') := hid (fun x A5 AL hE hP hAL => by
  have hcat : cat [⟨some ⟨B, 0, none⟩, 16, f⟩, ⟨some ⟨A5, 0, none⟩, 1, [2]⟩, ⟨some ⟨B, 19, none⟩, 16, List.replicate 16 0⟩, ⟨some ⟨B, 36, none⟩, 32, d⟩] = TX := by
   rw [HTX.out]; unfold cat
   simp only [List.map_cons, List.map_nil, List.flatten_cons, List.flatten_nil, List.append_nil]
  have hcc := concatPts [⟨some ⟨B, 0, none⟩, 16, f⟩, ⟨some ⟨A5, 0, none⟩, 1, [2]⟩, ⟨some ⟨B, 19, none⟩, 16, List.replicate 16 0⟩, ⟨some ⟨B, 36, none⟩, 32, d⟩] AL 4 4 x _ (by simp [Pt.v, HF16.out, HD32.out]) rfl hAL (by
   intro x hx
   simp only [List.mem_cons, List.not_mem_nil, or_false] at hx
   rcases hx with rfl | rfl | rfl | rfl
   ·exact ptAt hE.lt (hact _ _ hE).out HFO.out (Nat.le_of_eq HF16.out) (by decide)
   ·exact hP
   ·exact ptAt hE.lt (hkey _ _ hE).out (zeros_oct _) (by simp) (by decide)
   ·exact ptAt hE.lt (hdet _ _ hE).out HDO.out (Nat.le_of_eq HD32.out) (by decide)) (by
   intro x hx
   simp only [List.mem_cons, List.not_mem_nil, or_false] at hx
   rcases hx with rfl | rfl | rfl | rfl
   ·show 0 < f.length; rw [HF16.out]; decide
   ·exact Nat.zero_lt_succ _
   ·show 0 < (List.replicate 16 (0 : Int)).length; simp
   ·show 0 < d.length; rw [HD32.out]; decide) (by rw [hcat, HTXl.out]; decide) (by decide)
  rw [hcat, HTXl.out] at hcc
  exact hcc)
 clear hFl hDl hf hd of od hact hkey hdet
 go_enter Tryz.func94, Tryz.ntmps94
 go_wp2_with (first
  | (refine wl_allocV rfl 39 rfl Z hz.out (B + 1) (by omega) ?_; intro w2 hT2 hb2 hs2; have hE2 := hE1.below hb2 (by omega); have bb2 : Below B w w2 := bb1.trans (hb2.mono (by omega)))
  | (refine wl_boxV rfl 165 _ rfl CS rfl B hsz ?_; intro w1 hE1 bb1 hs1))
 have hSS : ∀ w', BlkV 165 w' B CS → w'.cell? ⟨B, 17, none⟩ = some (.int .i64 2) := fun w' h => ((hcells _ _ h).out).2.1
 refine wp_region_held_drew (S := (fun w' => w'.cell? ⟨B, 17, none⟩ = some (.int .i64 2))) (by kernel_rfl) (hSS w2.drew hE2) (fun hHeld => ?_)
 obtain ⟨x0, HX0⟩ := hidE w2.drew
 rw [← HX0.out] at hHeld ⊢
 have hE0 : BlkV 165 x0 B CS := by rw [HX0.out]; exact hE2
 have hT0 : BlkV 39 x0 (B + 1) Z := by rw [HX0.out]; exact hT2
 have bb0 : Below B w x0 := by rw [HX0.out]; exact bb2.drew
 have hz0 : B + 2 ≤ x0.heap.size := by rw [HX0.out]; show B + 2 ≤ w2.heap.size; omega
 clear hE1 bb1 hE2 hT2 bb2
 refine tq 0 rfl ?_
 refine tq 1 rfl ?_
 refine tq 2 rfl ?_
 refine tq 3 rfl ?_
 refine tq 4 rfl ?_
 refine tq 6 rfl ?_
 refine tq 7 rfl ?_
 refine tq 8 rfl ?_
 refine tq 9 rfl ?_
 refine e1 5 rfl fun K' hK' => ?_
 obtain ⟨A5, HA5⟩ := hidE x0.heap.size
 refine step_lit rfl 61 5 1 _ rfl Tryz.underlying61 (.int .u8 0) 1 1 info8 (by decide) (by decide) [.int .u8 2] (by kernel_rfl) A5 HA5.out.symm ?_
 intro x1 hA5 hb1' hs1
 have hb1 : Below x0.heap.size x0 x1 := hb1'.mono (Nat.le_of_eq HA5.out.symm)
 have hE1 := hE0.below hb1 (by omega)
 have hT1 := hT0.below hb1 (by omega)
 have bb1 : Below B w x1 := bb0.trans (hb1.mono (by omega))
 have hz1 : B + 2 ≤ x1.heap.size := by have := hb1.size; omega
 have hP1 : Pt.Ok x1 ⟨some ⟨A5, 0, none⟩, 1, [2]⟩ := ptBlk hA5 oK1 (by decide) (by decide)
 refine ko hK' (hSS _ hE1) fun hHeld => ?_
 clear hK' K'
 refine e1 10 rfl fun K' hK' => ?_
 obtain ⟨AL, HAL⟩ := hidE x1.heap.size
 refine step_lit rfl 286 61 4 _ rfl Tryz.underlying286 (.slice none 0 0) 1 24 infoBts (by decide) (by decide) [.slice (some ⟨B, 0, none⟩) 16 16, .slice (some ⟨A5, 0, none⟩) 1 1, .slice (some ⟨B, 19, none⟩) 16 16, .slice (some ⟨B, 36, none⟩) 32 32] (by kernel_rfl) AL HAL.out.symm ?_
 intro x2 hAL hb2' hs2
 have hb2 : Below x1.heap.size x1 x2 := hb2'.mono (Nat.le_of_eq HAL.out.symm)
 have hE2 := hE1.below hb2 (by omega)
 have hT2 := hT1.below hb2 (by omega)
 have bb2 : Below B w x2 := bb1.trans (hb2.mono (by omega))
 have hz2 : B + 2 ≤ x2.heap.size := by have := hb2.size; omega
 have hcc := hid (HCC.out x2 A5 AL hE2 (hP1.below hb2) hAL)
 refine ko hK' (hSS _ hE2) fun hHeld => ?_
 clear hK' K'
 refine e1 11 rfl fun K' hK' => ?_
 rw [if_pos (by rfl)]
 go_simp
 go_at_call 112
 refine hcc.out.mono ?_
 rintro e x3 ⟨a3, c3, rfl, hM3, hb3⟩
 have hE3 := hE2.below hb3 (by omega)
 have hT3 := hT2.below hb3 (by omega)
 have bb3 : Below B w x3 := bb2.trans (hb3.mono (by omega))
 have hz3 : B + 2 ≤ x3.heap.size := by have := hb3.size; omega
 have hmp := mine_pt hM3 HTXl.out.symm (by decide) HTXo.out
 refine ko hK' (hSS _ hE3) fun hHeld => ?_
 clear hK' K'
 refine e1 12 rfl fun K' hK' => ?_
 rw [if_pos (by rfl)]
 go_simp
 go_at_call 45
 refine (hso x3 a3 c3 hmp.1 hmp.2).out.mono ?_
 rintro e x4 ⟨rfl, hb4⟩
 have hE4 := hE3.below hb4 (by omega)
 have hT4 := hT3.below hb4 (by omega)
 have bb4 : Below B w x4 := bb3.trans (hb4.mono (by omega))
 have hz4 : B + 2 ≤ x4.heap.size := by have := hb4.size; omega
 refine ko hK' (hSS _ hE4) fun hHeld => ?_
 clear hK' K'
 refine e1 13 rfl fun K' hK' => ?_
 refine step_storeV rfl 39 _ _ rfl 39 (B + 1) rfl S rfl 32 aggSumT hSl Z hT4 hZl hS1 ?_
 intro x5 hT5 hb5 hs5
 have hE5 := hE4.below hb5 (by omega)
 have bb5 : Below B w x5 := bb4.trans (hb5.mono (by omega))
 refine ko hK' (hSS _ hE5) fun hHeld => ?_
 clear hK' K'
 refine wpAnyH_done (by kernel_rfl) ?_ _
 clear hHeld
 go_wp2_with fail
 (try simp only [Exit.inBlock, Exit.then]); refine bodyPost_ret (results_cell rfl _ _ _ _ rfl S (by rw [hSl]; exact aggSumT) hT5.at0) rfl ?_
 exact HPQ.out _ bb5
theorem refusedMember_ok (g mm mk mv : Nat) (t : Int) (f : List Int) (bo ro : Value) (w : World) (hf : f.length = 16) (h0 : f ≠ List.replicate 16 0) (hS : RsOk w g mm mk mv) :
  Calls Tryz.prog 168 #[.pointer (some ⟨g, 0, none⟩), .agg (entC t (f.map (Value.int .u8)) bo).toArray, .agg (bodyC (f.map (Value.int .u8)) ro).toArray] w fun e w' => e = .returned (.int .i64 0) ∧ Below w.heap.size w w' := by
 have hFl : (f.map (Value.int .u8)).length = 16 := by rw [List.length_map, hf]
 have hSb := fun (w' : World) (hb : Below w.heap.size w w') => hid (hS.below hb (Nat.le_refl _))
 have hcells := fun (w : World) (g : Nat) (h : BlkV 83 w g (entC t (f.map (Value.int .u8)) bo)) => hid (ent_cells hFl h)
 have hmem := fun (w : World) (g : Nat) (h : BlkV 42 w g (bodyC (f.map (Value.int .u8)) ro)) => hid (body_member hFl h)
 obtain ⟨CS, HCS⟩ := hidE (entC t (f.map (Value.int .u8)) bo)
 obtain ⟨BS, HBS⟩ := hidE (bodyC (f.map (Value.int .u8)) ro)
 rw [← HCS.out] at hcells ⊢
 rw [← HBS.out] at hmem ⊢
 have hfz : Hid (∀ w, (Op.equalIn 10000 25 (.agg (f.map (Value.int .u8)).toArray) (.agg zID.toArray)).run Tryz.prog w = .ok false w) := hid (fun w => by rw [show zID = (List.replicate 16 (0 : Int)).map (Value.int .u8) from rfl, run_eq_id' w f _ hf (by simp)]; congr 1; simpa using h0)
 obtain ⟨F, HF⟩ := hidE (f.map (Value.int .u8))
 have HFI : Hid (Value.agg F.toArray = idV f) := hid (by rw [HF.out]; rfl)
 rw [← HF.out] at hmem hfz hFl
 obtain ⟨ZI, HZI⟩ := hidE zID
 have hbi := hid builtID0
 rw [← HZI.out] at hfz hbi
 obtain ⟨B, hsz⟩ := szE w
 rw [hsz] at hSb ⊢
 clear hS h0
 go_enter Tryz.func168, Tryz.ntmps168
 go_wp2_with (first
  | (refine wl_boxV rfl 42 _ rfl BS rfl (B + 1) (by omega) ?_; intro w2 hY2 hb2 hs2; have hE2 := hE1.below hb2 (by omega); have bb2 : Below B w w2 := bb1.trans (hb2.mono (by omega)))
  | (refine wl_boxV rfl 83 _ rfl CS rfl B hsz ?_; intro w1 hE1 bb1 hs1))
 have hSS : ∀ w', Below B w w' → BlkV 42 w' (B + 1) BS → (MapD w' mm (fun _ => none) ∧ w'.cell? ⟨g, 51, none⟩ = some (.map (some mm)) ∧ w'.rangeAt (B + 1) 1 F) := fun w' hb hY => by
  have hs := (hSb w' hb).out
  exact ⟨hs.mem, (rs_cells rfl rfl hs.blk).2.2.2.1, at_range (hmem _ _ hY).out⟩
 have hiF : (Tryz.prog.info? 25).map (·.size) = some F.length := by rw [hFl]; exact aggIDT.2
 refine wp_region_held_drew (S := (fun w' => MapD w' mm (fun _ => none) ∧ w'.cell? ⟨g, 51, none⟩ = some (.map (some mm)) ∧ w'.rangeAt (B + 1) 1 F)) (by kernel_rfl) (hSS w2.drew bb2.drew hY2) (fun hHeld => ?_)
 obtain ⟨x1, HX1⟩ := hidE w2.drew
 rw [← HX1.out] at hHeld ⊢
 have hEx1 : BlkV 83 x1 B CS := by rw [HX1.out]; exact hE2
 have hYx1 : BlkV 42 x1 (B + 1) BS := by rw [HX1.out]; exact hY2
 have bbx1 : Below B w x1 := by rw [HX1.out]; exact bb2.drew
 refine tq 0 rfl ?_
 refine tq 1 rfl ?_
 refine tq 2 rfl ?_
 refine tq 3 rfl ?_
 refine tq 4 rfl ?_
 refine tk 5 rfl (yieldsIf_load_mid (by rfl) 25 _ rfl (B + 1) 1 rfl F _ (fun w hS => hS.2.2) Tryz.underlying25 rfl hiF) ?_
 refine tk 6 rfl (yieldsIf_lookD (by rfl) _ 26 _ _ true rfl (by kernel_rfl) (.slice none 0 0) zeroRoles mm (fun _ => none) (fun w hS => hS.1) f hf (.agg F.toArray) HFI.out rfl rfl (.tuple #[.slice none 0 0, .bool false]) rfl) ?_
 refine tq 7 rfl ?_
 refine tq 8 rfl ?_
 refine tq 9 rfl ?_
 refine tq 10 rfl ?_
 refine tq 11 rfl ?_
 refine wpAnyH_done (by kernel_rfl) ?_ _
 clear hHeld
 obtain ⟨c0, c1, c2, c67⟩ := (hcells _ _ hEx1).out
 clear hcells
 go_wp2_with (first
  | (refine wl_eqK 27 rfl (by kernel_rfl) 25 _ _ _ rfl F.toArray ZI.toArray rfl rfl false (hfz.out _) (by kernel_rfl) ?_)
  | (refine wl_build0G (by kernel_rfl) 25 rfl ZI hbi.out ?_)
  | (refine wl_loadG (by kernel_rfl) 25 _ rfl ⟨B + 1, 1, none⟩ rfl 16 F hFl aggIDT (hmem _ _ hYx1).out ?_))
 go_ret
 exact ⟨rfl, bbx1⟩
end Go.Proofs.YtdhipjoplkpgmaaGreatDoor.hf
namespace Go.Proofs.YtdhipjoplkpgmaaGreatDoor.hf
open Go.RowKit st hs wr shr sh lk
structure RF (w : World) (B X : Nat) (CS BS : List Value) (x : World) : Prop where
 ent : BlkV 83 x B CS
 bod : BlkV 42 x X BS
 bel : Below B w x
 lt : B < X
theorem RF.drew {w x : World} {B X : Nat} {CS BS : List Value} (h : RF w B X CS BS x) : RF w B X CS BS x.drew := ⟨h.ent, h.bod, h.bel.drew, h.lt⟩
theorem RF.step {w x x' : World} {B X M : Nat} {CS BS : List Value} (h : RF w B X CS BS x) (hb : Below M x x') (hM : X < M) : RF w B X CS BS x' := ⟨h.ent.below hb (Nat.lt_trans h.lt hM), h.bod.below hb hM, h.bel.trans (hb.mono (by have := h.lt; omega)), h.lt⟩
theorem infoIn : Info Tryz.prog 3 (.int .i64 0) 1 8 := by unfold Info; kernel_rfl
theorem refused_ok (g mm mk mv : Nat) (t : Int) (f : List Int) (rs : List ByteArray) (ao : Option Addr) (n c : Nat) (w : World) (h : EntOk w t f rs ao n c) (h0 : f ≠ List.replicate 16 0) (hS : RsOk w g mm mk mv) :
  Calls Tryz.prog 95 #[.pointer (some ⟨g, 0, none⟩), .agg (entC t (f.map (Value.int .u8)) (.slice ao n c)).toArray] w fun e w' => e = .returned (.int .i64 0) ∧ Below w.heap.size w w' := by
 have hf := h.hf
 have hFl : (f.map (Value.int .u8)).length = 16 := by rw [List.length_map, h.hf]
 obtain ⟨ht0, ht1⟩ := timeE_lo h.ht
 have htI : ¬ t < 0 := by omega
 have hee := fun (w' : World) (hb : Below w.heap.size w w') => hid (RefEntryError_ok t f rs ao n c w' (h.below hb) h0)
 have hpb := fun (w' : World) (hb : Below w.heap.size w w') => hid (RefParseBody_ok f rs ao n c w' h.hf h0 h.hE h.hn (h.pt.below hb))
 have hmf := fun (ro : Value) (w' : World) (hb : Below w.heap.size w w') => hid (refusedMember_ok g mm mk mv t f (.slice ao n c) ro w' h.hf h0 (hS.below hb (Nat.le_refl _)))
 have hSb := fun (w' : World) (hb : Below w.heap.size w w') => hid (hS.below hb (Nat.le_refl _))
 have hCl := entC_len (t := t) (bo := .slice ao n c) hFl
 have hcells := fun (w : World) (g : Nat) (h : BlkV 83 w g (entC t (f.map (Value.int .u8)) (.slice ao n c))) => hid (ent_cells hFl h)
 have hact := fun (w : World) (g : Nat) (h : BlkV 83 w g (entC t (f.map (Value.int .u8)) (.slice ao n c))) => hid (ent_actor hFl h)
 have hkey := fun (w : World) (g : Nat) (h : BlkV 83 w g (entC t (f.map (Value.int .u8)) (.slice ao n c))) => hid (ent_key hFl h)
 have hprv := fun (w : World) (g : Nat) (h : BlkV 83 w g (entC t (f.map (Value.int .u8)) (.slice ao n c))) => hid (ent_prev hFl h)
 have hmem := fun (v : Value) (w : World) (g : Nat) (h : BlkV 42 w g (bodyC (f.map (Value.int .u8)) v)) => hid (body_member hFl h)
 obtain ⟨CS, HCS⟩ := hidE (entC t (f.map (Value.int .u8)) (.slice ao n c))
 rw [← HCS.out] at hee hmf hCl hcells hact hkey hprv ⊢
 have HCL := fun v => hid (bodyC_len (ro := v) hFl)
 have HC1 := fun v hv => hid (bodyC_one (fv := f.map (Value.int .u8)) (ro := v) (ints_one _ _) hv)
 have heq : Hid (∀ w, (Op.equalIn 10000 25 (.agg (f.map (Value.int .u8)).toArray) (.agg (f.map (Value.int .u8)).toArray)).run Tryz.prog w = .ok true w) := hid (fun w => by rw [run_eq_id' w f f hf hf]; simp)
 have hzz : Hid (∀ w, (Op.equalIn 10000 25 (.agg zID.toArray) (.agg zID.toArray)).run Tryz.prog w = .ok true w) := hid (fun w => by rw [show zID = (List.replicate 16 (0 : Int)).map (Value.int .u8) from rfl, run_eq_id' w _ _ (by simp) (by simp)]; simp)
 have hes : Hid (∀ w, (Op.equalIn 10000 39 (.agg zSum.toArray) (.agg zSum.toArray)).run Tryz.prog w = .ok true w) := hid (fun w => by rw [show zSum = (List.replicate 32 (0 : Int)).map (Value.int .u8) from rfl, run_eq_sum' w _ _ (by simp) (by simp)]; simp)
 obtain ⟨F, HF⟩ := hidE (f.map (Value.int .u8))
 have HFI : Hid (Value.agg F.toArray = idV f) := hid (by rw [HF.out]; rfl)
 rw [← HF.out] at hact hmem heq hFl hmf HCL HC1
 have hpb2 := fun (w' : World) (hb : Below w.heap.size w w') => hid (show Calls Tryz.prog 96 #[.int .i64 2, .slice ao n c] w' (fun e w'' => ∃ ra rc, e = .returned (.tuple #[.agg (bodyC F (.slice ra rs.length rc)).toArray, .int .i64 0]) ∧ Below w'.heap.size w' w'') by rw [HF.out]; exact (hpb w' hb).out.mono (by rintro e w'' ⟨ra, rc, h1, _, _, h2⟩; exact ⟨ra, rc, h1, h2⟩))
 clear hpb
 obtain ⟨ZS, HZS⟩ := hidE zSum
 have hZSl : ZS.length = 32 := by rw [HZS.out]; rfl
 have hst := fun (w' : World) (h : RsOk w' g mm mk mv) => hid (⟨(rs_cells rfl rfl h.blk).1, (rs_cells rfl rfl h.blk).2.1, rs_last h.blk, (rs_cells rfl rfl h.blk).2.2.2.1, (rs_cells rfl rfl h.blk).2.2.2.2.1⟩ : w'.cell? ⟨g, 0, none⟩ = some (.int .i64 0) ∧ w'.cell? ⟨g, 1, none⟩ = some (.int .i64 0) ∧ At w' ⟨g, 2, none⟩ zSum ∧ w'.cell? ⟨g, 51, none⟩ = some (.map (some mm)) ∧ w'.cell? ⟨g, 52, none⟩ = some (.map (some mk)))
 rw [← HZS.out] at hprv hes hst
 have hbi := hid builtID0
 obtain ⟨ZI, HZI⟩ := hidE zID
 have hZIl : ZI.length = 16 := by rw [HZI.out]; rfl
 have HZV : Hid (Value.agg ZI.toArray = idV (List.replicate 16 0)) := hid (by rw [HZI.out]; rfl)
 rw [← HZI.out] at hkey hzz hbi
 have hzb := hid zeroBody
 have HZB : Hid ((bodyC zID (.slice none 0 0)).length = 58) := hid (bodyC_len rfl)
 obtain ⟨ZB, HZBB⟩ := hidE (bodyC zID (.slice none 0 0))
 rw [← HZBB.out] at HZB hzb
 have hKl : keyZ.length = 84 := by rfl
 have hK1 : ∀ u ∈ keyZ, u.oneCell' = true := by decide
 have hzk := hid zeroKeySt
 obtain ⟨KZ, HKZ⟩ := hidE keyZ
 have hzKS := hid zeroKeyS
 rw [← HKZ.out] at hKl hK1 hzk hzKS
 have hiF : (Tryz.prog.info? 25).map (·.size) = some F.length := by rw [hFl]; exact aggIDT.2
 have hiZI : (Tryz.prog.info? 25).map (·.size) = some ZI.length := by rw [hZIl]; exact aggIDT.2
 have hiZS : (Tryz.prog.info? 39).map (·.size) = some ZS.length := by rw [hZSl]; exact aggSumT.2
 obtain ⟨B, hsz⟩ := szE w
 rw [hsz] at hee hmf hSb hpb2 ⊢
 clear h h0 hS
 go_enter Tryz.func95, Tryz.ntmps95
 go_wp2_with (first
  | (refine wl_storeV rfl 42 _ _ rfl 42 X rfl YS rfl 58 aggBody hYl ZB hY5 HZB.out hY1 ?_; intro w6 hY6 hb6 hs6; have hE6 := hE5.below hb6 (by omega); have bb6 : Below B w w6 := bb5.trans (hb6.mono (by omega)))
  | (obtain ⟨X, HX⟩ := hidE w4.heap.size; have hBX : B < X := (by rw [HX.out]; exact hE4.lt); refine wl_allocV rfl 42 rfl ZB hzb.out X HX.out.symm ?_; intro w5 hY5 hb5 hs5; have hE5 := hE4.below hb5 (by omega); have bb5 : Below B w w5 := bb4.trans (hb5.mono (by omega)))
  | (go_at_call 96; refine (hpb2 w3 bb3).out.mono ?_; rintro e w4 ⟨ra, rc, rfl, hb4⟩; have hE4 := hE3.below hb4 hE3.lt; have bb4 : Below B w w4 := bb3.trans (hb4.mono (by have := hE3.lt; omega)); have hYl := (HCL (.slice ra rs.length rc)).out; have hY1 := (HC1 (.slice ra rs.length rc) rfl).out; have hmf2 := hmf (.slice ra rs.length rc); have hmem2 := hmem (.slice ra rs.length rc); obtain ⟨YS, HYS⟩ := hidE (bodyC F (.slice ra rs.length rc)); rw [← HYS.out] at hYl hY1 hmf2; (rw [← HYS.out] at hmem2); rw [← HYS.out])
  | (go_at_call 89; refine (hee w1 bb1).out.mono ?_; rintro e w3 ⟨rfl, hb3⟩; have hE3 := hE1.below hb3 hE1.lt; have bb3 : Below B w w3 := bb1.trans (hb3.mono (by omega)); obtain ⟨c0, c1, c2, c67⟩ := (hcells _ _ hE3).out)
  | (refine wl_loadG (by rfl) 83 _ rfl ⟨B, 0, none⟩ rfl 68 CS hCl aggEntry hE1.at0 ?_)
  | (refine wl_boxV rfl 83 _ rfl CS rfl B hsz ?_; intro w1 hE1 bb1 hs1))
 have hRw6 : RF w B X CS YS w6 := ⟨hE6, hY6, bb6, hBX⟩
 have hs6X : X < w6.heap.size := hY6.lt
 clear hE1 hE3 hE4 hE5 hE6 hY5 hY6 bb1 bb3 bb4 bb5 bb6 hb3 hb4 hb5 hb6 c0 c1 c2 c67 hee hpb2 HCL HC1
 have hSS : ∀ w', RF w B X CS YS w' → (fun w' => w'.cell? ⟨B, 0, none⟩ = some (.int .i64 0) ∧ w'.cell? ⟨B, 1, none⟩ = some (.int .i64 t) ∧ w'.rangeAt B 3 F ∧ w'.rangeAt B 19 ZI ∧ w'.rangeAt B 35 ZS ∧ w'.cell? ⟨g, 0, none⟩ = some (.int .i64 0) ∧ w'.cell? ⟨g, 1, none⟩ = some (.int .i64 0) ∧ w'.rangeAt g 2 ZS ∧ w'.cell? ⟨g, 51, none⟩ = some (.map (some mm)) ∧ w'.cell? ⟨g, 52, none⟩ = some (.map (some mk)) ∧ MapD w' mm (fun _ => none) ∧ MapD w' mk (fun _ => none)) w' := fun w' h => by
  have h1 := (hst w' (hSb w' h.bel).out).out
  have he := (hcells _ _ h.ent).out
  exact ⟨he.1, he.2.1, at_range (hact _ _ h.ent).out, at_range (hkey _ _ h.ent).out, at_range (hprv _ _ h.ent).out, h1.1, h1.2.1, at_range h1.2.2.1, h1.2.2.2.1, h1.2.2.2.2, (hSb w' h.bel).out.mem, (hSb w' h.bel).out.keys⟩
 refine wp_region_held_drew (S := fun w' => w'.cell? ⟨B, 0, none⟩ = some (.int .i64 0) ∧ w'.cell? ⟨B, 1, none⟩ = some (.int .i64 t) ∧ w'.rangeAt B 3 F ∧ w'.rangeAt B 19 ZI ∧ w'.rangeAt B 35 ZS ∧ w'.cell? ⟨g, 0, none⟩ = some (.int .i64 0) ∧ w'.cell? ⟨g, 1, none⟩ = some (.int .i64 0) ∧ w'.rangeAt g 2 ZS ∧ w'.cell? ⟨g, 51, none⟩ = some (.map (some mm)) ∧ w'.cell? ⟨g, 52, none⟩ = some (.map (some mk)) ∧ MapD w' mm (fun _ => none) ∧ MapD w' mk (fun _ => none)) (by kernel_rfl) (hSS _ hRw6.drew) (fun hHeld => ?_)
 obtain ⟨x1, HXx1⟩ := hidE w6.drew
 rw [← HXx1.out] at hHeld ⊢
 have hRx1 : RF w B X CS YS x1 := by rw [HXx1.out]; exact hRw6.drew
 clear hRw6
 refine tq 0 rfl ?_
 refine tq 1 rfl ?_
 refine tq 2 rfl ?_
 refine tq 3 rfl ?_
 refine tq 4 rfl ?_
 refine tk 5 rfl (yieldsIf_load_mid (by rfl) 25 _ rfl B 3 rfl F _ (fun w hS => hS.2.2.1) Tryz.underlying25 rfl hiF) ?_
 refine tk 6 rfl (yieldsIf_lookD (by rfl) _ 26 _ _ true rfl (by kernel_rfl) (.slice none 0 0) zeroRoles mm (fun _ => none) (fun w hS => hS.2.2.2.2.2.2.2.2.2.2.1) f hf (.agg F.toArray) HFI.out rfl rfl (.tuple #[(.slice none 0 0), .bool false]) rfl) ?_
 refine tq 7 rfl ?_
 refine tq 8 rfl ?_
 refine tq 9 rfl ?_
 refine tq 10 rfl ?_
 refine tq 11 rfl ?_
 refine wpAnyH_done (by kernel_rfl) ?_ _
 clear hHeld
 go_wp2_with fail
 refine wp_region_held_drew (S := fun w' => w'.cell? ⟨B, 0, none⟩ = some (.int .i64 0) ∧ w'.cell? ⟨B, 1, none⟩ = some (.int .i64 t) ∧ w'.rangeAt B 3 F ∧ w'.rangeAt B 19 ZI ∧ w'.rangeAt B 35 ZS ∧ w'.cell? ⟨g, 0, none⟩ = some (.int .i64 0) ∧ w'.cell? ⟨g, 1, none⟩ = some (.int .i64 0) ∧ w'.rangeAt g 2 ZS ∧ w'.cell? ⟨g, 51, none⟩ = some (.map (some mm)) ∧ w'.cell? ⟨g, 52, none⟩ = some (.map (some mk)) ∧ MapD w' mm (fun _ => none) ∧ MapD w' mk (fun _ => none)) (by kernel_rfl) (hSS _ hRx1.drew) (fun hHeld => ?_)
 obtain ⟨x2, HXx2⟩ := hidE x1.drew
 rw [← HXx2.out] at hHeld ⊢
 have hRx2 : RF w B X CS YS x2 := by rw [HXx2.out]; exact hRx1.drew
 clear hRx1
 refine tq 0 rfl ?_
 refine tq 1 rfl ?_
 refine tq 2 rfl ?_
 refine tq 3 rfl ?_
 refine tq 4 rfl ?_
 refine tq 5 rfl ?_
 refine tq 6 rfl ?_
 refine tq 7 rfl ?_
 refine wpAnyH_done (by kernel_rfl) ?_ _
 clear hHeld
 go_wp2_with fail
 refine wp_region_held_drew (S := fun w' => w'.cell? ⟨B, 0, none⟩ = some (.int .i64 0) ∧ w'.cell? ⟨B, 1, none⟩ = some (.int .i64 t) ∧ w'.rangeAt B 3 F ∧ w'.rangeAt B 19 ZI ∧ w'.rangeAt B 35 ZS ∧ w'.cell? ⟨g, 0, none⟩ = some (.int .i64 0) ∧ w'.cell? ⟨g, 1, none⟩ = some (.int .i64 0) ∧ w'.rangeAt g 2 ZS ∧ w'.cell? ⟨g, 51, none⟩ = some (.map (some mm)) ∧ w'.cell? ⟨g, 52, none⟩ = some (.map (some mk)) ∧ MapD w' mm (fun _ => none) ∧ MapD w' mk (fun _ => none)) (by kernel_rfl) (hSS _ hRx2.drew) (fun hHeld => ?_)
 obtain ⟨x3, HXx3⟩ := hidE x2.drew
 rw [← HXx3.out] at hHeld ⊢
 have hRx3 : RF w B X CS YS x3 := by rw [HXx3.out]; exact hRx2.drew
 clear hRx2
 refine tq 0 rfl ?_
 refine tk 1 rfl (yieldsIf_load_mid (by rfl) 39 _ rfl B 35 rfl ZS _ (fun w hS => hS.2.2.2.2.1) Tryz.underlying39 rfl hiZS) ?_
 refine tq 2 rfl ?_
 refine tq 3 rfl ?_
 refine tq 4 rfl ?_
 refine tk 5 rfl (yieldsIf_load_mid (by rfl) 39 _ rfl g 2 rfl ZS _ (fun w hS => hS.2.2.2.2.2.2.2.1) Tryz.underlying39 rfl hiZS) ?_
 refine tk 6 rfl (yieldsIf_neM (by rfl) 39 _ _ _ rfl ZS.toArray ZS.toArray rfl rfl true (fun w => hes.out w) (by kernel_rfl)) ?_
 refine tq 7 rfl ?_
 refine wpAnyH_done (by kernel_rfl) ?_ _
 clear hHeld
 go_wp2_with fail
 refine wp_region_held_drew (S := fun w' => w'.cell? ⟨B, 0, none⟩ = some (.int .i64 0) ∧ w'.cell? ⟨B, 1, none⟩ = some (.int .i64 t) ∧ w'.rangeAt B 3 F ∧ w'.rangeAt B 19 ZI ∧ w'.rangeAt B 35 ZS ∧ w'.cell? ⟨g, 0, none⟩ = some (.int .i64 0) ∧ w'.cell? ⟨g, 1, none⟩ = some (.int .i64 0) ∧ w'.rangeAt g 2 ZS ∧ w'.cell? ⟨g, 51, none⟩ = some (.map (some mm)) ∧ w'.cell? ⟨g, 52, none⟩ = some (.map (some mk)) ∧ MapD w' mm (fun _ => none) ∧ MapD w' mk (fun _ => none)) (by kernel_rfl) (hSS _ hRx3.drew) (fun hHeld => ?_)
 obtain ⟨x4, HXx4⟩ := hidE x3.drew
 rw [← HXx4.out] at hHeld ⊢
 have hRx4 : RF w B X CS YS x4 := by rw [HXx4.out]; exact hRx3.drew
 clear hRx3
 refine tq 0 rfl ?_
 refine tq 1 rfl ?_
 refine tq 2 rfl ?_
 refine tq 3 rfl ?_
 refine tq 4 rfl ?_
 refine tq 5 rfl ?_
 refine tq 6 rfl ?_
 refine tq 7 rfl ?_
 refine wpAnyH_done (by kernel_rfl) ?_ _
 clear hHeld
 obtain ⟨s0, s1, s2, s51, s52⟩ := (hst _ (hSb _ hRx4.bel).out).out
 obtain ⟨c0, c1, c2, c67⟩ := (hcells _ _ hRx4.ent).out
 have hact4 := (hact _ _ hRx4.ent).out
 have hmem4 := (hmem2 _ _ hRx4.bod).out
 go_wp2_with (first
  | (go_at_call 167; refine (Contains6 A y1 hA1).mono ?_; rintro e y2 ⟨rfl, rfl⟩)
  | (obtain ⟨A, HA⟩ := hidE x4.heap.size; refine wl_lit rfl 150 3 6 _ rfl Tryz.underlying150 (.int .i64 0) 1 8 infoIn (by decide) (by decide) [.int .i64 1, .int .i64 2, .int .i64 3, .int .i64 8, .int .i64 11, .int .i64 12] (by kernel_rfl) A HA.out.symm ?_; intro y1 hA1 hbA hsA; have hRy1 := hRx4.step hbA (by rw [HA.out]; exact hRx4.bod.lt); clear c0 c1 c2 c67 s0 s1 s2 s51 s52; obtain ⟨c0, c1, c2, c67⟩ := (hcells _ _ hRy1.ent).out)
  | (refine wl_neqD 87 rfl (by kernel_rfl) 25 _ _ _ rfl F.toArray F.toArray rfl rfl true (heq.out _) (by kernel_rfl) false rfl ?_)
  | (refine wl_loadG (by rfl) 25 _ rfl ⟨B, 3, none⟩ rfl 16 F hFl aggIDT hact4 ?_)
  | (refine wl_loadG (by rfl) 25 _ rfl ⟨X, 1, none⟩ rfl 16 F hFl aggIDT hmem4 ?_))
 clear hact4 hmem4 c0 c1 c2 c67 hRx4
 refine wp_region_held_drew (S := fun w' => w'.cell? ⟨B, 0, none⟩ = some (.int .i64 0) ∧ w'.cell? ⟨B, 1, none⟩ = some (.int .i64 t) ∧ w'.rangeAt B 3 F ∧ w'.rangeAt B 19 ZI ∧ w'.rangeAt B 35 ZS ∧ w'.cell? ⟨g, 0, none⟩ = some (.int .i64 0) ∧ w'.cell? ⟨g, 1, none⟩ = some (.int .i64 0) ∧ w'.rangeAt g 2 ZS ∧ w'.cell? ⟨g, 51, none⟩ = some (.map (some mm)) ∧ w'.cell? ⟨g, 52, none⟩ = some (.map (some mk)) ∧ MapD w' mm (fun _ => none) ∧ MapD w' mk (fun _ => none)) (by kernel_rfl) (hSS _ hRy1.drew) (fun hHeld => ?_)
 obtain ⟨x, HX5⟩ := hidE y1.drew
 rw [← HX5.out] at hHeld ⊢
 have hR : RF w B X CS YS x := by rw [HX5.out]; exact hRy1.drew
 clear hRy1 hA1 hbA hsA
 repeat' (first
  | ((with_reducible refine isEff ?_); first
   | (obtain ⟨K, HK⟩ := hidE x.heap.size; have hXK : X < K := (by rw [HK.out]; exact hR.bod.lt); refine step_allocV rfl 70 rfl KZ hzk.out K HK.out.symm ?_; intro x hK hb hsz2; have hR := hR.step hb hXK; refine hK'.out _ _ (hSS _ hR) (fun hHeld => ?_); clear hK' K'; (try simp only [Act.put, fpA, fpZ, fpN]))
   | (refine step_storeV rfl 70 _ _ rfl 70 K rfl KZ rfl 84 aggKeyS hKl KZ hK hKl hK1 ?_; intro x hK hb hsz2; have hR := hR.step hb hXK; refine hK'.out _ _ (hSS _ hR) (fun hHeld => ?_); clear hK' K'; (try simp only [Act.put, fpA, fpZ, fpN])))
  | ((with_reducible refine isAny ?_); first
   | refine tq 0 rfl ?_ (by decide +kernel)
   | refine tq 1 rfl ?_ (by decide +kernel)
   | refine tq 2 rfl ?_ (by decide +kernel)
   | refine tq 3 rfl ?_ (by decide +kernel)
   | refine tq 4 rfl ?_ (by decide +kernel)
   | refine tk 5 rfl (yieldsIf_load_mid (by rfl) 25 _ rfl B 19 rfl ZI _ (fun w hS => hS.2.2.2.1) Tryz.underlying25 rfl hiZI) ?_ (by decide +kernel)
   | refine tk 6 rfl (yieldsIf_lookD (by rfl) _ 70 _ _ true rfl (by kernel_rfl) (.agg KZ.toArray) hzKS.out mk (fun _ => none) (fun w hS => hS.2.2.2.2.2.2.2.2.2.2.2) (List.replicate 16 0) (by simp) (.agg ZI.toArray) HZV.out rfl rfl (.tuple #[(.agg KZ.toArray), .bool false]) rfl) ?_ (by decide +kernel)
   | refine tq 7 rfl ?_ (by decide +kernel)
   | refine tq 8 rfl ?_ (by decide +kernel)
   | refine tq 9 rfl ?_ (by decide +kernel)
   | refine tq 12 rfl ?_ (by decide +kernel)
   | refine wpAnyH_ready (rs := [10]) (by decide +kernel) (by simp) (cons_l rfl (fun K' hK' => ?_) AllReadyH.nil)
   | refine wpAnyH_ready (rs := [11]) (by decide +kernel) (by simp) (cons_l rfl (fun K' hK' => ?_) AllReadyH.nil)))
 refine wpAnyH_done (by kernel_rfl) ?_ _
 clear hHeld
 obtain ⟨c0, c1, c2, c67⟩ := (hcells _ _ hR.ent).out
 have hkey5 := (hkey _ _ hR.ent).out
 have hEx := hR.ent
 have hYx := hR.bod
 have bbx := hR.bel
 go_wp2_with (first
  | (go_at_call 168; refine (hmf2 x bbx).out.mono ?_; rintro e z ⟨rfl, hbz⟩)
  | (refine wl_loadG (by rfl) 42 _ rfl ⟨X, 0, none⟩ rfl 58 YS hYl aggBody hYx.at0 ?_)
  | (refine wl_loadG (by rfl) 83 _ rfl ⟨B, 0, none⟩ rfl 68 CS hCl aggEntry hEx.at0 ?_)
  | (refine wl_neqD 151 rfl (by kernel_rfl) 25 _ _ _ rfl ZI.toArray ZI.toArray rfl rfl true (hzz.out _) (by kernel_rfl) false rfl ?_)
  | (refine wl_build0G (by kernel_rfl) 25 rfl ZI hbi.out ?_)
  | (refine wl_loadG (by kernel_rfl) 25 _ rfl ⟨B, 19, none⟩ rfl 16 ZI hZIl aggIDT hkey5 ?_))
 go_ret
 exact ⟨rfl, bbx.trans (hbz.mono (by have := hEx.lt; omega))⟩
end Go.Proofs.YtdhipjoplkpgmaaGreatDoor.hf
