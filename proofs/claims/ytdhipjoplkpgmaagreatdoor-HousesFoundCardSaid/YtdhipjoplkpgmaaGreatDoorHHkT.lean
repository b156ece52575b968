/-
  HousesFound: House.Head and House.SealedHead of a founded house. Conditions: octets; the time in range. HousesFound, the reference: contracts of keyref1's Leaf, Root of one leaf, SealBy, Time, Keys of a founded state. Conditions: octets; texts of at most 2^20 octets. HousesFound, the reference: contracts of keyref1's PrintHead and SealHead at one entry. Conditions: octets; the time in range. HousesFound, the reference: contracts of keyref1.SealHead, Leaves, HeadOf, House.Octets at one entry. Conditions: such a house. HousesFound, the reference: contracts of House.Octets, keyref1.Leaves, HeadOf at one entry. Conditions: such a house. HousesFound, the reference: contract of keyref1.HeadOf at one entry. Conditions: such a row. HousesFound, the reference: contract of State.Members of a founded state. Conditions: such a state. HousesFound, the reference: contract of House.Held without keys; laws for adding strings. Conditions: short strings.
-/
import Derived.Test.YtdhipjoplkpgmaaGreatDoorHHkK
import Derived.Test.YtdhipjoplkpgmaaGreatDoorHHgL
set_option maxRecDepth 100000
set_option linter.unusedSimpArgs false
set_option linter.unusedVariables false
set_option maxHeartbeats 16000000
namespace Go.Proofs.YtdhipjoplkpgmaaGreatDoor.hf
open Go.RowKit st hs wr shr sh lk
theorem results_cells2 {fn : Func} {c d : Tmp} {t u : TypeId} (h : fn.results = #[.cell c t, .cell d u]) (tmps : Array Value) (P : Program) (w : World) (p q : Addr) (hp : tmps.getD c undef = .pointer (some p)) (hq : tmps.getD d undef = .pointer (some q)) (cs ds : List Value) (ha : Agg P t cs.length) (hc : At w p cs) (hb : Agg P u ds.length) (hd : At w q ds) :
  (results fn tmps).run P w = .ok (.tuple #[.agg cs.toArray, .agg ds.toArray]) w := by
 rw [Array.getD_eq_getD_getElem?] at hp hq
 simp [results, h, hp, hq, run_load_agg w t p cs ha hc, run_load_agg w u q ds hb hd, asAddr]
theorem LedOk.below {w w' : World} {L B : Nat} {t : Int} {E S : List Int} (k : LedOk w L B t E S) (hb : Below w.heap.size w w') : LedOk w' L B t E S := by
 obtain ⟨oa, oc, ea, ec, la, lc, h1, h2, h3, h4, h5, h6⟩ := k.rows
 exact ⟨oa, oc, ea, ec, la, lc, h1.below hb h1.lt, h2.below hb, h3, h4.below hb, h5.below hb, h6⟩
def headV (t : Int) (S Rt : List Int) : List Value := hdC 1 t (S.map (Value.int .u8)) (Rt.map (Value.int .u8))
theorem HouseHead_ok (h g L ms B0 : Nat) (R : List Value) (hR : R.length = 32) (t : Int) (E S : List Int) (hS : S.length = 32) (w : World) (hH : BlkV 81 w h (houC R g L ms)) (hL : LedOk w L B0 t E S) :
  Calls Tryz.prog 19 #[.pointer (some ⟨h, 0, none⟩)] w fun e w' => e = .returned (.agg (headV t S (sumL 1 E)).toArray) ∧ Below w.heap.size w w' := by
 have hlh := fun (w' : World) (hb : Below w.heap.size w w') => hid (LHead_ok L B0 t E S hS w' (hL.below hb))
 have hHc := fun (w' : World) (k : BlkV 81 w' h (houC R g L ms)) => hid (hou_cells hR k)
 obtain ⟨HC, HHC⟩ := hidE (houC R g L ms)
 rw [← HHC.out] at hHc hH
 have hSl : (S.map (Value.int .u8)).length = 32 := by rw [List.length_map, hS]
 have hRl : ((sumL 1 E).map (Value.int .u8)).length = 32 := by rw [List.length_map, sumL_length]
 have hCl := hdC_len (n := 1) (t := t) hSl hRl
 have hC1 := hdC_one (n := 1) (t := t) (ints_one .u8 S) (ints_one .u8 (sumL 1 E))
 unfold headV
 obtain ⟨CS, HCS⟩ := hidE (hdC 1 t (S.map (Value.int .u8)) ((sumL 1 E).map (Value.int .u8)))
 rw [← HCS.out] at hCl hC1 hlh ⊢
 have hzh := hid zeroHead
 have hZHl : hdZ.length = 66 := rfl
 obtain ⟨ZH, HZH⟩ := hidE hdZ
 rw [← HZH.out] at hzh hZHl
 have hhw := hH.lt
 obtain ⟨B, hsz⟩ := szE w
 rw [hsz] at hlh hhw ⊢
 go_enter Tryz.func19, Tryz.ntmps19
 go_wp2_with (first
  | (refine wl_storeV rfl 52 _ _ rfl 52 B rfl CS rfl 66 aggHead hCl ZH hX2 hZHl hC1 ?_; intro w3 hX3 hb3 hs3; have bb3 : Below B w w3 := bb2.trans (hb3.mono (by omega)))
  | (go_at_call 52; refine (hlh w1 bb1).out.mono ?_; rintro e w2 ⟨rfl, hb2⟩; have hX2 := hX1.below hb2 hX1.lt; have bb2 : Below B w w2 := bb1.trans (hb2.mono (by omega)))
  | (refine wl_allocV rfl 52 rfl ZH hzh.out B hsz ?_; intro w1 hX1 bb1 hs1; have hH1 := hH.below bb1 hhw; have hcc := ((hHc _ hH1).out).2.1))
 (try simp only [Exit.inBlock, Exit.then]); refine bodyPost_ret (results_cell rfl _ _ _ _ rfl CS (by rw [hCl]; exact aggHead) hX3.at0) rfl ?_
 exact ⟨rfl, bb3⟩
structure QF (w : World) (B X h : Nat) (HC CS ZH Z : List Value) (x : World) : Prop where
 hou : BlkV 81 x h HC
 hd : BlkV 52 x X CS
 r1 : BlkV 52 x B ZH
 r2 : BlkV 54 x (B + 1) Z
 bel : Below B w x
 lt : h < B
 xb : B + 2 ≤ X
theorem QF.drew {w x : World} {B X h : Nat} {HC CS ZH Z : List Value} (k : QF w B X h HC CS ZH Z x) : QF w B X h HC CS ZH Z x.drew := ⟨k.hou, k.hd, k.r1, k.r2, k.bel.drew, k.lt, k.xb⟩
theorem QF.step {w x x' : World} {B X h : Nat} {HC CS ZH Z : List Value} (k : QF w B X h HC CS ZH Z x) {M : Nat} (hb : Below M x x') (hM : X < M) : QF w B X h HC CS ZH Z x' := by
 have h1 := k.lt
 have h2 := k.xb
 exact ⟨k.hou.below hb (by omega), k.hd.below hb hM, k.r1.below hb (by omega), k.r2.below hb (by omega), k.bel.trans (hb.mono (by omega)), k.lt, k.xb⟩
def hsealL (k : List Int) (t : Int) (S Rt : List Int) : List Int := sealL (hkL k) (sumL 6 (headL t S Rt))
theorem SealedHead_ok (h g L ms B0 : Nat) (k : List Int) (hk : k.length = 32) (ok : Octs k) (t : Int) (ht0 : 0 ≤ t) (ht1 : t ≤ 1099511627776) (E S : List Int) (hS : S.length = 32) (oS : Octs S) (w : World) (hH : BlkV 81 w h (houC (k.map (Value.int .u8)) g L ms)) (hL : LedOk w L B0 t E S) :
  Calls Tryz.prog 13 #[.pointer (some ⟨h, 0, none⟩)] w fun e w' => e = .returned (.tuple #[.agg (headV t S (sumL 1 E)).toArray, .agg ((hsealL k t S (sumL 1 E)).map (Value.int .u8)).toArray]) ∧ Below w.heap.size w w' := by
 have hKl : (k.map (Value.int .u8)).length = 32 := by rw [List.length_map, hk]
 have hhd := fun (w' : World) (hb : Below w.heap.size w w') => hid (HouseHead_ok h g L ms B0 (k.map (Value.int .u8)) hKl t E S hS w' (hH.below hb hH.lt) (hL.below hb))
 have hrt := fun (w' : World) (q : BlkV 81 w' h (houC (k.map (Value.int .u8)) g L ms)) => hid (hou_root q)
 have hky := fun w' => hid (headKey_ok k hk ok w')
 have hsh := fun w' => hid (SealHead_ok (hkL k) (hkL_len k) (hkL_octs k) t ht0 ht1 S (sumL 1 E) hS oS (sumL_length _ _) (sumL_octs _ _) w')
 rw [show sealL (hkL k) (sumL 6 (headL t S (sumL 1 E))) = hsealL k t S (sumL 1 E) from rfl, show hdC 1 t (S.map (Value.int .u8)) ((sumL 1 E).map (Value.int .u8)) = headV t S (sumL 1 E) from rfl] at hsh
 have hEl : ((hsealL k t S (sumL 1 E)).map (Value.int .u8)).length = 64 := by rw [List.length_map]; exact sealL_length _ _
 have hE1 := ints_one .u8 (hsealL k t S (sumL 1 E))
 obtain ⟨EV, HEV⟩ := hidE ((hsealL k t S (sumL 1 E)).map (Value.int .u8))
 rw [← HEV.out] at hsh hEl hE1 ⊢
 have hCl : (headV t S (sumL 1 E)).length = 66 := hdC_len (n := 1) (t := t) (by rw [List.length_map, hS]) (by rw [List.length_map, sumL_length])
 have hC1 : ∀ u ∈ headV t S (sumL 1 E), u.oneCell' = true := hdC_one (n := 1) (t := t) (ints_one .u8 S) (ints_one .u8 (sumL 1 E))
 obtain ⟨CS, HCS⟩ := hidE (headV t S (sumL 1 E))
 rw [← HCS.out] at hCl hC1 hhd hsh ⊢
 obtain ⟨HC, HHC⟩ := hidE (houC (k.map (Value.int .u8)) g L ms)
 rw [← HHC.out] at hrt hH
 obtain ⟨KV, HKV⟩ := hidE (k.map (Value.int .u8))
 rw [← HKV.out] at hKl hky hrt
 obtain ⟨JV, HJV⟩ := hidE ((hkL k).map (Value.int .u8))
 rw [← HJV.out] at hky hsh
 have hzh := hid zeroHead
 have hZHl : hdZ.length = 66 := rfl
 obtain ⟨ZH, HZH⟩ := hidE hdZ
 rw [← HZH.out] at hzh hZHl
 have hz := hid zeroSeal
 have hZl : slZ.length = 64 := by simp [slZ]
 obtain ⟨Z, HZ⟩ := hidE slZ
 rw [← HZ.out] at hz hZl
 have hiK : (Tryz.prog.info? 23).map (·.size) = some KV.length := by rw [hKl]; exact aggKey32.2
 have hiH : (Tryz.prog.info? 52).map (·.size) = some CS.length := by rw [hCl]; exact aggHead.2
 have hiE : (Tryz.prog.info? 54).map (·.size) = some EV.length := by rw [hEl]; exact aggSeal.2
 have hhw := hH.lt
 obtain ⟨B, hsz⟩ := szE w
 rw [hsz] at hhd hhw ⊢
 clear hk ok ht0 ht1 hS oS hL
 go_enter Tryz.func13, Tryz.ntmps13
 go_wp2_with (first
  | (refine wl_storeV rfl 52 _ _ rfl 52 X rfl CS rfl 66 aggHead hCl ZH hX4 hZHl hC1 ?_; intro w5 hX5 hb5 hs5; have hA5 := hA4.below hb5 (by omega); have hD5 := hD4.below hb5 (by omega); have bb5 : Below B w w5 := bb4.trans (hb5.mono (by omega)))
  | (obtain ⟨X, HX⟩ := hidE w3.heap.size; have hXB : B + 2 ≤ X := (by rw [HX.out]; exact hD3.lt); refine wl_allocV rfl 52 rfl ZH hzh.out X HX.out.symm ?_; intro w4 hX4 hb4 hs4; have hA4 := hA3.below hb4 (by omega); have hD4 := hD3.below hb4 (by omega); have bb4 : Below B w w4 := bb3.trans (hb4.mono (by omega)))
  | (go_at_call 19; refine (hhd w2 bb2).out.mono ?_; rintro e w3 ⟨rfl, hb3⟩; have hA3 := hA2.below hb3 hA2.lt; have hD3 := hD2.below hb3 hD2.lt; have bb3 : Below B w w3 := bb2.trans (hb3.mono (by have := hA2.lt; omega)))
  | (refine wl_allocV rfl 54 rfl Z hz.out (B + 1) (by omega) ?_; intro w2 hD2 hb2 hs2; have hA2 := hA1.below hb2 (by omega); have bb2 : Below B w w2 := bb1.trans (hb2.mono (by omega)))
  | (refine wl_allocV rfl 52 rfl ZH hzh.out B hsz ?_; intro w1 hA1 bb1 hs1))
 have hQ5 : QF w B X h HC CS ZH Z w5 := ⟨hH.below bb5 hhw, hX5, hA5, hD5, bb5, hhw, hXB⟩
 clear hA1 hA2 hA3 hA4 hA5 hD2 hD3 hD4 hD5 hX4 hX5 bb1 bb2 bb3 bb4 bb5 hb2 hb3 hb4 hb5 hH
 have hSS : ∀ w', QF w B X h HC CS ZH Z w' → (fun w' => w'.rangeAt h 0 KV ∧ w'.rangeAt X 0 CS) w' := fun w' q => ⟨at_range (hrt w' q.hou).out, at_range q.hd.at0⟩
 refine wp_region_held_drew (S := fun w' => w'.rangeAt h 0 KV ∧ w'.rangeAt X 0 CS) (by kernel_rfl) (hSS _ hQ5.drew) (fun hHeld => ?_)
 obtain ⟨x, HX0⟩ := hidE w5.drew
 rw [← HX0.out] at hHeld ⊢
 have hQ : QF w B X h HC CS ZH Z x := by rw [HX0.out]; exact hQ5.drew
 clear hQ5
 repeat' (first
  | ((with_reducible refine isEff ?_); first
   | (refine step_storeV rfl 54 _ _ rfl 54 Y rfl EV rfl 64 aggSeal hEl Z hY hZl hE1 ?_; intro x hY hb hs; have hQ := hQ.step hb hYQ; clear hb; refine hK'.out _ _ (hSS _ hQ) (fun hHeld => ?_); clear hK' K'; (try simp only [Act.put, fpA, fpZ, fpN]))
   | (obtain ⟨Y, HY⟩ := hidE x.heap.size; refine step_allocV rfl 54 rfl Z hz.out Y HY.out.symm ?_; intro x hY hb hs; have hYQ : X < Y := (by rw [HY.out]; exact hQ.hd.lt); have hQ := hQ.step hb hYQ; clear hb hs; refine hK'.out _ _ (hSS _ hQ) (fun hHeld => ?_); clear hK' K'; (try simp only [Act.put, fpA, fpZ, fpN]))
   | (rw [if_pos (by rfl)]; go_simp; go_at_call 42; refine (hky x).out.mono ?_; rintro e x ⟨rfl, hb⟩; have hQ := hQ.step hb hQ.hd.lt; (try have hY := hY.below hb hY.lt); clear hb; refine hK'.out _ _ (hSS _ hQ) (fun hHeld => ?_); clear hK' K'; (try simp only [Act.put, fpA, fpZ, fpN]))
   | (rw [if_pos (by rfl)]; go_simp; go_at_call 41; refine (hsh x).out.mono ?_; rintro e x ⟨rfl, hb⟩; have hQ := hQ.step hb hQ.hd.lt; (try have hY := hY.below hb hY.lt); clear hb; refine hK'.out _ _ (hSS _ hQ) (fun hHeld => ?_); clear hK' K'; (try simp only [Act.put, fpA, fpZ, fpN])))
  | ((with_reducible refine isAny ?_); first
   | refine tq 0 rfl ?_ (by decide +kernel)
   | refine tq 1 rfl ?_ (by decide +kernel)
   | refine tq 2 rfl ?_ (by decide +kernel)
   | refine tk 3 rfl (yieldsIf_load_mid (by rfl) 23 _ rfl h 0 rfl KV _ (fun w hS => hS.1) Tryz.underlying23 rfl hiK) ?_ (by decide +kernel)
   | refine tk 5 rfl (yieldsIf_load_mid (by rfl) 52 _ rfl X 0 rfl CS _ (fun w hS => hS.2) Tryz.underlying52 rfl hiH) ?_ (by decide +kernel)
   | refine tq 7 rfl ?_ (by decide +kernel)
   | refine tq 8 rfl ?_ (by decide +kernel)
   | refine tq 9 rfl ?_ (by decide +kernel)
   | refine tq 12 rfl ?_ (by decide +kernel)
   | refine wpAnyH_ready (rs := [4, 10]) (by decide +kernel) (by simp) (cons_l rfl (fun K' hK' => ?_) (cons_l rfl (fun K' hK' => ?_) AllReadyH.nil))
   | refine wpAnyH_ready (rs := [6, 10]) (by decide +kernel) (by simp) (cons_l rfl (fun K' hK' => ?_) (cons_l rfl (fun K' hK' => ?_) AllReadyH.nil))
   | refine wpAnyH_ready (rs := [10]) (by decide +kernel) (by simp) (cons_l rfl (fun K' hK' => ?_) AllReadyH.nil)
   | refine wpAnyH_ready (rs := [11]) (by decide +kernel) (by simp) (cons_l rfl (fun K' hK' => ?_) AllReadyH.nil)
   | refine wpAnyH_ready (rs := [6]) (by decide +kernel) (by simp) (cons_l rfl (fun K' hK' => ?_) AllReadyH.nil)
   | refine wpAnyH_ready (rs := [4]) (by decide +kernel) (by simp) (cons_l rfl (fun K' hK' => ?_) AllReadyH.nil)))
 all_goals (
  refine wpAnyH_done (by kernel_rfl) ?_ _
  clear hHeld hSS
  go_wp2_with fail
  have hSS : ∀ w', BlkV 52 w' X CS → BlkV 54 w' Y EV → (fun w' => w'.rangeAt X 0 CS ∧ w'.rangeAt Y 0 EV) w' := fun w' q q2 => ⟨at_range q.at0, at_range q2.at0⟩
  refine wp_region_held_drew (S := fun w' => w'.rangeAt X 0 CS ∧ w'.rangeAt Y 0 EV) (by kernel_rfl) (hSS _ hQ.drew.hd (show BlkV 54 x.drew Y EV from hY)) (fun hHeld => ?_)
  have hQ := hQ.drew
  have hY : BlkV 54 x.drew Y EV := hY
  obtain ⟨y, HY0⟩ := hidE x.drew
  rw [← HY0.out] at hHeld hQ hY ⊢
  refine tk 0 rfl (yieldsIf_load_mid (by rfl) 52 _ rfl X 0 rfl CS _ (fun w hS => hS.1) Tryz.underlying52 rfl hiH) ?_
  refine tk 1 rfl (yieldsIf_load_mid (by rfl) 54 _ rfl Y 0 rfl EV _ (fun w hS => hS.2) Tryz.underlying54 rfl hiE) ?_
  refine e1 2 rfl fun K' hK' => ?_
  have HDS : ZH.take 0 ++ CS ++ ZH.drop (0 + 66) = CS := by rw [List.drop_eq_nil_of_le (by omega)]; simp
  have HDE : Z.take 0 ++ EV ++ Z.drop (0 + 64) = EV := by rw [List.drop_eq_nil_of_le (by omega)]; simp
  have hxb := hQ.xb
  refine step_storeP rfl 52 _ _ rfl 52 B 0 rfl CS rfl 66 aggHead hCl ZH hQ.r1 (by omega) hC1 CS HDS ?_
  intro z hR1 hb1 hg1 hs1
  have hD1 := hQ.hd.grown hg1 (by intro e; injection e with e; omega)
  have hY1 := hY.grown hg1 (by intro e; injection e with e; omega)
  have hZ1 := hQ.r2.grown hg1 (by intro e; injection e with e; omega)
  have bb1 : Below B w z := hQ.bel.trans hb1
  clear hQ hY
  refine ko hK' (hSS _ hD1 hY1) fun hHeld => ?_
  clear hK' K'
  refine e1 3 rfl fun K' hK' => ?_
  refine step_storeP rfl 54 _ _ rfl 54 (B + 1) 0 rfl EV rfl 64 aggSeal hEl Z hZ1 (by omega) hE1 EV HDE ?_
  intro v hR2 hb2 hg2 hs2
  have hD2 := hD1.grown hg2 (by intro e; injection e with e; omega)
  have hY2 := hY1.grown hg2 (by intro e; injection e with e; omega)
  have hA2 := hR1.grown hg2 (by intro e; injection e with e; omega)
  have bb2 : Below B w v := bb1.trans (hb2.mono (by omega))
  refine ko hK' (hSS _ hD2 hY2) fun hHeld => ?_
  clear hK' K'
  refine wpAnyH_done (by kernel_rfl) ?_ _
  clear hHeld hSS
  go_wp2_with fail
  (try simp only [Exit.inBlock, Exit.then]); refine bodyPost_ret (results_cells2 rfl _ _ _ _ _ rfl rfl CS EV (by rw [hCl]; exact aggHead) hA2.at0 (by rw [hEl]; exact aggSeal) hR2.at0) rfl ?_
  exact ⟨rfl, bb2⟩
  )
end Go.Proofs.YtdhipjoplkpgmaaGreatDoor.hf
namespace Go.Proofs.YtdhipjoplkpgmaaGreatDoor.hf
open Go.RowKit st hs wr shr sh lk
theorem RefLeaf_ok (ao : Option Addr) (c n : Nat) (l : List Int) (w : World) (hn : n = l.length) (HP : Pt.Ok w ⟨ao, c, l⟩) (hno : ao = none → c = 0 ∧ n = 0) (hm : n ≤ 2097152) :
  Calls Tryz.prog 110 #[.slice ao n c] w fun e w' => e = .returned (.agg ((sumL 1 l).map (Value.int .u8)).toArray) ∧ Below w.heap.size w w' := by
 have hsu := fun (w' : World) (hb : Below w.heap.size w w') => hid (sumR 1 ⟨by decide, by decide⟩ ao c n l w' hn (HP.below hb) hno hm)
 have hSl : ((sumL 1 l).map (Value.int .u8)).length = 32 := by rw [List.length_map, sumL_length]
 have hS1 := ints_one .u8 (sumL 1 l)
 obtain ⟨SV, HSV⟩ := hidE ((sumL 1 l).map (Value.int .u8))
 rw [← HSV.out] at hsu hSl hS1 ⊢
 have hZ := hid zeroSumZ
 have hZl : zSum.length = 32 := rfl
 obtain ⟨Z, HZ⟩ := hidE zSum
 rw [← HZ.out] at hZ hZl
 obtain ⟨B, hsz⟩ := szE w
 rw [hsz] at hsu ⊢
 clear hn HP hno hm
 go_enter Tryz.func110, Tryz.ntmps110
 go_wp2_with (first
  | (refine wl_storeV rfl 39 _ _ rfl 39 B rfl SV rfl 32 aggSumT hSl Z hX2 hZl hS1 ?_; intro w3 hX3 hb3 hs3; have bb3 : Below B w w3 := bb2.trans (hb3.mono (by omega)))
  | (go_at_call 45; refine (hsu w1 bb1).out.mono ?_; rintro e w2 ⟨rfl, hb2⟩; have hX2 := hX1.below hb2 hX1.lt; have bb2 : Below B w w2 := bb1.trans (hb2.mono (by omega)))
  | (refine wl_allocV rfl 39 rfl Z hZ.out B hsz ?_; intro w1 hX1 bb1 hs1))
 (try simp only [Exit.inBlock, Exit.then]); refine bodyPost_ret (results_cell rfl _ _ _ _ rfl SV (by rw [hSl]; exact aggSumT) hX3.at0) rfl ?_
 exact ⟨rfl, bb3⟩
theorem RefRoot_one (b off c : Nat) (Rv : List Value) (hRv : Rv.length = 32) (h1 : ∀ u ∈ Rv, u.oneCell' = true) (w : World) (hb : b < w.heap.size) (hAt : At w ⟨b, off, none⟩ Rv) :
  Calls Tryz.prog 48 #[.slice (some ⟨b, off, none⟩) 1 c] w fun e w' => e = .returned (.agg Rv.toArray) ∧ Below w.heap.size w w' := by
 have hZ := hid zeroSumZ
 have hZl : zSum.length = 32 := rfl
 obtain ⟨Z, HZ⟩ := hidE zSum
 rw [← HZ.out] at hZ hZl
 obtain ⟨B, hsz⟩ := szE w
 rw [hsz] at hb ⊢
 go_enter Tryz.func48, Tryz.ntmps48
 go_wp2_with (first
  | (refine wl_storeV rfl 39 _ _ rfl 39 B rfl Rv rfl 32 aggSumT hRv Z hX1 hZl h1 ?_; intro w3 hX3 hb3 hs3; have bb3 : Below B w w3 := bb1.trans hb3)
  | (refine wl_loadG (by rfl) 39 _ rfl ⟨b, off, none⟩ rfl 32 Rv hRv aggSumT hAt1 ?_)
  | (refine wl_allocV rfl 39 rfl Z hZ.out B hsz ?_; intro w1 hX1 bb1 hs1; have hAt1 : At w1 ⟨b, off, none⟩ Rv := fun j u hu => (bb1.cell (p := (⟨b, off, none⟩ : Addr).add j) (by rw [addr_add]; exact hb)).trans (hAt j u hu)))
 (try simp only [Exit.inBlock, Exit.then]); refine bodyPost_ret (results_cell rfl _ _ _ _ rfl Rv (by rw [hRv]; exact aggSumT) hX3.at0) rfl ?_
 exact ⟨rfl, bb3⟩
theorem RefTime_ok (g mm mk mv : Nat) (cnt t : Int) (lv fv : List Value) (hlv : lv.length = 32) (hfv : fv.length = 16) (w : World) (hS : BlkV 92 w g (rsC cnt t lv fv mm mk mv)) :
  Calls Tryz.prog 22 #[.pointer (some ⟨g, 0, none⟩)] w fun e w' => e = .returned (.int .i64 t) ∧ w = w' := by
 have c1 := (rs_cells hlv hfv hS).2.1
 go_enter Tryz.func22, Tryz.ntmps22
 go_wp2
 go_ret
 exact ⟨rfl, rfl⟩
theorem RefSealBy_ok (k : List Int) (hk : k.length = 32) (ok : Octs k) (ao : Option Addr) (c n : Nat) (T : List Int) (oT : Octs T) (w : World) (hn : n = T.length) (HP : Pt.Ok w ⟨ao, c, T⟩) (hno : ao = none → c = 0) (hm : n ≤ 1000) :
  Calls Tryz.prog 54 #[.agg (k.map (Value.int .u8)).toArray, .slice ao n c] w fun e w' => e = .returned (.agg ((sealL k T).map (Value.int .u8)).toArray) ∧ Below w.heap.size w w' := by
 have hKl : (k.map (Value.int .u8)).length = 32 := by rw [List.length_map, hk]
 have hK1 := ints_one .u8 k
 have hKO := hid (octs_app ok oT)
 have hKT : Hid ((k ++ T).length = 32 + n) := hid (by rw [List.length_append, hk, ← hn])
 have hMap : Hid (k.map (Value.int .u8) ++ T.map (Value.int .u8) = (k ++ T).map (Value.int .u8)) := hid (by rw [List.map_append])
 have hTr := fun (w' : World) (hb : Below w.heap.size w w') => hid (HP.below hb).row.v
 have hTl : Hid ((T.map (Value.int .u8)).length = n * 1) := hid (by rw [List.length_map]; omega)
 have hT1 := hid (ints_one .u8 T)
 have hsta := fun (w' : World) (a : Option Addr) (c' : Nat) (h : Pt.Ok w' ⟨a, c', k ++ T⟩) (h2 : a = none → c' = 0 ∧ 32 + n = 0) => hid (stateR 9 ⟨by decide, by decide⟩ a c' (32 + n) (k ++ T) w' hKT.out.symm h h2 (by omega))
 have hsti := fun (w' : World) => hid (stirR (endL (hs.start 9) (k ++ T)) w' (endL_length _ _) (endL_octs _ _))
 rw [show stirL (endL (hs.start 9) (k ++ T)) = sealL k T from rfl] at hsti
 have hEl : ((sealL k T).map (Value.int .u8)).length = 64 := by rw [List.length_map, sealL_length]
 have hE1 := ints_one .u8 (sealL k T)
 obtain ⟨EV, HEV⟩ := hidE ((sealL k T).map (Value.int .u8))
 rw [← HEV.out] at hsti hEl hE1 ⊢
 obtain ⟨DV, HDV⟩ := hidE ((endL (hs.start 9) (k ++ T)).map (Value.int .u8))
 rw [← HDV.out] at hsti hsta
 obtain ⟨KV, HKV⟩ := hidE (k.map (Value.int .u8))
 rw [← HKV.out] at hKl hK1 hMap ⊢
 obtain ⟨TV, HTV⟩ := hidE (T.map (Value.int .u8))
 have hTr : ∀ (w' : World) (hb : Below w.heap.size w w'), RowV w' ao TV := fun w' hb => by rw [HTV.out]; exact (hTr w' hb).out
 rw [← HTV.out] at hTl hT1 hMap
 have hz := hid zeroSeal
 have hZl : slZ.length = 64 := by simp [slZ]
 obtain ⟨Z, HZ⟩ := hidE slZ
 rw [← HZ.out] at hz hZl
 have hal : Tryz.prog.arrayLen 23 = 32 := by kernel_rfl
 obtain ⟨B, hsz⟩ := szE w
 rw [hsz] at hTr ⊢
 clear hk ok hn HP oT
 have hcl := fun (w' : World) (h : BlkV 23 w' B KV) => hid (cloneB (some ⟨B, 0, none⟩) 32 32 KV w' (at_row h.lt h.at0) (by rw [hKl]) hK1 (fun e => by cases e) (by decide))
 go_enter Tryz.func54, Tryz.ntmps54
 go_wp2_with (first
  | (refine wl_storeV rfl 54 _ _ rfl 54 (B + 1) rfl EV rfl 64 aggSeal hEl Z hX6 hZl hE1 ?_; intro w7 hX7 hb7 hs7; have bb7 : Below B w w7 := bb6.trans (hb7.mono (by omega)))
  | (go_at_call 113; refine (hsti w5).out.mono ?_; rintro e w6 ⟨rfl, hb6⟩; have hX6 := hX5.below hb6 hX5.lt; have bb6 : Below B w w6 := bb5.trans (hb6.mono (by have := hX5.lt; omega)))
  | (go_at_call 106; refine (hsta w4 a4 c4 (mine_pt hM4 hKT.out.symm (by omega) hKO.out).1 (mine_pt hM4 hKT.out.symm (by omega) hKO.out).2).out.mono ?_; rintro e w5 ⟨rfl, hb5⟩; have hX5 := hX4.below hb5 hX4.lt; have bb5 : Below B w w5 := bb4.trans (hb5.mono (by have := hX4.lt; omega)))
  | (at_builtin; refine wl_append rfl _ _ 61 rfl 5 (.int .u8 0) 1 1 Tryz.underlying61 info8 rfl (by decide) (B + 2) v3 32 KV rfl (hM3.mono (by omega)) ao n c rfl hno TV hTl.out (hTr w3 bb3) hT1.out (by unfold maxLen; omega) (by omega) (by have := hX3.lt; omega) ?_; intro v4 w4 row4 hM4 hg4 hr4; rw [hMap.out] at hM4; obtain ⟨a4, c4, rfl, hc4, hrr4⟩ := hM4.row; have hb4 : Below (B + 2) w3 w4 := (Below.refl _ _).grown hg4 (by have := hX3.lt; omega) (fun k hk => (hr4 k hk).1); have hX4 := hX3.below hb4 (by omega); have bb4 : Below B w w4 := bb3.trans (hb4.mono (by omega)); clear hM3 hg4 hr4)
  | (go_at_call 44; refine (hcl w2 hK2).out.mono ?_; rintro e w3 ⟨v3, rfl, hM3, hb3⟩; have hX3 := hX2.below hb3 hX2.lt; have bb3 : Below B w w3 := bb2.trans (hb3.mono (by have := hX2.lt; omega)))
  | (refine wl_allocV rfl 54 rfl Z hz.out (B + 1) (by omega) ?_; intro w2 hX2 hb2 hs2; have hK2 := hK1'.below hb2 (by omega); have bb2 : Below B w w2 := bb1.trans (hb2.mono (by omega)))
  | (refine wl_boxV rfl 23 _ rfl KV rfl B hsz ?_; intro w1 hK1' bb1 hs1))
 (try simp only [Exit.inBlock, Exit.then]); refine bodyPost_ret (results_cell rfl _ _ _ _ rfl EV (by rw [hEl]; exact aggSeal) hX7.at0) rfl ?_
 exact ⟨rfl, bb7⟩
theorem RefKeys_ok (g mm mk mv : Nat) (cnt t : Int) (lv fv : List Value) (hlv : lv.length = 32) (hfv : fv.length = 16) (w : World) (hS : BlkV 92 w g (rsC cnt t lv fv mm mk mv)) (hK : MapD w mk (fun _ => none)) :
  Calls Tryz.prog 27 #[.pointer (some ⟨g, 0, none⟩)] w fun e w' => e = .returned (.slice none 0 0) ∧ Below w.heap.size w w' := by
 have c52 := (rs_cells hlv hfv hS).2.2.2.2.1
 obtain ⟨B, hsz⟩ := szE w
 rw [hsz]
 go_enter Tryz.func27, Tryz.ntmps27
 go_wp2_with (first
  | (at_range; refine wl_rangeD rfl 88 70 _ rfl Tryz.underlying88 mk _ hK rfl B hsz ?_; intro w1 cnt1 hI1 hb1 hs1))
 go_frame
 go_loopw [3] (fun o wr => ∃ (left : lk.Id → Prop) (k : Nat), o = .slice none 0 0 ∧ IterD wr mk B (fun _ => none) left k ∧ Below B w wr) (fun _ wr => wr.rangeLeft mk B)
 case atStart => exact ⟨_, _, rfl, hI1, hb1⟩
 case round =>
  obtain ⟨left, k, rfl, hIt, bb⟩ := hrel
  clear hI1 hb1 hs1
  go_wp2_with (first | (at_next; refine wl_nextD rfl _ rfl mk B (fun _ => none) left k rfl hIt ?_ ?_) | fail)
  intro hc0 hl0
  go_wp2_with (go_at_call 68; refine (SortFuncK none 0 0 _ wr (by decide)).mono ?_; rintro e w3 ⟨rfl, rfl⟩)
  go_ret
  exact ⟨rfl, bb⟩
end Go.Proofs.YtdhipjoplkpgmaaGreatDoor.hf
namespace Go.Proofs.YtdhipjoplkpgmaaGreatDoor.hf
open Go.RowKit st hs wr shr sh lk
theorem longP (v : Int) (x : World) : Calls Tryz.prog 46 #[.int .i64 v] x fun e x' => ∃ A, e = .returned (.slice (some ⟨A, 0, none⟩) 8 8) ∧ x.heap.size ≤ A ∧ Pt.Ok x' ⟨some ⟨A, 0, none⟩, 8, o8 v⟩ ∧ Below x.heap.size x x' := by
 refine (longR v x).mono ?_
 rintro e x' ⟨rfl, hA, hb⟩
 exact ⟨_, rfl, Nat.le_refl _, ptBlk hA (o8_octs _) (by rw [o8_length]; exact Nat.le_refl _) (by decide), hb⟩
structure HF (w : World) (B : Nat) (CS : List Value) (x : World) : Prop where
 hd : BlkV 52 x B CS
 bel : Below B w x
theorem HF.drew {w x : World} {B : Nat} {CS : List Value} (k : HF w B CS x) : HF w B CS x.drew := ⟨k.hd, k.bel.drew⟩
theorem HF.step {w x x' : World} {B M : Nat} {CS : List Value} (k : HF w B CS x) (hb : Below M x x') (hM : B < M) : HF w B CS x' := ⟨k.hd.below hb hM, k.bel.trans (hb.mono (Nat.le_of_lt hM))⟩
theorem HF.grown {w x x' : World} {B A : Nat} {CS : List Value} (k : HF w B CS x) (hg : x.grownBy x' (some A)) (hb : Below A x x') (hM : B < A) : HF w B CS x' := ⟨k.hd.grown hg (by intro e; injection e with e; omega), k.bel.trans (hb.mono (Nat.le_of_lt hM))⟩
theorem RefPrintHead_ok (t : Int) (ht0 : 0 ≤ t) (ht1 : t ≤ 1099511627776) (S Rt : List Int) (hS : S.length = 32) (oS : Octs S) (hRt : Rt.length = 32) (oR : Octs Rt) (w : World) :
  Calls Tryz.prog 53 #[.agg (hdC 1 t (S.map (Value.int .u8)) (Rt.map (Value.int .u8))).toArray] w fun e w' => ∃ a c, e = .returned (.tuple #[.slice a 84 c, .int .i64 0]) ∧ Mine w' w.heap.size 5 1 (.slice a 84 c) 84 ((headL t S Rt).map (Value.int .u8)) ∧ Below w.heap.size w w' := by
 have hSl : (S.map (Value.int .u8)).length = 32 := by rw [List.length_map, hS]
 have hRl : (Rt.map (Value.int .u8)).length = 32 := by rw [List.length_map, hRt]
 have hcs := fun (w : World) (g : Nat) (h : BlkV 52 w g (hdC 1 t (S.map (Value.int .u8)) (Rt.map (Value.int .u8)))) => hid (hd_cells h)
 have hPS := fun (w : World) (g : Nat) (h : BlkV 52 w g (hdC 1 t (S.map (Value.int .u8)) (Rt.map (Value.int .u8)))) => hid (show Pt.Ok w ⟨some ⟨g, 2, none⟩, 32, S⟩ ∧ Pt.Ok w ⟨some ⟨g, 34, none⟩, 32, Rt⟩ from ⟨ptAt h.lt (hd_last h) oS (Nat.le_of_eq hS) (by decide), ptAt h.lt (hd_root hSl h) oR (Nat.le_of_eq hRt) (by decide)⟩)
 have hCl := hdC_len (n := 1) (t := t) hSl hRl
 have hcat := fun (A A4 A7 B : Nat) => hid (show cat [⟨some ⟨A, 0, none⟩, 4, [75, 87, 72, 49]⟩, ⟨some ⟨A4, 0, none⟩, 8, o8 1⟩, ⟨some ⟨A7, 0, none⟩, 8, o8 t⟩, ⟨some ⟨B, 2, none⟩, 32, S⟩, ⟨some ⟨B, 34, none⟩, 32, Rt⟩] = headL t S Rt by unfold cat headL; simp)
 have hHl := headL_len (t := t) hS hRt
 have hcc := fun (x : World) (A A4 A7 D B : Nat) (h0 : Pt.Ok x ⟨some ⟨A, 0, none⟩, 4, [75, 87, 72, 49]⟩) (h4 : Pt.Ok x ⟨some ⟨A4, 0, none⟩, 8, o8 1⟩) (h7 : Pt.Ok x ⟨some ⟨A7, 0, none⟩, 8, o8 t⟩) (h : BlkV 52 x B (hdC 1 t (S.map (Value.int .u8)) (Rt.map (Value.int .u8)))) (hD : BlkV 61 x D [.slice (some ⟨A, 0, none⟩) 4 4, .slice (some ⟨A4, 0, none⟩) 8 8, .slice (some ⟨A7, 0, none⟩) 8 8, .slice (some ⟨B, 2, none⟩) 32 32, .slice (some ⟨B, 34, none⟩) 32 32]) => hid (show Calls Tryz.prog 112 #[.slice (some ⟨D, 0, none⟩) 5 5] x (fun e w' => ∃ a2 c2, e = .returned (.slice a2 84 c2) ∧ Mine w' x.heap.size 5 1 (.slice a2 84 c2) 84 ((headL t S Rt).map (Value.int .u8)) ∧ Below x.heap.size x w') by
  have hps := (hPS x B h).out
  have h1 := concatPts [⟨some ⟨A, 0, none⟩, 4, [75, 87, 72, 49]⟩, ⟨some ⟨A4, 0, none⟩, 8, o8 1⟩, ⟨some ⟨A7, 0, none⟩, 8, o8 t⟩, ⟨some ⟨B, 2, none⟩, 32, S⟩, ⟨some ⟨B, 34, none⟩, 32, Rt⟩] D 5 5 x [.slice (some ⟨A, 0, none⟩) 4 4, .slice (some ⟨A4, 0, none⟩) 8 8, .slice (some ⟨A7, 0, none⟩) 8 8, .slice (some ⟨B, 2, none⟩) 32 32, .slice (some ⟨B, 34, none⟩) 32 32]
   (by simp [Pt.v, o8_length, hS, hRt]) rfl hD (fun p hp => by
    simp only [List.mem_cons, List.not_mem_nil, or_false] at hp
    rcases hp with rfl | rfl | rfl | rfl | rfl
    ·exact h0
    ·exact h4
    ·exact h7
    ·exact hps.1
    ·exact hps.2) (fun p hp => by
    simp only [List.mem_cons, List.not_mem_nil, or_false] at hp
    rcases hp with rfl | rfl | rfl | rfl | rfl
    ·exact Nat.zero_lt_succ _
    ·show 0 < (o8 1).length; rw [o8_length]; decide
    ·show 0 < (o8 t).length; rw [o8_length]; decide
    ·show 0 < S.length; omega
    ·show 0 < Rt.length; omega) (by rw [(hcat A A4 A7 B).out, hHl]; decide) (by decide)
  rw [(hcat A A4 A7 B).out, hHl] at h1
  exact h1)
 obtain ⟨CS, HCS⟩ := hidE (hdC 1 t (S.map (Value.int .u8)) (Rt.map (Value.int .u8)))
 rw [← HCS.out] at hcs hcc hCl ⊢
 have hal2 : Tryz.prog.arrayLen 39 = 32 := by kernel_rfl
 have d1 : decide (t < 0) = false := by simp; omega
 have d2 : decide (1099511627776 < t) = false := by simp; omega
 obtain ⟨Q, HQ⟩ : ∃ Q : Ending → World → Prop, Hid (Q = fun e w' => ∃ a c, e = .returned (.tuple #[.slice a 84 c, .int .i64 0]) ∧ Mine w' w.heap.size 5 1 (.slice a 84 c) 84 ((headL t S Rt).map (Value.int .u8)) ∧ Below w.heap.size w w') := ⟨_, hid rfl⟩
 rw [← HQ.out]
 have HPQ : Hid (∀ w' a c, Mine w' w.heap.size 5 1 (.slice a 84 c) 84 ((headL t S Rt).map (Value.int .u8)) → Below w.heap.size w w' → Q (.returned (.tuple #[.slice a 84 c, .int .i64 0])) w') := hid (by rw [HQ.out]; exact fun w' a c h1 h2 => ⟨a, c, rfl, h1, h2⟩)
 obtain ⟨B, hsz⟩ := szE w
 rw [hsz] at HPQ
 clear hS oS hRt oR ht0 ht1 hPS hcat
 go_enter Tryz.func53, Tryz.ntmps53
 go_wp2_with (first
  | (refine wl_boxV rfl 52 _ rfl CS rfl B hsz ?_; intro w1 hE1 bb1 hs1; obtain ⟨c0, c1⟩ := (hcs _ _ hE1).out))
 have hSS : ∀ x, HF w B CS x → (fun x => x.cell? ⟨B, 0, none⟩ = some (.int .i64 1) ∧ x.cell? ⟨B, 1, none⟩ = some (.int .i64 t)) x := fun x k => (hcs _ _ k.hd).out
 have k1 : HF w B CS w1 := ⟨hE1, bb1⟩
 refine wp_region_held_drew (S := fun x => x.cell? ⟨B, 0, none⟩ = some (.int .i64 1) ∧ x.cell? ⟨B, 1, none⟩ = some (.int .i64 t)) (by kernel_rfl) (hSS _ k1.drew) (fun hHeld => ?_)
 obtain ⟨x, HX0⟩ := hidE w1.drew
 have k := k1.drew
 rw [← HX0.out] at hHeld k ⊢
 have hone := hid trivial
 clear k1 hE1 bb1 c0 c1 hs1
 repeat' (first
  | ((with_reducible refine isEff ?_); first
   | (rw [if_pos (by rfl)]; go_simp; go_at_call 112; refine (hcc x A A4 A7 D B P0 P4 P7 k.hd hD).out.mono ?_; rintro e x ⟨a2, c2, rfl, hM, hb⟩; have hkl := k.hd.lt; have hM := hM.mono (Nat.le_of_lt hkl); have k := k.step hb hkl; clear hb hkl P0 P4 P7 hD; refine hK'.out _ _ (hSS _ k) (fun hHeld => ?_); clear hK' K'; (try simp only [Act.put, fpA, fpZ, fpN]))
   | (obtain ⟨D, HD⟩ := hidE x.heap.size; have hBD : B < D := (by rw [HD.out]; exact k.hd.lt); refine step_lit rfl 286 61 5 _ rfl Tryz.underlying286 (.slice none 0 0) 1 24 infoBts2 (by decide) (by decide) [.slice (some ⟨A, 0, none⟩) 4 4, .slice (some ⟨A4, 0, none⟩) 8 8, .slice (some ⟨A7, 0, none⟩) 8 8, .slice (some ⟨B, 2, none⟩) 32 32, .slice (some ⟨B, 34, none⟩) 32 32] (by kernel_rfl) D HD.out.symm ?_; intro x hD hb hs; have k := k.step hb hBD; have P0 := P0.below (by rw [← HD.out]; exact hb); have P4 := P4.below (by rw [← HD.out]; exact hb); have P7 := P7.below (by rw [← HD.out]; exact hb); clear hb hs; refine hK'.out _ _ (hSS _ k) (fun hHeld => ?_); clear hK' K'; (try simp only [Act.put, fpA, fpZ, fpN]))
   | ((clear hone2); rw [if_pos (by rfl)]; go_simp; go_at_call 46; refine (longP t x).mono ?_; rintro e x ⟨A7, rfl, hA7, P7, hb⟩; (try have n7 : A7 ≠ A := Nat.ne_of_gt (Nat.lt_of_lt_of_le hA.lt hA7)); (try have hA := hA.below hb hA.lt); (try have P0 := P0.below hb); have P4 := P4.below hb; have k := k.step hb k.hd.lt; clear hb hA7; refine hK'.out _ _ (hSS _ k) (fun hHeld => ?_); clear hK' K'; (try simp only [Act.put, fpA, fpZ, fpN]))
   | ((clear hone); rw [if_pos (by rfl)]; go_simp; go_at_call 46; refine (longP 1 x).mono ?_; rintro e x ⟨A4, rfl, hA4, P4, hb⟩; (try have n4 : A4 ≠ A := Nat.ne_of_gt (Nat.lt_of_lt_of_le hA.lt hA4)); (try have hA := hA.below hb hA.lt); (try have P0 := P0.below hb); have k := k.step hb k.hd.lt; have hone2 := hid trivial; clear hb hA4; refine hK'.out _ _ (hSS _ k) (fun hHeld => ?_); clear hK' K'; (try simp only [Act.put, fpA, fpZ, fpN]))
   | (refine step_convC rfl _ rfl A 4 4 [.int .u8 75, .int .u8 87, .int .u8 72, .int .u8 49] rfl hA ?_; intro x hAt hg hb hs; have hAl := hA.lt; rw [← hs] at hAl; have P0 : Pt.Ok x ⟨some ⟨A, 0, none⟩, 4, [75, 87, 72, 49]⟩ := ptAt hAl hAt oH4 (by decide) (by decide); have k := k.grown hg hb hBA; (try have P4 := ptOther P4 hg n4); (try have P7 := ptOther P7 hg n7); clear hA hAt hg hb hs hAl; refine hK'.out _ _ (hSS _ k) (fun hHeld => ?_); clear hK' K'; (try simp only [Act.put, fpA, fpZ, fpN]))
   | (obtain ⟨A, HA⟩ := hidE x.heap.size; have hBA : B < A := (by rw [HA.out]; exact k.hd.lt); (try have n4 : A4 ≠ A := Nat.ne_of_lt (by rw [HA.out]; exact P4.lt _ rfl)); (try have n7 : A7 ≠ A := Nat.ne_of_lt (by rw [HA.out]; exact P7.lt _ rfl)); refine step_lit rfl 61 5 4 _ rfl Tryz.underlying61 (.int .u8 0) 1 1 info8 (by decide) (by decide) [.int .u8 75, .int .u8 87, .int .u8 72, .int .u8 49] (by kernel_rfl) A HA.out.symm ?_; intro x hA hb hs; have k := k.step hb hBA; (try have P4 := P4.below (by rw [← HA.out]; exact hb)); (try have P7 := P7.below (by rw [← HA.out]; exact hb)); clear hb hs; refine hK'.out _ _ (hSS _ k) (fun hHeld => ?_); clear hK' K'; (try simp only [Act.put, fpA, fpZ, fpN])))
  | ((with_reducible refine isAny ?_); first
   | refine tq 2 rfl ?_ (by decide +kernel)
   | refine tq 3 rfl ?_ (by decide +kernel)
   | refine tq 5 rfl ?_ (by decide +kernel)
   | refine tq 6 rfl ?_ (by decide +kernel)
   | refine tq 8 rfl ?_ (by decide +kernel)
   | refine tq 9 rfl ?_ (by decide +kernel)
   | refine tq 10 rfl ?_ (by decide +kernel)
   | refine tq 11 rfl ?_ (by decide +kernel)
   | refine tq 14 rfl ?_ (by decide +kernel)
   | refine tq 15 rfl ?_ (by decide +kernel)
   | refine wpAnyH_ready (rs := [0, 4]) (by decide +kernel) (by simp) (cons_l rfl (fun K' hK' => ?_) (cons_l rfl (fun K' hK' => ?_) AllReadyH.nil))
   | refine wpAnyH_ready (rs := [1, 4]) (by decide +kernel) (by simp) (cons_l rfl (fun K' hK' => ?_) (cons_l rfl (fun K' hK' => ?_) AllReadyH.nil))
   | refine wpAnyH_ready (rs := [4]) (by decide +kernel) (by simp) (cons_l rfl (fun K' hK' => ?_) AllReadyH.nil)
   | refine wpAnyH_ready (rs := [7]) (by decide +kernel) (by simp) (cons_l rfl (fun K' hK' => ?_) AllReadyH.nil)
   | refine wpAnyH_ready (rs := [12]) (by decide +kernel) (by simp) (cons_l rfl (fun K' hK' => ?_) AllReadyH.nil)
   | refine wpAnyH_ready (rs := [13]) (by decide +kernel) (by simp) (cons_l rfl (fun K' hK' => ?_) AllReadyH.nil)
   | refine wpAnyH_ready (rs := [1, 7]) (by decide +kernel) (by simp) (cons_l rfl (fun K' hK' => ?_) (cons_l rfl (fun K' hK' => ?_) AllReadyH.nil))
   | refine wpAnyH_ready (rs := [1]) (by decide +kernel) (by simp) (cons_l rfl (fun K' hK' => ?_) AllReadyH.nil)
   | refine wpAnyH_ready (rs := [0, 7]) (by decide +kernel) (by simp) (cons_l rfl (fun K' hK' => ?_) (cons_l rfl (fun K' hK' => ?_) AllReadyH.nil))
   | refine wpAnyH_ready (rs := [0]) (by decide +kernel) (by simp) (cons_l rfl (fun K' hK' => ?_) AllReadyH.nil)))
 all_goals (
  refine wpAnyH_done (by kernel_rfl) ?_ _
  clear hHeld hSS
  go_wp2_with fail
  exact HPQ.out _ _ _ hM k.bel
  )
end Go.Proofs.YtdhipjoplkpgmaaGreatDoor.hf
namespace Go.Proofs.YtdhipjoplkpgmaaGreatDoor.hf
open Go.RowKit st hs wr shr sh lk
theorem RefSealHead_ok (k : List Int) (hk : k.length = 32) (ok : Octs k) (t : Int) (ht0 : 0 ≤ t) (ht1 : t ≤ 1099511627776) (S Rt : List Int) (hS : S.length = 32) (oS : Octs S) (hRt : Rt.length = 32) (oR : Octs Rt) (w : World) :
  Calls Tryz.prog 20 #[.agg (k.map (Value.int .u8)).toArray, .agg (hdC 1 t (S.map (Value.int .u8)) (Rt.map (Value.int .u8))).toArray] w fun e w' => e = .returned (.agg ((sealL k (sumL 6 (headL t S Rt))).map (Value.int .u8)).toArray) ∧ Below w.heap.size w w' := by
 have hKl : (k.map (Value.int .u8)).length = 32 := by rw [List.length_map, hk]
 have hph := fun w' => hid (RefPrintHead_ok t ht0 ht1 S Rt hS oS hRt oR w')
 have hHl := headL_len (t := t) hS hRt
 have hHo := hid (headL_octs (t := t) oS oR)
 have hCl := hdC_len (n := 1) (t := t) (lv := S.map (Value.int .u8)) (rv := Rt.map (Value.int .u8)) (by rw [List.length_map, hS]) (by rw [List.length_map, hRt])
 obtain ⟨CS, HCS⟩ := hidE (hdC 1 t (S.map (Value.int .u8)) (Rt.map (Value.int .u8)))
 rw [← HCS.out] at hph hCl ⊢
 obtain ⟨HL, HHL⟩ := hidE (headL t S Rt)
 rw [← HHL.out] at hph hHl hHo ⊢
 have hsu := fun (w' : World) (a : Option Addr) (c : Nat) (h : Pt.Ok w' ⟨a, c, HL⟩) (hno : a = none → c = 0 ∧ 84 = 0) => hid (sumR 6 ⟨by decide, by decide⟩ a c 84 HL w' hHl.symm h hno (by decide))
 obtain ⟨SI, HSI⟩ := hidE (sumL 6 HL)
 have hSIl : SI.length = 32 := by rw [HSI.out, sumL_length]
 have hSIo : Octs SI := by rw [HSI.out]; exact sumL_octs _ _
 rw [← HSI.out] at hsu ⊢
 have hse := fun (w' : World) (g : Nat) (h : BlkV 39 w' g (SI.map (Value.int .u8))) => hid (RefSealBy_ok k hk ok (some ⟨g, 0, none⟩) 32 32 SI hSIo w' hSIl.symm (ptAt h.lt h.at0 hSIo (Nat.le_of_eq hSIl) (by decide)) (fun e => by cases e) (by decide))
 have hSVl : (SI.map (Value.int .u8)).length = 32 := by rw [List.length_map, hSIl]
 have hSV1 := ints_one .u8 SI
 obtain ⟨SV, HSV⟩ := hidE (SI.map (Value.int .u8))
 rw [← HSV.out] at hsu hse hSVl hSV1
 have hEl : ((sealL k SI).map (Value.int .u8)).length = 64 := by rw [List.length_map, sealL_length]
 have hE1 := ints_one .u8 (sealL k SI)
 obtain ⟨EV, HEV⟩ := hidE ((sealL k SI).map (Value.int .u8))
 rw [← HEV.out] at hse hEl hE1 ⊢
 obtain ⟨KV, HKV⟩ := hidE (k.map (Value.int .u8))
 rw [← HKV.out] at hKl hse ⊢
 have hz := hid zeroSeal
 have hZl : slZ.length = 64 := by simp [slZ]
 obtain ⟨Z, HZ⟩ := hidE slZ
 rw [← HZ.out] at hz hZl
 have hzs := hid zeroSumZ
 have hZSl : zSum.length = 32 := rfl
 obtain ⟨ZS, HZS⟩ := hidE zSum
 rw [← HZS.out] at hzs hZSl
 have hal2 : Tryz.prog.arrayLen 39 = 32 := by kernel_rfl
 have hiK : (Tryz.prog.info? 23).map (·.size) = some KV.length := by rw [hKl]; exact aggKey32.2
 obtain ⟨B, hsz⟩ := szE w
 rw [hsz]
 clear hk ok ht0 ht1 hS oS hRt oR hSIl hSIo
 go_enter Tryz.func20, Tryz.ntmps20
 go_wp2_with (first
  | (refine wl_storeV rfl 39 _ _ rfl 39 X rfl SV rfl 32 aggSumT hSVl ZS hX6 hZSl hSV1 ?_; intro w7 hX7 hb7 hs7; have hK7 := hK6.below hb7 (by omega); have hT7 := hT6.below hb7 (by omega); have bb7 : Below B w w7 := bb6.trans (hb7.mono (by omega)))
  | (obtain ⟨X, HX⟩ := hidE w5.heap.size; have hXB : B + 3 ≤ X := (by rw [HX.out]; exact hT5.lt); refine wl_allocV rfl 39 rfl ZS hzs.out X HX.out.symm ?_; intro w6 hX6 hb6 hs6; have hK6 := hK5.below hb6 (by omega); have hT6 := hT5.below hb6 (by omega); have bb6 : Below B w w6 := bb5.trans (hb6.mono (by omega)))
  | (go_at_call 45; refine (hsu w4 a4 c4 (mine_pt hM4 hHl.symm (by decide) hHo.out).1 (mine_pt hM4 hHl.symm (by decide) hHo.out).2).out.mono ?_; rintro e w5 ⟨rfl, hb5⟩; have hK5 := hK4.below hb5 hK4.lt; have hT5 := hT4.below hb5 hT4.lt; have bb5 : Below B w w5 := bb4.trans (hb5.mono (by have := hT4.lt; omega)))
  | (go_at_call 53; refine (hph w3).out.mono ?_; rintro e w4 ⟨a4, c4, rfl, hM4, hb4⟩; have hK4 := hK3.below hb4 hK3.lt; have hT4 := hT3.below hb4 hT3.lt; have bb4 : Below B w w4 := bb3.trans (hb4.mono (by have := hT3.lt; omega)))
  | (refine wl_loadG (by rfl) 52 _ rfl ⟨B + 1, 0, none⟩ rfl 66 CS hCl aggHead hC3.at0 ?_)
  | (refine wl_allocV rfl 54 rfl Z hz.out (B + 2) (by omega) ?_; intro w3 hT3 hb3 hs3; have hK3 := hK2.below hb3 (by omega); have hC3 := hC2.below hb3 (by omega); have bb3 : Below B w w3 := bb2.trans (hb3.mono (by omega)))
  | (refine wl_boxV rfl 52 _ rfl CS rfl (B + 1) (by omega) ?_; intro w2 hC2 hb2 hs2; have hK2 := hK1.below hb2 (by omega); have bb2 : Below B w w2 := bb1.trans (hb2.mono (by omega)))
  | (refine wl_boxV rfl 23 _ rfl KV rfl B hsz ?_; intro w1 hK1 bb1 hs1))
 refine wp_region_held_drew (S := fun w' => w'.rangeAt B 0 KV) (by kernel_rfl) (at_range (w := w7.drew) hK7.at0) (fun hHeld => ?_)
 obtain ⟨x0, HX0⟩ := hidE w7.drew
 rw [← HX0.out] at hHeld ⊢
 have hK0 : BlkV 23 x0 B KV := by rw [HX0.out]; exact hK7
 have hT0 : BlkV 54 x0 (B + 2) Z := by rw [HX0.out]; exact hT7
 have hX0 : BlkV 39 x0 X SV := by rw [HX0.out]; exact hX7
 have bb0 : Below B w x0 := by rw [HX0.out]; exact bb7.drew
 clear hK1 hK2 hK3 hK4 hK5 hK6 hK7 hT3 hT4 hT5 hT6 hT7 hC2 hC3 hX6 hX7 bb1 bb2 bb3 bb4 bb5 bb6 bb7 hM4
 refine tk 0 rfl (yieldsIf_load_mid (by rfl) 23 _ rfl B 0 rfl KV _ (fun w hS => hS) Tryz.underlying23 rfl hiK) ?_
 refine tq 1 rfl ?_
 refine e1 2 rfl fun K' hK' => ?_
 rw [if_pos (by rfl)]
 go_simp
 go_at_call 54
 refine (hse x0 X hX0).out.mono ?_
 rintro e x1 ⟨rfl, hb1⟩
 have hK1 := hK0.below hb1 hK0.lt
 have hT1 := hT0.below hb1 hT0.lt
 have bb1 : Below B w x1 := bb0.trans (hb1.mono (by have := hT0.lt; omega))
 refine ko hK' (at_range hK1.at0) fun hHeld => ?_
 clear hK' K'
 refine e1 3 rfl fun K' hK' => ?_
 refine step_storeV rfl 54 _ _ rfl 54 (B + 2) rfl EV rfl 64 aggSeal hEl Z hT1 hZl hE1 ?_
 intro x2 hT2 hb2 hs2
 have hK2 := hK1.below hb2 (by omega)
 have bb2 : Below B w x2 := bb1.trans (hb2.mono (by omega))
 refine ko hK' (at_range hK2.at0) fun hHeld => ?_
 clear hK' K'
 refine wpAnyH_done (by kernel_rfl) ?_ _
 clear hHeld
 go_wp2_with fail
 (try simp only [Exit.inBlock, Exit.then]); refine bodyPost_ret (results_cell rfl _ _ _ _ rfl EV (by rw [hEl]; exact aggSeal) hT2.at0) rfl ?_
 exact ⟨rfl, bb2⟩
end Go.Proofs.YtdhipjoplkpgmaaGreatDoor.hf
namespace Go.Proofs.YtdhipjoplkpgmaaGreatDoor.hf
open Go.RowKit st hs wr shr sh lk
structure One (w : World) (t : Int) (f : List Int) (rs : List ByteArray) (ea gb n c : Nat) : Prop where
 lt : ea < w.heap.size
 at' : At w ⟨ea, 0, none⟩ (entC t (f.map (Value.int .u8)) (.slice (some ⟨gb, 0, none⟩) n c))
 ok : EntOk w t f rs (some ⟨gb, 0, none⟩) n c
theorem One.below {w w' : World} {t : Int} {f : List Int} {rs : List ByteArray} {ea gb n c : Nat} (k : One w t f rs ea gb n c) (hb : Below w.heap.size w w') : One w' t f rs ea gb n c :=
 ⟨Nat.lt_of_lt_of_le k.lt hb.size, fun j u hu => (hb.cell (p := (⟨ea, 0, none⟩ : Addr).add j) (by rw [addr_add]; exact k.lt)).trans (k.at' j u hu), k.ok.below hb⟩
theorem RefOctets_ok (h g ms ea ec gb n c : Nat) (R : List Value) (hR : R.length = 32) (t : Int) (f : List Int) (rs : List ByteArray) (h0 : f ≠ List.replicate 16 0) (w : World) (hH : BlkV 48 w h (houR R g (.slice (some ⟨ea, 0, none⟩) 1 ec) ms)) (hO : One w t f rs ea gb n c) :
  Calls Tryz.prog 18 #[.pointer (some ⟨h, 0, none⟩)] w fun e w' => ∃ a c', e = .returned (.slice a (121 + n) c') ∧ Pt.Ok w' ⟨a, c', entryB f t (bodyB f rs)⟩ ∧ Below w.heap.size w w' := by
 have hpr := fun (w' : World) (hb : Below w.heap.size w w') => hid (RefPrintEntry_ok t f rs (some ⟨gb, 0, none⟩) n c w' (hO.ok.below hb) h0)
 have hEl : (entryB f t (bodyB f rs)).length = 121 + n := by rw [entryB_length _ _ hO.ok.hf, ← hO.ok.hn]
 have hEo := hid (entryB_octs (b := bodyB f rs) t hO.ok.of (bodyB_octs hO.ok.of hO.ok.hE))
 have hle := hO.ok.le
 have hESl : (entC t (f.map (Value.int .u8)) (.slice (some ⟨gb, 0, none⟩) n c)).length = 68 := entC_len (by rw [List.length_map, hO.ok.hf])
 have hES1 : ∀ u ∈ entC t (f.map (Value.int .u8)) (.slice (some ⟨gb, 0, none⟩) n c), u.oneCell' = true := entC_one (ints_one _ _) rfl
 have hAt := hO.at'
 obtain ⟨ES, HES⟩ := hidE (entC t (f.map (Value.int .u8)) (.slice (some ⟨gb, 0, none⟩) n c))
 rw [← HES.out] at hpr hESl hES1 hAt
 obtain ⟨EB, HEB⟩ := hidE (entryB f t (bodyB f rs))
 rw [← HEB.out] at hpr hEl hEo ⊢
 have hz := hid zeroEntry
 have hZl : entZ.length = 68 := entZ_len
 obtain ⟨ZE, HZE⟩ := hidE entZ
 rw [← HZE.out] at hz hZl
 have c33 := (houR_cells hR hH).2
 obtain ⟨Q, HQ⟩ : ∃ Q : Ending → World → Prop, Hid (Q = fun e w' => ∃ a c', e = .returned (.slice a (121 + n) c') ∧ Pt.Ok w' ⟨a, c', EB⟩ ∧ Below w.heap.size w w') := ⟨_, hid rfl⟩
 rw [← HQ.out]
 have HPQ : Hid (∀ w' a c', Pt.Ok w' ⟨a, c', EB⟩ → Below w.heap.size w w' → Q (.returned (.slice a (121 + n) c')) w') := hid (by rw [HQ.out]; exact fun w' a c' h1 h2 => ⟨a, c', rfl, h1, h2⟩)
 obtain ⟨B, hsz⟩ := szE w
 rw [hsz] at hpr HPQ
 obtain ⟨m, Hm⟩ := hidE (121 + n)
 rw [← Hm.out] at hpr HPQ hEl
 have hm : 0 < m ∧ m ≤ 1000 := by rw [Hm.out]; omega
 clear hO hH h0 hle
 go_enter Tryz.func18, Tryz.ntmps18
 go_wp2_with fail
 go_loopw [3, 6, 7, 13] (fun o _ _ i wr => (i = .int .i64 0 ∧ o = .slice none 0 0 ∧ wr = w) ∨ (i = .int .i64 1 ∧ ∃ a c', o = .slice a m c' ∧ Pt.Ok wr ⟨a, c', EB⟩ ∧ Below B w wr)) (fun _ _ _ i _ => 2 - (intOf i).toNat)
 case atStart => exact Or.inl ⟨rfl, rfl, rfl⟩
 case round =>
  rcases hrel with ⟨rfl, rfl, rfl⟩ | ⟨rfl, a, c', rfl, hP, bb⟩
  ·go_wp2_with (first
    | (at_builtin; refine wl_append rfl _ _ 61 rfl 5 (.int .u8 0) 1 1 Tryz.underlying61 info8 rfl (by decide) X4 _ 0 [] rfl (Mine.nil _ _ _ _) a3 m c3 rfl (fun e => (mine_no hM3 e)) (EB.map (Value.int .u8)) (by rw [List.length_map]; omega) hrr3 (ints_one _ _) (by unfold maxLen; omega) (by omega) (Nat.le_of_eq HX4.out) ?_; intro v4 w4 row4 hM4 hg4 hr4; rw [Nat.zero_add, List.nil_append] at hM4; obtain ⟨a4, c4, rfl, hc4, hrr4⟩ := hM4.row; have hb4 : Below X4 w3 w4 := (Below.refl _ _).grown hg4 (Nat.le_of_eq HX4.out) (fun k hk => (hr4 k hk).1); have bb4 : Below B wr w4 := bb3.trans (hb4.mono (by rw [HX4.out]; have := bb3.size; omega)))
    | (go_at_call 51; refine (hpr w2 bb2).out.mono ?_; rintro e w3 ⟨a3, c3, rfl, hM3, hb3⟩; have bb3 : Below B wr w3 := bb2.trans (hb3.mono (by have := hX2.lt; omega)); obtain ⟨a3', c3', hv3, hc3, hrr3⟩ := hM3.row; injection hv3 with hv3a hv3b hv3c; subst hv3a; subst hv3c; obtain ⟨X4, HX4⟩ := hidE w3.heap.size)
    | (refine wl_loadG (by rfl) 83 _ rfl ⟨B, 0, none⟩ rfl 68 ES hESl aggEntry hX2.at0 ?_)
    | (refine wl_storeV rfl 83 _ _ rfl 83 B rfl ES rfl 68 aggEntry hESl ZE hX1 hZl hES1 ?_; intro w2 hX2 hb2 hs2; have bb2 : Below B wr w2 := bb1.trans hb2)
    | (refine wl_allocV rfl 83 rfl ZE hz.out B hsz ?_; intro w1 hX1 bb1 hs1)
    | (refine wl_loadG (by rfl) 83 _ rfl ⟨ea, 0, none⟩ rfl 68 ES hESl aggEntry hAt ?_))
   go_roundw
   case rel => exact Or.inr ⟨rfl, a4, c4, rfl, (mine_pt hM4 hEl.symm hm.1 hEo.out).1, bb4⟩
   case measure => exact (by decide : (2 - ((1 : Int)).toNat) < 2 - ((0 : Int)).toNat)
  ·go_wp2
   exact HPQ.out _ _ _ hP bb
theorem RefLeaves_ok (ea ec gb n c : Nat) (t : Int) (f : List Int) (rs : List ByteArray) (h0 : f ≠ List.replicate 16 0) (w : World) (hO : One w t f rs ea gb n c) :
  Calls Tryz.prog 49 #[.slice (some ⟨ea, 0, none⟩) 1 ec] w fun e w' => ∃ b c', e = .returned (.slice (some ⟨b, 0, none⟩) 1 c') ∧ b < w'.heap.size ∧ At w' ⟨b, 0, none⟩ ((sumL 1 (entryB f t (bodyB f rs))).map (Value.int .u8)) ∧ Below w.heap.size w w' := by
 have hpr := fun (w' : World) (hb : Below w.heap.size w w') => hid (RefPrintEntry_ok t f rs (some ⟨gb, 0, none⟩) n c w' (hO.ok.below hb) h0)
 have hEl : (entryB f t (bodyB f rs)).length = 121 + n := by rw [entryB_length _ _ hO.ok.hf, ← hO.ok.hn]
 have hEo := hid (entryB_octs (b := bodyB f rs) t hO.ok.of (bodyB_octs hO.ok.of hO.ok.hE))
 have hle := hO.ok.le
 have hESl : (entC t (f.map (Value.int .u8)) (.slice (some ⟨gb, 0, none⟩) n c)).length = 68 := entC_len (by rw [List.length_map, hO.ok.hf])
 have hES1 : ∀ u ∈ entC t (f.map (Value.int .u8)) (.slice (some ⟨gb, 0, none⟩) n c), u.oneCell' = true := entC_one (ints_one _ _) rfl
 have hAt := hO.at'
 obtain ⟨ES, HES⟩ := hidE (entC t (f.map (Value.int .u8)) (.slice (some ⟨gb, 0, none⟩) n c))
 rw [← HES.out] at hpr hESl hES1 hAt
 obtain ⟨EB, HEB⟩ := hidE (entryB f t (bodyB f rs))
 rw [← HEB.out] at hpr hEl hEo ⊢
 have hz := hid zeroEntry
 have hZl : entZ.length = 68 := entZ_len
 obtain ⟨ZE, HZE⟩ := hidE entZ
 rw [← HZE.out] at hz hZl
 obtain ⟨m, Hm⟩ := hidE (121 + n)
 rw [← Hm.out] at hpr hEl
 have hm : 0 < m ∧ m ≤ 1000 := by rw [Hm.out]; omega
 have hlf := fun (w' : World) (a : Option Addr) (c' : Nat) (hp : Pt.Ok w' ⟨a, c', EB⟩) (hno : a = none → c' = 0 ∧ m = 0) => hid (RefLeaf_ok a c' m EB w' hEl.symm hp hno (by omega))
 have hSl : ((sumL 1 EB).map (Value.int .u8)).length = 32 := by rw [List.length_map, sumL_length]
 have hS1 := ints_one .u8 (sumL 1 EB)
 obtain ⟨SV, HSV⟩ := hidE ((sumL 1 EB).map (Value.int .u8))
 rw [← HSV.out] at hlf hSl hS1 ⊢
 have hin2 : (Tryz.prog.info? 39).map (fun i => (i.zero, i.size)) = some (some (.agg zSum.toArray), 32) := by kernel_rfl
 have hin1 : Info Tryz.prog 39 (.agg zSum.toArray) 32 32 := by unfold Info; kernel_rfl
 have hZSl : zSum.length = 32 := rfl
 obtain ⟨ZS, HZS⟩ := hidE zSum
 rw [← HZS.out] at hin1 hin2 hZSl
 obtain ⟨Q, HQ⟩ : ∃ Q : Ending → World → Prop, Hid (Q = fun e w' => ∃ b c', e = .returned (.slice (some ⟨b, 0, none⟩) 1 c') ∧ b < w'.heap.size ∧ At w' ⟨b, 0, none⟩ SV ∧ Below w.heap.size w w') := ⟨_, hid rfl⟩
 rw [← HQ.out]
 have HPQ : Hid (∀ w' b c', b < w'.heap.size → At w' ⟨b, 0, none⟩ SV → Below w.heap.size w w' → Q (.returned (.slice (some ⟨b, 0, none⟩) 1 c')) w') := hid (by rw [HQ.out]; exact fun w' b c' h1 h2 h3 => ⟨b, c', rfl, h1, h2, h3⟩)
 obtain ⟨B, hsz⟩ := szE w
 rw [hsz] at hpr HPQ
 clear hO h0 hle
 go_enter Tryz.func49, Tryz.ntmps49
 go_wp2_with fail
 go_loopw [3, 6, 7, 10] (fun o _ _ i wr => (i = .int .i64 0 ∧ o = .slice none 0 0 ∧ wr = w) ∨ (i = .int .i64 1 ∧ ∃ b c', o = .slice (some ⟨b, 0, none⟩) 1 c' ∧ b < wr.heap.size ∧ At wr ⟨b, 0, none⟩ SV ∧ Below B w wr)) (fun _ _ _ i _ => 2 - (intOf i).toNat)
 case atStart => exact Or.inl ⟨rfl, rfl, rfl⟩
 case round =>
  rcases hrel with ⟨rfl, rfl, rfl⟩ | ⟨rfl, b, c', rfl, hbl, hAtb, bb⟩
  ·go_wp2_with (first
    | (at_builtin; refine wl_append rfl _ _ 106 rfl 39 (.agg ZS.toArray) 32 32 Tryz.underlying106 hin1 (by show ZS.toArray.size = 32; simpa using hZSl) (by decide) X4 _ 0 [] rfl (Mine.nil _ _ _ _) (some ⟨X3, 0, none⟩) 1 1 rfl (fun e => by cases e) SV (by rw [hSl]) (at_row hN5.lt hN5.at0) hS1 (by unfold maxLen; omega) (by omega) (Nat.le_of_eq HX4.out) ?_; intro v6 w6 row6 hM6 hg6 hr6; rw [Nat.zero_add, List.nil_append] at hM6; obtain ⟨a6, c6, rfl, hc6, hrr6⟩ := hM6.row; obtain ⟨b6, HB6, hb6g, hb6l, hAt6⟩ := oneRow hM6 hSl; have hb6e := HB6.out; subst hb6e; have hb6 : Below X4 w5 w6 := (Below.refl _ _).grown hg6 (Nat.le_of_eq HX4.out) (fun k hk => (hr6 k hk).1); have bb6 : Below B wr w6 := bb5.trans (hb6.mono (by rw [HX4.out]; have := bb5.size; omega)))
    | (obtain ⟨X3, HX3⟩ := hidE w4.heap.size; refine wl_slice1 rfl 106 39 _ rfl Tryz.underlying106 32 ZS hin2 hZSl (by decide) (by decide) SV rfl hSl X3 HX3.out.symm ?_; intro w5 hN5 hb5 hs5; have bb5 : Below B wr w5 := bb4.trans (hb5.mono (by rw [HX3.out]; have := bb4.size; omega)); obtain ⟨X4, HX4⟩ := hidE w5.heap.size)
    | (go_at_call 110; refine (hlf w3 a3 c3 (mine_pt hM3 hEl.symm hm.1 hEo.out).1 (mine_pt hM3 hEl.symm hm.1 hEo.out).2).out.mono ?_; rintro e w4 ⟨rfl, hb4⟩; have bb4 : Below B wr w4 := bb3.trans (hb4.mono (by have := bb3.size; omega)))
    | (go_at_call 51; refine (hpr w2 bb2).out.mono ?_; rintro e w3 ⟨a3, c3, rfl, hM3, hb3⟩; have bb3 : Below B wr w3 := bb2.trans (hb3.mono (by have := hX2.lt; omega)))
    | (refine wl_loadG (by rfl) 83 _ rfl ⟨B, 0, none⟩ rfl 68 ES hESl aggEntry hX2.at0 ?_)
    | (refine wl_storeV rfl 83 _ _ rfl 83 B rfl ES rfl 68 aggEntry hESl ZE hX1 hZl hES1 ?_; intro w2 hX2 hb2 hs2; have bb2 : Below B wr w2 := bb1.trans hb2)
    | (refine wl_allocV rfl 83 rfl ZE hz.out B hsz ?_; intro w1 hX1 bb1 hs1)
    | (refine wl_loadG (by rfl) 83 _ rfl ⟨ea, 0, none⟩ rfl 68 ES hESl aggEntry hAt ?_))
   go_roundw
   case rel => exact Or.inr ⟨rfl, b6, c6, rfl, hb6l, hAt6, bb6⟩
   case measure => exact (by decide : (2 - ((1 : Int)).toNat) < 2 - ((0 : Int)).toNat)
  ·go_wp2
   exact HPQ.out _ _ _ hbl hAtb bb
end Go.Proofs.YtdhipjoplkpgmaaGreatDoor.hf
namespace Go.Proofs.YtdhipjoplkpgmaaGreatDoor.hf
open Go.RowKit st hs wr shr sh lk
theorem RefHeadOf_ok (ea ec gb n c : Nat) (t : Int) (f : List Int) (rs : List ByteArray) (h0 : f ≠ List.replicate 16 0) (w : World) (hO : One w t f rs ea gb n c) :
  Calls Tryz.prog 15 #[.slice (some ⟨ea, 0, none⟩) 1 ec] w fun e w' => e = .returned (.agg (headV t (entryS f t (bodyB f rs)) (sumL 1 (entryB f t (bodyB f rs)))).toArray) ∧ Below w.heap.size w w' := by
 have hOb := fun (w' : World) (hb : Below w.heap.size w w') => hid (hO.below hb)
 have hes := fun (w' : World) (hb : Below w.heap.size w w') => hid (RefEntrySum_ok t f rs (some ⟨gb, 0, none⟩) n c w' (hO.ok.below hb))
 have hlv := fun (w' : World) (hb : Below w.heap.size w w') => hid (RefLeaves_ok ea ec gb n c t f rs h0 w' (hO.below hb))
 have hESl : (entC t (f.map (Value.int .u8)) (.slice (some ⟨gb, 0, none⟩) n c)).length = 68 := entC_len (by rw [List.length_map, hO.ok.hf])
 have hES1 : ∀ u ∈ entC t (f.map (Value.int .u8)) (.slice (some ⟨gb, 0, none⟩) n c), u.oneCell' = true := entC_one (ints_one _ _) rfl
 have hFl : (f.map (Value.int .u8)).length = 16 := by rw [List.length_map, hO.ok.hf]
 have hEc := fun (w' : World) (g : Nat) (h : BlkV 83 w' g (entC t (f.map (Value.int .u8)) (.slice (some ⟨gb, 0, none⟩) n c))) => hid (ent_cells hFl h).2.1
 have hAt := hO.at'
 obtain ⟨ES, HES⟩ := hidE (entC t (f.map (Value.int .u8)) (.slice (some ⟨gb, 0, none⟩) n c))
 rw [← HES.out] at hes hESl hES1 hAt hEc
 obtain ⟨EB, HEB⟩ := hidE (entryB f t (bodyB f rs))
 rw [← HEB.out] at hlv ⊢
 have hYl : ((entryS f t (bodyB f rs)).map (Value.int .u8)).length = 32 := by rw [List.length_map]; exact sumL_length _ _
 have hY1 := ints_one .u8 (entryS f t (bodyB f rs))
 have hSl : ((sumL 1 EB).map (Value.int .u8)).length = 32 := by rw [List.length_map, sumL_length]
 have hS1 := ints_one .u8 (sumL 1 EB)
 have hbh := hid (builtHead hYl hSl 1 t)
 have hCl := hdC_len (n := 1) (t := t) hYl hSl
 have hC1 := hdC_one (n := 1) (t := t) hY1 hS1
 unfold headV
 obtain ⟨CS, HCS⟩ := hidE (hdC 1 t ((entryS f t (bodyB f rs)).map (Value.int .u8)) ((sumL 1 EB).map (Value.int .u8)))
 rw [← HCS.out] at hbh hCl hC1 ⊢
 obtain ⟨YV, HYV⟩ := hidE ((entryS f t (bodyB f rs)).map (Value.int .u8))
 rw [← HYV.out] at hes hbh hYl
 obtain ⟨SV, HSV⟩ := hidE ((sumL 1 EB).map (Value.int .u8))
 rw [← HSV.out] at hlv hSl hS1 hbh
 have hro := fun (w' : World) (b c' : Nat) (h1 : b < w'.heap.size) (h2 : At w' ⟨b, 0, none⟩ SV) => hid (RefRoot_one b 0 c' SV hSl hS1 w' h1 h2)
 have hz := hid zeroEntry
 have hZl : entZ.length = 68 := entZ_len
 obtain ⟨ZE, HZE⟩ := hidE entZ
 rw [← HZE.out] at hz hZl
 have hzh := hid zeroHead
 have hZHl : hdZ.length = 66 := rfl
 obtain ⟨ZH, HZH⟩ := hidE hdZ
 rw [← HZH.out] at hzh hZHl
 have hew := hO.lt
 have hiE : (Tryz.prog.info? 83).map (·.size) = some ES.length := by rw [hESl]; exact aggEntry.2
 obtain ⟨B, hsz⟩ := szE w
 rw [hsz] at hes hlv hOb hew ⊢
 clear hO h0
 go_enter Tryz.func15, Tryz.ntmps15
 go_wp2_with (first
  | (refine wl_storeV rfl 83 _ _ rfl 83 (B + 1) rfl ES rfl 68 aggEntry hESl ZE hE2 hZl hES1 ?_; intro w3 hE3 hb3 hs3; have hH3 := hH2.below hb3 (by omega); have bb3 : Below B w w3 := bb2.trans (hb3.mono (by omega)))
  | (refine wl_allocV rfl 83 rfl ZE hz.out (B + 1) (by omega) ?_; intro w2 hE2 hb2 hs2; have hH2 := hH1.below hb2 (by omega); have bb2 : Below B w w2 := bb1.trans (hb2.mono (by omega)))
  | (refine wl_loadG (by rfl) 83 _ rfl ⟨ea, 0, none⟩ rfl 68 ES hESl aggEntry hAt1 ?_)
  | (refine wl_allocV rfl 52 rfl ZH hzh.out B hsz ?_; intro w1 hH1 bb1 hs1; have hAt1 : At w1 ⟨ea, 0, none⟩ ES := fun j u hu => (bb1.cell (p := (⟨ea, 0, none⟩ : Addr).add j) (by rw [addr_add]; exact hew)).trans (hAt j u hu)))
 have hSS : ∀ x, BlkV 83 x (B + 1) ES → (fun x => x.cell? ⟨B + 1, 1, none⟩ = some (.int .i64 t) ∧ x.rangeAt (B + 1) 0 ES) x := fun x h => ⟨(hEc x _ h).out, at_range h.at0⟩
 refine wp_region_held_drew (S := fun x => x.cell? ⟨B + 1, 1, none⟩ = some (.int .i64 t) ∧ x.rangeAt (B + 1) 0 ES) (by kernel_rfl) (hSS w3.drew hE3) (fun hHeld => ?_)
 obtain ⟨x0, HX0⟩ := hidE w3.drew
 rw [← HX0.out] at hHeld ⊢
 have hE0 : BlkV 83 x0 (B + 1) ES := by rw [HX0.out]; exact hE3
 have hH0 : BlkV 52 x0 B ZH := by rw [HX0.out]; exact hH3
 have bb0 : Below B w x0 := by rw [HX0.out]; exact bb3.drew
 clear hE2 hE3 hH1 hH2 hH3 bb1 bb2 bb3 hAt1 hAt
 refine tq 0 rfl ?_
 refine tq 1 rfl ?_
 refine tq 2 rfl ?_
 refine tq 3 rfl ?_
 refine tk 4 rfl (yieldsIf_load_mid (by rfl) 83 _ rfl (B + 1) 0 rfl ES _ (fun w hS => hS.2) Tryz.underlying83 rfl hiE) ?_
 refine tq 6 rfl ?_
 refine e1 5 rfl fun K' hK' => ?_
 rw [if_pos (by rfl)]
 go_simp
 go_at_call 47
 refine (hes x0 bb0).out.mono ?_
 rintro e x1 ⟨rfl, hb1⟩
 have hE1 := hE0.below hb1 hE0.lt
 have hH1 := hH0.below hb1 hH0.lt
 have bb1 : Below B w x1 := bb0.trans (hb1.mono (Nat.le_of_lt hH0.lt))
 refine ko hK' (hSS _ hE1) fun hHeld => ?_
 clear hK' K'
 refine e1 7 rfl fun K' hK' => ?_
 rw [if_pos (by rfl)]
 go_simp
 go_at_call 49
 refine (hlv x1 bb1).out.mono ?_
 rintro e x2 ⟨lb, lc, rfl, hbl, hAt2, hb2⟩
 have hE2 := hE1.below hb2 hE1.lt
 have hH2 := hH1.below hb2 hH1.lt
 have bb2 : Below B w x2 := bb1.trans (hb2.mono (Nat.le_of_lt hH1.lt))
 refine ko hK' (hSS _ hE2) fun hHeld => ?_
 clear hK' K'
 refine e1 8 rfl fun K' hK' => ?_
 rw [if_pos (by rfl)]
 go_simp
 go_at_call 48
 refine (hro x2 lb lc hbl hAt2).out.mono ?_
 rintro e x3 ⟨rfl, hb3⟩
 have hE3 := hE2.below hb3 hE2.lt
 have hH3 := hH2.below hb3 hH2.lt
 have bb3 : Below B w x3 := bb2.trans (hb3.mono (Nat.le_of_lt hH2.lt))
 refine ko hK' (hSS _ hE3) fun hHeld => ?_
 clear hK' K'
 refine tk 9 rfl (yieldsIf_build (by rfl) 52 _ rfl [(0, .int .i64 1), (1, .int .i64 t), (2, .agg YV.toArray), (3, .agg SV.toArray)] rfl CS hbh.out) ?_
 refine e1 10 rfl fun K' hK' => ?_
 have HDS : ZH.take 0 ++ CS ++ ZH.drop (0 + 66) = CS := by rw [List.drop_eq_nil_of_le (by omega)]; simp
 refine step_storeP rfl 52 _ _ rfl 52 B 0 rfl CS rfl 66 aggHead hCl ZH hH3 (by omega) hC1 CS HDS ?_
 intro x4 hH4 hb4 hg4 hs4
 have hE4 := hE3.grown hg4 (by intro e; injection e with e; omega)
 have bb4 : Below B w x4 := bb3.trans hb4
 refine ko hK' (hSS _ hE4) fun hHeld => ?_
 clear hK' K'
 refine wpAnyH_done (by kernel_rfl) ?_ _
 clear hHeld
 go_wp2_with fail
 (try simp only [Exit.inBlock, Exit.then]); refine bodyPost_ret (results_cell rfl _ _ _ _ rfl CS (by rw [hCl]; exact aggHead) hH4.at0) rfl ?_
 exact ⟨rfl, bb4⟩
end Go.Proofs.YtdhipjoplkpgmaaGreatDoor.hf
namespace Go.Proofs.YtdhipjoplkpgmaaGreatDoor.hf
open Go.RowKit st hs wr shr sh lk
theorem RefMembers_ok (g mm mk mv : Nat) (cnt t : Int) (lv : List Value) (hlv : lv.length = 32) (f : List Int) (hf : f.length = 16) (ra : Option Addr) (rc : Nat) (rs : List ByteArray) (hrs : rs.length ≤ 16) (w : World) (hS : RsAfter w g mm mk mv cnt t lv (f.map (Value.int .u8)) f (.slice ra rs.length rc)) (hR : RowS w ra rs) :
  Calls Tryz.prog 29 #[.pointer (some ⟨g, 0, none⟩)] w (MemPost f rs w) := by
 have hFl : (f.map (Value.int .u8)).length = 16 := by rw [List.length_map, hf]
 obtain ⟨B, hsz⟩ := szE w
 have hgw := hS.blk.lt
 have hmw := hS.mem.lt
 have c51 := (rs_cells hlv hFl hS.blk).2.2.2.1
 have hmem := hS.mem
 have hcl := fun (w' : World) (hb : Below B w w') => hid (CloneR ra rs.length rc rs w' rfl (hR.below (by rw [hsz]; exact hb)) (by omega))
 have HP : Hid (∀ M c a' c' w', RowV w' (some ⟨M, 0, none⟩) (memC (f.map (Value.int .u8)) (.slice a' rs.length c')) → RowS w' a' rs → (a' = none → c' = 0) → Below B w w' → MemPost f rs w (.returned (.slice (some ⟨M, 0, none⟩) 1 c)) w') := hid (fun M c a' c' w' h1 h2 h4 h3 => ⟨M, c, a', c', rfl, h1, h2, h4, by rw [hsz]; exact h3⟩)
 obtain ⟨Q, HQ⟩ := hidE (MemPost f rs w)
 rw [← HQ.out] at HP ⊢
 obtain ⟨F, HF⟩ := hidE (f.map (Value.int .u8))
 have hF1 : ∀ u ∈ F, u.oneCell' = true := by rw [HF.out]; exact ints_one _ _
 have HFI : Hid (idV f = .agg F.toArray) := hid (by rw [HF.out]; rfl)
 rw [← HF.out] at HP hFl
 have hbm := fun a n c => hid (builtMem hFl a n c)
 have hzid := hid zeroIDT
 obtain ⟨ZI, HZI⟩ := hidE zID
 have hZIl : ZI.length = 16 := by rw [HZI.out]; rfl
 rw [← HZI.out] at hzid
 have hiF : (Tryz.prog.info? 25).map (·.size) = some F.length := by rw [hFl]; exact aggIDT.2
 have hmz : memZ.length = 17 := rfl
 have hin1 := hid infoMem
 have hin2 := hid infoMem2
 obtain ⟨MZ, HMZ⟩ := hidE memZ
 rw [← HMZ.out] at hmz hin1 hin2
 have HUP : Hid (∀ k v, upd (fun _ => none) f (Value.slice ra rs.length rc) k = some v → k = f ∧ v = Value.slice ra rs.length rc) := hid (fun k v h => by
  unfold upd at h
  by_cases e : k = f
  ·rw [if_pos e] at h; injection h with h; exact ⟨e, h.symm⟩
  ·rw [if_neg e] at h; cases h)
 have HUF : Hid ((upd (fun _ => none) f (Value.slice ra rs.length rc) f).isSome = true) := hid (by unfold upd; simp)
 obtain ⟨D, HD⟩ : ∃ D, Hid (D = upd (fun _ => none) f (Value.slice ra rs.length rc)) := ⟨_, hid rfl⟩
 rw [← HD.out] at hmem HUP HUF
 obtain ⟨m, Hm⟩ := hidE rs.length
 rw [← Hm.out] at hcl HP HUP
 clear hS hR
 rw [hsz] at hgw hmw
 go_enter Tryz.func29, Tryz.ntmps29
 go_wp2_with (first
  | (at_range; refine wl_rangeD rfl 87 26 _ rfl Tryz.underlying87 mm D hmem rfl B hsz ?_; intro w1 cnt1 hI1 hb1 hs1))
 go_frame
 go_loopw [3, 5] (fun o _ wr => ∃ (left : lk.Id → Prop) (k : Nat), IterD wr mm B D left k ∧ Below B w wr ∧ B < wr.heap.size ∧ ((o = .slice none 0 0 ∧ Hid (∀ j, left j ↔ (D j).isSome = true)) ∨ (Hid (∀ j, ¬ left j) ∧ ∃ M c a' c', o = .slice (some ⟨M, 0, none⟩) 1 c ∧ RowV wr (some ⟨M, 0, none⟩) (memC F (.slice a' m c')) ∧ RowS wr a' rs ∧ (a' = none → c' = 0)))) (fun _ _ wr => wr.rangeLeft mm B)
 case atStart => exact ⟨_, _, hI1, hb1, by omega, Or.inl ⟨rfl, hid (fun j => Iff.rfl)⟩⟩
 case round =>
  clear hI1 hb1 hs1
  obtain ⟨left, cn, hIt, bb, hBl, hcase⟩ := hrel
  rcases hcase with ⟨rfl, hall⟩ | ⟨hnone, M, c, a', c', rfl, hV, hRS, hno⟩
  ·go_wp2_with (first | (at_next; refine wl_nextD rfl _ rfl mm B D left cn rfl hIt ?_ ?_) | fail)
   ·intro hc0 hl0
    exact absurd ((hall.out f).2 HUF.out) (hl0 f)
   ·intro k v w2 cnt2 hk hkv hI2 hlt hg2 hs2 hen
    obtain ⟨rfl, rfl⟩ := HUP.out k v hkv
    rw [HFI.out] at hen ⊢
    have bb2 : Below B w w2 := bb.grown hg2 (by omega) (fun q hq => by injection hq with hq; omega)
    have hB2 : B < w2.heap.size := by omega
    have hlt2 := hid hlt
    have hnl := hid (fun j (hj : left j ∧ j ≠ k) => hj.2 (HUP.out j _ (Option.eq_some_of_isSome ((hall.out j).1 hj.1))).1)
    clear hg2 hs2 bb hlt
    go_wp2_with (first
     | (refine wl_storeV rfl 25 _ _ rfl 25 I rfl F rfl 16 aggIDT hFl ZI hJ3 hZIl hF1 ?_; intro w4 hJ4 hb4 hs4; have bb4 : Below B w w4 := bb3.trans (hb4.mono (by omega)); have hI4 := hI3.below hb4 (by have := hI3.map.lt; omega) (by omega))
     | (obtain ⟨I, HI⟩ := hidE w2.heap.size; have hBI : B < I := (by rw [HI.out]; exact hB2); refine wl_allocV rfl 25 rfl ZI hzid.out I HI.out.symm ?_; intro w3 hJ3 hb3 hs3; have bb3 : Below B w w3 := bb2.trans (hb3.mono (by omega)); have hI3 := hI2.below hb3 (by rw [HI.out]; exact hI2.map.lt) hBI))
    refine wp_region_held_drew (S := fun x => x.rangeAt I 0 F) (by kernel_rfl) (at_range (w := w4.drew) hJ4.at0) (fun hHeld => ?_)
    obtain ⟨x, HX⟩ := hidE w4.drew
    rw [← HX.out] at hHeld ⊢
    have hJx : BlkV 25 x I F := by rw [HX.out]; exact hJ4
    have hIx : IterD x mm B D (fun j => left j ∧ j ≠ k) cnt2 := by rw [HX.out]; exact hI4
    have bx : Below B w x := by rw [HX.out]; exact bb4.drew
    clear hJ3 hJ4 hI2 hI3 hI4 hb3 hb4 bb2 bb3 bb4 hs3 hs4 hen
    refine tq 0 rfl ?_
    refine tk 1 rfl (yieldsIf_load_mid (by rfl) 25 _ rfl I 0 rfl F _ (fun w hS => hS) Tryz.underlying25 rfl hiF) ?_
    refine tq 2 rfl ?_
    refine e1 3 rfl fun K' hK' => ?_
    rw [if_pos (by rfl)]
    go_simp
    go_at_call 73
    refine (hcl x bx).out.mono ?_
    rintro e x1 ⟨a1, c1, rfl, hR1, hno1, hb1⟩
    have hJx1 := hJx.below hb1 hJx.lt
    have hIx1 := hIx.below hb1 hIx.map.lt hIx.lt
    have bx1 : Below B w x1 := bx.trans (hb1.mono (Nat.le_of_lt hIx.lt))
    refine hK'.out _ _ (at_range hJx1.at0) (fun hHeld => ?_)
    clear hK' K' hb1 hJx bx hIx
    try simp only [Act.put, sArr, sZ, sS]
    refine tk 4 rfl (yieldsIf_build (by rfl) 120 _ rfl [(0, .agg F.toArray), (1, .slice a1 m c1)] rfl (memC F (.slice a1 m c1)) (hbm a1 m c1).out) ?_
    have hml : (memC F (.slice a1 m c1)).length = 17 := by unfold memC; rw [List.length_append, hFl]; rfl
    have hm1 : ∀ u ∈ memC F (.slice a1 m c1), u.oneCell' = true := fun u hu => by
     unfold memC at hu
     rcases List.mem_append.1 hu with h | h
     ·exact hF1 u h
     ·rw [List.mem_singleton.1 h]; rfl
    obtain ⟨MC, HMC⟩ := hidE (memC F (Value.slice a1 m c1))
    rw [← HMC.out] at hml hm1 ⊢
    refine e1 5 rfl fun K' hK' => ?_
    obtain ⟨A, HA⟩ := hidE x1.heap.size
    refine step_slice1 rfl 49 120 _ rfl Tryz.underlying49 17 MZ hin2.out hmz (by decide) (by decide) MC rfl hml A HA.out.symm ?_
    intro x2 hA2 hb2 hs2
    have hb2' : Below x1.heap.size x1 x2 := by rw [← HA.out]; exact hb2
    have hJx2 := hJx1.below hb2' hJx1.lt
    have hIx2 := hIx1.below hb2' hIx1.map.lt hIx1.lt
    have bx2 : Below B w x2 := bx1.trans (hb2'.mono (Nat.le_of_lt hIx1.lt))
    have hR2 := hR1.below hb2'
    refine hK'.out _ _ (at_range hJx2.at0) (fun hHeld => ?_)
    clear hK' K' hJx1 bx1 hR1 hb2 hb2' hIx1
    try simp only [Act.put, sArr, sZ, sS]
    refine e1 6 rfl fun K' hK' => ?_
    obtain ⟨BB, HBB⟩ := hidE x2.heap.size
    refine step_appendS rfl _ _ 49 rfl 120 (.agg MZ.toArray) 17 40 Tryz.underlying49 hin1.out (by show MZ.toArray.size = 17; simpa using hmz) (by decide) BB _ 0 [] rfl (Mine.nil _ _ _ _) (some ⟨A, 0, none⟩) 1 1 rfl (fun h => by cases h) MC (by rw [hml]) (at_row hA2.lt hA2.at0) hm1 (by unfold maxLen; omega) (by omega) (Nat.le_of_eq HBB.out) 1 rfl ?_
    intro ao3 c3 x3 row3 hc3 hM3 hV3 hg3 hr3
    have hb3 : Below x2.heap.size x2 x3 := by rw [← HBB.out]; exact (Below.refl _ _).grown hg3 (Nat.le_of_eq HBB.out) (fun k hk => (hr3 k hk).1)
    have hJx3 := hJx2.below hb3 hJx2.lt
    have hIx3 := hIx2.below hb3 hIx2.map.lt hIx2.lt
    have bx3 : Below B w x3 := bx2.trans (hb3.mono (Nat.le_of_lt hIx2.lt))
    have hR3 := hR2.below hb3
    rw [List.nil_append] at hV3
    obtain ⟨M, HMM⟩ : ∃ M, Hid (ao3 = some ⟨M, 0, none⟩) := by
     rcases (mine_own hM3 (by decide)).2 with ⟨_, h⟩ | ⟨g1, cap1, cur1, hv1, _⟩
     ·cases h
     ·injection hv1 with hv1
      exact ⟨g1, hid hv1⟩
    have hao := HMM.out
    subst hao
    refine hK'.out _ _ (at_range hJx3.at0) (fun hHeld => ?_)
    clear hK' K' hM3 hJx2 bx2 hR2 hb3 hIx2
    try simp only [Act.put, sArr, sZ, sS]
    refine tq 7 rfl ?_
    refine wpAnyH_done (by kernel_rfl) ?_ _
    clear hHeld
    go_wp2_with fail
    go_roundw
    case rel => exact ⟨_, cnt2, hIx3, bx3, hIx3.lt, Or.inr ⟨hnl, M, c3, a1, c1, rfl, by rw [← HMC.out]; exact hV3, hR3, hno1⟩⟩
    case measure => rw [hIx3.left_eq, hIt.left_eq]; exact hlt2.out
  ·go_wp2_with (first | (at_next; refine wl_nextD rfl _ rfl mm B D left cn rfl hIt ?_ ?_) | fail)
   ·intro hc0 hl0
    go_wp2_with (go_at_call 74; refine (SortFuncM (some ⟨M, 0, none⟩) 1 c _ wr (by decide)).mono ?_; rintro e w3 ⟨rfl, rfl⟩)
    exact HP.out M c a' c' _ hV hRS hno bb
   ·intro k v w2 cnt2 hk
    exact absurd hk (hnone.out k)
end Go.Proofs.YtdhipjoplkpgmaaGreatDoor.hf
namespace Go.Proofs.YtdhipjoplkpgmaaGreatDoor.hf
open Go.RowKit st hs wr shr sh lk
theorem yieldsIf_cat {P : Program} {ops : Array Oper} {S : World → Prop} {op : Oper} {a : Act} (hw : Region.wanted op (yielded ops a.tmps) = true) (t u : TypeId) (x y : Operand) (ho : op.op = .binOp .add t x y u) (s1 s2 : ByteArray) (hx : a.eval x = .string s1) (hy : a.eval y = .string s2) (hs : s1.size + s2.size ≤ 9223372036854775807) : YieldsIf P ops S op (.string (s1 ++ s2)) a :=
 .inl ⟨hw, fun w _ => by
  unfold execOp
  simp [ho, hx, hy, binOp, eqGuard, run_string_add_sum w s1 s2 hs]⟩
theorem wl_cat {P : Program} {w : World} {ops : Array Oper} {rest : List Oper} {o : Oper} {a : Act} {Q : Exit → Act → World → Prop} (hgd : o.guard = none) (t u : TypeId) (x y : Operand) (ho : o.op = .binOp .add t x y u) (s1 s2 : ByteArray) (hx : a.eval x = .string s1) (hy : a.eval y = .string s2) (hs : s1.size + s2.size ≤ 9223372036854775807)
  (h : wpList P ops Q rest (a.put o.dst (.string (s1 ++ s2))) w) : wpList P ops Q (o :: rest) a w := by
 refine wpList_plain hgd fun K hK' => ?_
 unfold Oper.wp
 simp [execOp, ho, hx, hy, binOp, eqGuard, run_string_add_sum w s1 s2 hs, Result.andThen]
 exact hK' _ _ h
theorem RefHeld_ok (h g mm mk mv ms : Nat) (en : Value) (R : List Value) (hR : R.length = 32) (cnt t : Int) (lv fv : List Value) (hlv : lv.length = 32) (hfv : fv.length = 16) (w : World) (hH : BlkV 48 w h (houR R g en ms)) (hS : BlkV 92 w g (rsC cnt t lv fv mm mk mv)) (hK : MapD w mk (fun _ => none)) :
  Calls Tryz.prog 32 #[.pointer (some ⟨h, 0, none⟩)] w fun e w' => e = .returned (.slice none 0 0) ∧ Below w.heap.size w w' := by
 have h32 := (houR_cells hR hH).1
 have hk := hid (RefKeys_ok g mm mk mv cnt t lv fv hlv hfv w hS hK)
 clear hS hK hH
 obtain ⟨Q, HQ⟩ : ∃ Q : Ending → World → Prop, Hid (Q = fun e w' => e = .returned (.slice none 0 0) ∧ Below w.heap.size w w') := ⟨_, hid rfl⟩
 rw [← HQ.out]
 have HPQ : Hid (∀ w', Below w.heap.size w w' → Q (.returned (.slice none 0 0)) w') := hid (by rw [HQ.out]; exact fun w' h => ⟨rfl, h⟩)
 go_enter Tryz.func32, Tryz.ntmps32
 go_wp2_with (first | (go_at_call 27; refine hk.out.mono ?_; rintro e w1 ⟨rfl, hb1⟩))
 clear hk
 go_loopw [3, 7, 15] (fun o _ i wr => i = .int .i64 0 ∧ o = .slice none 0 0 ∧ wr = w1) (fun _ _ _ _ => 0)
 case atStart => exact ⟨rfl, rfl, rfl⟩
 case round =>
  obtain ⟨rfl, rfl, rfl⟩ := hrel
  go_wp2
  exact HPQ.out _ hb1
end Go.Proofs.YtdhipjoplkpgmaaGreatDoor.hf
