/-
  Contracts of mix.Cover, wrap.cover and wrap.tag. Conditions: keys, nonces and texts of octets, texts of at most 2^20 octets. Contracts of wrap.tag and of wrap.Wrap at version 1; keylaw2.wraps says yes. Conditions: keys and nonces of octets, a context of at most 4096 octets. Contract of wrap.Wrap at version 1; keylaw2.wraps says yes. Conditions: keys and nonces of octets, an epoch in its bounds, a context of at most 4096 octets.
-/
import Derived.Test.YtbjmadcbhkeenaaGreatCWrI
import Derived.Test.YtbjmadcbhkeenaaGreatCWrK
import Derived.Test.YtbjmadcbhkeenaaGreatCShR
set_option maxRecDepth 100000
set_option linter.unusedSimpArgs false
set_option linter.unusedVariables false
namespace Go.Proofs.YtbjmadcbhkeenaaGreat.wr
open Go.RowKit st hs shr sh
def xorN (s l : List Int) (k : Nat) : List Int := (List.range s.length).map fun i => if i < k then bits .xor .u8 (s.getD i 0) (l.getD i 0) else s.getD i 0
def xorL (s l : List Int) : List Int := xorN s l s.length
theorem xorN_length (s l : List Int) (k : Nat) : (xorN s l k).length = s.length := by simp [xorN]
theorem xorN_get (s l : List Int) (k i : Nat) (hi : i < s.length) : (xorN s l k).getD i 0 = if i < k then bits .xor .u8 (s.getD i 0) (l.getD i 0) else s.getD i 0 := by simp [xorN, List.getD_eq_getElem?_getD, hi]
theorem xorN_zero (s l : List Int) : xorN s l 0 = s := by
 apply List.ext_getElem?
 intro i
 by_cases h : i < s.length
 ·rw [List.getElem?_eq_getElem (by rw [xorN_length]; exact h), List.getElem?_eq_getElem h]
  have := xorN_get s l 0 i h
  rw [if_neg (Nat.not_lt_zero _), getD_lt' _ _ (by rw [xorN_length]; exact h), getD_lt' _ _ h] at this
  rw [this]
 ·rw [List.getElem?_eq_none (by rw [xorN_length]; omega), List.getElem?_eq_none (by omega)]
theorem xorL_length (s l : List Int) : (xorL s l).length = s.length := xorN_length _ _ _
theorem xorL_octs {s l : List Int} (hs : Octs s) (hl : Octs l) : Octs (xorL s l) := by
 intro c hc
 unfold xorL xorN at hc
 obtain ⟨i, hi, rfl⟩ := List.mem_map.1 hc
 rw [if_pos (List.mem_range.1 hi)]
 exact xor_oct (hs.getD i) (hl.getD i)
def coverL (k n t : List Int) : List Int := xorL (strmL k n t.length) t
theorem coverL_length (k n t : List Int) : (coverL k n t).length = t.length := by unfold coverL; rw [xorL_length, strmL_length]
theorem coverL_octs (k n : List Int) {t : List Int} (h : Octs t) : Octs (coverL k n t) := xorL_octs (strmL_octs _ _ _) h
theorem own_blk {w : World} {base m c : Nat} {e : TypeId} {ao : Option Addr} {xs : List Value} (h : w.ownsRow base e 1 (.slice ao m c) m xs) (hm : 0 < m) : ∃ g cur, ao = some ⟨g, 0, none⟩ ∧ base ≤ g ∧ BlkV e w g cur ∧ m ≤ c ∧ c ≤ maxLen ∧ cur.length = c ∧ cur.take m = xs := by
 obtain ⟨_, h | ⟨g, cap, cur, hv, hg, hh, h1, h2, h3, h4⟩⟩ := h
 ·simp at h; omega
 ·cases hv
  refine ⟨g, cur.toList, rfl, hg, hh, h1, h2, by simpa using h3, by simpa using h4⟩
theorem blk_own {w : World} {base m c g : Nat} {e : TypeId} {cur xs : List Value} (hg : base ≤ g) (h : BlkV e w g cur) (h1 : m ≤ c) (h2 : c ≤ maxLen) (h3 : cur.length = c) (h4 : cur.take m = xs) : w.ownsRow base e 1 (.slice (some ⟨g, 0, none⟩) m c) m xs := by
 refine ⟨by rw [← h4, List.length_take]; omega, Or.inr ⟨g, c, cur.toArray, rfl, hg, h, h1, h2, by simpa using h3, by simpa using h4⟩⟩
def Cells (cur : List Value) (m : Nat) (l : List Int) : Prop := ∀ i, i < m → cur[i]? = some (.int .u8 (l.getD i 0))
theorem cells_take {cur : List Value} {m : Nat} {l : List Int} (h : Cells cur m l) (hl : l.length = m) (hm : m ≤ cur.length) : cur.take m = l.map (Value.int .u8) := by
 apply List.ext_getElem?
 intro i
 rw [List.getElem?_take, List.getElem?_map]
 by_cases hi : i < m
 ·rw [if_pos hi, h i hi, List.getElem?_eq_getElem (by omega), getD_lt' l 0 (by omega)]; rfl
 ·rw [if_neg hi, List.getElem?_eq_none (by omega)]; rfl
theorem take_cells {cur : List Value} {m : Nat} {l : List Int} (h : cur.take m = l.map (Value.int .u8)) (hl : l.length = m) : Cells cur m l := by
 intro i hi
 have h1 : (cur.take m)[i]? = (l.map (Value.int .u8))[i]? := by rw [h]
 rw [List.getElem?_take, if_pos hi, List.getElem?_map, List.getElem?_eq_getElem (l := l) (by omega)] at h1
 rw [h1, getD_lt' l 0 (by omega)]; rfl
theorem cells_step {cur : List Value} {s l : List Int} {j : Nat} (h : Cells cur s.length (xorN s l j)) (hj : j < s.length) (hc : s.length ≤ cur.length) : Cells (cur.set j (.int .u8 (bits .xor .u8 (s.getD j 0) (l.getD j 0)))) s.length (xorN s l (j + 1)) := by
 intro i hi
 rw [List.getElem?_set, xorN_get s l (j + 1) i hi]
 by_cases e : j = i
 ·subst e
  rw [if_pos rfl, if_pos (by omega), if_pos (by omega)]
 ·rw [if_neg e, h i hi, xorN_get s l j i hi]
  by_cases h1 : i < j
  ·rw [if_pos h1, if_pos (by omega)]
  ·rw [if_neg h1, if_neg (by omega)]
set_option maxHeartbeats 2000000 in
theorem Cover_any (k n l : List Int) (ao : Option Addr) (cap m : Nat) (w : World) (hk : k.length = 32) (hn : n.length = 16) (ok : Octs k) (on : Octs n) (hml : m = l.length) (HP : Pt.Ok w ⟨ao, cap, l⟩) (hm : m ≤ 1048576) :
  Calls Tryz.prog 72 #[.agg (k.map (Value.int .u8)).toArray, .agg (n.map (Value.int .u8)).toArray, .slice ao m cap] w fun e w' => ∃ ao' c', e = .returned (.tuple #[.slice ao' m c', .int .i64 0]) ∧ Mine w' w.heap.size 5 1 (.slice ao' m c') m ((coverL k n l).map (Value.int .u8)) ∧ Below w.heap.size w w' := by
 obtain ⟨B, HB⟩ : ∃ B, Hid (B = w.heap.size) := ⟨_, rfl⟩
 have hsz : w.heap.size = B := HB.out.symm
 have hst := fun w => hid (Stream_any k n m w hk hn ok on hm)
 obtain ⟨K, HK⟩ : ∃ K, Hid (K = k.map (Value.int .u8)) := ⟨_, rfl⟩
 obtain ⟨N, HN⟩ : ∃ N, Hid (N = n.map (Value.int .u8)) := ⟨_, rfl⟩
 have hKl : K.length = 32 := by rw [HK.out, List.length_map, hk]
 have hNl : N.length = 16 := by rw [HN.out, List.length_map, hn]
 rw [← HK.out, ← HN.out] at hst ⊢
 obtain ⟨S, HS⟩ : ∃ S, Hid (S = strmL k n m) := ⟨_, rfl⟩
 rw [← HS.out] at hst
 have hSl : Hid (S.length = m) := hid (by rw [HS.out]; exact strmL_length _ _ _)
 have hCL : Hid (coverL k n l = xorN S l m) := hid (by unfold coverL xorL; rw [← hml, strmL_length, HS.out])
 have hLl := hid hml
 have hrow := HP.row
 have hlt := fun b h => HP.lt b h
 clear hml HP hk hn
 go_enter Tryz.func72, Tryz.ntmps72
 go_wp2_with (first | (refine wl_boxV rfl 23 _ rfl K rfl B hsz ?_; intro w0 hB0 hb0 hs0) | (refine wl_boxV rfl 53 _ rfl N rfl (B + 1) hs0 ?_; intro w1 hN1 hb1 hs1; have hB1 := hB0.below hb1 (by omega); have bb1 := hb0.trans (hb1.mono (by omega : B ≤ _)); clear hB0 hb0 hb1) | (refine wl_load rfl 23 _ rfl ⟨B, 0, none⟩ rfl K (by rw [hKl]; exact aggKey) hB1.at0 ?_) | (refine wl_load rfl 53 _ rfl ⟨B + 1, 0, none⟩ rfl N (by rw [hNl]; exact aggNo) hN1.at0 ?_) | (go_at_call 100; refine (hst w1).out.mono ?_; rintro e w2 ⟨ao2, c2, rfl, hM2, hb2⟩; have bb2 := bb1.trans (hb2.mono (by omega : B ≤ _)); have hs2 := hb2.size; have hM2' := hM2.mono (by omega : B ≤ _); clear hB1 hN1 bb1 hb2 hM2))
 by_cases hm0 : m = 0
 ·subst hm0
  go_loopw [25] (fun i wr => i = .int .i64 0 ∧ wr = w2) (fun _ _ => 0)
  case atStart => exact ⟨rfl, rfl⟩
  case round =>
   obtain ⟨rfl, rfl⟩ := hrel
   go_wp2
   go_ret2
   refine ⟨_, _, rfl, ?_, by rw [← HB.out]; exact bb2⟩
   rw [hCL.out, xorN_zero, ← HB.out]
   exact hM2'
 ·obtain ⟨g, cur, rfl, hg, hG, h1, h2, h3, h4⟩ := own_blk (mine_own hM2' (by omega)) (by omega)
  have hC0 := hid (take_cells h4 hSl.out)
  have h3' := hid h3
  have hgl := hG.lt
  clear hM2' h4 h3
  go_loopw [25] (fun i wr => ∃ (j : Nat) (cu : List Value), j ≤ m ∧ i = .int .i64 j ∧ BlkV 5 wr g cu ∧ cu.length = c2 ∧ Cells cu m (xorN S l j) ∧ Below B w wr ∧ w2.grownBy wr (some g)) (fun i _ => m - (intOf i).toNat)
  case atStart => exact ⟨0, cur, by omega, rfl, hG, h3'.out, by rw [xorN_zero]; exact hC0.out, bb2, World.grownBy.refl _ _⟩
  case round =>
   clear hG bb2
   obtain ⟨j, cu, hj, rfl, hG, hcu, hcs, bbr, hgr⟩ := hrel
   by_cases h0 : j < m
   ·have hjI : (j : Int) < (m : Int) := by omega
    have hjI0 : (0 : Int) ≤ (j : Int) := by omega
    obtain ⟨b, off, c, rfl, hb, HC, hcell⟩ := hrow.elem (i := j) (by rw [← hLl.out]; exact h0)
    have hcc := (bbr.cell (p := ⟨b, off + j, none⟩) (by show b < B; omega)).trans hcell
    obtain ⟨x, Hx⟩ : ∃ x, Hid (x = S.getD j 0) := ⟨_, rfl⟩
    have cX := (hG.cell j).trans (hcs j h0)
    rw [xorN_get S l j j (by rw [hSl.out]; exact h0), if_neg (Nat.lt_irrefl j), ← Hx.out] at cX
    have fX := hG.frozen j
    have hjc : (j : Int) < (c2 : Int) := by omega
    have hst := hid (cells_step (l := l) (j := j) (s := S) (cur := cu) (by rw [hSl.out]; exact hcs) (by rw [hSl.out]; exact h0) (by rw [hSl.out, hcu]; exact h1))
    rw [hSl.out, ← Hx.out, ← HC.out] at hst
    have HCU := hid hcu
    clear hcs hcu
    go_wp2
    go_roundw
    case rel => exact ⟨j + 1, _, by omega, by go_num, hG.set j _, by rw [List.length_set]; exact HCU.out, hst.out, bbr.setCell (by simp; omega) _, grown_set hgr _ _⟩
    case measure => simp [intOf] <;> omega
   ·obtain rfl : j = m := by omega
    have HCU := hid hcu
    have HCS := hid hcs
    clear hcs hcu
    go_wp2
    go_ret2
    refine ⟨_, _, rfl, Or.inl (blk_own (by rw [← HB.out]; exact hg) hG h1 h2 HCU.out ?_), by rw [← HB.out]; exact bbr⟩
    rw [hCL.out]
    exact cells_take HCS.out (by rw [xorN_length, hSl.out]) (by rw [HCU.out]; exact h1)
def wrapS : List Int := [119, 114, 97, 112]
def tagS : List Int := [116, 97, 103]
theorem wrapS_octs : Octs wrapS := by
 intro c hc
 unfold wrapS at hc
 simp only [List.mem_cons, List.not_mem_nil, or_false] at hc
 rcases hc with rfl | rfl | rfl | rfl <;> exact ⟨by decide, by decide⟩
theorem tagS_octs : Octs tagS := by
 intro c hc
 unfold tagS at hc
 simp only [List.mem_cons, List.not_mem_nil, or_false] at hc
 rcases hc with rfl | rfl | rfl <;> exact ⟨by decide, by decide⟩
theorem wrapS_name : isName (strOfNums wrapS) = true := by decide
theorem tagS_name : isName (strOfNums tagS) = true := by decide
theorem deriveL_octs (k L : List Int) (e : Int) : Octs (deriveL k L e) := sumL_octs _ _
theorem zeroA32' : (Tryz.prog.info? 22).map (·.zero) = some (some (.agg ((List.replicate 32 (0 : Int)).map (Value.int .u8)).toArray)) := by kernel_rfl
def wrapL (k : List Int) (e : Int) (n s : List Int) : List Int := coverL (deriveL k wrapS e) n s
theorem wrapL_length (k : List Int) (e : Int) (n s : List Int) : (wrapL k e n s).length = s.length := coverL_length _ _ _
def tagT (x : Env) (c : List Int) : List Int := if x.v = 1 then aheadL x ++ c else aheadL x
def tagX (k : List Int) (x : Env) (c : List Int) : List Int := tagL (deriveL k tagS x.e) (tagT x c)
theorem tagX_length (k : List Int) (x : Env) (c : List Int) : (tagX k x c).length = 16 := tagL_length _ _
set_option maxHeartbeats 2000000 in
theorem cover_any (k : List Int) (e : Int) (n s : List Int) (w : World) (hk : k.length = 32) (ok : Octs k) (he : 0 ≤ e ∧ e ≤ 4294967295) (hn : n.length = 16) (on : Octs n) (hs : s.length = 32) (os : Octs s) :
  Calls Tryz.prog 45 #[.agg (k.map (Value.int .u8)).toArray, .int .i64 e, .agg (n.map (Value.int .u8)).toArray, .agg (s.map (Value.int .u8)).toArray] w fun r w' => r = .returned (.agg ((wrapL k e n s).map (Value.int .u8)).toArray) ∧ Below w.heap.size w w' := by
 obtain ⟨B, HB⟩ : ∃ B, Hid (B = w.heap.size) := ⟨_, rfl⟩
 have hsz : w.heap.size = B := HB.out.symm
 obtain ⟨K, HK⟩ : ∃ K, Hid (K = k.map (Value.int .u8)) := ⟨_, rfl⟩
 obtain ⟨N, HN⟩ : ∃ N, Hid (N = n.map (Value.int .u8)) := ⟨_, rfl⟩
 obtain ⟨S, HS⟩ : ∃ S, Hid (S = s.map (Value.int .u8)) := ⟨_, rfl⟩
 obtain ⟨Z, HZ⟩ : ∃ Z, Hid (Z = (List.replicate 32 (0 : Int)).map (Value.int .u8)) := ⟨_, rfl⟩
 have hKl : K.length = 32 := by rw [HK.out, List.length_map, hk]
 have hNl : N.length = 16 := by rw [HN.out, List.length_map, hn]
 have hSl : S.length = 32 := by rw [HS.out, List.length_map, hs]
 have hZl : Z.length = 32 := by rw [HZ.out]; simp
 have hzA := hid zeroA32'
 have hzK := hid zeroKey
 rw [← HZ.out] at hzA hzK
 have hde := fun w => hid (Derive_ok k hk ok wrapS wrapS_octs wrapS_name e he w)
 obtain ⟨kd, HKD⟩ : ∃ kd, Hid (kd = deriveL k wrapS e) := ⟨_, rfl⟩
 have hkd : kd.length = 32 := by rw [HKD.out]; exact deriveL_length _ _ _
 have okd : Octs kd := by rw [HKD.out]; exact deriveL_octs _ _ _
 have HW : Hid (wrapL k e n s = coverL kd n s) := hid (by unfold wrapL; rw [HKD.out])
 obtain ⟨KW, HKW⟩ : ∃ KW, Hid (KW = kd.map (Value.int .u8)) := ⟨_, rfl⟩
 have hKWl : KW.length = 32 := by rw [HKW.out, List.length_map, hkd]
 have hKW1 : ∀ u ∈ KW, u.oneCell' = true := by rw [HKW.out]; exact ints_one _ _
 rw [← HKD.out, ← HKW.out] at hde
 have hcv := fun w (HP : Pt.Ok w ⟨some ⟨B + 2, 0, none⟩, 32, s⟩) => hid (Cover_any kd n s (some ⟨B + 2, 0, none⟩) 32 32 w hkd hn okd on hs.symm HP (by decide))
 rw [← HKW.out, ← HN.out] at hcv
 obtain ⟨V, HV⟩ : ∃ V, Hid (V = (coverL kd n s).map (Value.int .u8)) := ⟨_, rfl⟩
 have hVl : V.length = 32 := by rw [HV.out, List.length_map, coverL_length, hs]
 have hV1 : ∀ u ∈ V, u.oneCell' = true := by rw [HV.out]; exact ints_one _ _
 rw [← HV.out] at hcv
 rw [HW.out, ← HV.out]
 have hal : Tryz.prog.arrayLen 22 = 32 := by kernel_rfl
 have hAC := fun w a n cap h => run_arrayAtA32 w a n cap h
 have hu23 := Tryz.underlying23
 have hi23 : (Tryz.prog.info? 23).map (·.size) = some KW.length := by rw [hKWl]; exact aggKey.2
 have hu25 := Tryz.underlying53
 have hi25 : (Tryz.prog.info? 53).map (·.size) = some N.length := by rw [hNl]; exact aggNo.2
 rw [← HK.out] at hde ⊢
 rw [← HN.out, ← HS.out]
 clear hk hn
 go_enter Tryz.func45, Tryz.ntmps45
 go_wp2_with (first | (refine wl_boxV rfl 23 _ rfl K rfl B hsz ?_; intro w0 hB0 hb0 hs0) | (refine wl_boxV rfl 53 _ rfl N rfl (B + 1) hs0 ?_; intro w1 hN1 hb1 hs1; have hB1 := hB0.below hb1 (by omega); have bb1 := hb0.trans (hb1.mono (by omega : B ≤ _)); clear hB0 hb0 hb1) | (refine wl_boxV rfl 22 _ rfl S rfl (B + 2) hs1 ?_; intro w2 hS2 hb2 hs2; have hB2 := hB1.below hb2 (by omega); have hN2 := hN1.below hb2 (by omega); have bb2 := bb1.trans (hb2.mono (by omega : B ≤ _)); clear hB1 hN1 bb1 hb2) | (refine wl_allocV rfl 22 rfl Z hzA.out (B + 3) hs2 ?_; intro w3 hR3 hb3 hs3; have hB3 := hB2.below hb3 (by omega); have hN3 := hN2.below hb3 (by omega); have hS3 := hS2.below hb3 (by omega); have bb3 := bb2.trans (hb3.mono (by omega : B ≤ _)); clear hB2 hN2 hS2 bb2 hb3) | (refine wl_load rfl 23 _ rfl ⟨B, 0, none⟩ rfl K (by rw [hKl]; exact aggKey) hB3.at0 ?_) | (go_at_call 69; refine (hde w3).out.mono ?_; rintro e w4 ⟨rfl, hb4⟩; have hN4 := hN3.below hb4 (by omega); have hS4 := hS3.below hb4 (by omega); have hR4 := hR3.below hb4 (by omega); have bb4 := bb3.trans (hb4.mono (by omega : B ≤ _)); have hs4 := hb4.size; clear hB3 hN3 hS3 hR3 bb3 hb4) | (refine wl_allocV rfl 23 rfl Z hzK.out w4.heap.size rfl ?_; intro w5 hG5 hb5 hs5; have hN5 := hN4.below hb5 (by omega); have hS5 := hS4.below hb5 (by omega); have hR5 := hR4.below hb5 (by omega); have bb5 := bb4.trans (hb5.mono (by omega : B ≤ _)); clear hN4 hS4 hR4 bb4 hb5) | (refine wl_storeV rfl 23 _ _ rfl 23 w4.heap.size rfl KW rfl 32 aggKey hKWl Z hG5 hZl hKW1 ?_; intro w6 hG6 hb6 hs6; have hN6 := hN5.below hb6 (by omega); have hS6 := hS5.below hb6 (by omega); have hR6 := hR5.below hb6 (by omega); have bb6 := bb5.trans (hb6.mono (by omega : B ≤ _)); clear hG5 hN5 hS5 hR5 bb5 hb6))
 obtain ⟨g, Hg⟩ : ∃ g, Hid (g = w4.heap.size) := ⟨_, rfl⟩
 rw [← Hg.out] at hG6 ⊢
 have hg4 : B + 4 ≤ g := by have := Hg.out; omega
 have hs6' : g + 1 ≤ w6.heap.size := by have := Hg.out; omega
 have hPS : Pt.Ok w6.drew ⟨some ⟨B + 2, 0, none⟩, 32, s⟩ := ⟨RowV.i (by rw [← HS.out]; exact at_row (w := w6.drew) (by show B + 2 < w6.heap.size; omega) hS6.at0), by show s.length ≤ 32; omega, by show (32 : Nat) ≤ maxLen; decide, os, fun b e => by cases e; show B + 2 < w6.heap.size; omega⟩
 clear hS6 hs5 hs6 hs4 hs3
 refine wp_region_held_drew (S := (fun w' => w'.rangeAt g 0 KW ∧ w'.rangeAt (B + 1) 0 N)) (by kernel_rfl) ⟨at_range (w := w6.drew) hG6.at0, at_range (w := w6.drew) hN6.at0⟩ (fun hHeld => ?_)
 obtain ⟨y0, HY0⟩ : ∃ x, Hid (x = w6.drew) := ⟨_, rfl⟩
 rw [← HY0.out] at hHeld hPS ⊢
 have bb0 : Below B w y0 := by rw [HY0.out]; exact bb6.drew
 have hR0 : BlkV 22 y0 (B + 3) Z := by rw [HY0.out]; exact hR6
 have hsy0 : g + 1 ≤ y0.heap.size := by rw [HY0.out]; exact hs6'
 clear bb6 hR6 hN6 hG6 hs6'
 refine take_l (i := 0) (v := _) rfl (by kernel_rfl) (by kernel_rfl) (by kernel_rfl) (fun _ _ _ h => h) (yieldsIf_load_mid (by rfl) 23 _ rfl g 0 rfl KW _ (fun w hS => hS.1) hu23 rfl hi23) (by assumption) ?_
 try simp only [Act.put, fpA, fpZ, fpN]
 refine take_l (i := 1) (v := _) rfl (by kernel_rfl) (by kernel_rfl) (by kernel_rfl) (fun _ _ _ h => h) (yieldsIf_load_mid (by rfl) 53 _ rfl (B + 1) 0 rfl N _ (fun w hS => hS.2) hu25 rfl hi25) (by assumption) ?_
 try simp only [Act.put, fpA, fpZ, fpN]
 refine take_l (i := 2) (v := ?rv3) rfl (by kernel_rfl) (by kernel_rfl) (by kernel_rfl) (fun _ _ _ h => h) (Or.inl ⟨by rfl, ?rhy3⟩) (by assumption) ?rrest3
 case rhy3 => (intro w hSw; (try dsimp only at hSw); go_simp; (try with_reducible rfl))
 try simp only [Act.put, fpA, fpZ, fpN]
 refine wpAnyH_ready (rs := [3]) (by kernel_rfl) (by simp) (cons_l rfl (fun K' hK' => ?_) AllReadyH.nil)
 rw [if_pos (by rfl)]
 go_simp
 go_at_call 72
 refine (hcv y0 hPS).out.mono ?_
 rintro e y1 ⟨ao1, c1, rfl, hM1, hb1⟩
 have hR1 := hR0.below hb1 (by omega)
 have bb1 := bb0.trans (hb1.mono (by omega : B ≤ _))
 have hsy1 := hb1.size
 refine hK'.out _ _ ⟨fun j u hu => (hb1.cell (p := ⟨g, 0 + j, none⟩) (by show g < _; omega)).trans (hHeld.1 j u hu), fun j u hu => (hb1.cell (p := ⟨B + 1, 0 + j, none⟩) (by show B + 1 < _; omega)).trans (hHeld.2 j u hu)⟩ (fun hHeld => ?_)
 clear hK' K'
 try simp only [Act.put, fpA, fpZ, fpN]
 refine take_l (i := 4) (v := ?rv4) rfl (by kernel_rfl) (by kernel_rfl) (by kernel_rfl) (fun _ _ _ h => h) (Or.inl ⟨by rfl, ?rhy4⟩) (by assumption) ?rrest4
 case rhy4 => (intro w hSw; (try dsimp only at hSw); go_simp; (try with_reducible rfl))
 try simp only [Act.put, fpA, fpZ, fpN]
 refine take_l (i := 5) (v := ?rv5) rfl (by kernel_rfl) (by kernel_rfl) (by kernel_rfl) (fun _ _ _ h => h) (Or.inl ⟨by rfl, ?rhy5⟩) (by assumption) ?rrest5
 case rhy5 => (intro w hSw; (try dsimp only at hSw); go_simp; (try with_reducible rfl))
 try simp only [Act.put, fpA, fpZ, fpN]
 refine take_l (i := 6) (v := ?rv6) rfl (by kernel_rfl) (by kernel_rfl) (by kernel_rfl) (fun _ _ _ h => h) (Or.inl ⟨by rfl, ?rhy6⟩) (by assumption) ?rrest6
 case rhy6 => (intro w hSw; (try dsimp only at hSw); go_simp; (try with_reducible rfl))
 try simp only [Act.put, fpA, fpZ, fpN]
 refine take_l (i := 7) (v := ?rv7) rfl (by kernel_rfl) (by kernel_rfl) (by kernel_rfl) (fun _ _ _ h => h) (Or.inl ⟨by rfl, ?rhy7⟩) (by assumption) ?rrest7
 case rhy7 => (intro w hSw; (try dsimp only at hSw); go_simp; (try with_reducible rfl))
 try simp only [Act.put, fpA, fpZ, fpN]
 refine take_l (i := 8) (v := ?rv8) rfl (by kernel_rfl) (by kernel_rfl) (by kernel_rfl) (fun _ _ _ h => h) (Or.inl ⟨by rfl, ?rhy8⟩) (by assumption) ?rrest8
 case rhy8 => (intro w hSw; (try dsimp only at hSw); go_simp; (try with_reducible rfl))
 try simp only [Act.put, fpA, fpZ, fpN]
 refine wpAnyH_done (by kernel_rfl) ?_ _
 obtain ⟨gM, cur, rfl, hgM, hGM, h1, h2, h3, h4⟩ := own_blk (mine_own hM1 (by decide)) (by decide)
 have hAM : At y1 ⟨gM, 0, none⟩ V := fun j u hu => by
  rw [addr_add, Nat.zero_add, hGM.cell]
  rw [← h4, List.getElem?_take] at hu
  split at hu
  ·exact hu
  ·cases hu
 clear hHeld hM1 hb1 h4 h3 hR0 bb0 hPS
 go_wp2_with (first | (refine wl_load rfl 22 _ rfl ⟨gM, 0, none⟩ rfl V (by rw [hVl]; exact agg32) hAM ?_) | (refine wl_storeV rfl 22 _ _ rfl 22 (B + 3) rfl V rfl 32 agg32 hVl Z hR1 hZl hV1 ?_; intro wF hRF hbF hsF))
 (try simp only [Exit.inBlock, Exit.then]); refine bodyPost_ret (results_cell rfl _ _ _ _ rfl V (by rw [hVl]; exact agg32) hRF.at0) rfl ?_
 exact ⟨rfl, by first | exact bb1.trans (hbF.mono (by omega)) | (rw [hsz]; exact bb1.trans (hbF.mono (by omega)))⟩
end Go.Proofs.YtbjmadcbhkeenaaGreat.wr
namespace Go.Proofs.YtbjmadcbhkeenaaGreat.wr
open Go.RowKit st hs shr sh
set_option maxHeartbeats 2000000 in
theorem tag_1 (k : List Int) (x : Env) (c : List Int) (ao : Option Addr) (cap mc : Nat) (w : World) (hk : k.length = 32) (ok : Octs k) (hx : x.Ok) (hv : x.v = 1) (he : 0 ≤ x.e ∧ x.e ≤ 4294967295) (hmc : mc = c.length) (HP : Pt.Ok w ⟨ao, cap, c⟩) (hno : ao = none → cap = 0) (hm : mc ≤ 1000000) :
  Calls Tryz.prog 44 #[.agg (k.map (Value.int .u8)).toArray, .agg x.cs.toArray, .slice ao mc cap] w fun r w' => r = .returned (.agg ((tagX k x c).map (Value.int .u8)).toArray) ∧ Below w.heap.size w w' := by
 obtain ⟨B, HB⟩ : ∃ B, Hid (B = w.heap.size) := ⟨_, rfl⟩
 have hsz : w.heap.size = B := HB.out.symm
 obtain ⟨K, HK⟩ : ∃ K, Hid (K = k.map (Value.int .u8)) := ⟨_, rfl⟩
 have hKl : K.length = 32 := by rw [HK.out, List.length_map, hk]
 have hzK := hid zeroKey
 have hzT := hid zeroTag
 obtain ⟨Z, HZ⟩ : ∃ Z, Hid (Z = (List.replicate 32 (0 : Int)).map (Value.int .u8)) := ⟨_, rfl⟩
 obtain ⟨ZT, HZT⟩ : ∃ Z, Hid (Z = (List.replicate 16 (0 : Int)).map (Value.int .u8)) := ⟨_, rfl⟩
 have hZl : Z.length = 32 := by rw [HZ.out]; simp
 have hZTl : ZT.length = 16 := by rw [HZT.out]; simp
 rw [← HZ.out] at hzK
 rw [← HZT.out] at hzT
 have hde := fun w => hid (Derive_ok k hk ok tagS tagS_octs tagS_name x.e he w)
 obtain ⟨kd, HKD⟩ : ∃ kd, Hid (kd = deriveL k tagS x.e) := ⟨_, rfl⟩
 have hkd : kd.length = 32 := by rw [HKD.out]; exact deriveL_length _ _ _
 have okd : Octs kd := by rw [HKD.out]; exact deriveL_octs _ _ _
 obtain ⟨L, HL⟩ : ∃ L, Hid (L = aheadL x ++ c) := ⟨_, rfl⟩
 have hal := hid (aheadL_length hx)
 have hsv : sizeV x = 88 := by unfold sizeV; rw [if_neg (by omega)]
 rw [hsv] at hal
 have hAl : Hid ((aheadL x).length = 72) := hid (by have := hal.out; omega)
 have hLl : L.length = 72 + mc := by rw [HL.out]; rw [List.length_append, hAl.out, hmc]
 have oA : Octs (aheadL x) := aheadL_octs hx (Or.inl hv)
 have oL : Octs L := by rw [HL.out]; exact octs_app oA HP.oct
 have HTX : Hid (tagX k x c = tagL kd L) := hid (by unfold tagX tagT; rw [if_pos hv, ← HKD.out, ← HL.out])
 obtain ⟨KW, HKW⟩ : ∃ KW, Hid (KW = kd.map (Value.int .u8)) := ⟨_, rfl⟩
 have hKWl : KW.length = 32 := by rw [HKW.out, List.length_map, hkd]
 have hKW1 : ∀ u ∈ KW, u.oneCell' = true := by rw [HKW.out]; exact ints_one _ _
 rw [← HKD.out, ← HKW.out] at hde
 have hah := fun w => hid (ahead_1 x hx w hv he)
 have htg := fun w ao cap (HP : Pt.Ok w ⟨ao, cap, L⟩) => hid (TagOf_in kd hkd okd ao cap (72 + mc) L w hLl.symm HP (by omega))
 rw [← HKW.out] at htg
 obtain ⟨V, HV⟩ : ∃ V, Hid (V = (tagL kd L).map (Value.int .u8)) := ⟨_, rfl⟩
 have hVl : V.length = 16 := by rw [HV.out, List.length_map, tagL_length]
 have hV1 : ∀ u ∈ V, u.oneCell' = true := by rw [HV.out]; exact ints_one _ _
 rw [← HV.out] at htg
 rw [HTX.out, ← HV.out]
 have hcv : Hid (x.cs[0]? = some (.int .i64 1)) := hid (by rw [← hv]; exact x.cv)
 have hce := hid x.ce
 have hrow := HP.row.v
 have hlt := fun b h => HP.lt b h
 have hcl : Hid ((c.map (Value.int .u8)).length = mc * 1) := hid (by rw [List.length_map, hmc, Nat.mul_one])
 have hLm : Hid (L.map (Value.int .u8) = (aheadL x).map (Value.int .u8) ++ c.map (Value.int .u8)) := hid (by rw [HL.out, List.map_append])
 obtain ⟨CS, HCS⟩ : ∃ C, Hid (C = x.cs) := ⟨_, rfl⟩
 have hCl : CS.length = 130 := by rw [HCS.out]; exact hx.csl
 obtain ⟨E, HE⟩ : ∃ E, Hid (E = x.e) := ⟨_, rfl⟩
 rw [← HE.out] at hde hce
 rw [← HK.out] at hde ⊢
 rw [← HCS.out] at hah hcv hce ⊢
 clear hk hx hv he hmc HP hal hsv
 go_enter Tryz.func44, Tryz.ntmps44
 go_wp2_with (first | (refine wl_storeV rfl 55 _ _ rfl 55 (B + 2) rfl V rfl 16 aggTag hVl ZT hRA hZTl hV1 ?_; intro wF hRF hbF hsF) | (refine wl_load rfl 55 _ rfl ⟨w8.heap.size, 0, none⟩ rfl V (by rw [hVl]; exact aggTag) hTA.at0 ?_) | (refine wl_storeV rfl 55 _ _ rfl 55 w8.heap.size rfl V rfl 16 aggTag hVl ZT hT9 hZTl hV1 ?_; intro wA hTA hbA hsA; have hRA := hR9.below hbA (by omega); have bbA := bb9.trans (hbA.mono (by omega : B ≤ _)); clear hT9 hR9 bb9 hbA) | (refine wl_allocV rfl 55 rfl ZT hzT.out w8.heap.size rfl ?_; intro w9 hT9 hb9 hs9; have hR9 := hR8.below hb9 (by omega); have bb9 := bb8.trans (hb9.mono (by omega : B ≤ _)); clear hR8 bb8 hb9) | (go_at_call 71; refine (htg w7 ao7 c7 (mine_pt hM7 hLl.symm (by omega) oL).1).out.mono ?_; rintro e w8 ⟨rfl, hb8⟩; have hR8 := hR7.below hb8 (by omega); have bb8 := bb7.trans (hb8.mono (by omega : B ≤ _)); have hs8 := hb8.size; clear hR7 hG7 bb7 hb8 hM7) | (refine wl_load rfl 23 _ rfl ⟨w3.heap.size, 0, none⟩ rfl KW (by rw [hKWl]; exact aggKey) hG7.at0 ?_) | (at_builtin; refine wl_appendS rfl _ _ 25 rfl 5 (.int .u8 0) 1 1 Tryz.underlying25 info8 rfl (by decide) w5.heap.size _ 72 _ rfl hM6 ao mc cap rfl hno (c.map (Value.int .u8)) hcl.out (hrow.below (hsz ▸ bb6)) (ints_one _ _) (by unfold maxLen; omega) (by omega) hs6 (72 + mc) rfl ?_; intro ao7 c7 w7 row7 hc7 hM7 hv7 hg7 hrow7; have hR7 := blk_grown hR6 hg7 (fun k hk => (hrow7 k hk).1) (by omega); have hG7 := blk_grown hG6 hg7 (fun k hk => (hrow7 k hk).1) (by omega); have bb7 := bb6.grown hg7 (by omega) (fun k hk => by have := (hrow7 k hk).1; omega); have hs7 := hg7.size; rw [← hLm.out] at hM7 hv7; clear hX6 hR6 hG6 bb6 hM6 hg7 hrow7 cv6 hv7) | (go_at_call 70; refine (hah w5).out.mono ?_; rintro e w6 ⟨ao6, c6, rfl, hM6, hb6⟩; have hX6 := hX5.below hb6 (by omega); have hR6 := hR5.below hb6 (by omega); have hG6 := hG5.below hb6 (by omega); have bb6 := bb5.trans (hb6.mono (by omega : B ≤ _)); have cv6 := (hX6.cell 0).trans hcv.out; have hs6 := hb6.size; clear hX5 hR5 hG5 bb5 hb6) | (refine wl_load rfl 57 _ rfl ⟨B + 1, 0, none⟩ rfl CS (by rw [hCl]; exact aggEnv) hX5.at0 ?_) | (refine wl_storeV rfl 23 _ _ rfl 23 w3.heap.size rfl KW rfl 32 aggKey hKWl Z hG4 hZl hKW1 ?_; intro w5 hG5 hb5 hs5; have hX5 := hX4.below hb5 (by omega); have hR5 := hR4.below hb5 (by omega); have bb5 := bb4.trans (hb5.mono (by omega : B ≤ _)); clear hG4 hX4 hR4 bb4 hb5) | (refine wl_allocV rfl 23 rfl Z hzK.out w3.heap.size rfl ?_; intro w4 hG4 hb4 hs4; have hX4 := hX3.below hb4 (by omega); have hR4 := hR3.below hb4 (by omega); have bb4 := bb3.trans (hb4.mono (by omega : B ≤ _)); clear hX3 hR3 bb3 hb4) | (go_at_call 69; refine (hde w2).out.mono ?_; rintro e w3 ⟨rfl, hb3⟩; have hX3 := hX2.below hb3 (by omega); have hR3 := hR2.below hb3 (by omega); have bb3 := bb2.trans (hb3.mono (by omega : B ≤ _)); have hs3 := hb3.size; clear hB2 hX2 hR2 bb2 hb3 ce2) | (refine wl_load rfl 23 _ rfl ⟨B, 0, none⟩ rfl K (by rw [hKl]; exact aggKey) hB2.at0 ?_) | (refine wl_allocV rfl 55 rfl ZT hzT.out (B + 2) hs1 ?_; intro w2 hR2 hb2 hs2; have hB2 := hB1.below hb2 (by omega); have hX2 := hX1.below hb2 (by omega); have bb2 := bb1.trans (hb2.mono (by omega : B ≤ _)); have ce2 := (hX2.cell 1).trans hce.out; clear hB1 hX1 bb1 hb2) | (refine wl_boxV rfl 23 _ rfl K rfl B hsz ?_; intro w0 hB0 hb0 hs0) | (refine wl_boxV rfl 57 _ rfl CS rfl (B + 1) hs0 ?_; intro w1 hX1 hb1 hs1; have hB1 := hB0.below hb1 (by omega); have bb1 := hb0.trans (hb1.mono (by omega : B ≤ _)); clear hB0 hb0 hb1))
 (try simp only [Exit.inBlock, Exit.then]); refine bodyPost_ret (results_cell rfl _ _ _ _ rfl V (by rw [hVl]; exact aggTag) hRF.at0) rfl ?_
 exact ⟨rfl, by first | exact bbA.trans (hbF.mono (by omega)) | (rw [hsz]; exact bbA.trans (hbF.mono (by omega)))⟩
set_option maxHeartbeats 2000000 in
theorem tag_2 (k : List Int) (x : Env) (c : List Int) (ao : Option Addr) (cap mc : Nat) (w : World) (hk : k.length = 32) (ok : Octs k) (hx : x.Ok) (hv : x.v = 2) (he : 0 ≤ x.e ∧ x.e ≤ 4294967295) (hmc : mc = c.length) (HP : Pt.Ok w ⟨ao, cap, c⟩) (hno : ao = none → cap = 0) (hm : mc ≤ 1000000) :
  Calls Tryz.prog 44 #[.agg (k.map (Value.int .u8)).toArray, .agg x.cs.toArray, .slice ao mc cap] w fun r w' => r = .returned (.agg ((tagX k x c).map (Value.int .u8)).toArray) ∧ Below w.heap.size w w' := by
 obtain ⟨B, HB⟩ : ∃ B, Hid (B = w.heap.size) := ⟨_, rfl⟩
 have hsz : w.heap.size = B := HB.out.symm
 obtain ⟨K, HK⟩ : ∃ K, Hid (K = k.map (Value.int .u8)) := ⟨_, rfl⟩
 have hKl : K.length = 32 := by rw [HK.out, List.length_map, hk]
 have hzK := hid zeroKey
 have hzT := hid zeroTag
 obtain ⟨Z, HZ⟩ : ∃ Z, Hid (Z = (List.replicate 32 (0 : Int)).map (Value.int .u8)) := ⟨_, rfl⟩
 obtain ⟨ZT, HZT⟩ : ∃ Z, Hid (Z = (List.replicate 16 (0 : Int)).map (Value.int .u8)) := ⟨_, rfl⟩
 have hZl : Z.length = 32 := by rw [HZ.out]; simp
 have hZTl : ZT.length = 16 := by rw [HZT.out]; simp
 rw [← HZ.out] at hzK
 rw [← HZT.out] at hzT
 have hde := fun w => hid (Derive_ok k hk ok tagS tagS_octs tagS_name x.e he w)
 obtain ⟨kd, HKD⟩ : ∃ kd, Hid (kd = deriveL k tagS x.e) := ⟨_, rfl⟩
 have hkd : kd.length = 32 := by rw [HKD.out]; exact deriveL_length _ _ _
 have okd : Octs kd := by rw [HKD.out]; exact deriveL_octs _ _ _
 obtain ⟨L, HL⟩ : ∃ L, Hid (L = aheadL x) := ⟨_, rfl⟩
 have hal := hid (aheadL_length hx)
 have hsv : sizeV x = 136 := by unfold sizeV; rw [if_pos hv]
 rw [hsv] at hal
 have hAl : Hid ((aheadL x).length = 120) := hid (by have := hal.out; omega)
 have hLl : L.length = 120 := by rw [HL.out]; exact hAl.out
 have oA : Octs (aheadL x) := aheadL_octs hx (Or.inr hv)
 have oL : Octs L := by rw [HL.out]; exact oA
 have HTX : Hid (tagX k x c = tagL kd L) := hid (by unfold tagX tagT; rw [if_neg (by omega), ← HKD.out, ← HL.out])
 obtain ⟨KW, HKW⟩ : ∃ KW, Hid (KW = kd.map (Value.int .u8)) := ⟨_, rfl⟩
 have hKWl : KW.length = 32 := by rw [HKW.out, List.length_map, hkd]
 have hKW1 : ∀ u ∈ KW, u.oneCell' = true := by rw [HKW.out]; exact ints_one _ _
 rw [← HKD.out, ← HKW.out] at hde
 have hah := fun w => hid (ahead_2 x hx w hv he)
 have htg := fun w ao cap (HP : Pt.Ok w ⟨ao, cap, L⟩) => hid (TagOf_in kd hkd okd ao cap (120) L w hLl.symm HP (by omega))
 rw [← HKW.out] at htg
 obtain ⟨V, HV⟩ : ∃ V, Hid (V = (tagL kd L).map (Value.int .u8)) := ⟨_, rfl⟩
 have hVl : V.length = 16 := by rw [HV.out, List.length_map, tagL_length]
 have hV1 : ∀ u ∈ V, u.oneCell' = true := by rw [HV.out]; exact ints_one _ _
 rw [← HV.out] at htg
 rw [HTX.out, ← HV.out]
 have hcv : Hid (x.cs[0]? = some (.int .i64 2)) := hid (by rw [← hv]; exact x.cv)
 have hce := hid x.ce
 have hrow := HP.row.v
 have hlt := fun b h => HP.lt b h
 have hcl : Hid ((c.map (Value.int .u8)).length = mc * 1) := hid (by rw [List.length_map, hmc, Nat.mul_one])
 have hLm : Hid (L.map (Value.int .u8) = (aheadL x).map (Value.int .u8)) := hid (by rw [HL.out])
 obtain ⟨CS, HCS⟩ : ∃ C, Hid (C = x.cs) := ⟨_, rfl⟩
 have hCl : CS.length = 130 := by rw [HCS.out]; exact hx.csl
 obtain ⟨E, HE⟩ : ∃ E, Hid (E = x.e) := ⟨_, rfl⟩
 rw [← HE.out] at hde hce
 rw [← HK.out] at hde ⊢
 rw [← HCS.out] at hah hcv hce ⊢
 clear hk hx hv he hmc HP hal hsv
 go_enter Tryz.func44, Tryz.ntmps44
 go_wp2_with (first | (refine wl_storeV rfl 55 _ _ rfl 55 (B + 2) rfl V rfl 16 aggTag hVl ZT hRA hZTl hV1 ?_; intro wF hRF hbF hsF) | (refine wl_load rfl 55 _ rfl ⟨w8.heap.size, 0, none⟩ rfl V (by rw [hVl]; exact aggTag) hTA.at0 ?_) | (refine wl_storeV rfl 55 _ _ rfl 55 w8.heap.size rfl V rfl 16 aggTag hVl ZT hT9 hZTl hV1 ?_; intro wA hTA hbA hsA; have hRA := hR9.below hbA (by omega); have bbA := bb9.trans (hbA.mono (by omega : B ≤ _)); clear hT9 hR9 bb9 hbA) | (refine wl_allocV rfl 55 rfl ZT hzT.out w8.heap.size rfl ?_; intro w9 hT9 hb9 hs9; have hR9 := hR8.below hb9 (by omega); have bb9 := bb8.trans (hb9.mono (by omega : B ≤ _)); clear hR8 bb8 hb9) | (go_at_call 71; refine (htg w6 ao6 c6 (mine_pt (by rw [hLm.out]; exact hM6) hLl.symm (by omega) oL).1).out.mono ?_; rintro e w8 ⟨rfl, hb8⟩; have hR8 := hR6.below hb8 (by omega); have bb8 := bb6.trans (hb8.mono (by omega : B ≤ _)); have hs8 := hb8.size; clear hR6 hG6 bb6 hb8 hM6) | (refine wl_load rfl 23 _ rfl ⟨w3.heap.size, 0, none⟩ rfl KW (by rw [hKWl]; exact aggKey) hG6.at0 ?_) | (go_at_call 70; refine (hah w5).out.mono ?_; rintro e w6 ⟨ao6, c6, rfl, hM6, hb6⟩; have hX6 := hX5.below hb6 (by omega); have hR6 := hR5.below hb6 (by omega); have hG6 := hG5.below hb6 (by omega); have bb6 := bb5.trans (hb6.mono (by omega : B ≤ _)); have cv6 := (hX6.cell 0).trans hcv.out; have hs6 := hb6.size; clear hX5 hR5 hG5 bb5 hb6) | (refine wl_load rfl 57 _ rfl ⟨B + 1, 0, none⟩ rfl CS (by rw [hCl]; exact aggEnv) hX5.at0 ?_) | (refine wl_storeV rfl 23 _ _ rfl 23 w3.heap.size rfl KW rfl 32 aggKey hKWl Z hG4 hZl hKW1 ?_; intro w5 hG5 hb5 hs5; have hX5 := hX4.below hb5 (by omega); have hR5 := hR4.below hb5 (by omega); have bb5 := bb4.trans (hb5.mono (by omega : B ≤ _)); clear hG4 hX4 hR4 bb4 hb5) | (refine wl_allocV rfl 23 rfl Z hzK.out w3.heap.size rfl ?_; intro w4 hG4 hb4 hs4; have hX4 := hX3.below hb4 (by omega); have hR4 := hR3.below hb4 (by omega); have bb4 := bb3.trans (hb4.mono (by omega : B ≤ _)); clear hX3 hR3 bb3 hb4) | (go_at_call 69; refine (hde w2).out.mono ?_; rintro e w3 ⟨rfl, hb3⟩; have hX3 := hX2.below hb3 (by omega); have hR3 := hR2.below hb3 (by omega); have bb3 := bb2.trans (hb3.mono (by omega : B ≤ _)); have hs3 := hb3.size; clear hB2 hX2 hR2 bb2 hb3 ce2) | (refine wl_load rfl 23 _ rfl ⟨B, 0, none⟩ rfl K (by rw [hKl]; exact aggKey) hB2.at0 ?_) | (refine wl_allocV rfl 55 rfl ZT hzT.out (B + 2) hs1 ?_; intro w2 hR2 hb2 hs2; have hB2 := hB1.below hb2 (by omega); have hX2 := hX1.below hb2 (by omega); have bb2 := bb1.trans (hb2.mono (by omega : B ≤ _)); have ce2 := (hX2.cell 1).trans hce.out; clear hB1 hX1 bb1 hb2) | (refine wl_boxV rfl 23 _ rfl K rfl B hsz ?_; intro w0 hB0 hb0 hs0) | (refine wl_boxV rfl 57 _ rfl CS rfl (B + 1) hs0 ?_; intro w1 hX1 hb1 hs1; have hB1 := hB0.below hb1 (by omega); have bb1 := hb0.trans (hb1.mono (by omega : B ≤ _)); clear hB0 hb0 hb1))
 (try simp only [Exit.inBlock, Exit.then]); refine bodyPost_ret (results_cell rfl _ _ _ _ rfl V (by rw [hVl]; exact aggTag) hRF.at0) rfl ?_
 exact ⟨rfl, by first | exact bbA.trans (hbF.mono (by omega)) | (rw [hsz]; exact bbA.trans (hbF.mono (by omega)))⟩
end Go.Proofs.YtbjmadcbhkeenaaGreat.wr
namespace Go.Proofs.YtbjmadcbhkeenaaGreat.wr
open Go.RowKit st hs shr sh
theorem built_env4 (v e : Int) {h n : List Int} (hlh : h.length = 16) (hln : n.length = 16) : Tryz.prog.built 57 [(0, .int .i64 v), (1, .int .i64 e), (2, .agg (h.map (Value.int .u8)).toArray), (4, .agg (n.map (Value.int .u8)).toArray)] = some (⟨v, e, h, List.replicate 16 0, n, List.replicate 32 0, List.replicate 32 0, List.replicate 16 0⟩ : Env).cs.toArray := by
 obtain ⟨a0, a1, a2, a3, a4, a5, a6, a7, a8, a9, a10, a11, a12, a13, a14, a15, rfl⟩ : ∃ a0 a1 a2 a3 a4 a5 a6 a7 a8 a9 a10 a11 a12 a13 a14 a15, h = [a0, a1, a2, a3, a4, a5, a6, a7, a8, a9, a10, a11, a12, a13, a14, a15] := by
  refine ⟨h[0], h[1], h[2], h[3], h[4], h[5], h[6], h[7], h[8], h[9], h[10], h[11], h[12], h[13], h[14], h[15], List.ext_getElem (by simp [hlh]) fun i h1 h2 => ?_⟩
  have : i < 16 := by omega
  match i, this with
  | 0, _ => rfl
  | 1, _ => rfl
  | 2, _ => rfl
  | 3, _ => rfl
  | 4, _ => rfl
  | 5, _ => rfl
  | 6, _ => rfl
  | 7, _ => rfl
  | 8, _ => rfl
  | 9, _ => rfl
  | 10, _ => rfl
  | 11, _ => rfl
  | 12, _ => rfl
  | 13, _ => rfl
  | 14, _ => rfl
  | 15, _ => rfl
  | i + 16, h => exact absurd h (by omega)
 obtain ⟨c0, c1, c2, c3, c4, c5, c6, c7, c8, c9, c10, c11, c12, c13, c14, c15, rfl⟩ : ∃ c0 c1 c2 c3 c4 c5 c6 c7 c8 c9 c10 c11 c12 c13 c14 c15, n = [c0, c1, c2, c3, c4, c5, c6, c7, c8, c9, c10, c11, c12, c13, c14, c15] := by
  refine ⟨n[0], n[1], n[2], n[3], n[4], n[5], n[6], n[7], n[8], n[9], n[10], n[11], n[12], n[13], n[14], n[15], List.ext_getElem (by simp [hln]) fun i h1 h2 => ?_⟩
  have : i < 16 := by omega
  match i, this with
  | 0, _ => rfl
  | 1, _ => rfl
  | 2, _ => rfl
  | 3, _ => rfl
  | 4, _ => rfl
  | 5, _ => rfl
  | 6, _ => rfl
  | 7, _ => rfl
  | 8, _ => rfl
  | 9, _ => rfl
  | 10, _ => rfl
  | 11, _ => rfl
  | 12, _ => rfl
  | 13, _ => rfl
  | 14, _ => rfl
  | 15, _ => rfl
  | i + 16, h => exact absurd h (by omega)
 kernel_rfl
theorem wl_build1 {P : Program} {w : World} {ops : Array Oper} {rest : List Oper} {o : Oper} {a : Act} {Q : Exit → Act → World → Prop} (hgd : o.guard = none) (t : TypeId) (i : Nat) (x : Operand) (ho : o.op = .build t #[(i, x)])
  (u : Value) (hx : a.eval x = u) (cs : List Value) (hb : P.built t [(i, u)] = some cs.toArray) (h : wpList P ops Q rest (a.put o.dst (.agg cs.toArray)) w) : wpList P ops Q (o :: rest) a w :=
 wl_build hgd t #[(i, x)] ho cs (by simpa [hx] using hb) h
theorem yieldsIf_build4 {P : Program} {ops : Array Oper} {S : World → Prop} {op : Oper} {a : Act} (hw : Region.wanted op (yielded ops a.tmps) = true) (t : TypeId) (i j k l : Nat) (x y z q : Operand) (ho : op.op = .build t #[(i, x), (j, y), (k, z), (l, q)])
  (u v r s : Value) (hx : a.eval x = u) (hy : a.eval y = v) (hz : a.eval z = r) (hq : a.eval q = s) (cs : List Value) (hb : P.built t [(i, u), (j, v), (k, r), (l, s)] = some cs.toArray) : YieldsIf P ops S op (.agg cs.toArray) a :=
 .inl ⟨hw, fun w hw' => by
  unfold execOp
  simp [ho, hx, hy, hz, hq, run_build w t #[(i, u), (j, v), (k, r), (l, s)] cs.toArray hb, Result.andThen]⟩
set_option maxHeartbeats 4000000 in
theorem Wrap_1 (k n s c : List Int) (e : Int) (ao : Option Addr) (cap mc : Nat) (w : World) (hk : k.length = 32) (ok : Octs k) (he : 0 ≤ e ∧ e ≤ 4294967295) (hn : n.length = 16) (on : Octs n) (hs : s.length = 32) (os : Octs s) (hmc : mc = c.length) (HP : Pt.Ok w ⟨ao, cap, c⟩) (hno : ao = none → cap = 0) (hm : mc ≤ 4096) :
  Calls Tryz.prog 28 #[.int .i64 1, .agg (k.map (Value.int .u8)).toArray, .int .i64 e, .agg (n.map (Value.int .u8)).toArray, .slice ao mc cap, .agg (s.map (Value.int .u8)).toArray] w fun r w' => ∃ ao' c', r = .returned (.tuple #[.slice ao' 88 c', .int .i64 0]) ∧ Below w.heap.size w w' := by
 obtain ⟨B, HB⟩ : ∃ B, Hid (B = w.heap.size) := ⟨_, rfl⟩
 have hsz : w.heap.size = B := HB.out.symm
 have hbe := fun w => hid (badEpoch_any e w)
 have hi : inB e 0 4294967295 = true := by unfold inB; simp; omega
 rw [hi] at hbe
 have hnm := fun w => hid (NameOf_any k hk ok w)
 have hco := fun w => hid (cover_any k e n s w hk ok he hn on hs os)
 obtain ⟨X0, HX0⟩ : ∃ X, Hid (X = (⟨1, e, nameL k, List.replicate 16 0, n, List.replicate 32 0, List.replicate 32 0, List.replicate 16 0⟩ : Env)) := ⟨_, rfl⟩
 have hO0 : Hid X0.Ok := hid (by rw [HX0.out]; exact ⟨⟨by show (-9223372036854775808 : Int) ≤ 1; decide, by show (1 : Int) ≤ 9223372036854775807; decide⟩, ⟨by simp only; omega, by simp only; omega⟩, nameL_length k, rfl, hn, rfl, rfl, rfl, nameL_octs k, zeros_octs 16, on, zeros_octs 32, zeros_octs 32, zeros_octs 16⟩)
 have hL0 : Hid X0.Len := hid hO0.out.toLen
 have hv0 : Hid (X0.v = 1) := hid (by rw [HX0.out])
 have he0 : Hid (X0.e = e) := hid (by rw [HX0.out])
 have HBT : Hid (Tryz.prog.built 57 [(0, .int .i64 1), (1, .int .i64 e), (2, .agg ((nameL k).map (Value.int .u8)).toArray), (4, .agg (n.map (Value.int .u8)).toArray)] = some X0.cs.toArray) := hid (by rw [HX0.out]; exact built_env4 1 e (nameL_length k) hn)
 obtain ⟨X1, HX1⟩ : ∃ X, Hid (X = ({X0 with g := wrapL k e n s} : Env)) := ⟨_, rfl⟩
 have hWL : (wrapL k e n s).length = 32 := by rw [wrapL_length, hs]
 have hWO : Octs (wrapL k e n s) := coverL_octs _ _ os
 have hO1 : Hid X1.Ok := hid (by rw [HX1.out]; have h := hO0.out; exact ⟨h.vb, h.eb, h.bl, h.ol, h.nl, h.cl, hWL, h.tl, h.bo, h.oo, h.no, h.co, hWO, h.tt⟩)
 have hL1 : Hid X1.Len := hid hO1.out.toLen
 have hv1 : Hid (X1.v = 1) := hid (by rw [HX1.out]; exact hv0.out)
 have he1 : Hid (X1.e = e) := hid (by rw [HX1.out]; exact he0.out)
 obtain ⟨WV, HWV⟩ : ∃ V, Hid (V = (wrapL k e n s).map (Value.int .u8)) := ⟨_, rfl⟩
 have hWl : WV.length = 32 := by rw [HWV.out, List.length_map, hWL]
 have hW1 : ∀ u ∈ WV, u.oneCell' = true := by rw [HWV.out]; exact ints_one _ _
 have hT1 : Hid (X0.cs.take 82 ++ WV ++ X0.cs.drop (82 + WV.length) = X1.cs) := hid (by rw [HWV.out, HX1.out]; exact env_put_g hL0.out _ hWL)
 have htg := fun w1 (hb : Below B w w1) => hid (tag_1 k X1 c ao cap mc w1 hk ok hO1.out hv1.out (by rw [he1.out]; exact he) hmc (HP.below (hsz ▸ hb)) hno (by omega))
 obtain ⟨TV, HTV⟩ : ∃ V, Hid (V = (tagX k X1 c).map (Value.int .u8)) := ⟨_, rfl⟩
 have hTl : TV.length = 16 := by rw [HTV.out, List.length_map, tagX_length]
 have hTV1 : ∀ u ∈ TV, u.oneCell' = true := by rw [HTV.out]; exact ints_one _ _
 obtain ⟨X2, HX2⟩ : ∃ X, Hid (X = ({X1 with t := tagX k X1 c} : Env)) := ⟨_, rfl⟩
 have hO2 : Hid X2.Ok := hid (by rw [HX2.out]; have h := hO1.out; exact ⟨h.vb, h.eb, h.bl, h.ol, h.nl, h.cl, h.gl, tagX_length _ _ _, h.bo, h.oo, h.no, h.co, h.go, tagL_octs _ _⟩)
 have hL2 : Hid X2.Len := hid hO2.out.toLen
 have hT2 : Hid (X1.cs.take 114 ++ TV ++ X1.cs.drop (114 + TV.length) = X2.cs) := hid (by rw [HTV.out, HX2.out]; exact env_put_t hL1.out _ (tagX_length _ _ _))
 have hv2 : X2.v = 1 := by rw [HX2.out]; exact hv1.out
 have hz2 : errV X2 = 0 ∧ sizeV X2 = 88 := by
  have h3 : X2.e = e := by rw [HX2.out]; exact he1.out
  have h4 : X2.o = List.replicate 16 0 := by rw [HX2.out, HX1.out, HX0.out]
  have h5 : X2.c = List.replicate 32 0 := by rw [HX2.out, HX1.out, HX0.out]
  constructor
  ·unfold errV; rw [if_neg (by simp [hv2]), if_neg (fun h => h (by rw [h3]; exact he)), if_neg (fun h => h.2 ⟨h4, h5⟩)]
  ·unfold sizeV; rw [if_neg (by omega)]
 have hpr := fun w => hid ((Print_any X2 hO2.out w).mono fun r w' (h : EnvPost X2 w r w') => (by
  have h2 := h.2
  rw [if_pos hz2.1, hz2.2] at h2
  obtain ⟨a, b, h3, _⟩ := h2
  exact ⟨a, b, h3, h.1⟩ : ∃ ao c, r = .returned (.tuple #[.slice ao 88 c, .int .i64 0]) ∧ Below w.heap.size w w'))
 obtain ⟨K, HK⟩ : ∃ K, Hid (K = k.map (Value.int .u8)) := ⟨_, rfl⟩
 obtain ⟨N, HN⟩ : ∃ N, Hid (N = n.map (Value.int .u8)) := ⟨_, rfl⟩
 obtain ⟨S, HS⟩ : ∃ S, Hid (S = s.map (Value.int .u8)) := ⟨_, rfl⟩
 have hKl : K.length = 32 := by rw [HK.out, List.length_map, hk]
 have hNl : N.length = 16 := by rw [HN.out, List.length_map, hn]
 have hSl : S.length = 32 := by rw [HS.out, List.length_map, hs]
 obtain ⟨ZE, HZE⟩ : ∃ Z, Hid (Z = env0.cs) := ⟨_, rfl⟩
 have hzE := hid zeroEnv
 rw [← HZE.out] at hzE
 have hZEl : ZE.length = 130 := by rw [HZE.out]; exact env0_ok.csl
 rw [← HK.out] at hnm hco htg ⊢
 rw [← HN.out] at hco HBT ⊢
 rw [← HS.out] at hco ⊢
 rw [← HWV.out] at hco
 rw [← HTV.out] at htg
 obtain ⟨NV, HNV⟩ : ∃ V, Hid (V = (nameL k).map (Value.int .u8)) := ⟨_, rfl⟩
 rw [← HNV.out] at hnm HBT
 have hu23 := Tryz.underlying23
 have hi23 : (Tryz.prog.info? 23).map (·.size) = some K.length := by rw [hKl]; exact aggKey.2
 have hu25 := Tryz.underlying53
 have hi25 : (Tryz.prog.info? 53).map (·.size) = some N.length := by rw [hNl]; exact aggNo.2
 have hmI : ¬ (4096 : Int) < (mc : Int) := by omega
 clear hk hn hs hmc HP hWL hWO hv2 hz2 hi
 go_enter Tryz.func28, Tryz.ntmps28
 go_wp2_with (first | (refine wl_boxV rfl 23 _ rfl S rfl (B + 2) hs1 ?_; intro w2 hS2 hb2 hs2; have hB2 := hB1.below hb2 (by omega); have hN2 := hN1.below hb2 (by omega); have bb2 := bb1.trans (hb2.mono (by omega : B ≤ _)); clear hB1 hN1 bb1 hb2) | (refine wl_boxV rfl 53 _ rfl N rfl (B + 1) hs0 ?_; intro w1 hN1 hb1 hs1; have hB1 := hB0.below hb1 (by omega); have bb1 := hb0.trans (hb1.mono (by omega : B ≤ _)); clear hB0 hb0 hb1) | (refine wl_boxV rfl 23 _ rfl K rfl B hsz ?_; intro w0 hB0 hb0 hs0) | (go_at_call 51; refine (hbe w2).out.mono ?_; rintro e w3 ⟨rfl, rfl⟩))
 refine wp_region_held_drew (S := (fun w' => w'.rangeAt B 0 K ∧ w'.rangeAt (B + 1) 0 N)) (by kernel_rfl) ⟨at_range (w := w2.drew) hB2.at0, at_range (w := w2.drew) hN2.at0⟩ (fun hHeld => ?_)
 obtain ⟨y0, HY0⟩ : ∃ x, Hid (x = w2.drew) := ⟨_, rfl⟩
 rw [← HY0.out] at hHeld ⊢
 have hB0 : BlkV 23 y0 B K := by rw [HY0.out]; exact hB2
 have hN0 : BlkV 53 y0 (B + 1) N := by rw [HY0.out]; exact hN2
 have hS0 : BlkV 23 y0 (B + 2) S := by rw [HY0.out]; exact hS2
 have bb0 : Below B w y0 := by rw [HY0.out]; exact bb2.drew
 have hsy0 : B + 3 ≤ y0.heap.size := by rw [HY0.out]; show B + 3 ≤ w2.heap.size; omega
 clear hB2 hN2 hS2 bb2 hs2 hs1 hs0
 refine take_l (i := 0) (v := ?rv1) rfl (by kernel_rfl) (by kernel_rfl) (by kernel_rfl) (fun _ _ _ h => h) (Or.inl ⟨by rfl, ?rhy1⟩) (by assumption) ?rrest1
 case rhy1 => (intro w hSw; (try dsimp only at hSw); go_simp; (try with_reducible rfl))
 try simp only [Act.put, fpA, fpZ, fpN]
 refine take_l (i := 1) (v := ?rv2) rfl (by kernel_rfl) (by kernel_rfl) (by kernel_rfl) (fun _ _ _ h => h) (Or.inl ⟨by rfl, ?rhy2⟩) (by assumption) ?rrest2
 case rhy2 => (intro w hSw; (try dsimp only at hSw); go_simp; (try with_reducible rfl))
 try simp only [Act.put, fpA, fpZ, fpN]
 refine take_l (i := 2) (v := _) rfl (by kernel_rfl) (by kernel_rfl) (by kernel_rfl) (fun _ _ _ h => h) (yieldsIf_load_mid (by rfl) 23 _ rfl B 0 rfl K _ (fun w hS => hS.1) hu23 rfl hi23) (by assumption) ?_
 try simp only [Act.put, fpA, fpZ, fpN]
 refine take_l (i := 4) (v := _) rfl (by kernel_rfl) (by kernel_rfl) (by kernel_rfl) (fun _ _ _ h => h) (yieldsIf_load_mid (by rfl) 53 _ rfl (B + 1) 0 rfl N _ (fun w hS => hS.2) hu25 rfl hi25) (by assumption) ?_
 try simp only [Act.put, fpA, fpZ, fpN]
 refine wpAnyH_ready (rs := [3, 6]) (by kernel_rfl) (by simp) (cons_l rfl (fun K' hK' => ?_) (cons_l rfl (fun K' hK' => ?_) AllReadyH.nil))
 ·rw [if_pos (by rfl)]
  go_simp
  go_at_call 20
  refine (hnm y0).out.mono ?_
  rintro e y1 ⟨rfl, hbx1⟩
  have hB1 := hB0.below hbx1 (by omega)
  have hN1 := hN0.below hbx1 (by omega)
  have hS1 := hS0.below hbx1 (by omega)
  have bb1 := bb0.trans (hbx1.mono (by omega : B ≤ _))
  have hsy1 : B + 3 ≤ y1.heap.size := by have := hbx1.size; omega
  refine hK'.out _ _ ⟨at_range hB1.at0, at_range hN1.at0⟩ (fun hHeld => ?_)
  clear hK' K'
  try simp only [Act.put, fpA, fpZ, fpN]
  refine take_l (i := 5) (v := _) rfl (by kernel_rfl) (by kernel_rfl) (by kernel_rfl) (fun _ _ _ h => h) (yieldsIf_build4 (by rfl) 57 0 1 2 4 _ _ _ _ rfl (.int .i64 1) (.int .i64 e) (.agg NV.toArray) (.agg N.toArray) rfl rfl rfl rfl X0.cs HBT.out) (by assumption) ?_
  try simp only [Act.put, fpA, fpZ, fpN]
  refine wpAnyH_ready (rs := [6]) (by kernel_rfl) (by simp) (cons_l rfl (fun K' hK' => ?_) AllReadyH.nil)
  obtain ⟨G, HG⟩ : ∃ g, Hid (g = y1.heap.size) := ⟨_, rfl⟩
  have hG3 : B + 3 ≤ G := by have := HG.out; omega
  refine step_allocV (by rfl) 57 (by rfl) ZE hzE.out G HG.out.symm ?_
  intro y2 hG2 hbx2 hsx2
  have hB2 := hB1.below hbx2 (by omega)
  have hN2 := hN1.below hbx2 (by omega)
  have hS2 := hS1.below hbx2 (by omega)
  have bb2 := bb1.trans (hbx2.mono (by omega : B ≤ _))
  have hsy2 : B + 3 ≤ y2.heap.size := by omega
  refine hK'.out _ _ ⟨at_range hB2.at0, at_range hN2.at0⟩ (fun hHeld => ?_)
  clear hK' K'
  try simp only [Act.put, fpA, fpZ, fpN]
  refine wpAnyH_ready (rs := [7]) (by kernel_rfl) (by simp) (cons_l rfl (fun K' hK' => ?_) AllReadyH.nil)
  refine step_storeV (by rfl) 57 _ _ (by rfl) 57 G (by rfl) X0.cs (by rfl) 130 aggEnv hL0.out.csl ZE hG2 hZEl X0.cs_one ?_
  intro y3 hG3 hbx3 hsx3
  have hB3 := hB2.below hbx3 (by omega)
  have hN3 := hN2.below hbx3 (by omega)
  have hS3 := hS2.below hbx3 (by omega)
  have bb3 := bb2.trans (hbx3.mono (by omega : B ≤ _))
  refine hK'.out _ _ ⟨at_range hB3.at0, at_range hN3.at0⟩ (fun hHeld => ?_)
  clear hK' K'
  try simp only [Act.put, fpA, fpZ, fpN]
  refine wpAnyH_done (by kernel_rfl) ?_ _
  have c00 := (hG3.cell 0).trans (by rw [Env.cv, hv0.out] : X0.cs[0]? = some (.int .i64 1))
  have hBs : B + 3 ≤ y3.heap.size := by have := hG3.lt; omega
  have hsw : B ≤ w.heap.size := by omega
  clear hHeld
  go_wp2_with (first | (go_at_call 52; refine (hpr v4).out.mono ?_; rintro e v5 ⟨ao5, c5, rfl, hbv5⟩; have bbv5 := bbv4.trans (hbv5.mono (by have := bbv4.size; omega : B ≤ _))) | (refine wl_load rfl 57 _ rfl ⟨G, 0, none⟩ rfl X2.cs (by rw [hL2.out.csl]; exact aggEnv) hGx.at0 ?_) | (refine wl_putAt rfl 55 _ _ rfl 57 G 114 rfl TV rfl (by rw [hTl]; exact aggTag.2) X1.cs hGv3 (by rw [hL1.out.csl, hTl]; decide) hTV1 ?_; intro v4 hGv4 hgv4 hsv4; have bbv4 := bbv3.grown hgv4 (by have := bbv3.size; omega) (fun k hk => by cases hk; omega); have hGx := hGv4; rw [hT2.out] at hGx; clear hGv3 bbv3 hgv4 hGv4) | (go_at_call 44; refine (htg v2 bbv2).out.mono ?_; rintro e v3 ⟨rfl, hbv3⟩; have hGv3 := hGw.below hbv3 hGw.lt; have bbv3 := bbv2.trans (hbv3.mono (by have := bbv2.size; omega : B ≤ _)); clear hBv2 hGw bbv2 hbv3 cv2) | (refine wl_load rfl 57 _ rfl ⟨G, 0, none⟩ rfl X1.cs (by rw [hL1.out.csl]; exact aggEnv) hGw.at0 ?_) | (refine wl_load rfl 23 _ rfl ⟨B, 0, none⟩ rfl K (by rw [hKl]; exact aggKey) hBv2.at0 ?_) | (refine wl_putAt rfl 22 _ _ rfl 57 G 82 rfl WV rfl (by rw [hWl]; exact agg32.2) X0.cs hGv1 (by rw [hL0.out.csl, hWl]; decide) hW1 ?_; intro v2 hGv2 hgv2 hsv2; have hBv2 := hBv1.grown hgv2 (by intro e; injection e with e; omega); have bbv2 := bbv1.grown hgv2 (by have := bbv1.size; omega) (fun k hk => by cases hk; omega); have hGw := hGv2; rw [hT1.out] at hGw; have cv2 := (hGw.cell 0).trans (by rw [Env.cv, hv1.out] : X1.cs[0]? = some (.int .i64 1)); clear hBv1 hGv1 bbv1 hgv2 hGv2) | (go_at_call 45; refine (hco y3).out.mono ?_; rintro e v1 ⟨rfl, hbv1⟩; have hBv1 := hB3.below hbv1 (by omega); have hGv1 := hG3.below hbv1 hG3.lt; have bbv1 := bb3.trans (hbv1.mono (by omega : B ≤ _)); clear hB3 hN3 hS3 hG3 bb3 hbv1) | (refine wl_load rfl 23 _ rfl ⟨B + 2, 0, none⟩ rfl S (by rw [hSl]; exact aggKey) hS3.at0 ?_) | (refine wl_load rfl 53 _ rfl ⟨B + 1, 0, none⟩ rfl N (by rw [hNl]; exact aggNo) hN3.at0 ?_) | (refine wl_load rfl 23 _ rfl ⟨B, 0, none⟩ rfl K (by rw [hKl]; exact aggKey) hB3.at0 ?_))
  go_ret2
  exact ⟨_, _, rfl, by first | exact bbv5 | (rw [hsz]; exact bbv5)⟩
 ·obtain ⟨G, HG⟩ : ∃ g, Hid (g = y0.heap.size) := ⟨_, rfl⟩
  have hG3 : B + 3 ≤ G := by have := HG.out; omega
  refine step_allocV (by rfl) 57 (by rfl) ZE hzE.out G HG.out.symm ?_
  intro y1 hG1 hbx1 hsx1
  have hB1 := hB0.below hbx1 (by omega)
  have hN1 := hN0.below hbx1 (by omega)
  have hS1 := hS0.below hbx1 (by omega)
  have bb1 := bb0.trans (hbx1.mono (by omega : B ≤ _))
  have hsy1 : B + 3 ≤ y1.heap.size := by omega
  refine hK'.out _ _ ⟨at_range hB1.at0, at_range hN1.at0⟩ (fun hHeld => ?_)
  clear hK' K'
  try simp only [Act.put, fpA, fpZ, fpN]
  refine wpAnyH_ready (rs := [3]) (by kernel_rfl) (by simp) (cons_l rfl (fun K' hK' => ?_) AllReadyH.nil)
  rw [if_pos (by rfl)]
  go_simp
  go_at_call 20
  refine (hnm y1).out.mono ?_
  rintro e y2 ⟨rfl, hbx2⟩
  have hB2 := hB1.below hbx2 (by omega)
  have hN2 := hN1.below hbx2 (by omega)
  have hS2 := hS1.below hbx2 (by omega)
  have bb2 := bb1.trans (hbx2.mono (by omega : B ≤ _))
  have hsy2 : B + 3 ≤ y2.heap.size := by have := hbx2.size; omega
  have hG2 := hG1.below hbx2 hG1.lt
  refine hK'.out _ _ ⟨at_range hB2.at0, at_range hN2.at0⟩ (fun hHeld => ?_)
  clear hK' K'
  try simp only [Act.put, fpA, fpZ, fpN]
  refine take_l (i := 5) (v := _) rfl (by kernel_rfl) (by kernel_rfl) (by kernel_rfl) (fun _ _ _ h => h) (yieldsIf_build4 (by rfl) 57 0 1 2 4 _ _ _ _ rfl (.int .i64 1) (.int .i64 e) (.agg NV.toArray) (.agg N.toArray) rfl rfl rfl rfl X0.cs HBT.out) (by assumption) ?_
  try simp only [Act.put, fpA, fpZ, fpN]
  refine wpAnyH_ready (rs := [7]) (by kernel_rfl) (by simp) (cons_l rfl (fun K' hK' => ?_) AllReadyH.nil)
  refine step_storeV (by rfl) 57 _ _ (by rfl) 57 G (by rfl) X0.cs (by rfl) 130 aggEnv hL0.out.csl ZE hG2 hZEl X0.cs_one ?_
  intro y3 hG3 hbx3 hsx3
  have hB3 := hB2.below hbx3 (by omega)
  have hN3 := hN2.below hbx3 (by omega)
  have hS3 := hS2.below hbx3 (by omega)
  have bb3 := bb2.trans (hbx3.mono (by omega : B ≤ _))
  refine hK'.out _ _ ⟨at_range hB3.at0, at_range hN3.at0⟩ (fun hHeld => ?_)
  clear hK' K'
  try simp only [Act.put, fpA, fpZ, fpN]
  refine wpAnyH_done (by kernel_rfl) ?_ _
  have c00 := (hG3.cell 0).trans (by rw [Env.cv, hv0.out] : X0.cs[0]? = some (.int .i64 1))
  have hBs : B + 3 ≤ y3.heap.size := by have := hG3.lt; omega
  have hsw : B ≤ w.heap.size := by omega
  clear hHeld
  go_wp2_with (first | (go_at_call 52; refine (hpr v4).out.mono ?_; rintro e v5 ⟨ao5, c5, rfl, hbv5⟩; have bbv5 := bbv4.trans (hbv5.mono (by have := bbv4.size; omega : B ≤ _))) | (refine wl_load rfl 57 _ rfl ⟨G, 0, none⟩ rfl X2.cs (by rw [hL2.out.csl]; exact aggEnv) hGx.at0 ?_) | (refine wl_putAt rfl 55 _ _ rfl 57 G 114 rfl TV rfl (by rw [hTl]; exact aggTag.2) X1.cs hGv3 (by rw [hL1.out.csl, hTl]; decide) hTV1 ?_; intro v4 hGv4 hgv4 hsv4; have bbv4 := bbv3.grown hgv4 (by have := bbv3.size; omega) (fun k hk => by cases hk; omega); have hGx := hGv4; rw [hT2.out] at hGx; clear hGv3 bbv3 hgv4 hGv4) | (go_at_call 44; refine (htg v2 bbv2).out.mono ?_; rintro e v3 ⟨rfl, hbv3⟩; have hGv3 := hGw.below hbv3 hGw.lt; have bbv3 := bbv2.trans (hbv3.mono (by have := bbv2.size; omega : B ≤ _)); clear hBv2 hGw bbv2 hbv3 cv2) | (refine wl_load rfl 57 _ rfl ⟨G, 0, none⟩ rfl X1.cs (by rw [hL1.out.csl]; exact aggEnv) hGw.at0 ?_) | (refine wl_load rfl 23 _ rfl ⟨B, 0, none⟩ rfl K (by rw [hKl]; exact aggKey) hBv2.at0 ?_) | (refine wl_putAt rfl 22 _ _ rfl 57 G 82 rfl WV rfl (by rw [hWl]; exact agg32.2) X0.cs hGv1 (by rw [hL0.out.csl, hWl]; decide) hW1 ?_; intro v2 hGv2 hgv2 hsv2; have hBv2 := hBv1.grown hgv2 (by intro e; injection e with e; omega); have bbv2 := bbv1.grown hgv2 (by have := bbv1.size; omega) (fun k hk => by cases hk; omega); have hGw := hGv2; rw [hT1.out] at hGw; have cv2 := (hGw.cell 0).trans (by rw [Env.cv, hv1.out] : X1.cs[0]? = some (.int .i64 1)); clear hBv1 hGv1 bbv1 hgv2 hGv2) | (go_at_call 45; refine (hco y3).out.mono ?_; rintro e v1 ⟨rfl, hbv1⟩; have hBv1 := hB3.below hbv1 (by omega); have hGv1 := hG3.below hbv1 hG3.lt; have bbv1 := bb3.trans (hbv1.mono (by omega : B ≤ _)); clear hB3 hN3 hS3 hG3 bb3 hbv1) | (refine wl_load rfl 23 _ rfl ⟨B + 2, 0, none⟩ rfl S (by rw [hSl]; exact aggKey) hS3.at0 ?_) | (refine wl_load rfl 53 _ rfl ⟨B + 1, 0, none⟩ rfl N (by rw [hNl]; exact aggNo) hN3.at0 ?_) | (refine wl_load rfl 23 _ rfl ⟨B, 0, none⟩ rfl K (by rw [hKl]; exact aggKey) hB3.at0 ?_))
  go_ret2
  exact ⟨_, _, rfl, by first | exact bbv5 | (rw [hsz]; exact bbv5)⟩
set_option maxHeartbeats 2000000 in
theorem wraps_any (w : World) : Calls Tryz.prog 8 #[] w fun r w' => r = .returned (.bool true) ∧ Below w.heap.size w w' := by
 have hb1 : Tryz.prog.built 23 [] = some ((List.replicate 32 (0 : Int)).map (Value.int .u8)).toArray := by kernel_rfl
 have hb2 : Tryz.prog.built 53 [] = some ((List.replicate 16 (0 : Int)).map (Value.int .u8)).toArray := by kernel_rfl
 have hb3 : Tryz.prog.built 23 [(0, .int .u8 1)] = some ((1 :: List.replicate 31 (0 : Int)).map (Value.int .u8)).toArray := by kernel_rfl
 have os : Octs (1 :: List.replicate 31 (0 : Int)) := by
  intro c hc
  rcases List.mem_cons.1 hc with rfl | hc
  ·exact ⟨by decide, by decide⟩
  ·exact zeros_octs 31 c hc
 have hW := fun w => hid (Wrap_1 (List.replicate 32 0) (List.replicate 16 0) (1 :: List.replicate 31 0) [] 0 none 0 0 w rfl (zeros_octs 32) ⟨by decide, by decide⟩ rfl (zeros_octs 16) rfl os rfl ⟨RowI.nil _ _ _, by decide, by decide, (fun c hc => by cases hc), (fun b h => by cases h)⟩ (fun _ => rfl) (by decide))
 obtain ⟨K, HK⟩ : ∃ K, Hid (K = (List.replicate 32 (0 : Int)).map (Value.int .u8)) := ⟨_, rfl⟩
 obtain ⟨N, HN⟩ : ∃ K, Hid (K = (List.replicate 16 (0 : Int)).map (Value.int .u8)) := ⟨_, rfl⟩
 obtain ⟨S, HS⟩ : ∃ K, Hid (K = (1 :: List.replicate 31 (0 : Int)).map (Value.int .u8)) := ⟨_, rfl⟩
 rw [← HK.out, ← HN.out, ← HS.out] at hW
 rw [← HK.out] at hb1
 rw [← HN.out] at hb2
 rw [← HS.out] at hb3
 have HB1 := hid hb1
 have HB2 := hid hb2
 have HB3 := hid hb3
 clear os hb1 hb2 hb3
 go_enter Tryz.func8, Tryz.ntmps8
 go_wp2_with (first | (refine wl_build0 rfl 23 rfl K HB1.out ?_) | (refine wl_build0 rfl 53 rfl N HB2.out ?_) | (refine wl_build1 rfl 23 0 _ rfl (.int .u8 1) rfl S HB3.out ?_) | (go_at_call 28; refine (hW w).out.mono ?_; rintro e w1 ⟨ao1, c1, rfl, hb⟩))
 go_ret
 exact ⟨rfl, hb⟩
end Go.Proofs.YtbjmadcbhkeenaaGreat.wr
