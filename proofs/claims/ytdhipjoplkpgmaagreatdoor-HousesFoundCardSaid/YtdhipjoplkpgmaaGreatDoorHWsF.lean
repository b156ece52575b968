/-
  Contract of wrap.contextOf; facts of an envelope that was read; what the opening of an envelope answers; arrays held to be unlike. Conditions: as stated. HousesFound: the cells of a body of act 2; contracts of ledger.extra and ledger.bodyFault at such a body. Conditions: the roles lie behind the slice; each of at most maxLen octets. HousesFound: contract of ledger.bodyFault at a body of act 2. Conditions: the roles lie behind the slice; each of at most maxLen octets. HousesFound: contracts of ledger.putText and ledger.PrintBody at act 2. Conditions: an own row of at most 2^20 octets, a text of at most 255; the roles lie behind the slice, each of at most maxLen octets. Maps keyed by IDs, all values true: reading and writing one. Conditions: IDs of 16 octets. Contract of keyref2.PackError: packE. Conditions: parts of octets that lie in memory. Slices of octets that are cut; mix.Number where there are too few octets. Conditions: as stated. HousesFound: what a call leaves as it was ('Only'); contracts of the reader's methods take, octet, id, text. Conditions: enough octets are left. HousesFound: contracts of the reader's fields and of ledger.ParseBody at a printed body. Conditions: a body without an error. HousesFound: contract of ledger.ParseBody at a printed body of act 2. Conditions: a body without an error, its octets in memory. HousesFound: entries of act 2; contract of ledger.entryFault. Conditions: a body without an error, its octets in memory.
-/
import Derived.Test.YtdhipjoplkpgmaaGreatDoorHCmD
import Derived.Test.YtdhipjoplkpgmaaGreatDoorHWrL
import Derived.Test.YtdhipjoplkpgmaaGreatDoorHBsl
import Derived.Test.YtdhipjoplkpgmaaGreatDoorHHld
import Derived.WideKeyRuns
import Derived.Laws.Slices
set_option maxRecDepth 100000
set_option linter.unusedSimpArgs false
set_option linter.unusedVariables false
set_option maxHeartbeats 8000000
namespace Go.Proofs.YtdhipjoplkpgmaaGreatDoor.wr
open Go.RowKit st hs shr sh
theorem yieldsIf_neM {P : Program} {ops : Array Oper} {S : World → Prop} {op : Oper} {a : Act} (hw : Region.wanted op (yielded ops a.tmps) = true) (ty ty2 : TypeId) (x y : Operand) (ho : op.op = .binOp .neq ty x y ty2)
  (A B : Array Value) (hx : a.eval x = .agg A) (hy : a.eval y = .agg B) (b : Bool) (he : ∀ w, (Op.equalIn 10000 ty (.agg A) (.agg B)).run P w = .ok b w) (hm : P.eqGuardType P.depth ty = false) : YieldsIf P ops S op (.bool !b) a :=
 .inl ⟨hw, fun w hw' => by
  unfold execOp
  simp [ho, hx, hy, run_eqGuard_agg, run_neq_struct, hm, he w, Result.andThen]⟩
theorem run_eq_sum' (w : World) (s t : List Int) (hs : s.length = 32) (ht : t.length = 32) : (Op.equalIn 10000 39 (.agg (s.map (Value.int .u8)).toArray) (.agg (t.map (Value.int .u8)).toArray)).run Tryz.prog w = .ok (s == t) w :=
 run_equalIn_ints w 9998 39 5 32 .u8 Tryz.underlying39 Tryz.underlying5 size5' s t hs ht
end Go.Proofs.YtdhipjoplkpgmaaGreatDoor.wr
namespace Go.Proofs.YtdhipjoplkpgmaaGreatDoor.hf
open Go.RowKit st hs wr shr sh
theorem wl_storeP {P : Program} {w : World} {ops : Array Oper} {rest : List Oper} {o : Oper} {a : Act} {Q : Exit → Act → World → Prop} (hgd : o.guard = none) (ty : TypeId) (x y : Operand) (ho : o.op = .store ty x y)
  (t : TypeId) (g i : Nat) (hx : a.eval x = .pointer (some ⟨g, i, none⟩)) (cs : List Value) (hy : a.eval y = .agg cs.toArray) (n : Nat) (hi : Agg P ty n) (hn : cs.length = n) (cur : List Value) (hg : BlkV t w g cur) (hc : i + n ≤ cur.length) (h1 : ∀ u ∈ cs, u.oneCell' = true)
  (ds : List Value) (hds : cur.take i ++ cs ++ cur.drop (i + n) = ds)
  (h : ∀ w', BlkV t w' g ds → Below g w w' → w.grownBy w' (some g) → w'.heap.size = w.heap.size → wpList P ops Q rest (a.put o.dst undef) w') : wpList P ops Q (o :: rest) a w := by
 subst hds; subst hn
 refine wl_store hgd ty x y ho t g i hx cs hy hi.2 cur hg hc h1 ?_
 exact h _ (hg.setRow _) (below_setRow' (Below.refl _ _) (Nat.le_refl _) _) ⟨rfl, rfl, rfl, by simp, fun k _ hk => setRow_other w g k _ (fun e => hk (by rw [e]))⟩ (by simp)
theorem wl_storeK {P : Program} {w : World} {ops : Array Oper} {rest : List Oper} {o : Oper} {a : Act} {Q : Exit → Act → World → Prop} (hgd : o.guard = none) (ty : TypeId) (x y : Operand) (ho : o.op = .store ty x y)
  (t : TypeId) (g : Nat) (hx : a.eval x = .pointer (some ⟨g, 0, none⟩)) (cs : List Value) (hy : a.eval y = .agg cs.toArray) (n : Nat) (hi : Agg P ty n) (hn : cs.length = n) (cur : List Value) (hg : BlkV t w g cur) (hc : cur.length = n) (h1 : ∀ u ∈ cs, u.oneCell' = true)
  (h : ∀ w', BlkV t w' g cs → Below g w w' → w.grownBy w' (some g) → w'.heap.size = w.heap.size → wpList P ops Q rest (a.put o.dst undef) w') : wpList P ops Q (o :: rest) a w :=
 wl_storeAll hgd ty x y ho t g hx cs hy n hi hn cur hg hc h1 fun hb => h _ hb (below_setRow' (Below.refl _ _) (Nat.le_refl _) _) ⟨rfl, rfl, rfl, by simp, fun k _ hk => setRow_other w g k _ (fun e => hk (by rw [e]))⟩ (by simp)
def bodyT (ro : Value) : List Value := ro :: .string ⟨#[]⟩ :: (zSum ++ [.int .i64 0, .int .i64 0, .int .i64 0, .int .i64 0, .int .i64 0, .int .i64 0, .slice none 0 0])
def bodyC (fv : List Value) (ro : Value) : List Value := .string ⟨#[]⟩ :: (fv ++ bodyT ro)
section
variable {fv : List Value} {ro : Value} {w : World} {g : Nat}
theorem bodyC_len (h : fv.length = 16) : (bodyC fv ro).length = 58 := by simp [bodyC, bodyT, zSum, h]
theorem bodyC_tail (h : fv.length = 16) (j : Nat) : (bodyC fv ro)[17 + j]? = (bodyT ro)[j]? := by
 unfold bodyC
 rw [show 17 + j = (fv.length + j) + 1 by omega, List.getElem?_cons_succ, List.getElem?_append_right (by omega), Nat.add_sub_cancel_left]
theorem bodyC_one (h1 : ∀ u ∈ fv, u.oneCell' = true) (hr : ro.oneCell' = true) : ∀ u ∈ bodyC fv ro, u.oneCell' = true := by
 intro u hu
 unfold bodyC bodyT at hu
 rcases List.mem_cons.1 hu with rfl | hu
 ·rfl
 ·rcases List.mem_append.1 hu with hu | hu
  ·exact h1 u hu
  ·rcases List.mem_cons.1 hu with rfl | hu
   ·exact hr
   ·rcases List.mem_cons.1 hu with rfl | hu
    ·rfl
    ·rcases List.mem_append.1 hu with hu | hu
     ·exact ints_one _ _ u hu
     ·simp only [List.mem_cons, List.not_mem_nil, or_false] at hu
      rcases hu with rfl | rfl | rfl | rfl | rfl | rfl | rfl <;> rfl
theorem body_cells (h : fv.length = 16) (hB : BlkV 42 w g (bodyC fv ro)) : w.cell? ⟨g, 0, none⟩ = some (.string ⟨#[]⟩) ∧ w.cell? ⟨g, 17, none⟩ = some ro ∧ w.cell? ⟨g, 18, none⟩ = some (.string ⟨#[]⟩) ∧
  w.cell? ⟨g, 51, none⟩ = some (.int .i64 0) ∧ w.cell? ⟨g, 52, none⟩ = some (.int .i64 0) ∧ w.cell? ⟨g, 53, none⟩ = some (.int .i64 0) ∧ w.cell? ⟨g, 54, none⟩ = some (.int .i64 0) ∧ w.cell? ⟨g, 55, none⟩ = some (.int .i64 0) ∧ w.cell? ⟨g, 56, none⟩ = some (.int .i64 0) ∧ w.cell? ⟨g, 57, none⟩ = some (.slice none 0 0) :=
 ⟨hB.cell 0, (hB.cell 17).trans (bodyC_tail h 0), (hB.cell 18).trans (bodyC_tail h 1), (hB.cell 51).trans (bodyC_tail h 34), (hB.cell 52).trans (bodyC_tail h 35), (hB.cell 53).trans (bodyC_tail h 36), (hB.cell 54).trans (bodyC_tail h 37), (hB.cell 55).trans (bodyC_tail h 38), (hB.cell 56).trans (bodyC_tail h 39), (hB.cell 57).trans (bodyC_tail h 40)⟩
theorem body_member (h : fv.length = 16) (hB : BlkV 42 w g (bodyC fv ro)) : At w ⟨g, 1, none⟩ fv := hB.at 1 fv fun j u hu => by
 have hj := (List.getElem?_eq_some_iff.1 hu).1
 unfold bodyC
 rw [Nat.add_comm 1 j, List.getElem?_cons_succ, List.getElem?_append_left hj]; exact hu
theorem body_commit (h : fv.length = 16) (hB : BlkV 42 w g (bodyC fv ro)) : At w ⟨g, 19, none⟩ zSum := hB.at 19 zSum fun j u hu => by
 have hj := (List.getElem?_eq_some_iff.1 hu).1
 rw [show 19 + j = 17 + (j + 2) by omega, bodyC_tail h]
 unfold bodyT
 rw [List.getElem?_cons_succ, List.getElem?_cons_succ, List.getElem?_append_left hj]; exact hu
theorem needs_cells (hN : BlkV 229 w g needs2) : w.cell? ⟨g, 0, none⟩ = some (.bool false) ∧ w.cell? ⟨g, 1, none⟩ = some (.bool true) ∧ w.cell? ⟨g, 2, none⟩ = some (.bool true) ∧ w.cell? ⟨g, 3, none⟩ = some (.bool false) ∧ w.cell? ⟨g, 4, none⟩ = some (.bool false) ∧ w.cell? ⟨g, 5, none⟩ = some (.bool false) ∧ w.cell? ⟨g, 6, none⟩ = some (.bool false) ∧ w.cell? ⟨g, 7, none⟩ = some (.bool false) ∧ w.cell? ⟨g, 8, none⟩ = some (.bool false) ∧ w.cell? ⟨g, 9, none⟩ = some (.bool false) ∧ w.cell? ⟨g, 10, none⟩ = some (.bool false) ∧ w.cell? ⟨g, 11, none⟩ = some (.bool false) :=
 ⟨hN.cell 0, hN.cell 1, hN.cell 2, hN.cell 3, hN.cell 4, hN.cell 5, hN.cell 6, hN.cell 7, hN.cell 8, hN.cell 9, hN.cell 10, hN.cell 11⟩
end
theorem aggBody : Agg Tryz.prog 42 58 := .str Tryz.underlying42 (by kernel_rfl)
theorem extra_two (fv : List Value) (ro : Value) (hf : fv.length = 16) (w : World) : Calls Tryz.prog 249 #[.agg (bodyC fv ro).toArray, .agg needs2.toArray] w fun e w' => e = .returned (.bool false) ∧ Below w.heap.size w w' := by
 have hz := hid (fun w => run_eq_sum' w (List.replicate 32 0) (List.replicate 32 0) (by simp) (by simp))
 have hb0 := hid built0
 have hcells := fun (w : World) (g : Nat) (h : BlkV 42 w g (bodyC fv ro)) => hid (body_cells hf h)
 have hcom := fun (w : World) (g : Nat) (h : BlkV 42 w g (bodyC fv ro)) => hid (body_commit hf h)
 have hneed := fun (w : World) (g : Nat) (h : BlkV 229 w g needs2) => hid (needs_cells h)
 obtain ⟨CS, HCS⟩ := hidE (bodyC fv ro)
 obtain ⟨NS, HNS⟩ := hidE needs2
 obtain ⟨ZS, HZS⟩ := hidE zSum
 have hZl : ZS.length = 32 := by rw [HZS.out]; rfl
 have hz2 : Hid (∀ w, (Op.equalIn 10000 39 (.agg ZS.toArray) (.agg ZS.toArray)).run Tryz.prog w = .ok true w) := hid (by rw [HZS.out]; intro w; rw [show zSum = (List.replicate 32 (0 : Int)).map (Value.int .u8) from rfl, hz.out w]; rfl)
 rw [← HCS.out] at hcells hcom ⊢
 rw [← HNS.out] at hneed ⊢
 rw [← HZS.out] at hcom hb0
 obtain ⟨B, hsz⟩ := szE w
 rw [hsz]
 clear hz
 go_enter Tryz.func249, Tryz.ntmps249
 go_upto_region 1 with (first
  | (refine wl_boxV rfl 229 _ rfl NS rfl (B + 1) (by omega) ?_; intro w2 hN2 hb2 hs2; have hB2 := hB1.below hb2 (by omega); have bb2 : Below B w w2 := bb1.trans (hb2.mono (by omega)); obtain ⟨c0, c17, c18, c51, c52, c53, c54, c55, c56, c57⟩ := (hcells _ _ hB2).out; obtain ⟨d0, d1, d2, d3, d4, d5, d6, d7, d8, d9, d10, d11⟩ := (hneed _ _ hN2).out; have hA19 := hcom _ _ hB2)
  | (refine wl_boxV rfl 42 _ rfl CS rfl B hsz ?_; intro w1 hB1 bb1 hs1))
 simp only [List.append]
 go_wp2_with (first
  | (refine wl_neqD 53 rfl (by kernel_rfl) 39 _ _ _ rfl ZS.toArray ZS.toArray rfl rfl true (hz2.out _) (by kernel_rfl) false rfl ?_)
  | (refine wl_build0G (by kernel_rfl) 39 rfl ZS hb0.out ?_)
  | (refine wl_loadD 51 rfl (by kernel_rfl) 39 _ rfl ⟨B, 19, none⟩ rfl 32 ZS hZl aggSumT hA19.out ?_))
 go_ret
 exact ⟨rfl, bb2⟩
end Go.Proofs.YtdhipjoplkpgmaaGreatDoor.hf
namespace Go.Proofs.YtdhipjoplkpgmaaGreatDoor.hf
open Go.RowKit st hs wr shr sh
theorem outside_no (high : Int) (hh : 0 ≤ high) (w : World) : Calls Tryz.prog 144 #[.int .i64 0, .int .i64 0, .int .i64 high] w fun e w' => e = .returned (.bool false) ∧ w = w' := by
 refine (outside_any 0 0 high w).mono ?_
 rintro e w' ⟨rfl, rfl⟩
 have h2 : ¬ high < 0 := by omega
 exact ⟨by simp [h2], rfl⟩
theorem bodyFault_two (fv : List Value) (hf : fv.length = 16) (ao : Option Addr) (cap : Nat) (rs : List ByteArray) (w : World) (hr : RowS w ao rs) (hs : ∀ i, i < rs.length → (roleAt rs i).size ≤ maxLen) (hn : rs.length ≤ 9223372036854775807) :
  Calls Tryz.prog 139 #[.int .i64 2, .agg (bodyC fv (.slice ao rs.length cap)).toArray] w fun e w' => e = .returned (.int .i64 (bodyE rs)) ∧ Below w.heap.size w w' := by
 obtain ⟨E, HE⟩ := hidE (bodyE rs)
 obtain ⟨R, HR⟩ := hidE (roleE rs)
 have hrf := fun (w' : World) (hb : Below w.heap.size w w') => hid (rolesFault_any ao cap rs w' (hr.below hb) hs hn)
 have HB5 : Hid (16 < rs.length → bodyE rs = 5) := hid (fun h => by unfold bodyE; rw [if_pos h])
 have HB6 : Hid (¬ 16 < rs.length → bodyE rs = roleE rs) := hid (fun h => by unfold bodyE; rw [if_neg h])
 rw [← HE.out] at HB5 HB6 ⊢
 rw [← HR.out] at HB6 hrf
 clear hr hs
 obtain ⟨n, Hn⟩ := hidE rs.length
 rw [← Hn.out] at hn HB5 HB6 hrf ⊢
 obtain ⟨ro, HRO⟩ := hidE (Value.slice ao n cap)
 have hex := fun w => hid (extra_two fv ro hf w)
 have hcells := fun (w : World) (g : Nat) (h : BlkV 42 w g (bodyC fv ro)) => hid (body_cells hf h)
 have hneed := fun (w : World) (g : Nat) (h : BlkV 229 w g needs2) => hid (needs_cells h)
 have hCl := bodyC_len (ro := ro) hf
 rw [← HRO.out]
 obtain ⟨CS, HCS⟩ := hidE (bodyC fv ro)
 obtain ⟨NS, HNS⟩ := hidE needs2
 have hNl : NS.length = 12 := by rw [HNS.out]; rfl
 have hN1 : ∀ u ∈ NS, u.oneCell' = true := by rw [HNS.out]; decide
 obtain ⟨Z, HZ⟩ := hidE (List.replicate 12 (Value.bool false))
 have hz := hid zeroNeeds
 have hZl : Z.length = 12 := by rw [HZ.out]; rfl
 rw [← HZ.out] at hz
 have hnd := fun w => hid (needsOf_two w)
 rw [← HCS.out] at hcells hex hCl ⊢
 rw [← HNS.out] at hneed hex hnd
 obtain ⟨B, hsz⟩ := szE w
 rw [hsz] at hrf ⊢
 by_cases h16 : 16 < n
 ·have h16I : (16 : Int) < (n : Int) := by omega
  have HEE := hid (HB5.out h16)
  clear h16
  go_enter Tryz.func139, Tryz.ntmps139
  go_wp2_with (first
   | (go_at_call 249; refine (hex w4).out.mono ?_; rintro e w5 ⟨rfl, hb5⟩; have hB5 := hB4.below hb5 (by omega); have hN5 := hN4.below hb5 (by omega); have bb5 : Below B w w5 := bb4.trans (hb5.mono (by omega)); obtain ⟨c0, c17, c18, c51, c52, c53, c54, c55, c56, c57⟩ := (hcells _ _ hB5).out; obtain ⟨d0, d1, d2, d3, d4, d5, d6, d7, d8, d9, d10, d11⟩ := (hneed _ _ hN5).out; rw [HRO.out] at c17)
   | (refine wl_loadG (by rfl) 229 _ rfl ⟨M, 0, none⟩ rfl 12 NS hNl aggNeeds hN4.at0 ?_)
   | (refine wl_loadG (by rfl) 42 _ rfl ⟨B, 0, none⟩ rfl 58 CS hCl aggBody hB4.at0 ?_)
   | (refine wl_storeV rfl 229 _ _ rfl 229 M rfl NS rfl 12 aggNeeds hNl Z hR3 hZl hN1 ?_; intro w4 hN4 hb4 hs4; have hB4 := hB3.below hb4 (by omega); have bb4 : Below B w w4 := bb3.trans (hb4.mono (by omega)))
   | (refine wl_allocV rfl 229 rfl Z hz.out M hsM ?_; intro w3 hR3 hb3 hs3; have hB3 := hB2.below hb3 (by omega); have bb3 : Below B w w3 := bb2.trans (hb3.mono (by omega)))
   | (go_at_call 140; refine (hnd w1).out.mono ?_; rintro e w2 ⟨rfl, hb2⟩; obtain ⟨M, HM⟩ := hidE w2.heap.size; have hsM : w2.heap.size = M := HM.out.symm; have hMB : B + 1 ≤ M := (by have := hb2.size; omega); have hB2 := hB1.below hb2 (by omega); have bb2 : Below B w w2 := bb1.trans (hb2.mono (by omega)))
   | (go_at_call 248; refine (isAct_two w1).mono ?_; rintro e w2 ⟨rfl, rfl⟩)
   | (refine wl_boxV rfl 42 _ rfl CS rfl B hsz ?_; intro w1 hB1 bb1 hs1))
  go_ret
  exact ⟨by rw [HEE.out]; rfl, bb5⟩
 ·have h16I : ¬ (16 : Int) < (n : Int) := by omega
  have HEE := hid (HB6.out h16)
  clear h16
  by_cases hR0 : R = 0
  ·rw [hR0] at hrf
   have HEZ : Hid (E = 0) := hid (HEE.out.trans hR0)
   clear hR0
   go_enter Tryz.func139, Tryz.ntmps139
   go_wp2_with (first
    | (go_at_call 144; refine (outside_no _ (by decide) w5).mono ?_; rintro e w6 ⟨rfl, rfl⟩)
    | (go_at_call 250; refine (hrf w5 bb5).out.mono ?_; rintro e w6 ⟨rfl, rfl⟩)
    | (go_at_call 249; refine (hex w4).out.mono ?_; rintro e w5 ⟨rfl, hb5⟩; have hB5 := hB4.below hb5 (by omega); have hN5 := hN4.below hb5 (by omega); have bb5 : Below B w w5 := bb4.trans (hb5.mono (by omega)); obtain ⟨c0, c17, c18, c51, c52, c53, c54, c55, c56, c57⟩ := (hcells _ _ hB5).out; obtain ⟨d0, d1, d2, d3, d4, d5, d6, d7, d8, d9, d10, d11⟩ := (hneed _ _ hN5).out; rw [HRO.out] at c17)
    | (refine wl_loadG (by rfl) 229 _ rfl ⟨M, 0, none⟩ rfl 12 NS hNl aggNeeds hN4.at0 ?_)
    | (refine wl_loadG (by rfl) 42 _ rfl ⟨B, 0, none⟩ rfl 58 CS hCl aggBody hB4.at0 ?_)
    | (refine wl_storeV rfl 229 _ _ rfl 229 M rfl NS rfl 12 aggNeeds hNl Z hR3 hZl hN1 ?_; intro w4 hN4 hb4 hs4; have hB4 := hB3.below hb4 (by omega); have bb4 : Below B w w4 := bb3.trans (hb4.mono (by omega)))
    | (refine wl_allocV rfl 229 rfl Z hz.out M hsM ?_; intro w3 hR3 hb3 hs3; have hB3 := hB2.below hb3 (by omega); have bb3 : Below B w w3 := bb2.trans (hb3.mono (by omega)))
    | (go_at_call 140; refine (hnd w1).out.mono ?_; rintro e w2 ⟨rfl, hb2⟩; obtain ⟨M, HM⟩ := hidE w2.heap.size; have hsM : w2.heap.size = M := HM.out.symm; have hMB : B + 1 ≤ M := (by have := hb2.size; omega); have hB2 := hB1.below hb2 (by omega); have bb2 : Below B w w2 := bb1.trans (hb2.mono (by omega)))
    | (go_at_call 248; refine (isAct_two w1).mono ?_; rintro e w2 ⟨rfl, rfl⟩)
    | (refine wl_boxV rfl 42 _ rfl CS rfl B hsz ?_; intro w1 hB1 bb1 hs1))
   go_loopw [7] (fun i wr => i = .int .i64 1 ∧ wr = w5) (fun _ _ => 0)
   case atStart => exact ⟨rfl, rfl⟩
   case round =>
    obtain ⟨rfl, rfl⟩ := hrel
    go_wp2
    go_ret
    exact ⟨by rw [HEZ.out]; rfl, bb5⟩
  ·have hR1 : (R == 0) = false := by simpa using hR0
   have hR2 : ¬ R = 0 := hR0
   clear hR0
   go_enter Tryz.func139, Tryz.ntmps139
   go_wp2_with (first
    | (go_at_call 144; refine (outside_no _ (by decide) w5).mono ?_; rintro e w6 ⟨rfl, rfl⟩)
    | (go_at_call 250; refine (hrf w5 bb5).out.mono ?_; rintro e w6 ⟨rfl, rfl⟩)
    | (go_at_call 249; refine (hex w4).out.mono ?_; rintro e w5 ⟨rfl, hb5⟩; have hB5 := hB4.below hb5 (by omega); have hN5 := hN4.below hb5 (by omega); have bb5 : Below B w w5 := bb4.trans (hb5.mono (by omega)); obtain ⟨c0, c17, c18, c51, c52, c53, c54, c55, c56, c57⟩ := (hcells _ _ hB5).out; obtain ⟨d0, d1, d2, d3, d4, d5, d6, d7, d8, d9, d10, d11⟩ := (hneed _ _ hN5).out; rw [HRO.out] at c17)
    | (refine wl_loadG (by rfl) 229 _ rfl ⟨M, 0, none⟩ rfl 12 NS hNl aggNeeds hN4.at0 ?_)
    | (refine wl_loadG (by rfl) 42 _ rfl ⟨B, 0, none⟩ rfl 58 CS hCl aggBody hB4.at0 ?_)
    | (refine wl_storeV rfl 229 _ _ rfl 229 M rfl NS rfl 12 aggNeeds hNl Z hR3 hZl hN1 ?_; intro w4 hN4 hb4 hs4; have hB4 := hB3.below hb4 (by omega); have bb4 : Below B w w4 := bb3.trans (hb4.mono (by omega)))
    | (refine wl_allocV rfl 229 rfl Z hz.out M hsM ?_; intro w3 hR3 hb3 hs3; have hB3 := hB2.below hb3 (by omega); have bb3 : Below B w w3 := bb2.trans (hb3.mono (by omega)))
    | (go_at_call 140; refine (hnd w1).out.mono ?_; rintro e w2 ⟨rfl, hb2⟩; obtain ⟨M, HM⟩ := hidE w2.heap.size; have hsM : w2.heap.size = M := HM.out.symm; have hMB : B + 1 ≤ M := (by have := hb2.size; omega); have hB2 := hB1.below hb2 (by omega); have bb2 : Below B w w2 := bb1.trans (hb2.mono (by omega)))
    | (go_at_call 248; refine (isAct_two w1).mono ?_; rintro e w2 ⟨rfl, rfl⟩)
    | (refine wl_boxV rfl 42 _ rfl CS rfl B hsz ?_; intro w1 hB1 bb1 hs1))
   go_ret
   exact ⟨by rw [HEE.out]; rfl, bb5⟩
end Go.Proofs.YtdhipjoplkpgmaaGreatDoor.hf
namespace Go.Proofs.YtdhipjoplkpgmaaGreatDoor.hf
open Go.RowKit st hs wr shr sh
theorem putText_any (base : Nat) (v : Value) (n : Nat) (l : List Int) (s : ByteArray) (w : World) (hown : OwnM w base v n l) (hb : base ≤ w.heap.size) (hs : s.size ≤ 255) (hn : n ≤ 1048576) (N : Nat) (hN : N = n + (s.size + 1)) :
  Calls Tryz.prog 141 #[v, .string s] w fun e w' => ∃ g c, e = .returned (.slice (some ⟨g, 0, none⟩) N c) ∧ OwnM w' base (.slice (some ⟨g, 0, none⟩) N c) N (l ++ textB s) ∧ Below base w w' := by
 obtain ⟨m, hm⟩ : ∃ m, s.size = m := ⟨_, rfl⟩
 have HE : Hid (l ++ textB s = (l ++ [(m : Int)]) ++ numsOf s) := hid (by unfold textB; rw [hm]; simp)
 rw [hm] at hs hN
 have hwm : IntKind.u8.wrap (m : Int) = (m : Int) := IntWalk.u8_in _ (by omega)
 obtain ⟨M, hsz⟩ := szE w
 have HN := hid hN
 clear hN
 go_enter Tryz.func141, Tryz.ntmps141
 go_wp2_with (first
  | (at_builtin; refine wl_appendMT rfl _ _ rfl base _ (n + 1) (l ++ [(m : Int)]) rfl hM2 (by omega) s rfl m hm (by omega) (by have := b2.size; omega) N (by rw [HN.out]; omega) ?_; intro g3 c3 w3 hM3 hb3)
  | (at_builtin; refine wl_appendM rfl _ _ rfl base v n l rfl (hown.below hb1 (by omega)) ⟨M, 0, none⟩ 1 1 rfl [(m : Int)] rfl hL1.at0 (by omega) (by omega) (n + 1) rfl ?_; intro g2 c2 w2 hM2 hb2; have b2 : Below base w w2 := (hb1.mono (by omega)).trans hb2)
  | (refine wl_lit1 rfl 61 5 _ rfl Tryz.underlying61 (.int .u8 0) 1 info8 rfl (.int .u8 (m : Int)) rfl rfl M hsz ?_; intro w1 hL1 hb1 hs1))
 go_ret
 exact ⟨g3, c3, rfl, by rw [HE.out]; exact hM3, b2.trans hb3⟩
def PBPost (f : List Int) (rs : List ByteArray) (w : World) (e : Ending) (w' : World) : Prop := Below w.heap.size w w' ∧ ((bodyE rs ≠ 0 ∧ e = .returned (.tuple #[.slice none 0 0, .int .i64 (bodyE rs)])) ∨ (bodyE rs = 0 ∧ ∃ g c, e = .returned (.tuple #[.slice (some ⟨g, 0, none⟩) (bodyB f rs).length c, .int .i64 0]) ∧ OwnM w' w.heap.size (.slice (some ⟨g, 0, none⟩) (bodyB f rs).length c) (bodyB f rs).length (bodyB f rs)))
theorem PrintBody_bad (f : List Int) (hf : f.length = 16) (ao : Option Addr) (cap : Nat) (rs : List ByteArray) (w : World) (hr : RowS w ao rs) (hs : ∀ i, i < rs.length → (roleAt rs i).size ≤ maxLen) (hn : rs.length ≤ 9223372036854775807) (hE : bodyE rs ≠ 0) :
  Calls Tryz.prog 83 #[.int .i64 2, .agg (bodyC (f.map (Value.int .u8)) (.slice ao rs.length cap)).toArray] w (PBPost f rs w) := by
 have hbf := fun (w' : World) (hb : Below w.heap.size w w') => hid (bodyFault_two (f.map (Value.int .u8)) (by rw [List.length_map, hf]) ao cap rs w' (hr.below hb) hs hn)
 have HP : Hid (∀ w', Below w.heap.size w w' → PBPost f rs w (.returned (.tuple #[.slice none 0 0, .int .i64 (bodyE rs)])) w') := hid (fun w' hb => ⟨hb, Or.inl ⟨hE, rfl⟩⟩)
 have hCl := bodyC_len (ro := .slice ao rs.length cap) (fv := f.map (Value.int .u8)) (by rw [List.length_map, hf])
 obtain ⟨CS, HCS⟩ := hidE (bodyC (f.map (Value.int .u8)) (.slice ao rs.length cap))
 rw [← HCS.out] at hbf hCl ⊢
 obtain ⟨E, HE⟩ := hidE (bodyE rs)
 rw [← HE.out] at hbf hE HP
 obtain ⟨Q, HQ⟩ := hidE (PBPost f rs w)
 rw [← HQ.out] at HP ⊢
 obtain ⟨B, hsz⟩ := szE w
 rw [hsz] at hbf HP
 have hE2 : (E == 0) = false := by simpa using hE
 have hE3 : ¬ E = 0 := hE
 clear hr hs hn
 go_enter Tryz.func83, Tryz.ntmps83
 go_wp2_with (first
  | (go_at_call 139; refine (hbf w1 bb1).out.mono ?_; rintro e w2 ⟨rfl, hb2⟩; have bb2 : Below B w w2 := bb1.trans (hb2.mono (by omega)))
  | (refine wl_loadG (by rfl) 42 _ rfl ⟨B, 0, none⟩ rfl 58 CS hCl aggBody hB1.at0 ?_)
  | (refine wl_boxV rfl 42 _ rfl CS rfl B hsz ?_; intro w1 hB1 bb1 hs1))
 exact HP.out _ bb2
theorem PrintBody_ok (f : List Int) (hf : f.length = 16) (of : Octs f) (ao : Option Addr) (cap : Nat) (rs : List ByteArray) (w : World) (hr : RowS w ao rs) (hE : bodyE rs = 0) :
  Calls Tryz.prog 83 #[.int .i64 2, .agg (bodyC (f.map (Value.int .u8)) (.slice ao rs.length cap)).toArray] w (PBPost f rs w) := by
 obtain ⟨hn16, hsm⟩ := bodyE_small hE
 have hsz32 : ∀ i, i < rs.length → (roleAt rs i).size ≤ 32 := fun i hi => by rw [roleAt_get rs hi]; exact hsm _ (List.getElem_mem hi)
 have hbf := fun (w' : World) (hb : Below w.heap.size w w') => hid (bodyFault_two (f.map (Value.int .u8)) (by rw [List.length_map, hf]) ao cap rs w' (hr.below hb) (fun i hi => Nat.le_trans (hsz32 i hi) (by decide)) (by omega))
 rw [hE] at hbf
 have HP : Hid (∀ w' g c, Below w.heap.size w w' → OwnM w' w.heap.size (.slice (some ⟨g, 0, none⟩) (bodyB f rs).length c) (bodyB f rs).length (bodyB f rs) → PBPost f rs w (.returned (.tuple #[.slice (some ⟨g, 0, none⟩) (bodyB f rs).length c, .int .i64 0])) w') := hid (fun w' g c hb ho => ⟨hb, Or.inr ⟨hE, g, c, rfl, ho⟩⟩)
 have hCl := bodyC_len (ro := .slice ao rs.length cap) (fv := f.map (Value.int .u8)) (by rw [List.length_map, hf])
 have hcells := fun (w : World) (g : Nat) (h : BlkV 42 w g (bodyC (f.map (Value.int .u8)) (.slice ao rs.length cap))) => hid (body_cells (by rw [List.length_map, hf]) h)
 have hmem := fun (w : World) (g : Nat) (h : BlkV 42 w g (bodyC (f.map (Value.int .u8)) (.slice ao rs.length cap))) => hid (body_member (by rw [List.length_map, hf]) h)
 have hneed := fun (w : World) (g : Nat) (h : BlkV 229 w g needs2) => hid (needs_cells h)
 obtain ⟨CS, HCS⟩ := hidE (bodyC (f.map (Value.int .u8)) (.slice ao rs.length cap))
 rw [← HCS.out] at hbf hCl hcells hmem ⊢
 obtain ⟨NS, HNS⟩ := hidE needs2
 have hNl : NS.length = 12 := by rw [HNS.out]; rfl
 have hN1 : ∀ u ∈ NS, u.oneCell' = true := by rw [HNS.out]; decide
 obtain ⟨Z, HZ⟩ := hidE (List.replicate 12 (Value.bool false))
 have hz := hid zeroNeeds
 have hZl : Z.length = 12 := by rw [HZ.out]; rfl
 rw [← HZ.out] at hz
 have hnd := fun w => hid (needsOf_two w)
 rw [← HNS.out] at hneed hnd
 obtain ⟨Q, HQ⟩ := hidE (PBPost f rs w)
 rw [← HQ.out] at HP ⊢
 obtain ⟨B, hsz⟩ := szE w
 rw [hsz] at hbf HP
 have HR := fun (w' : World) (hb : Below B w w') => hid (hr.below (w' := w') (hsz ▸ hb))
 obtain ⟨n, Hn⟩ := hidE rs.length
 rw [← Hn.out] at hn16 hcells
 have hwn : IntKind.u8.wrap (n : Int) = (n : Int) := IntWalk.u8_in _ (by omega)
 have h0s : ByteArray.size ⟨#[]⟩ = 0 := rfl
 have HSM := hid hsm
 clear hr hsm
 go_enter Tryz.func83, Tryz.ntmps83
 go_wp2_with (first
  | (at_builtin; refine wl_appendM rfl _ _ rfl G _ 16 (wr.numsOf ⟨#[]⟩ ++ f) rfl (hO6.below hb7 (Nat.le_of_eq HK7.out.symm)) ⟨K7, 0, none⟩ 1 1 rfl [(n : Int)] rfl hL7.at0 (by omega) (by omega) 17 rfl ?_; intro g8 c8 w8 hO8 hb8; have hB8 := hB7.below hb8 (by omega); have hN8 := hN7.below hb8 (by omega); have bb8 : Below B w w8 := bb7.trans (hb8.mono (by omega)); obtain ⟨c0, c17, c18, c51, c52, c53, c54, c55, c56, c57⟩ := (hcells _ _ hB8).out)
  | (obtain ⟨K7, HK7⟩ := hidE w6.heap.size; have hGK : G ≤ K7 := (by rw [HK7.out]; exact hG6); refine wl_lit1 rfl 61 5 _ rfl Tryz.underlying61 (.int .u8 0) 1 info8 rfl (.int .u8 (n : Int)) rfl rfl K7 HK7.out.symm ?_; intro w7 hL7 hb7 hs7; have hB7 := hB6.below hb7 (by omega); have hN7 := hN6.below hb7 (by omega); have bb7 : Below B w w7 := bb6.trans (hb7.mono (by omega)))
  | (at_builtin; refine wl_appendM rfl _ _ rfl G _ 0 (wr.numsOf ⟨#[]⟩) rfl hO5 ⟨B, 1, none⟩ 16 16 rfl f hf (hmem _ _ hB5).out (by omega) (by omega) 16 rfl ?_; intro g6 c6 w6 hO6 hb6; have hB6 := hB5.below hb6 (by omega); have hN6 := hN5.below hb6 (by omega); have bb6 : Below B w w6 := bb5.trans (hb6.mono (by omega)); have hG6 : G ≤ w6.heap.size := (by have := hb6.size; omega); obtain ⟨c0, c17, c18, c51, c52, c53, c54, c55, c56, c57⟩ := (hcells _ _ hB6).out; obtain ⟨d0, d1, d2, d3, d4, d5, d6, d7, d8, d9, d10, d11⟩ := (hneed _ _ hN6).out)
  | (refine wl_convM rfl _ rfl ⟨#[]⟩ 0 h0s (by decide) rfl G hsG ?_; intro c5 w5 hO5 hb5 hs5; have hB5 := hB4.below hb5 (by omega); have hN5 := hN4.below hb5 (by omega); have bb5 : Below B w w5 := bb4.trans (hb5.mono (by omega)); obtain ⟨c0, c17, c18, c51, c52, c53, c54, c55, c56, c57⟩ := (hcells _ _ hB5).out; obtain ⟨d0, d1, d2, d3, d4, d5, d6, d7, d8, d9, d10, d11⟩ := (hneed _ _ hN5).out)
  | (refine wl_storeV rfl 229 _ _ rfl 229 M rfl NS rfl 12 aggNeeds hNl Z hR3 hZl hN1 ?_; intro w4 hN4 hb4 hs4; have hB4 := hB3.below hb4 (by omega); have bb4 : Below B w w4 := bb3.trans (hb4.mono (by omega)); obtain ⟨G, HG⟩ := hidE w4.heap.size; have hsG : w4.heap.size = G := HG.out.symm; have hMG : M < G := (by omega); obtain ⟨c0, c17, c18, c51, c52, c53, c54, c55, c56, c57⟩ := (hcells _ _ hB4).out)
  | (refine wl_allocV rfl 229 rfl Z hz.out M hsM ?_; intro w3 hR3 hb3 hs3; have hB3 := hB2'.below hb3 (by omega); have bb3 : Below B w w3 := bb2'.trans (hb3.mono (by omega)))
  | (go_at_call 140; refine (hnd w2).out.mono ?_; rintro e w2' ⟨rfl, hb2'⟩; obtain ⟨M, HM⟩ := hidE w2'.heap.size; have hsM : w2'.heap.size = M := HM.out.symm; have hMB : B + 1 ≤ M := (by have := hb2'.size; omega); have hB2' := hB2.below hb2' (by omega); have bb2' : Below B w w2' := bb2.trans (hb2'.mono (by omega)))
  | (go_at_call 139; refine (hbf w1 bb1).out.mono ?_; rintro e w2 ⟨rfl, hb2⟩; have bb2 : Below B w w2 := bb1.trans (hb2.mono (by omega)); have hB2 := hB1.below hb2 (by omega); have hs2 : B + 1 ≤ w2.heap.size := (by have := hb2.size; omega))
  | (refine wl_loadG (by rfl) 42 _ rfl ⟨B, 0, none⟩ rfl 58 CS hCl aggBody hB1.at0 ?_)
  | (refine wl_boxV rfl 42 _ rfl CS rfl B hsz ?_; intro w1 hB1 bb1 hs1))
 obtain ⟨P0, HP0⟩ := hidE ((wr.numsOf ⟨#[]⟩ ++ f) ++ [(n : Int)])
 rw [← HP0.out] at hO8
 have HP17 : Hid (P0.length = 17) := hid hO8.1
 have HL0 : Hid (P0 ++ rolesB rs = bodyB f rs) := hid (by rw [HP0.out]; unfold bodyB; rw [Hn.out, show wr.numsOf ⟨#[]⟩ = [] from rfl]; simp)
 have hs8 : G ≤ w8.heap.size := by have := hb8.size; omega
 go_loopw [8, 10, 44] (fun bv _ i wr => ∃ (k g c N : Nat), k ≤ n ∧ i = .int .i64 k ∧ bv = .slice (some ⟨g, 0, none⟩) N c ∧ OwnM wr G (.slice (some ⟨g, 0, none⟩) N c) N (P0 ++ rolesB (rs.take k)) ∧ BlkV 42 wr B CS ∧ BlkV 229 wr M NS ∧ Below B w wr ∧ G ≤ wr.heap.size) (fun _ _ i _ => n - (intOf i).toNat)
 case atStart => exact ⟨0, g8, c8, 17, Nat.zero_le _, rfl, rfl, by rw [List.take_zero, show rolesB [] = [] from rfl, List.append_nil]; exact hO8, hB8, hN8, bb8, hs8⟩
 case round =>
  obtain ⟨k, gk, ck, N, hk, rfl, rfl, hOr, hBr, hNr, bbr, hsr⟩ := hrel
  have HNN : Hid (N = 17 + (rolesB (rs.take k)).length) := hid (by rw [← hOr.1, List.length_append, HP17.out])
  have hN545 : N ≤ 545 := by
   have h1 := rolesB_len (rs := rs.take k) (fun t ht => HSM.out t (List.mem_of_mem_take ht))
   have h2 := List.length_take_le k rs
   have h3 := HNN.out
   have h4 : (rs.take k).length ≤ 16 := by rw [List.length_take]; have := Hn.out; omega
   omega
  by_cases h0 : k < n
  ·have hkI : (k : Int) < (n : Int) := by omega
   have hkr : k < rs.length := by rw [← Hn.out]; exact h0
   obtain ⟨b, off, hao, hb, hc⟩ := ((HR wr bbr).out).at hkr
   subst hao
   obtain ⟨s, Hs⟩ := hidE (roleAt rs k)
   rw [← Hs.out] at hc
   have hs255 : s.size ≤ 255 := by rw [Hs.out]; exact Nat.le_trans (hsz32 k hkr) (by decide)
   obtain ⟨N2, HN2⟩ : ∃ q, q = N + (s.size + 1) := ⟨_, rfl⟩
   have hpt := hid (putText_any G (.slice (some ⟨gk, 0, none⟩) N ck) N _ s wr hOr hsr hs255 (by omega) N2 HN2)
   have HTK : Hid (P0 ++ rolesB (rs.take (k + 1)) = P0 ++ rolesB (rs.take k) ++ textB s) := hid (by rw [rolesB_take rs hkr, ← Hs.out]; simp only [List.append_assoc])
   clear HN2 hN545
   go_wp2_with (go_at_call 141; refine hpt.out.mono ?_; rintro e w9 ⟨g9, c9, rfl, hO9, hb9⟩)
   go_roundw
   case rel => exact ⟨k + 1, g9, c9, N2, by omega, by go_num, rfl, by rw [HTK.out]; exact hO9, hBr.below hb9 (by omega), hNr.below hb9 (by omega), bbr.trans (hb9.mono (by omega)), by have := hb9.size; omega⟩
   case measure => simp [intOf] <;> omega
  ·have hkI : ¬ (k : Int) < (n : Int) := by omega
   have HKN : Hid (rs.take k = rs) := hid (List.take_of_length_le (by rw [← Hn.out]; omega))
   obtain ⟨c0, c17, c18, c51, c52, c53, c54, c55, c56, c57⟩ := (hcells _ _ hBr).out
   obtain ⟨d0, d1, d2, d3, d4, d5, d6, d7, d8, d9, d10, d11⟩ := (hneed _ _ hNr).out
   have HNF : Hid (N = (bodyB f rs).length) := hid (by rw [← hOr.1, ← HL0.out, HKN.out])
   have hOf : OwnM wr G (.slice (some ⟨gk, 0, none⟩) N ck) N (bodyB f rs) := by rw [← HL0.out]; have := hOr; rw [HKN.out] at this; exact this
   clear hOr HNN
   obtain ⟨L9, HL9⟩ := hidE wr.heap.size
   have hGL : G ≤ L9 := by rw [HL9.out]; exact hsr
   go_wp2_with (first
    | (refine wl_lit rfl 233 232 4 _ rfl (by kernel_rfl) (.agg #[.bool false, .int .i64 0]) 2 16 (by unfold Info; kernel_rfl) (by decide) (by decide) [.bool false, .int .i64 0, .bool false, .int .i64 0, .bool false, .int .i64 0, .bool false, .int .i64 0] (by kernel_rfl) L9 HL9.out.symm ?_; intro w9 hL9 hb9 hs9)
    | (refine wl_build2 rfl 232 0 1 _ _ rfl (.bool false) (.int .i64 0) rfl rfl [.bool false, .int .i64 0] (by kernel_rfl) ?_))
   obtain ⟨wo, hwo⟩ : ∃ wo, wo = wr := ⟨_, rfl⟩
   subst hwo
   have HPn := HP
   rw [← HNF.out] at HPn
   have haT : Agg Tryz.prog 232 2 := .str Tryz.underlying232 (by kernel_rfl)
   have hzT : (Tryz.prog.info? 232).map (·.zero) = some (some (.agg [Value.bool false, .int .i64 0].toArray)) := by kernel_rfl
   have h1T : ∀ u ∈ [Value.bool false, .int .i64 0], u.oneCell' = true := by decide
   go_loopw [8, 12, 80] (fun bv _ i wr => (i = .int .i64 0 ∨ i = .int .i64 1 ∨ i = .int .i64 2 ∨ i = .int .i64 3 ∨ i = .int .i64 4) ∧ bv = .slice (some ⟨gk, 0, none⟩) N ck ∧ OwnM wr G (.slice (some ⟨gk, 0, none⟩) N ck) N (bodyB f rs) ∧ BlkV 229 wr M NS ∧ BlkV 232 wr L9 [.bool false, .int .i64 0, .bool false, .int .i64 0, .bool false, .int .i64 0, .bool false, .int .i64 0] ∧ Below B w wr) (fun _ _ i _ => 4 - (intOf i).toNat)
   case atStart => exact ⟨Or.inl rfl, rfl, hOf.below hb9 (Nat.le_of_eq HL9.out.symm), hNr.below hb9 (by omega), hL9, bbr.trans (hb9.mono (by omega))⟩
   case round =>
    obtain ⟨hi, rfl, hOq, hNq, hLq, bbq⟩ := hrel
    have hLs := hLq.lt
    rcases hi with rfl | rfl | rfl | rfl | rfl
    ·have hAt : At wr ⟨L9, 0, none⟩ [Value.bool false, .int .i64 0] := hLq.at 0 _ (fun j u hu => by have hj := (List.getElem?_eq_some_iff.1 hu).1; match j, hj with | 0, _ => exact hu | 1, _ => exact hu)
     go_wp2_with (first
      | (refine wl_storeV rfl 232 _ _ rfl 232 X rfl [.bool false, .int .i64 0] rfl 2 haT rfl [.bool false, .int .i64 0] hX1 rfl h1T ?_; intro x2 hX2 hb2 hs2; have q0 : x2.cell? ⟨X, 0, none⟩ = some (.bool false) := hX2.cell 0; have bx2 : Below X wr x2 := hb1.trans hb2)
      | (obtain ⟨X, HX⟩ := hidE wr.heap.size; have hLX : L9 < X := (by rw [HX.out]; exact hLs); refine wl_allocV rfl 232 rfl [.bool false, .int .i64 0] hzT X HX.out.symm ?_; intro x1 hX1 hb1 hs1)
      | (refine wl_loadG (by rfl) 232 _ rfl ⟨L9, 0, none⟩ rfl 2 [.bool false, .int .i64 0] rfl haT hAt ?_))
     go_roundw
     case rel => exact ⟨by simp, rfl, hOq.below bx2 (Nat.le_of_eq HX.out.symm), hNq.below bx2 (by omega), hLq.below bx2 hLX, bbq.trans (bx2.mono (by omega))⟩
     case measure => simp [intOf]
    ·have hAt : At wr ⟨L9, 2, none⟩ [Value.bool false, .int .i64 0] := hLq.at 2 _ (fun j u hu => by have hj := (List.getElem?_eq_some_iff.1 hu).1; match j, hj with | 0, _ => exact hu | 1, _ => exact hu)
     go_wp2_with (first
      | (refine wl_storeV rfl 232 _ _ rfl 232 X rfl [.bool false, .int .i64 0] rfl 2 haT rfl [.bool false, .int .i64 0] hX1 rfl h1T ?_; intro x2 hX2 hb2 hs2; have q0 : x2.cell? ⟨X, 0, none⟩ = some (.bool false) := hX2.cell 0; have bx2 : Below X wr x2 := hb1.trans hb2)
      | (obtain ⟨X, HX⟩ := hidE wr.heap.size; have hLX : L9 < X := (by rw [HX.out]; exact hLs); refine wl_allocV rfl 232 rfl [.bool false, .int .i64 0] hzT X HX.out.symm ?_; intro x1 hX1 hb1 hs1)
      | (refine wl_loadG (by rfl) 232 _ rfl ⟨L9, 2, none⟩ rfl 2 [.bool false, .int .i64 0] rfl haT hAt ?_))
     go_roundw
     case rel => exact ⟨by simp, rfl, hOq.below bx2 (Nat.le_of_eq HX.out.symm), hNq.below bx2 (by omega), hLq.below bx2 hLX, bbq.trans (bx2.mono (by omega))⟩
     case measure => simp [intOf]
    ·have hAt : At wr ⟨L9, 4, none⟩ [Value.bool false, .int .i64 0] := hLq.at 4 _ (fun j u hu => by have hj := (List.getElem?_eq_some_iff.1 hu).1; match j, hj with | 0, _ => exact hu | 1, _ => exact hu)
     go_wp2_with (first
      | (refine wl_storeV rfl 232 _ _ rfl 232 X rfl [.bool false, .int .i64 0] rfl 2 haT rfl [.bool false, .int .i64 0] hX1 rfl h1T ?_; intro x2 hX2 hb2 hs2; have q0 : x2.cell? ⟨X, 0, none⟩ = some (.bool false) := hX2.cell 0; have bx2 : Below X wr x2 := hb1.trans hb2)
      | (obtain ⟨X, HX⟩ := hidE wr.heap.size; have hLX : L9 < X := (by rw [HX.out]; exact hLs); refine wl_allocV rfl 232 rfl [.bool false, .int .i64 0] hzT X HX.out.symm ?_; intro x1 hX1 hb1 hs1)
      | (refine wl_loadG (by rfl) 232 _ rfl ⟨L9, 4, none⟩ rfl 2 [.bool false, .int .i64 0] rfl haT hAt ?_))
     go_roundw
     case rel => exact ⟨by simp, rfl, hOq.below bx2 (Nat.le_of_eq HX.out.symm), hNq.below bx2 (by omega), hLq.below bx2 hLX, bbq.trans (bx2.mono (by omega))⟩
     case measure => simp [intOf]
    ·have hAt : At wr ⟨L9, 6, none⟩ [Value.bool false, .int .i64 0] := hLq.at 6 _ (fun j u hu => by have hj := (List.getElem?_eq_some_iff.1 hu).1; match j, hj with | 0, _ => exact hu | 1, _ => exact hu)
     go_wp2_with (first
      | (refine wl_storeV rfl 232 _ _ rfl 232 X rfl [.bool false, .int .i64 0] rfl 2 haT rfl [.bool false, .int .i64 0] hX1 rfl h1T ?_; intro x2 hX2 hb2 hs2; have q0 : x2.cell? ⟨X, 0, none⟩ = some (.bool false) := hX2.cell 0; have bx2 : Below X wr x2 := hb1.trans hb2)
      | (obtain ⟨X, HX⟩ := hidE wr.heap.size; have hLX : L9 < X := (by rw [HX.out]; exact hLs); refine wl_allocV rfl 232 rfl [.bool false, .int .i64 0] hzT X HX.out.symm ?_; intro x1 hX1 hb1 hs1)
      | (refine wl_loadG (by rfl) 232 _ rfl ⟨L9, 6, none⟩ rfl 2 [.bool false, .int .i64 0] rfl haT hAt ?_))
     go_roundw
     case rel => exact ⟨by simp, rfl, hOq.below bx2 (Nat.le_of_eq HX.out.symm), hNq.below bx2 (by omega), hLq.below bx2 hLX, bbq.trans (bx2.mono (by omega))⟩
     case measure => simp [intOf]
    ·obtain ⟨d0, d1, d2, d3, d4, d5, d6, d7, d8, d9, d10, d11⟩ := (hneed _ _ hNq).out
     go_wp2
     exact HPn.out _ _ _ bbq (hOq.mono (by omega))
end Go.Proofs.YtdhipjoplkpgmaaGreatDoor.hf
namespace Go.Proofs.YtdhipjoplkpgmaaGreatDoor.wr
open Go.RowKit st hs shr sh
def idV (l : List Int) : Value := .agg (l.map (Value.int .u8)).toArray
theorem run_equal_id (w : World) (s t : List Int) (hs : s.length = 16) (ht : t.length = 16) : (Op.equal 25 (idV s) (idV t)).run Tryz.prog w = .ok (s == t) w := run_eq_id w s t hs ht
theorem check_id (w : World) (b : Bool) (l : List Int) (hll : l.length = 16) : (Instr.checkKey b 10000 25 (idV l)).run Tryz.prog w = .ok () w := by
 obtain ⟨a0, a1, a2, a3, a4, a5, a6, a7, a8, a9, a10, a11, a12, a13, a14, a15, rfl⟩ : ∃ a0 a1 a2 a3 a4 a5 a6 a7 a8 a9 a10 a11 a12 a13 a14 a15, l = [a0, a1, a2, a3, a4, a5, a6, a7, a8, a9, a10, a11, a12, a13, a14, a15] := by
  refine ⟨l[0], l[1], l[2], l[3], l[4], l[5], l[6], l[7], l[8], l[9], l[10], l[11], l[12], l[13], l[14], l[15], List.ext_getElem (by simp [hll]) fun i h1 h2 => ?_⟩
  have : i < 16 := by omega
  match i, this with
  | 0, _ => rfl
  | 1, _ => rfl
  | 2, _ => rfl
  | 3, _ => rfl
  | 4, _ => rfl
  | 5, _ => rfl
  | 6, _ => rfl
  | 7, _ => rfl
  | 8, _ => rfl
  | 9, _ => rfl
  | 10, _ => rfl
  | 11, _ => rfl
  | 12, _ => rfl
  | 13, _ => rfl
  | 14, _ => rfl
  | 15, _ => rfl
  | i + 16, h => exact absurd h (by omega)
 kernel_rfl
end Go.Proofs.YtdhipjoplkpgmaaGreatDoor.wr
namespace Go.Proofs.YtdhipjoplkpgmaaGreatDoor.wr
open Go.RowKit st hs shr sh
def zID : List Value := (List.replicate 16 (0 : Int)).map (Value.int .u8)
end Go.Proofs.YtdhipjoplkpgmaaGreatDoor.wr
namespace Go.Proofs.YtdhipjoplkpgmaaGreatDoor.wr
open Go.RowKit st hs shr sh
theorem ptCut {w : World} {a : Option Addr} {c : Nat} {L : List Int} (HP : Pt.Ok w ⟨a, c, L⟩) (l h m : Nat) (h1 : l ≤ h) (h2 : h ≤ L.length) (h3 : h ≤ m) (h4 : m ≤ c) : Pt.Ok w ⟨if m = l then a else a.map (·.add (l * 1)), m - l, (L.drop l).take (h - l)⟩ := by
 have hlen : ((L.drop l).take (h - l)).length = h - l := by rw [List.length_take, List.length_drop]; omega
 refine ⟨?_, by show ((L.drop l).take (h - l)).length ≤ m - l; rw [hlen]; omega, Nat.le_trans (by show m - l ≤ c; omega) HP.cap, fun x hx => HP.oct x (List.mem_of_mem_drop (List.mem_of_mem_take hx)), fun b e => ?_⟩
 ·by_cases e : l = h
  ·left; show (L.drop l).take (h - l) = []; rw [e, Nat.sub_self, List.take_zero]
  ·obtain ⟨b, off, hao, hb, hc⟩ := HP.row.at (i := 0) (by show 0 < L.length; omega)
   dsimp only at hao
   right
   refine ⟨b, off + l, ?_, hb, fun i hi => ?_⟩
   ·show (if m = l then a else a.map (·.add (l * 1))) = _
    rw [if_neg (by omega), hao, Nat.mul_one]
    show some (Addr.add _ _) = _
    rw [addr_add]
   ·dsimp only at hi
    rw [hlen] at hi
    show w.cell? ⟨b, off + l + i, none⟩ = some (.int .u8 (((L.drop l).take (h - l)).getD i 0))
    have := hc (l + i) (by show l + i < L.length; omega)
    rw [Nat.add_assoc, this]
    simp [List.getD_eq_getElem?_getD, List.getElem?_take, hi]
 ·dsimp only at e
  by_cases e2 : m = l
  ·rw [if_pos e2] at e; exact HP.lt b e
  ·rw [if_neg e2] at e
   cases a with
   | none => cases e
   | some a0 =>
    have h9 := HP.lt a0 rfl
    simp only [Option.map_some, Option.some.injEq] at e
    rw [← e]
    unfold Addr.add
    split <;> exact h9
theorem some_cut (ao : Option Addr) (m l k : Nat) (d0 : Addr) (h : ao = some d0) : ∃ d, (if m = l then ao else ao.map (·.add k)) = some d ∧ d.block = d0.block := by
 subst h
 split
 ·exact ⟨d0, rfl, rfl⟩
 ·refine ⟨_, rfl, ?_⟩
  unfold Addr.add
  split <;> rfl
theorem elem8 : Tryz.prog.underlying 61 = some (.slice (Tryz.prog.elem 61)) := by kernel_rfl
theorem size8e (w : World) : (sizeOf (Tryz.prog.elem 61)).run Tryz.prog w = .ok 1 w := by kernel_rfl
section
variable {w : World} {ops : Array Oper} {rest : List Oper} {o : Oper} {a : Act} {Q : Exit → Act → World → Prop}
theorem wl_cutL (hgd : o.guard = none) (x y : Operand) (ho : o.op = .slice 61 x (some y) none none) (ao : Option Addr) (n c : Nat) (L : List Int) (hx : a.eval x = .slice ao n c) (l : Nat) (li : Int) (hy : a.eval y = .int .i64 li) (hli : li = (l : Int)) (hn : n = L.length) (HP : Pt.Ok w ⟨ao, c, L⟩) (hl : l ≤ n) (N C : Nat) (hN : N = n - l) (hC : C = c - l)
  (hK : ∀ ao', (∀ d0, ao = some d0 → ∃ d, ao' = some d ∧ d.block = d0.block) → Pt.Ok w ⟨ao', C, L.drop l⟩ → wpList Tryz.prog ops Q rest (a.put o.dst (.slice ao' N C)) w) : wpList Tryz.prog ops Q (o :: rest) a w := by
 subst hN hC hli
 have hcn : n ≤ c := by rw [hn]; exact HP.len
 have hrun := run_slice_l (P := Tryz.prog) w 61 ao n c elem8 .i64 (l : Int) (by omega) (by omega)
 rw [size8e] at hrun
 simp only [Result.andThen_ok, Int.toNat_natCast, sliced] at hrun
 have h2 := ptCut HP l L.length c (by omega) (Nat.le_refl _) (by omega) (Nat.le_refl _)
 rw [List.take_of_length_le (by rw [List.length_drop]; omega)] at h2
 refine wpList_plain hgd fun K hK' => ?_
 unfold Oper.wp
 simp only [execOp, ho, hx, Option.map_some, Option.map_none, hy, run_sliceAt_slice (P := Tryz.prog) w _ _ _ _ _ elem8, hrun, Sem.run_bind, Result.andThen_ok, Sem.run_pure]
 exact hK' _ _ (hK _ (some_cut ao _ _ _) h2)
theorem wl_cutH (hd : Region.wanted o (yielded ops a.tmps) = true) (x z : Operand) (ho : o.op = .slice 61 x none (some z) none) (ao : Option Addr) (n c : Nat) (L : List Int) (hx : a.eval x = .slice ao n c) (h : Nat) (hi : Int) (hz : a.eval z = .int .i64 hi) (hhi : hi = (h : Int)) (hn : n = L.length) (HP : Pt.Ok w ⟨ao, c, L⟩) (hh : h ≤ n) (hpo : 0 < h)
  (hK : Pt.Ok w ⟨ao, c, L.take h⟩ → wpList Tryz.prog ops Q rest (a.put o.dst (.slice ao h c)) w) : wpList Tryz.prog ops Q (o :: rest) a w := by
 subst hhi
 have hcn : n ≤ c := by rw [hn]; exact HP.len
 have hrun := run_slice_h (P := Tryz.prog) w 61 ao n c elem8 .i64 (h : Int) (by omega) (by omega)
 rw [size8e] at hrun
 simp only [Result.andThen_ok, Int.toNat_natCast, sliced] at hrun
 have h2 := ptCut HP 0 h c (Nat.zero_le _) (by omega) (by omega) (Nat.le_refl _)
 rw [List.drop_zero, Nat.sub_zero, Nat.sub_zero] at h2
 have hao : (if c = 0 then ao else ao.map (·.add (0 * 1))) = ao := by
  split
  ·rfl
  ·cases ao with
   | none => rfl
   | some a0 =>
    simp only [Option.map_some, Nat.zero_mul]
    unfold Addr.add
    rw [if_pos rfl]
 rw [hao] at h2 hrun
 refine wpList_step fun K hK' => ?_
 rw [if_pos hd]
 unfold Oper.wp
 simp only [execOp, ho, hx, Option.map_some, Option.map_none, hz, run_sliceAt_slice (P := Tryz.prog) w _ _ _ _ _ elem8, hrun, Nat.sub_zero, Sem.run_bind, Result.andThen_ok, Sem.run_pure]
 exact hK' _ _ (hK h2)
end
end Go.Proofs.YtdhipjoplkpgmaaGreatDoor.wr
namespace Go.Proofs.YtdhipjoplkpgmaaGreatDoor.hf
open Go.RowKit st hs wr shr sh
structure Only (B : Nat) (ks : List Nat) (w w' : World) : Prop where
 os : w'.os = w.os
 tape : w'.tape = w.tape
 output : w'.output = w.output
 size : w.heap.size ≤ w'.heap.size
 block : ∀ k, k < B → k ∉ ks → w'.heap[k]? = w.heap[k]?
section
variable {B : Nat} {ks : List Nat} {w w' w'' : World}
theorem Only.trans (h : Only B ks w w') (k : Only B ks w' w'') : Only B ks w w'' :=
 ⟨k.os.trans h.os, k.tape.trans h.tape, k.output.trans h.output, Nat.le_trans h.size k.size, fun i hi hn => (k.block i hi hn).trans (h.block i hi hn)⟩
theorem Only.of {M : Nat} (h : Below M w w') (hM : B ≤ M) : Only B ks w w' := ⟨h.os, h.tape, h.output, h.size, fun i hi _ => h.block i (by omega)⟩
theorem Only.ofG {row : Option Nat} (h : w.grownBy w' row) (hB : B ≤ w.heap.size) (hr : ∀ k, row = some k → B ≤ k ∨ k ∈ ks) : Only B ks w w' :=
 ⟨h.os, h.tape, h.output, h.size, fun i hi hn => h.block i (by omega) (fun e => by rcases hr i e.symm with g | g; omega; exact hn g)⟩
theorem Only.mono {B' : Nat} {ks' : List Nat} (h : Only B ks w w') (hB : B' ≤ B) (hs : ∀ k, k ∈ ks → k ∈ ks' ∨ B' ≤ k) : Only B' ks' w w' :=
 ⟨h.os, h.tape, h.output, h.size, fun i hi hn => h.block i (by omega) (fun e => by rcases hs i e with g | g; exact hn g; omega)⟩
theorem Only.below (h : Only B ks w w') (hs : ∀ k, k ∈ ks → B ≤ k) : Below B w w' := ⟨h.os, h.tape, h.output, h.size, fun i hi => h.block i hi (fun e => by have := hs i e; omega)⟩
theorem Only.blk {t : TypeId} {g : Nat} {cs : List Value} (h : Only B ks w w') (hb : BlkV t w g cs) (hg : g < B) (hn : g ∉ ks) : BlkV t w' g cs := by unfold BlkV; rw [h.block g hg hn]; exact hb
theorem Only.cell (h : Only B ks w w') {p : Addr} (hp : p.block < B) (hn : p.block ∉ ks) : w'.cell? p = w.cell? p := World.cell?_of_block (h.block _ hp hn)
theorem Only.pt {x : Pt} (h : Only B ks w w') (hx : x.Ok w) (hp : ∀ b, x.a = some b → b.block < B ∧ b.block ∉ ks) : x.Ok w' := by
 refine ⟨?_, hx.len, hx.cap, hx.oct, fun b e => Nat.lt_of_lt_of_le (hx.lt b e) h.size⟩
 rcases hx.row with g | ⟨b, off, g1, g2, g3⟩
 ·exact Or.inl g
 ·obtain ⟨q1, q2⟩ := hp _ g1
  exact Or.inr ⟨b, off, g1, Nat.lt_of_lt_of_le g2 h.size, fun i hi => (h.cell (p := ⟨b, off + i, none⟩) q1 q2).trans (g3 i hi)⟩
theorem Only.rowS {ao : Option Addr} {rs : List ByteArray} (h : Only B ks w w') (hx : RowS w ao rs) (hp : ∀ b, ao = some b → b.block < B ∧ b.block ∉ ks) : RowS w' ao rs := by
 rcases hx with g | ⟨b, off, g1, g2, g3⟩
 ·exact Or.inl g
 ·obtain ⟨q1, q2⟩ := hp _ g1
  exact Or.inr ⟨b, off, g1, Nat.lt_of_lt_of_le g2 h.size, fun i hi => (h.cell (p := ⟨b, off + i, none⟩) q1 q2).trans (g3 i hi)⟩
end
theorem rowS_grown {w w' : World} {ao : Option Addr} {rs : List ByteArray} {g : Nat} (h : RowS w ao rs) (hg : w.grownBy w' (some g)) (hne : ∀ b, ao = some b → rs ≠ [] → b.block ≠ g) : RowS w' ao rs := by
 by_cases e : rs = []
 ·exact Or.inl e
 ·rcases h with h | ⟨b, off, h1, h2, h3⟩
  ·exact absurd h e
  ·exact Or.inr ⟨b, off, h1, Nat.lt_of_lt_of_le h2 hg.size, fun i hi => hg.cell (h3 i hi) (fun q => by injection q with q; exact hne _ h1 e q)⟩
section
variable {w : World} {ops : Array Oper} {rest : List Oper} {o : Oper} {a : Act} {Q : Exit → Act → World → Prop}
theorem wl_cutHM (hgd : o.guard = none) (x z u : Operand) (ho : o.op = .slice 61 x none (some z) (some u)) (ao : Option Addr) (n c : Nat) (L : List Int) (hx : a.eval x = .slice ao n c) (h m : Nat) (hi mi : Int) (hz : a.eval z = .int .i64 hi) (hhi : hi = (h : Int)) (hu : a.eval u = .int .i64 mi) (hmi : mi = (m : Int)) (hn : n = L.length) (HP : Pt.Ok w ⟨ao, c, L⟩) (hh : h ≤ n) (hm : h ≤ m) (hmc : m ≤ c)
  (hK : Pt.Ok w ⟨ao, m, L.take h⟩ → wpList Tryz.prog ops Q rest (a.put o.dst (.slice ao h m)) w) : wpList Tryz.prog ops Q (o :: rest) a w := by
 subst hhi hmi
 have hcn : n ≤ c := by rw [hn]; exact HP.len
 have hrun := run_slice_hm (P := Tryz.prog) w 61 ao n c elem8 .i64 .i64 (h : Int) (m : Int) (by omega) (by omega) (by omega)
 rw [size8e] at hrun
 simp only [Result.andThen_ok, Int.toNat_natCast, sliced] at hrun
 have h2 := ptCut HP 0 h m (Nat.zero_le _) (by omega) hm hmc
 rw [List.drop_zero, Nat.sub_zero, Nat.sub_zero] at h2
 have hao : (if m = 0 then ao else ao.map (·.add (0 * 1))) = ao := by
  split
  ·rfl
  ·cases ao with
   | none => rfl
   | some a0 =>
    simp only [Option.map_some, Nat.zero_mul]
    unfold Addr.add
    rw [if_pos rfl]
 rw [hao] at h2 hrun
 refine wpList_plain hgd fun K hK' => ?_
 unfold Oper.wp
 simp only [execOp, ho, hx, Option.map_some, Option.map_none, hz, hu, run_sliceAt_slice (P := Tryz.prog) w _ _ _ _ _ elem8, hrun, Nat.sub_zero, Sem.run_bind, Result.andThen_ok, Sem.run_pure]
 exact hK' _ _ (hK h2)
end
theorem ptLow {w w' : World} {x : Pt} {C : Nat} (h : x.Ok w) (hb : Below C w w') (hlt : ∀ b, x.a = some b → b.block < C) : x.Ok w' :=
 ⟨rowI_belowB h.row hb hlt, h.len, h.cap, h.oct, fun b e => Nat.lt_of_lt_of_le (h.lt b e) hb.size⟩
theorem ptDr {w : World} {x : Pt} (h : x.Ok w) : x.Ok w.drew := ⟨h.row, h.len, h.cap, h.oct, h.lt⟩
theorem at_rowO {w : World} {p off : Nat} {l : List Int} (hl : p < w.heap.size) (h : At w ⟨p, off, none⟩ (l.map (Value.int .u8))) : RowI .u8 w (some ⟨p, off, none⟩) l := RowV.i (at_row hl h)
def ReadAt (w : World) (g : Nat) (L : List Int) : Prop := ∃ ao c, BlkV 338 w g [.slice ao L.length c, .bool false] ∧ Pt.Ok w ⟨ao, c, L⟩ ∧ ∀ b, ao = some b → b.block < g
theorem ReadAt.lt {w : World} {g : Nat} {L : List Int} (h : ReadAt w g L) : g < w.heap.size := by obtain ⟨_, _, h, _⟩ := h; exact h.lt
theorem ReadAt.below {w w' : World} {g B : Nat} {L : List Int} (h : ReadAt w g L) (hb : Below B w w') (hg : g < B) : ReadAt w' g L := by
 obtain ⟨ao, c, h1, h2, h3⟩ := h
 exact ⟨ao, c, h1.below hb hg, ptLow h2 hb (fun b e => by have := h3 b e; omega), h3⟩
theorem ReadAt.drew {w : World} {g : Nat} {L : List Int} (h : ReadAt w g L) : ReadAt w.drew g L := by
 obtain ⟨ao, c, h1, h2, h3⟩ := h
 exact ⟨ao, c, h1.drew, ptDr h2, h3⟩
theorem take_ok (g : Nat) (L : List Int) (m : Nat) (w : World) (hR : ReadAt w g L) (h0 : 0 < m) (hm : m ≤ L.length) (hL : L.length ≤ 1048576) :
  Calls Tryz.prog 344 #[.pointer (some ⟨g, 0, none⟩), .int .i64 m] w fun e w' => ∃ ao, e = .returned (.slice ao m m) ∧ Pt.Ok w' ⟨ao, m, L.take m⟩ ∧ ReadAt w' g (L.drop m) ∧ w.grownBy w' (some g) ∧ (∀ b, ao = some b → b.block < g) := by
 obtain ⟨ao, c, hB, HP, hne⟩ := hR
 have HD := hid (List.length_drop (i := m) (l := L))
 have HSM : Hid (∃ d0, ao = some d0) := hid (by obtain ⟨b, off, h1, _⟩ := HP.row.at (i := 0) (by show 0 < L.length; omega); exact ⟨_, h1⟩)
 obtain ⟨n, Hn⟩ := hidE L.length
 have hcn : n ≤ c := by rw [Hn.out]; exact HP.len
 rw [← Hn.out] at hB hm hL HD
 have hmI : ¬ (n : Int) < (m : Int) := by omega
 have c0 : w.cell? ⟨g, 0, none⟩ = some (.slice ao n c) := hB.cell 0
 have c1 : w.cell? ⟨g, 1, none⟩ = some (.bool false) := hB.cell 1
 go_enter Tryz.func344, Tryz.ntmps344
 go_wp2_with (first
  | (refine wl_setV rfl 61 _ _ rfl 338 g 0 rfl (.slice ao2 (n - m) (c - m)) rfl rfl rfl (by kernel_rfl) [.slice ao n c, .bool false] hB (by simp) ?_; intro w1 hB1 hg1 hs1)
  | (refine wl_cutL rfl _ _ rfl ao n c L rfl m _ rfl rfl Hn.out HP hm _ _ rfl rfl ?_; intro ao2 hao2 HP2)
  | (refine wl_cutHM rfl _ _ _ rfl ao n c L rfl m m _ _ rfl rfl rfl rfl Hn.out HP hm (Nat.le_refl _) (by omega) ?_; intro HP1))
 go_ret
 have hb2 : ∀ b, ao2 = some b → b.block < g := fun b e => by
  obtain ⟨d0, e0⟩ := HSM.out
  obtain ⟨d, h1, h2⟩ := hao2 d0 e0
  rw [h1] at e; injection e with e; subst e; rw [h2]; exact hne _ e0
 exact ⟨ao, rfl, ptGrown HP1 hg1 (fun b e h => by injection h with h; have := hne b e; omega), ⟨ao2, c - m, by rw [HD.out]; exact hB1, ptGrown HP2 hg1 (fun b e h => by injection h with h; have := hb2 b e; omega), hb2⟩, hg1, hne⟩
theorem octet_no (g : Nat) (w : World) : Calls Tryz.prog 346 #[.pointer (some ⟨g, 0, none⟩), .bool false] w fun e w' => e = .returned (.int .i64 0) ∧ w = w' := by
 go_enter Tryz.func346, Tryz.ntmps346
 go_wp2
 go_ret
 exact ⟨rfl, rfl⟩
theorem octet_yes (g : Nat) (x : Int) (L : List Int) (w : World) (hR : ReadAt w g (x :: L)) (hL : L.length ≤ 1048575) :
  Calls Tryz.prog 346 #[.pointer (some ⟨g, 0, none⟩), .bool true] w fun e w' => e = .returned (.int .i64 x) ∧ ReadAt w' g L ∧ w.grownBy w' (some g) := by
 have hx : Oct x := by obtain ⟨ao, c, _, HP, _⟩ := hR; exact HP.oct x (List.mem_cons_self ..)
 obtain ⟨hx0, hx1⟩ := hx
 have htk := hid (take_ok g (x :: L) 1 w hR (by decide) (by simp) (by simp; omega))
 have hwx : RowKit.wrap64 x = x := by unfold RowKit.wrap64; omega
 have hwx2 : IntKind.i64.wrap x = x := IntWalk.i64_in _ (by omega)
 clear hR
 go_enter Tryz.func346, Tryz.ntmps346
 go_wp2_with (go_at_call 344; refine htk.out.mono ?_; rintro e w1 ⟨ao, rfl, HP1, HR1, hg1, hlt1⟩; obtain ⟨b, off, rfl, hb, hc⟩ := HP1.row.at (i := 0) (by simp); have hc0 : w1.cell? ⟨b, off, none⟩ = some (.int .u8 x) := hc 0 (by simp); clear hc)
 go_ret
 exact ⟨rfl, HR1, hg1⟩
theorem aggIDT : Agg Tryz.prog 25 16 := Agg.arr Tryz.underlying25 (by kernel_rfl)
def zID : List Value := (List.replicate 16 (0 : Int)).map (Value.int .u8)
theorem zeroIDT : (Tryz.prog.info? 25).map (·.zero) = some (some (.agg zID.toArray)) := by kernel_rfl
theorem run_arrayID (w : World) (a : Addr) (n cap : Nat) (hn : 16 ≤ n) : (Instr.arrayAt 25 (.slice (some a) n cap)).run Tryz.prog w = .ok (.pointer (some a)) w := by
 have h1 : ¬ n < 16 := by omega
 simp [Instr.arrayAt, run_underlying Tryz.underlying25, Result.andThen, h1]
theorem id_ok (g : Nat) (f L : List Int) (w : World) (hf : f.length = 16) (hR : ReadAt w g (f ++ L)) (hL : L.length ≤ 1048560) :
  Calls Tryz.prog 345 #[.pointer (some ⟨g, 0, none⟩)] w fun e w' => e = .returned (.agg (f.map (Value.int .u8)).toArray) ∧ ReadAt w' g L ∧ w.grownBy w' (some g) := by
 have e1 : (f ++ L).take 16 = f := by rw [← hf]; exact List.take_left
 have e2 : (f ++ L).drop 16 = L := by rw [← hf]; exact List.drop_left
 have hgl := hR.lt
 have htk := fun (w' : World) (hb : Below w.heap.size w w') => hid (take_ok g (f ++ L) 16 w' (hR.below hb hgl) (by decide) (by rw [List.length_append]; omega) (by rw [List.length_append]; omega))
 rw [e1, e2] at htk
 obtain ⟨F, HF⟩ := hidE (f.map (Value.int .u8))
 have hFl : F.length = 16 := by rw [HF.out, List.length_map, hf]
 have hF1 : ∀ u ∈ F, u.oneCell' = true := by rw [HF.out]; exact ints_one _ _
 obtain ⟨Z, HZ⟩ := hidE zID
 have hz := hid zeroIDT
 have hZl : Z.length = 16 := by rw [HZ.out]; rfl
 rw [← HZ.out] at hz
 rw [← HF.out]
 have hAA := fun w a n cap h => run_arrayID w a n cap h
 obtain ⟨M, HM⟩ := hidE w.heap.size
 have hsM : w.heap.size = M := HM.out.symm
 rw [hsM] at htk
 clear hR e1 e2
 go_enter Tryz.func345, Tryz.ntmps345
 go_wp2_with (first
  | (refine wl_storeV rfl 25 _ _ rfl 25 M rfl F rfl 16 aggIDT hFl Z hT2 hZl hF1 ?_; intro w3 hT3 hb3 hs3)
  | (refine wl_loadG (by rfl) 25 _ rfl ⟨b, off, none⟩ rfl 16 F hFl aggIDT hA2 ?_)
  | (go_at_call 344; refine (htk w1 hb1).out.mono ?_; rintro e w2 ⟨ao, rfl, HP2, HR2, hg2, hlt2⟩; obtain ⟨b, off, rfl, hb, hc⟩ := HP2.row.at (i := 0) (by show 0 < f.length; omega); have hT2 := hT1.grown hg2 (by intro e; injection e with e; omega); have hA2 : At w2 ⟨b, off, none⟩ F := (by rw [HF.out]; intro j u hu; rw [addr_add]; have hj := (List.getElem?_eq_some_iff.1 hu).1; rw [List.length_map] at hj; rw [hc j hj]; rw [List.getElem?_map] at hu; simp [List.getD_eq_getElem?_getD, hj] at hu ⊢; exact hu))
  | (refine wl_allocV rfl 25 rfl Z hz.out M hsM ?_; intro w1 hT1 hb1 hs1))
 (try simp only [Exit.inBlock, Exit.then]); refine bodyPost_ret (results_cell rfl _ _ _ _ rfl F (by rw [hFl]; exact aggIDT) hT3.at0) rfl ?_
 have hgM : g < M := by omega
 exact ⟨rfl, HR2.below hb3 hgM, ⟨hb3.os.trans (hg2.os.trans hb1.os), hb3.tape.trans (hg2.tape.trans hb1.tape), hb3.output.trans (hg2.output.trans hb1.output), by have := hb3.size; have := hg2.size; have := hb1.size; omega, fun k hk hne => (hb3.block k (by omega)).trans ((hg2.block k (by omega) hne).trans (hb1.block k (by omega)))⟩⟩
theorem text_ok (g : Nat) (s : ByteArray) (L : List Int) (w : World) (hs : 0 < s.size) (hR : ReadAt w g (textB s ++ L)) (hL : (textB s ++ L).length ≤ 1048576) :
  Calls Tryz.prog 347 #[.pointer (some ⟨g, 0, none⟩)] w fun e w' => e = .returned (.string s) ∧ ReadAt w' g L ∧ w.grownBy w' (some g) := by
 have e0 : textB s ++ L = (s.size : Int) :: (numsOf s ++ L) := rfl
 have e1 : (numsOf s ++ L).take s.size = numsOf s := by rw [← numsOf_length]; exact List.take_left
 have e2 : (numsOf s ++ L).drop s.size = L := by rw [← numsOf_length]; exact List.drop_left
 rw [List.length_append, textB_length] at hL
 have hoc := fun (w' : World) => hid (octet_yes g (s.size : Int) (numsOf s ++ L) w')
 have htk := fun (w' : World) (h : ReadAt w' g (numsOf s ++ L)) => hid (take_ok g (numsOf s ++ L) s.size w' h hs (by rw [List.length_append, numsOf_length]; omega) (by rw [List.length_append, numsOf_length]; omega))
 rw [e1, e2] at htk
 rw [e0] at hR
 obtain ⟨m, hm⟩ : ∃ m, s.size = m := ⟨_, rfl⟩
 have HLl : Hid ((numsOf s ++ L).length ≤ 1048575) := hid (by rw [List.length_append, numsOf_length]; omega)
 have HNl : Hid (m = (numsOf s).length) := hid (by rw [numsOf_length, hm])
 have HST := hid (strOf_nums s)
 rw [hm] at hR hoc htk
 obtain ⟨T, HT⟩ := hidE (numsOf s)
 rw [← HT.out] at hR hoc htk HLl HNl HST
 clear e0 e1 e2 hL
 have ho := hid ((hoc w).out hR HLl.out)
 go_enter Tryz.func347, Tryz.ntmps347
 go_wp2_with (first
  | (go_at_call 344; refine (htk w1 HR1).out.mono ?_; rintro e w2 ⟨ao, rfl, HP2, HR2, hg2, hlt2⟩; have hcv := run_convStr w2 ao m m T HNl.out HP2.row; rw [HST.out] at hcv)
  | (go_at_call 346; refine ho.out.mono ?_; rintro e w1 ⟨rfl, HR1, hg1⟩))
 go_ret
 exact ⟨rfl, HR2, ⟨hg2.os.trans hg1.os, hg2.tape.trans hg1.tape, hg2.output.trans hg1.output, Nat.le_trans hg1.size hg2.size, fun k hk hne => (hg2.block k (by have := hg1.size; omega) hne).trans (hg1.block k hk hne)⟩⟩
end Go.Proofs.YtdhipjoplkpgmaaGreatDoor.hf
namespace Go.Proofs.YtdhipjoplkpgmaaGreatDoor.hf
open Go.RowKit st hs wr shr sh
theorem zeroBody : (Tryz.prog.info? 42).map (·.zero) = some (some (.agg (bodyC zID (.slice none 0 0)).toArray)) := by kernel_rfl
theorem builtBody : Tryz.prog.built 42 [] = some (bodyC zID (.slice none 0 0)).toArray := by kernel_rfl
theorem infoStr : Info Tryz.prog 9 (.string ⟨#[]⟩) 1 16 := by unfold Info; kernel_rfl
theorem bodyC_put {fv gv : List Value} {ro : Value} (hf : fv.length = 16) (hg : gv.length = 16) : (bodyC fv ro).take 1 ++ gv ++ (bodyC fv ro).drop (1 + 16) = bodyC gv ro := by
 unfold bodyC
 rw [List.take_succ_cons, List.take_zero, show 1 + 16 = 16 + 1 from rfl, List.drop_succ_cons, ← hf, List.drop_left]
 rfl
theorem bodyC_set {fv : List Value} {ro r2 : Value} (hf : fv.length = 16) : (bodyC fv ro).set 17 r2 = bodyC fv r2 := by
 unfold bodyC
 rw [show (17 : Nat) = fv.length + 1 by omega, List.set_cons_succ, List.set_append_right _ _ (Nat.le_refl _), Nat.sub_self]
 rfl
theorem bodyC_zero {fv : List Value} {ro : Value} (hf : fv.length = 16) (k : Nat) (h1 : 51 ≤ k) (h2 : k ≤ 56) : (bodyC fv ro).set k (.int .i64 0) = bodyC fv ro := by
 apply List.ext_getElem?
 intro j
 rw [List.getElem?_set]
 split
 ·rename_i e
  subst e
  have hl : k < (bodyC fv ro).length := by rw [bodyC_len hf]; omega
  rw [if_pos hl]
  obtain ⟨d, rfl⟩ : ∃ d, k = 17 + d := ⟨k - 17, by omega⟩
  rw [bodyC_tail hf]
  have : d = 34 ∨ d = 35 ∨ d = 36 ∨ d = 37 ∨ d = 38 ∨ d = 39 := by omega
  rcases this with rfl | rfl | rfl | rfl | rfl | rfl <;> rfl
 ·rfl
def strV (rs : List ByteArray) : List Value := rs.map Value.string
theorem rowS_of {w : World} {base : Nat} {v : Value} {rs : List ByteArray} (h : Mine w base 9 1 v rs.length (strV rs)) : ∃ ao c, v = .slice ao rs.length c ∧ RowS w ao rs := by
 obtain ⟨ao, c, rfl, hc, hr⟩ := h.row
 refine ⟨ao, c, rfl, ?_⟩
 rcases hr with hr | ⟨b, off, h1, h2, h3⟩
 ·left
  unfold strV at hr
  simpa using hr
 ·right
  refine ⟨b, off, h1, h2, fun i hi => h3 i _ ?_⟩
  unfold strV
  rw [List.getElem?_map, roleAt_get rs hi, List.getElem?_eq_getElem hi]
  rfl
def FieldsPost (g : Nat) (f : List Int) (rs : List ByteArray) (w : World) (e : Ending) (w' : World) : Prop := ∃ v, e = .returned (.agg (bodyC (f.map (Value.int .u8)) v).toArray) ∧ Mine w' w.heap.size 9 1 v rs.length (strV rs) ∧ ReadAt w' g [] ∧ Only w.heap.size [g] w w'
theorem mine_grown {w w' : World} {base g : Nat} {e : TypeId} {size : Nat} {v : Value} {n : Nat} {xs : List Value} (h : Mine w base e size v n xs) (hg : w.grownBy w' (some g)) (hb : g < base) : Mine w' base e size v n xs := by
 rcases h with h | h
 ·refine Or.inl (h.kept hg (Or.inr fun e => ?_))
  have := (h.lt g e).1
  omega
 ·exact Or.inr h
theorem needs_S {w : World} {g : Nat} (hN : BlkV 229 w g needs2) : w.cell? ⟨g, 6, none⟩ = some (.bool false) ∧ w.cell? ⟨g, 7, none⟩ = some (.bool false) ∧ w.cell? ⟨g, 8, none⟩ = some (.bool false) ∧ w.cell? ⟨g, 10, none⟩ = some (.bool false) := ⟨hN.cell 6, hN.cell 7, hN.cell 8, hN.cell 10⟩
theorem fields_ok (g : Nat) (f : List Int) (rs : List ByteArray) (w : World) (hf : f.length = 16) (hE : bodyE rs = 0) (hR : ReadAt w g (bodyB f rs)) :
  Calls Tryz.prog 252 #[.pointer (some ⟨g, 0, none⟩), .agg needs2.toArray] w (FieldsPost g f rs w) := by
 obtain ⟨hn16, hsm⟩ := bodyE_small hE
 have HNM := hid (bodyE_names hE).2
 have hlen := hid (bodyB_len (f := f) hf hE)
 have hgB0 := hR.lt
 have HP : Hid (∀ v w', Mine w' w.heap.size 9 1 v rs.length (strV rs) → ReadAt w' g [] → Only w.heap.size [g] w w' → FieldsPost g f rs w (.returned (.agg (bodyC (f.map (Value.int .u8)) v).toArray)) w') := hid (fun v w' h1 h2 h3 => ⟨v, rfl, h1, h2, h3⟩)
 obtain ⟨Q, HQ⟩ := hidE (FieldsPost g f rs w)
 rw [← HQ.out] at HP ⊢
 have hidc := fun (w' : World) (L : List Int) (h : ReadAt w' g (f ++ L)) (hL : L.length ≤ 1048560) => hid (id_ok g f L w' hf h hL)
 obtain ⟨F, HF⟩ := hidE (f.map (Value.int .u8))
 have hFl : F.length = 16 := by rw [HF.out, List.length_map, hf]
 have hF1 : ∀ u ∈ F, u.oneCell' = true := by rw [HF.out]; exact ints_one _ _
 rw [← HF.out] at hidc HP
 obtain ⟨NS, HNS⟩ := hidE needs2
 have hneed := fun (w : World) (g : Nat) (h : BlkV 229 w g needs2) => hid (needs_cells h)
 have hnS := fun (w : World) (g : Nat) (h : BlkV 229 w g needs2) => hid (needs_S h)
 rw [← HNS.out] at hneed hnS ⊢
 have HZ0 : Hid ((bodyC zID (.slice none 0 0)).length = 58) := hid (bodyC_len rfl)
 have HZ1 := hid (bodyC_one (fv := zID) (ro := .slice none 0 0) (ints_one _ _) rfl)
 have HZP : Hid ((bodyC zID (.slice none 0 0)).take 1 ++ F ++ (bodyC zID (.slice none 0 0)).drop (1 + 16) = bodyC F (.slice none 0 0)) := hid (bodyC_put rfl hFl)
 have hz := hid zeroBody
 have hbu := hid builtBody
 obtain ⟨Z, HZ⟩ := hidE (bodyC zID (.slice none 0 0))
 rw [← HZ.out] at HZ0 HZ1 HZP hz hbu
 obtain ⟨B, hsz⟩ := szE w
 rw [hsz] at HP hgB0
 obtain ⟨NB, hNBl, hNBu⟩ : ∃ q, B ≤ q ∧ q ≤ B := ⟨B, Nat.le_refl _, Nat.le_refl _⟩
 obtain ⟨T, hTl, hTu⟩ : ∃ q, B + 1 ≤ q ∧ q ≤ B + 1 := ⟨B + 1, Nat.le_refl _, Nat.le_refl _⟩
 obtain ⟨X, hXl, hXu⟩ : ∃ q, B + 2 ≤ q ∧ q ≤ B + 2 := ⟨B + 2, Nat.le_refl _, Nat.le_refl _⟩
 have HRL : Hid ((((rs.length : Nat) : Int) :: rolesB rs).length ≤ 1048560) := hid (by have := hlen.out.2; unfold bodyB at this; rw [List.length_append, hf] at this; omega)
 have HRL2 : Hid ((rolesB rs).length ≤ 1048575) := hid (by have := HRL.out; rw [List.length_cons] at this; omega)
 have HOC := fun (w' : World) (h : ReadAt w' g (((rs.length : Nat) : Int) :: rolesB rs)) => hid (octet_yes g _ _ w' h HRL2.out)
 unfold bodyB at hR
 obtain ⟨n, Hn⟩ := hidE rs.length
 rw [← Hn.out] at hn16 hR HOC HRL
 clear hE hlen hsm
 go_enter Tryz.func252, Tryz.ntmps252
 go_wp2_with (first
  | (go_at_call 346; refine (HOC w6 hR6).out.mono ?_; rintro e w7 ⟨rfl, hR7, hg7⟩; have hX7 := hX6.grown hg7 (by intro e; injection e with e; omega); have hN7 := hN6.grown hg7 (by intro e; injection e with e; omega); have hT7 := hT6.grown hg7 (by intro e; injection e with e; omega); have ho7 := ho6.trans (Only.ofG hg7 (by omega) (fun k hk => by injection hk with hk; right; rw [hk]; exact List.mem_singleton_self _)); have hs7 : X < w7.heap.size := (by have := hg7.size; omega))
  | (refine wl_storeP rfl 25 _ _ rfl 42 X 1 rfl F rfl 16 aggIDT hFl Z hX5 (by rw [HZ0.out]; decide) hF1 _ HZP.out ?_; intro w6 hX6 hb6 hg6 hs6; have hR6 := hR5.below hb6 (by omega); have hN6 := hN5.below hb6 (by omega); have hT6 := hT5.below hb6 (by omega); have ho6 := ho5.trans (Only.of hb6 (by omega)); have hs6' : X < w6.heap.size := (by omega); obtain ⟨d0, d1, d2, d3, d4, d5, d6, d7, d8, d9, d10, d11⟩ := (hneed _ _ hN6).out)
  | (go_at_call 345; refine (hidc w4 _ hR4 HRL.out).out.mono ?_; rintro e w5 ⟨rfl, hR5, hg5⟩; have hX5 := hX4.grown hg5 (by intro e; injection e with e; omega); have hN5 := hN4.grown hg5 (by intro e; injection e with e; omega); have hT5 := hT4.grown hg5 (by intro e; injection e with e; omega); have ho5 := ho4.trans (Only.ofG hg5 (by omega) (fun k hk => by injection hk with hk; right; rw [hk]; exact List.mem_singleton_self _)); have hs5 : X < w5.heap.size := (by have := hg5.size; omega))
  | (refine wl_storeV rfl 42 _ _ rfl 42 X rfl Z rfl 58 aggBody HZ0.out Z hX3 HZ0.out HZ1.out ?_; intro w4 hX4 hb4 hs4; have hN4 := hN3.below hb4 (by omega); have hT4 := hT3.below hb4 (by omega); have hR4 := hR3.below hb4 (by omega); have ho4 : Only B [g] w w4 := ho3.trans (Only.of hb4 (by omega)); obtain ⟨d0, d1, d2, d3, d4, d5, d6, d7, d8, d9, d10, d11⟩ := (hneed _ _ hN4).out)
  | (refine wl_allocV rfl 42 rfl Z hz.out X (by omega) ?_; intro w3 hX3 hb3 hs3; have hN3 := hN2.below hb3 (by omega); have hT3 := hT2.below hb3 (by omega); have hR3 := hR2.below hb3 (by omega); have ho3 : Only B [g] w w3 := ho2.trans (Only.of hb3 (by omega)))
  | (refine wl_build0G (by rfl) 42 rfl Z hbu.out ?_)
  | (refine wl_allocV rfl 42 rfl Z hz.out T (by omega) ?_; intro w2 hT2 hb2 hs2; have hN2 := hN1.below hb2 (by omega); have hR2 := hR1.below hb2 (by omega); have ho2 : Only B [g] w w2 := ho1.trans (Only.of hb2 (by omega)))
  | (refine wl_boxV rfl 229 _ rfl NS rfl NB (by omega) ?_; intro w1 hN1 hb1 hs1; have hR1 := hR.below hb1 (by omega); have ho1 : Only B [g] w w1 := Only.of hb1 (by omega)))
 go_loopw [29] (fun i wr => ∃ (k : Nat) (v : Value), k ≤ n ∧ i = .int .i64 k ∧ BlkV 42 wr X (bodyC F v) ∧ Mine wr (X + 1) 9 1 v k (strV (rs.take k)) ∧ ReadAt wr g (rolesB (rs.drop k)) ∧ BlkV 229 wr NB NS ∧ BlkV 42 wr T Z ∧ Only B [g] w wr ∧ X < wr.heap.size) (fun i _ => n - (intOf i).toNat)
 case atStart => exact ⟨0, .slice none 0 0, Nat.zero_le _, rfl, hX7, by rw [List.take_zero]; exact Mine.nil _ _ _ _, by rw [List.drop_zero]; exact hR7, hN7, hT7, ho7, hs7⟩
 case round =>
  obtain ⟨k, v, hk, rfl, hXr, hMr, hRr, hNr, hTr, hor, hsr⟩ := hrel
  by_cases h0 : k < n
  ·have hkI : (k : Int) < (n : Int) := by omega
   have hkr : k < rs.length := by rw [← Hn.out]; exact h0
   obtain ⟨s, Hs⟩ := hidE (roleAt rs k)
   have hss : 0 < s.size := by rw [Hs.out]; exact (isName_size (HNM.out k hkr)).1
   have HRD : Hid (rolesB (rs.drop k) = textB s ++ rolesB (rs.drop (k + 1))) := hid (by rw [rolesB_drop rs hkr, Hs.out]; rfl)
   have HTK : Hid (strV (rs.take (k + 1)) = strV (rs.take k) ++ [.string s]) := hid (by unfold strV; rw [List.take_succ_eq_append_getElem hkr, List.map_append, Hs.out, roleAt_get rs hkr]; rfl)
   have HLL : Hid ((textB s ++ rolesB (rs.drop (k + 1))).length ≤ 1048576) := hid (by
    have h1 : rolesB rs = rolesB (rs.take k) ++ rolesB (rs.drop k) := by unfold rolesB; rw [← List.flatten_append, ← List.map_append, List.take_append_drop]
    have h2 := congrArg List.length h1
    rw [List.length_append, HRD.out] at h2
    have := HRL2.out
    omega)
   rw [HRD.out] at hRr
   have htx := hid (fun (w' : World) (h : ReadAt w' g (textB s ++ rolesB (rs.drop (k + 1)))) => text_ok g s _ w' hss h HLL.out)
   go_wp2
   refine wp_region_held_drew (S := (fun _ => True)) (by kernel_rfl) trivial (fun hHeld => ?_)
   obtain ⟨x0, HX0⟩ := hidE wr.drew
   rw [← HX0.out]
   have hX0 : BlkV 42 x0 X (bodyC F v) := by rw [HX0.out]; exact hXr
   have hN0 : BlkV 229 x0 NB NS := by rw [HX0.out]; exact hNr
   have hT0 : BlkV 42 x0 T Z := by rw [HX0.out]; exact hTr
   have hM0 : Mine x0 (X + 1) 9 1 v k (strV (rs.take k)) := by rw [HX0.out]; exact hMr
   have hR0 : ReadAt x0 g (textB s ++ rolesB (rs.drop (k + 1))) := by rw [HX0.out]; exact hRr.drew
   have ho0 : Only B [g] w x0 := by rw [HX0.out]; exact ⟨hor.os, hor.tape, hor.output, hor.size, hor.block⟩
   have hs0 : X < x0.heap.size := by rw [HX0.out]; exact hsr
   clear hXr hNr hTr hMr hRr hor hsr
   refine tq 0 rfl ?_
   refine tq 2 rfl ?_
   refine e2 1 3 rfl rfl (fun K' hK' => ?_) fun K' hK' => ?_
   focus
    rw [if_pos (by rfl)]
    have c17_0 := (hX0.cell 17).trans (bodyC_tail hFl 0)
    have c17e_0 : x0.cell? ⟨X, 17, none⟩ = some v := c17_0
    clear c17_0
    go_simp
    refine hK'.out _ _ trivial (fun hHeld => ?_)
    clear c17e_0
    clear hK' K'
    try simp only [Act.put, fpA, fpZ, fpN]
    refine e1 3 rfl fun K' hK' => ?_
    rw [if_pos (by rfl)]
    go_simp
    go_at_call 347
    refine (htx.out x0 hR0).mono ?_
    rintro e x1 ⟨rfl, hR1, hg1⟩
    have hX1 := hX0.grown hg1 (by intro e; injection e with e; omega)
    have hN1 := hN0.grown hg1 (by intro e; injection e with e; omega)
    have hT1 := hT0.grown hg1 (by intro e; injection e with e; omega)
    have hM1 := mine_grown hM0 hg1 (by omega)
    have ho1 := ho0.trans (Only.ofG hg1 (by have := ho0.size; omega) (fun k hk => by injection hk with hk; right; rw [hk]; exact List.mem_singleton_self _))
    have hs1 : X < x1.heap.size := by have := hg1.size; omega
    refine ko hK' trivial fun hHeld => ?_
    clear hK' K'
    refine e1 4 rfl fun K' hK' => ?_
    obtain ⟨L2, HL2⟩ := hidE x1.heap.size
    refine step_lit1 rfl 26 9 _ rfl Tryz.underlying26 (.string ⟨#[]⟩) 16 infoStr rfl (.string s) rfl rfl L2 HL2.out.symm ?_
    intro x2 hL2 hb2 hsz2
    have hLX : X < L2 := by rw [HL2.out]; exact hs1
    have hgB2 : B ≤ L2 := by omega
    have hX2 := hX1.below hb2 (by omega)
    have hN2 := hN1.below hb2 (by omega)
    have hT2 := hT1.below hb2 (by omega)
    have hM2 := hM1.belowAll (HL2.out ▸ hb2)
    have hR2 := hR1.below hb2 (by omega)
    have ho2 := ho1.trans (Only.of hb2 (by omega))
    have hs2 : X < x2.heap.size := by omega
    refine ko hK' trivial fun hHeld => ?_
    clear hK' K'
   rotate_left 1
   focus
    rw [if_pos (by rfl)]
    go_simp
    go_at_call 347
    refine (htx.out x0 hR0).mono ?_
    rintro e x1 ⟨rfl, hR1, hg1⟩
    have hX1 := hX0.grown hg1 (by intro e; injection e with e; omega)
    have hN1 := hN0.grown hg1 (by intro e; injection e with e; omega)
    have hT1 := hT0.grown hg1 (by intro e; injection e with e; omega)
    have hM1 := mine_grown hM0 hg1 (by omega)
    have ho1 := ho0.trans (Only.ofG hg1 (by have := ho0.size; omega) (fun k hk => by injection hk with hk; right; rw [hk]; exact List.mem_singleton_self _))
    have hs1 : X < x1.heap.size := by have := hg1.size; omega
    refine ko hK' trivial fun hHeld => ?_
    clear hK' K'
    refine e2 1 4 rfl rfl (fun K' hK' => ?_) fun K' hK' => ?_
    focus
     rw [if_pos (by rfl)]
     have c17_1 := (hX1.cell 17).trans (bodyC_tail hFl 0)
     have c17e_1 : x1.cell? ⟨X, 17, none⟩ = some v := c17_1
     clear c17_1
     go_simp
     refine hK'.out _ _ trivial (fun hHeld => ?_)
     clear c17e_1
     clear hK' K'
     try simp only [Act.put, fpA, fpZ, fpN]
     refine e1 4 rfl fun K' hK' => ?_
     obtain ⟨L2, HL2⟩ := hidE x1.heap.size
     refine step_lit1 rfl 26 9 _ rfl Tryz.underlying26 (.string ⟨#[]⟩) 16 infoStr rfl (.string s) rfl rfl L2 HL2.out.symm ?_
     intro x2 hL2 hb2 hsz2
     have hLX : X < L2 := by rw [HL2.out]; exact hs1
     have hgB2 : B ≤ L2 := by omega
     have hX2 := hX1.below hb2 (by omega)
     have hN2 := hN1.below hb2 (by omega)
     have hT2 := hT1.below hb2 (by omega)
     have hM2 := hM1.belowAll (HL2.out ▸ hb2)
     have hR2 := hR1.below hb2 (by omega)
     have ho2 := ho1.trans (Only.of hb2 (by omega))
     have hs2 : X < x2.heap.size := by omega
     refine ko hK' trivial fun hHeld => ?_
     clear hK' K'
    rotate_left 1
    focus
     obtain ⟨L2, HL2⟩ := hidE x1.heap.size
     refine step_lit1 rfl 26 9 _ rfl Tryz.underlying26 (.string ⟨#[]⟩) 16 infoStr rfl (.string s) rfl rfl L2 HL2.out.symm ?_
     intro x2 hL2 hb2 hsz2
     have hLX : X < L2 := by rw [HL2.out]; exact hs1
     have hgB2 : B ≤ L2 := by omega
     have hX2 := hX1.below hb2 (by omega)
     have hN2 := hN1.below hb2 (by omega)
     have hT2 := hT1.below hb2 (by omega)
     have hM2 := hM1.belowAll (HL2.out ▸ hb2)
     have hR2 := hR1.below hb2 (by omega)
     have ho2 := ho1.trans (Only.of hb2 (by omega))
     have hs2 : X < x2.heap.size := by omega
     refine ko hK' trivial fun hHeld => ?_
     clear hK' K'
     refine e1 1 rfl fun K' hK' => ?_
     rw [if_pos (by rfl)]
     have c17_2 := (hX2.cell 17).trans (bodyC_tail hFl 0)
     have c17e_2 : x2.cell? ⟨X, 17, none⟩ = some v := c17_2
     clear c17_2
     go_simp
     refine hK'.out _ _ trivial (fun hHeld => ?_)
     clear c17e_2
     clear hK' K'
     try simp only [Act.put, fpA, fpZ, fpN]
    rotate_left 1
   rotate_left 2
   all_goals
    refine e1 5 rfl fun K' hK' => ?_
    refine step_appendS rfl _ _ 26 rfl 9 (.string ⟨#[]⟩) 1 16 Tryz.underlying26 infoStr rfl (by decide) (X + 1) v k _ rfl hM2 (some ⟨L2, 0, none⟩) 1 1 rfl (fun h => by cases h) [.string s] rfl (at_row hL2.lt hL2.at0) (by intro u hu; rw [List.mem_singleton.1 hu]; rfl) (by unfold maxLen; omega) (by omega) (by omega) (k + 1) rfl ?_
    intro ao3 c3 x3 row3 hc3 hM3 hV3 hg3 hr3
    have hX3 := hX2.grown hg3 (fun e => by have := (hr3 _ e).1; omega)
    have hN3 := hN2.grown hg3 (fun e => by have := (hr3 _ e).1; omega)
    have hT3 := hT2.grown hg3 (fun e => by have := (hr3 _ e).1; omega)
    have hR3 := hR2.below ((Below.refl (X + 1) x2).grown hg3 (by omega) (fun k hk => (hr3 k hk).1)) (by omega)
    have ho3 := ho2.trans (Only.of ((Below.refl (X + 1) x2).grown hg3 (by omega) (fun k hk => (hr3 k hk).1)) (by omega))
    have hs3 : X < x3.heap.size := by have := hg3.size; omega
    refine ko hK' trivial fun hHeld => ?_
    clear hK' K'
    refine tq 6 rfl ?_
    refine e1 7 rfl fun K' hK' => ?_
    refine step_set1 rfl 26 _ _ rfl 42 X 17 rfl (.slice ao3 (k + 1) c3) rfl rfl rfl (by kernel_rfl) _ hX3 (by rw [bodyC_len hFl]; decide) ?_
    intro x4 hX4 hg4 hb4 hsz4
    rw [bodyC_set hFl] at hX4
    have hN4 := hN3.grown hg4 (by intro e; injection e with e; omega)
    have hT4 := hT3.grown hg4 (by intro e; injection e with e; omega)
    have hM4 := mine_grown hM3 hg4 (by omega)
    have hR4 := hR3.below hb4 (by omega)
    have ho4 := ho3.trans (Only.of hb4 (by omega))
    have hs4 : X < x4.heap.size := by omega
    refine ko hK' trivial fun hHeld => ?_
    clear hK' K'
    refine wpAnyH_done (by kernel_rfl) ?_ _
    clear hHeld
    go_wp2
    go_roundw
    case rel => exact ⟨k + 1, .slice ao3 (k + 1) c3, by omega, by go_num, hX4, by rw [HTK.out]; exact hM4, hR4, hN4, hT4, ho4, hs4⟩
    case measure => simp [intOf] <;> omega
  ·have hkI : ¬ (k : Int) < (n : Int) := by omega
   have HKT : Hid (rs.take k = rs) := hid (List.take_of_length_le (by rw [← Hn.out]; omega))
   have hRe : ReadAt wr g [] := by
    have h := hRr
    rw [show rs.drop k = [] from List.drop_eq_nil_of_le (by rw [← Hn.out]; omega)] at h
    exact h
   have hkn : k = n := by omega
   subst hkn
   rw [HKT.out] at hMr
   clear hRr
   obtain ⟨d0, d1, d2, d3, d4, d5, d6, d7, d8, d9, d10, d11⟩ := (hneed _ _ hNr).out
   go_wp2_with fail
   refine wp_region_held_drew (S := (fun w' => w'.cell? ⟨NB, 6, none⟩ = some (.bool false) ∧ w'.cell? ⟨NB, 7, none⟩ = some (.bool false) ∧ w'.cell? ⟨NB, 8, none⟩ = some (.bool false) ∧ w'.cell? ⟨NB, 10, none⟩ = some (.bool false))) (by kernel_rfl) ((hnS wr.drew NB hNr).out) (fun hHeld => ?_)
   obtain ⟨x0, HX0⟩ := hidE wr.drew
   rw [← HX0.out] at hHeld ⊢
   have hX0 : BlkV 42 x0 X (bodyC F v) := by rw [HX0.out]; exact hXr
   have hN0 : BlkV 229 x0 NB NS := by rw [HX0.out]; exact hNr
   have hT0 : BlkV 42 x0 T Z := by rw [HX0.out]; exact hTr
   have hM0 : Mine x0 (X + 1) 9 1 v k (strV rs) := by rw [HX0.out]; exact hMr
   have hR0 : ReadAt x0 g [] := by rw [HX0.out]; exact hRe.drew
   have ho0 : Only B [g] w x0 := by rw [HX0.out]; exact ⟨hor.os, hor.tape, hor.output, hor.size, hor.block⟩
   have hs0 : X < x0.heap.size := by rw [HX0.out]; exact hsr
   clear hXr hNr hTr hMr hRe hor hsr d0 d1 d2 d3 d4 d5 d6 d7 d8 d9 d10 d11
   refine tq 0 rfl ?_
   refine tq 1 rfl ?_
   refine tq 2 rfl ?_
   refine tq 4 rfl ?_
   refine tq 5 rfl ?_
   refine tq 6 rfl ?_
   refine tq 8 rfl ?_
   refine tq 9 rfl ?_
   refine tq 10 rfl ?_
   refine tq 12 rfl ?_
   refine tq 13 rfl ?_
   refine tq 14 rfl ?_
   refine e1 3 rfl fun K' hK' => ?_
   rw [if_pos (by rfl)]
   go_simp
   go_at_call 346
   refine (octet_no g x0).mono ?_
   rintro e xx ⟨rfl, rfl⟩
   refine ko hK' ((hnS _ _ hN0).out) fun hHeld => ?_
   clear hK' K'
   refine tq 16 rfl ?_
   refine e1 7 rfl fun K' hK' => ?_
   rw [if_pos (by rfl)]
   go_simp
   go_at_call 346
   refine (octet_no g x0).mono ?_
   rintro e xx ⟨rfl, rfl⟩
   refine ko hK' ((hnS _ _ hN0).out) fun hHeld => ?_
   clear hK' K'
   refine e1 11 rfl fun K' hK' => ?_
   rw [if_pos (by rfl)]
   go_simp
   go_at_call 346
   refine (octet_no g x0).mono ?_
   rintro e xx ⟨rfl, rfl⟩
   refine ko hK' ((hnS _ _ hN0).out) fun hHeld => ?_
   clear hK' K'
   refine e1 15 rfl fun K' hK' => ?_
   rw [if_pos (by rfl)]
   go_simp
   go_at_call 346
   refine (octet_no g x0).mono ?_
   rintro e xx ⟨rfl, rfl⟩
   refine ko hK' ((hnS _ _ hN0).out) fun hHeld => ?_
   clear hK' K'
   refine e1 17 rfl fun K' hK' => ?_
   refine step_set1 rfl 3 _ _ rfl 42 X 52 rfl (.int .i64 0) rfl rfl rfl (by kernel_rfl) _ hX0 (by rw [bodyC_len hFl]; decide) ?_
   intro x1 hX1 hg1 hb1 hsz1
   rw [bodyC_zero hFl 52 (by decide) (by decide)] at hX1
   have hN1 := hN0.grown hg1 (by intro e; injection e with e; omega)
   have hT1 := hT0.grown hg1 (by intro e; injection e with e; omega)
   have hM1 := mine_grown hM0 hg1 (by omega)
   have hR1 := hR0.below hb1 (by omega)
   have ho1 := ho0.trans (Only.of hb1 (by omega))
   have hs1 : X < x1.heap.size := by omega
   refine ko hK' ((hnS _ _ hN1).out) fun hHeld => ?_
   clear hK' K'
   refine tq 18 rfl ?_
   refine e1 19 rfl fun K' hK' => ?_
   refine step_set1 rfl 3 _ _ rfl 42 X 53 rfl (.int .i64 0) rfl rfl rfl (by kernel_rfl) _ hX1 (by rw [bodyC_len hFl]; decide) ?_
   intro x2 hX2 hg2 hb2 hsz2
   rw [bodyC_zero hFl 53 (by decide) (by decide)] at hX2
   have hN2 := hN1.grown hg2 (by intro e; injection e with e; omega)
   have hT2 := hT1.grown hg2 (by intro e; injection e with e; omega)
   have hM2 := mine_grown hM1 hg2 (by omega)
   have hR2 := hR1.below hb2 (by omega)
   have ho2 := ho1.trans (Only.of hb2 (by omega))
   have hs2 : X < x2.heap.size := by omega
   refine ko hK' ((hnS _ _ hN2).out) fun hHeld => ?_
   clear hK' K'
   refine tq 20 rfl ?_
   refine e1 21 rfl fun K' hK' => ?_
   refine step_set1 rfl 3 _ _ rfl 42 X 54 rfl (.int .i64 0) rfl rfl rfl (by kernel_rfl) _ hX2 (by rw [bodyC_len hFl]; decide) ?_
   intro x3 hX3 hg3 hb3 hsz3
   rw [bodyC_zero hFl 54 (by decide) (by decide)] at hX3
   have hN3 := hN2.grown hg3 (by intro e; injection e with e; omega)
   have hT3 := hT2.grown hg3 (by intro e; injection e with e; omega)
   have hM3 := mine_grown hM2 hg3 (by omega)
   have hR3 := hR2.below hb3 (by omega)
   have ho3 := ho2.trans (Only.of hb3 (by omega))
   have hs3 : X < x3.heap.size := by omega
   refine ko hK' ((hnS _ _ hN3).out) fun hHeld => ?_
   clear hK' K'
   refine tq 22 rfl ?_
   refine e1 23 rfl fun K' hK' => ?_
   refine step_set1 rfl 3 _ _ rfl 42 X 55 rfl (.int .i64 0) rfl rfl rfl (by kernel_rfl) _ hX3 (by rw [bodyC_len hFl]; decide) ?_
   intro x4 hX4 hg4 hb4 hsz4
   rw [bodyC_zero hFl 55 (by decide) (by decide)] at hX4
   have hN4 := hN3.grown hg4 (by intro e; injection e with e; omega)
   have hT4 := hT3.grown hg4 (by intro e; injection e with e; omega)
   have hM4 := mine_grown hM3 hg4 (by omega)
   have hR4 := hR3.below hb4 (by omega)
   have ho4 := ho3.trans (Only.of hb4 (by omega))
   have hs4 : X < x4.heap.size := by omega
   refine ko hK' ((hnS _ _ hN4).out) fun hHeld => ?_
   clear hK' K'
   refine wpAnyH_done (by kernel_rfl) ?_ _
   clear hHeld
   obtain ⟨d0, d1, d2, d3, d4, d5, d6, d7, d8, d9, d10, d11⟩ := (hneed _ _ hN4).out
   go_wp2_with (first | (go_at_call 346; refine (octet_no g x4).mono ?_; rintro e xx ⟨rfl, rfl⟩))
   go_loopw [68] (fun i wr => i = .int .i64 0 ∧ wr = x4) (fun _ _ => 0)
   case atStart => exact ⟨rfl, rfl⟩
   case round =>
    obtain ⟨rfl, rfl⟩ := hrel
    have hBl := bodyC_len (ro := v) hFl
    have hB1 : ∀ u ∈ bodyC F v, u.oneCell' = true := bodyC_one hF1 (by obtain ⟨_, _, rfl, _⟩ := hM4.row; rfl)
    go_wp2_with (first
     | (refine wl_storeK rfl 42 _ _ rfl 42 T rfl (bodyC F v) rfl 58 aggBody hBl Z hT4 HZ0.out hB1 ?_; intro w9 hT9 hb9 hg9 hs9)
     | (refine wl_loadG (by rfl) 42 _ rfl ⟨X, 0, none⟩ rfl 58 (bodyC F v) hBl aggBody hX4.at0 ?_))
    (try simp only [Exit.inBlock, Exit.then]); refine bodyPost_ret (results_cell rfl _ _ _ _ rfl (bodyC F v) (by rw [hBl]; exact aggBody) hT9.at0) rfl ?_
    exact HP.out v w9 (by rw [← Hn.out]; exact (mine_grown hM4 hg9 (by omega)).mono (by omega)) (hR4.below hb9 (by omega)) (ho4.trans (Only.of hb9 (by omega)))
end Go.Proofs.YtdhipjoplkpgmaaGreatDoor.hf
namespace Go.Proofs.YtdhipjoplkpgmaaGreatDoor.hf
open Go.RowKit st hs wr shr sh
def ParsePost (f : List Int) (rs : List ByteArray) (w : World) (e : Ending) (w' : World) : Prop := ∃ ao c, e = .returned (.tuple #[.agg (bodyC (f.map (Value.int .u8)) (.slice ao rs.length c)).toArray, .int .i64 0]) ∧ RowS w' ao rs ∧ (∀ b, ao = some b → rs ≠ [] → w.heap.size ≤ b.block) ∧ Below w.heap.size w w'
theorem ParseBody_ok (f : List Int) (rs : List ByteArray) (ao : Option Addr) (n c : Nat) (w : World) (hf : f.length = 16) (hE : bodyE rs = 0) (hn : n = (bodyB f rs).length) (HP : Pt.Ok w ⟨ao, c, bodyB f rs⟩) :
  Calls Tryz.prog 145 #[.int .i64 2, .slice ao n c] w (ParsePost f rs w) := by
 obtain ⟨hl1, hl2⟩ := bodyB_len (f := f) hf hE
 rw [← hn] at hl1 hl2
 obtain ⟨hn16, hsm⟩ := bodyE_small hE
 have hsz32 : ∀ i, i < rs.length → (roleAt rs i).size ≤ maxLen := fun i hi => by rw [roleAt_get rs hi]; exact Nat.le_trans (hsm _ (List.getElem_mem hi)) (by decide)
 have hFl : (f.map (Value.int .u8)).length = 16 := by rw [List.length_map, hf]
 have hfo := fun (w' : World) (g : Nat) (h : ReadAt w' g (bodyB f rs)) => hid (fields_ok g f rs w' hf hE h)
 have hbf := fun (ao : Option Addr) (cap : Nat) (w' : World) (h : RowS w' ao rs) => hid (bodyFault_two (f.map (Value.int .u8)) hFl ao cap rs w' h hsz32 (by omega))
 rw [hE] at hbf
 have HCL := fun v => hid (bodyC_len (ro := v) hFl)
 have HC1 := fun v hv => hid (bodyC_one (fv := f.map (Value.int .u8)) (ro := v) (ints_one _ _) hv)
 obtain ⟨F, HF⟩ := hidE (f.map (Value.int .u8))
 have HPo : Hid (∀ ao c w', RowS w' ao rs → (∀ b, ao = some b → rs ≠ [] → w.heap.size ≤ b.block) → Below w.heap.size w w' → ParsePost f rs w (.returned (.tuple #[.agg (bodyC F (.slice ao rs.length c)).toArray, .int .i64 0])) w') := hid (fun ao c w' h1 h2 h3 => ⟨ao, c, by rw [HF.out], h1, h2, h3⟩)
 rw [← HF.out] at hbf HCL HC1
 have HFO : Hid (∀ w' g, ReadAt w' g (bodyB f rs) → Calls Tryz.prog 252 #[.pointer (some ⟨g, 0, none⟩), .agg needs2.toArray] w' fun e w'' => ∃ ao c, e = .returned (.agg (bodyC F (.slice ao rs.length c)).toArray) ∧ RowS w'' ao rs ∧ (∀ b, ao = some b → rs ≠ [] → w'.heap.size ≤ b.block) ∧ ReadAt w'' g [] ∧ Only w'.heap.size [g] w' w'') := hid (fun w' g h => by
  refine (hfo w' g h).out.mono ?_
  rintro e w'' ⟨v, rfl, h1, h2, h3⟩
  obtain ⟨ao, c, rfl, h4⟩ := rowS_of h1
  refine ⟨ao, c, by rw [HF.out], h4, fun b e hne => ?_, h2, h3⟩
  subst e
  rcases h1 with h1 | ⟨h1, _⟩
  ·exact (h1.lt b.block rfl).1
  ·exact absurd (List.eq_nil_of_length_eq_zero h1) hne)
 clear hfo
 obtain ⟨Q, HQ⟩ := hidE (ParsePost f rs w)
 rw [← HQ.out] at HPo ⊢
 have hnd := fun w => hid (needsOf_two w)
 obtain ⟨NS, HNS⟩ := hidE needs2
 rw [← HNS.out] at hnd HFO
 have hz := hid zeroBody
 have HZ0 : Hid ((bodyC zID (.slice none 0 0)).length = 58) := hid (bodyC_len rfl)
 obtain ⟨Z, HZ⟩ := hidE (bodyC zID (.slice none 0 0))
 rw [← HZ.out] at HZ0 hz
 obtain ⟨B, hsz⟩ := szE w
 rw [hsz] at HPo
 have HPB := fun (w' : World) (hb : Below B w w') => hid (HP.below (hsz ▸ hb))
 have HPlt := hid HP.lt
 have hNN := hid hn
 have hnI : ¬ (32768 : Int) < (n : Int) := by omega
 obtain ⟨m, Hm⟩ := hidE rs.length
 rw [← Hm.out] at HPo HFO hbf
 clear hn HP hsm hsz32 hE hl1 hl2
 go_enter Tryz.func145, Tryz.ntmps145
 go_wp2_with (first
  | (refine wl_storeK rfl 42 _ _ rfl 42 B rfl CS rfl 58 aggBody hCSl Z hT6 HZ0.out hCS1 ?_; intro w7 hT7 hb7 hg7 hs7; have bb7 : Below B w w7 := bb6.trans hb7; have hRW7 := rowS_grown hRW6 hg7 (fun b e hne => by have := hlow3 b e hne; omega))
  | (refine wl_loadG (by rfl) 42 _ rfl ⟨X, 0, none⟩ rfl 58 CS hCSl aggBody hX6.at0 ?_)
  | (go_at_call 139; refine (hbf' w5 hRW5).out.mono ?_; rintro e w6 ⟨rfl, hb6⟩; have hX6 := hX5.below hb6 hX5.lt; have hT6 := hT5.below hb6 hT5.lt; have hRW6 := hRW5.below hb6; have bb6 : Below B w w6 := bb5.trans (hb6.mono (by omega)))
  | (refine wl_loadG (by rfl) 42 _ rfl ⟨X, 0, none⟩ rfl 58 CS hCSl aggBody hX5.at0 ?_)
  | (refine wl_storeV rfl 42 _ _ rfl 42 X rfl CS rfl 58 aggBody hCSl Z hX4 HZ0.out hCS1 ?_; intro w5 hX5 hb5 hs5; have hT5 := hT4.below hb5 (by omega); have hG5 := hG4.below hb5 (by omega); have hRW5 := hRWb w5 (hb4.trans hb5); have bb5 : Below B w w5 := bb4.trans (hb5.mono (by omega)); have hBw5 : B ≤ w5.heap.size := (by omega); have g0 : w5.cell? ⟨B + 1, 0, none⟩ = some (.slice ga 0 gc) := hG5.cell 0; have g1 : w5.cell? ⟨B + 1, 1, none⟩ = some (.bool false) := hG5.cell 1)
  | (obtain ⟨X, HX⟩ := hidE w3.heap.size; have hsX : w3.heap.size = X := HX.out.symm; have hBX : B + 1 < X := (by omega); refine wl_allocV rfl 42 rfl Z hz.out X hsX ?_; intro w4 hX4 hb4 hs4; have hT4 := hT3.below hb4 (by omega); have hG4 := hG3.below hb4 (by omega); have bb4 : Below B w w4 := bb3.trans (hb4.mono (by omega)); have hRWb := fun (w' : World) (hb : Below X w3 w') => hRW3.below (hsX.symm ▸ hb))
  | (go_at_call 252; refine (HFO.out w2 (B + 1) hR2).mono ?_; rintro e w3 ⟨ra, rc, rfl, hRW3, hlow3, ⟨ga, gc, hG3, _, _⟩, ho3⟩; have hT3 := ho3.blk hT2 (by omega) (by simp); have hs3 : B + 1 < w3.heap.size := (by have := ho3.size; omega); have bb3 : Below B w w3 := bb2.trans (Only.below (ho3.mono (B' := B) (ks' := []) (by omega) (fun k hk => Or.inr (by rw [List.mem_singleton.1 hk]; omega))) (fun k hk => by cases hk)); have hbf' := hbf ra rc; have hCSl := (HCL (.slice ra m rc)).out; have hCS1 := (HC1 (.slice ra m rc) rfl).out; obtain ⟨CS, HCS⟩ := hidE (bodyC F (.slice ra m rc)); rw [← HCS.out] at hbf' hCSl hCS1; rw [← HCS.out])
  | (go_at_call 140; refine (hnd w1).out.mono ?_; rintro e w2 ⟨rfl, hb2⟩; have hT2 := hT1.below hb2 (by omega); have hR2 := hR1.below hb2 (by omega); have bb2 : Below B w w2 := bb1.trans (hb2.mono (by omega)); have hs2 : B + 2 ≤ w2.heap.size := (by have := hb2.size; omega))
  | (refine wl_boxV rfl 338 _ rfl [.slice ao n c, .bool false] rfl (B + 1) (by omega) ?_; intro w1 hG1 hb1 hs1; have hT1 := hT0.below hb1 (by omega); have bb1 : Below B w w1 := bb0.trans (hb1.mono (by omega)); have hR1 : ReadAt w1 (B + 1) (bodyB f rs) := ⟨ao, c, (by rw [← hNN.out]; exact hG1), (HPB w1 bb1).out, fun b e => by have := HPlt.out b e; (try dsimp only at this); omega⟩)
  | (refine wl_build1 rfl 338 0 _ rfl _ rfl [.slice ao n c, .bool false] (by rfl) ?_)
  | (go_at_call 248; refine (isAct_two w0).mono ?_; rintro e w0' ⟨rfl, rfl⟩)
  | (refine wl_allocV rfl 42 rfl Z hz.out B hsz ?_; intro w0 hT0 bb0 hs0))
 (try simp only [Exit.inBlock, Exit.then]); refine bodyPost_ret (results_cell2 rfl _ _ _ _ rfl CS (by rw [hCSl]; exact aggBody) hT7.at0) rfl ?_
 rw [HCS.out]
 exact HPo.out ra rc w7 hRW7 (fun b e hne => by have := hlow3 b e hne; omega) bb7
end Go.Proofs.YtdhipjoplkpgmaaGreatDoor.hf
namespace Go.Proofs.YtdhipjoplkpgmaaGreatDoor.hf
open Go.RowKit st hs wr shr sh
def entC (t : Int) (fv : List Value) (bo : Value) : List Value := .int .i64 0 :: .int .i64 t :: .int .i64 2 :: (fv ++ (zID ++ (zSum ++ [bo])))
def entZ : List Value := .int .i64 0 :: .int .i64 0 :: .int .i64 0 :: (zID ++ (zID ++ (zSum ++ [.slice none 0 0])))
section
variable {t : Int} {fv : List Value} {bo : Value} {w : World} {g : Nat}
theorem entC_len (h : fv.length = 16) : (entC t fv bo).length = 68 := by simp [entC, zID, zSum, h]
theorem entC_tail (h : fv.length = 16) (j : Nat) : (entC t fv bo)[19 + j]? = (zID ++ (zSum ++ [bo]))[j]? := by
 unfold entC
 rw [show 19 + j = (fv.length + j) + 1 + 1 + 1 by omega, List.getElem?_cons_succ, List.getElem?_cons_succ, List.getElem?_cons_succ, List.getElem?_append_right (by omega), Nat.add_sub_cancel_left]
theorem entC_one (h1 : ∀ u ∈ fv, u.oneCell' = true) (hb : bo.oneCell' = true) : ∀ u ∈ entC t fv bo, u.oneCell' = true := by
 intro u hu
 unfold entC at hu
 rcases List.mem_cons.1 hu with rfl | hu
 ·rfl
 rcases List.mem_cons.1 hu with rfl | hu
 ·rfl
 rcases List.mem_cons.1 hu with rfl | hu
 ·rfl
 rcases List.mem_append.1 hu with hu | hu
 ·exact h1 u hu
 rcases List.mem_append.1 hu with hu | hu
 ·exact ints_one _ _ u hu
 rcases List.mem_append.1 hu with hu | hu
 ·exact ints_one _ _ u hu
 rw [List.mem_singleton.1 hu]; exact hb
theorem ent_cells (h : fv.length = 16) (hB : BlkV 83 w g (entC t fv bo)) : w.cell? ⟨g, 0, none⟩ = some (.int .i64 0) ∧ w.cell? ⟨g, 1, none⟩ = some (.int .i64 t) ∧ w.cell? ⟨g, 2, none⟩ = some (.int .i64 2) ∧ w.cell? ⟨g, 67, none⟩ = some bo :=
 ⟨hB.cell 0, hB.cell 1, hB.cell 2, (hB.cell 67).trans (entC_tail h 48)⟩
theorem ent_actor (h : fv.length = 16) (hB : BlkV 83 w g (entC t fv bo)) : At w ⟨g, 3, none⟩ fv := hB.at 3 fv fun j u hu => by
 have hj := (List.getElem?_eq_some_iff.1 hu).1
 unfold entC
 rw [Nat.add_comm 3 j, List.getElem?_cons_succ, List.getElem?_cons_succ, List.getElem?_cons_succ, List.getElem?_append_left hj]; exact hu
theorem ent_key (h : fv.length = 16) (hB : BlkV 83 w g (entC t fv bo)) : At w ⟨g, 19, none⟩ zID := hB.at 19 zID fun j u hu => by
 have hj := (List.getElem?_eq_some_iff.1 hu).1
 rw [entC_tail h, List.getElem?_append_left hj]; exact hu
theorem ent_prev (h : fv.length = 16) (hB : BlkV 83 w g (entC t fv bo)) : At w ⟨g, 35, none⟩ zSum := hB.at 35 zSum fun j u hu => by
 have hj := (List.getElem?_eq_some_iff.1 hu).1
 rw [show 35 + j = 19 + (zID.length + j) by rw [show zID.length = 16 from rfl]; omega, entC_tail h, List.getElem?_append_right (Nat.le_add_right _ _), Nat.add_sub_cancel_left, List.getElem?_append_left hj]; exact hu
end
theorem aggEntry : Agg Tryz.prog 83 68 := .str Tryz.underlying83 (by kernel_rfl)
theorem zeroEntry : (Tryz.prog.info? 83).map (·.zero) = some (some (.agg entZ.toArray)) := by kernel_rfl
theorem builtEntry0 : Tryz.prog.built 83 [] = some entZ.toArray := by kernel_rfl
theorem entZ_len : entZ.length = 68 := by rfl
theorem list16 {α : Type} {F : List α} (hl : F.length = 16) : ∃ a0 a1 a2 a3 a4 a5 a6 a7 a8 a9 a10 a11 a12 a13 a14 a15, F = [a0, a1, a2, a3, a4, a5, a6, a7, a8, a9, a10, a11, a12, a13, a14, a15] := by
 refine ⟨F[0], F[1], F[2], F[3], F[4], F[5], F[6], F[7], F[8], F[9], F[10], F[11], F[12], F[13], F[14], F[15], List.ext_getElem (by simp [hl]) fun i h1 h2 => ?_⟩
 have : i < 16 := by omega
 match i, this with
 | 0, _ => rfl
 | 1, _ => rfl
 | 2, _ => rfl
 | 3, _ => rfl
 | 4, _ => rfl
 | 5, _ => rfl
 | 6, _ => rfl
 | 7, _ => rfl
 | 8, _ => rfl
 | 9, _ => rfl
 | 10, _ => rfl
 | 11, _ => rfl
 | 12, _ => rfl
 | 13, _ => rfl
 | 14, _ => rfl
 | 15, _ => rfl
 | i + 16, h => exact absurd h (by omega)
theorem builtEntry {F : List Value} (hF : F.length = 16) (t : Int) (ao : Option Addr) (n c : Nat) : Tryz.prog.built 83 [(0, .int .i64 0), (1, .int .i64 t), (2, .int .i64 2), (3, .agg F.toArray), (4, .agg zID.toArray), (5, .agg zSum.toArray), (6, .slice ao n c)] = some (entC t F (.slice ao n c)).toArray := by
 obtain ⟨a0, a1, a2, a3, a4, a5, a6, a7, a8, a9, a10, a11, a12, a13, a14, a15, rfl⟩ := list16 hF
 kernel_rfl
def timeE (t : Int) : Int := if t < 0 ∨ 1099511627776 < t then 4 else 0
theorem entryFault_bad (t : Int) (f : List Int) (bo : Value) (w : World) (hf : f.length = 16) (ht : timeE t ≠ 0) :
  Calls Tryz.prog 84 #[.agg (entC t (f.map (Value.int .u8)) bo).toArray] w fun e w' => e = .returned (.int .i64 (timeE t)) ∧ Below w.heap.size w w' := by
 have ho := hid (outside_any t 0 1099511627776)
 have HE : Hid (timeE t = 4) := hid (by unfold timeE at ht ⊢; split at ht; rw [if_pos (by assumption)]; exact absurd rfl ht)
 have hb : (decide (t < 0) || decide (1099511627776 < t)) = true := by
  unfold timeE at ht
  split at ht
  ·rename_i h; simpa using h
  ·exact absurd rfl ht
 rw [hb] at ho
 have hcells := fun (w : World) (g : Nat) (h : BlkV 83 w g (entC t (f.map (Value.int .u8)) bo)) => hid (ent_cells (by rw [List.length_map, hf]) h)
 obtain ⟨CS, HCS⟩ := hidE (entC t (f.map (Value.int .u8)) bo)
 rw [← HCS.out] at hcells ⊢
 rw [HE.out]
 obtain ⟨B, hsz⟩ := szE w
 rw [hsz]
 have hone : Hid True := hid trivial
 clear hb ht
 go_enter Tryz.func84, Tryz.ntmps84
 go_wp2_with (first
  | (go_at_call 144; clear hone; refine (outside_no 65535 (by decide) w1).mono ?_; rintro e w2 ⟨rfl, rfl⟩)
  | (go_at_call 144; refine (ho.out w1).mono ?_; rintro e w2 ⟨rfl, rfl⟩)
  | (refine wl_boxV rfl 83 _ rfl CS rfl B hsz ?_; intro w1 hB1 bb1 hs1; obtain ⟨c0, c1, c2, c67⟩ := (hcells _ _ hB1).out))
 go_ret
 exact ⟨rfl, bb1⟩
theorem entryFault_ok (t : Int) (f : List Int) (rs : List ByteArray) (ao : Option Addr) (n c : Nat) (w : World) (hf : f.length = 16) (ht : timeE t = 0) (hE : bodyE rs = 0) (hn : n = (bodyB f rs).length) (HP : Pt.Ok w ⟨ao, c, bodyB f rs⟩) :
  Calls Tryz.prog 84 #[.agg (entC t (f.map (Value.int .u8)) (.slice ao n c)).toArray] w fun e w' => e = .returned (.int .i64 0) ∧ Below w.heap.size w w' := by
 have ho := hid (outside_any t 0 1099511627776)
 have hb : (decide (t < 0) || decide (1099511627776 < t)) = false := by
  unfold timeE at ht
  split at ht
  ·cases ht
  ·rename_i h; simpa using h
 rw [hb] at ho
 have hpb := fun (w' : World) (hb : Below w.heap.size w w') => hid (ParseBody_ok f rs ao n c w' hf hE hn (HP.below hb))
 have HCL := fun v => hid (bodyC_len (ro := v) (fv := f.map (Value.int .u8)) (by rw [List.length_map, hf]))
 have HC1 := fun v hv => hid (bodyC_one (fv := f.map (Value.int .u8)) (ro := v) (ints_one _ _) hv)
 have hcells := fun (w : World) (g : Nat) (h : BlkV 83 w g (entC t (f.map (Value.int .u8)) (.slice ao n c))) => hid (ent_cells (by rw [List.length_map, hf]) h)
 obtain ⟨CS, HCS⟩ := hidE (entC t (f.map (Value.int .u8)) (.slice ao n c))
 rw [← HCS.out] at hcells ⊢
 have hz := hid zeroBody
 have HZ0 : Hid ((bodyC zID (.slice none 0 0)).length = 58) := hid (bodyC_len rfl)
 obtain ⟨Z, HZ⟩ := hidE (bodyC zID (.slice none 0 0))
 rw [← HZ.out] at HZ0 hz
 obtain ⟨F, HF⟩ := hidE (f.map (Value.int .u8))
 rw [← HF.out] at HCL HC1
 obtain ⟨B, hsz⟩ := szE w
 rw [hsz] at hpb ⊢
 have hone : Hid True := hid trivial
 clear hb ht HP hn
 go_enter Tryz.func84, Tryz.ntmps84
 go_wp2_with (first
  | (refine wl_storeV rfl 42 _ _ rfl 42 X rfl VS rfl 58 aggBody hVl Z hX3 HZ0.out hV1 ?_; intro w4 hX4 hb4 hs4; have bb4 : Below B w w4 := bb3.trans (hb4.mono (by omega)))
  | (obtain ⟨X, HX⟩ := hidE w2.heap.size; have hsX : w2.heap.size = X := HX.out.symm; have hBX : B < X := (by have := hb2.size; omega); refine wl_allocV rfl 42 rfl Z hz.out X hsX ?_; intro w3 hX3 hb3 hs3; have bb3 : Below B w w3 := bb2.trans (hb3.mono (by omega)))
  | (go_at_call 145; refine (hpb w1 bb1).out.mono ?_; rintro e w2 ⟨ra, rc, rfl, hRW2, _, hb2⟩; have bb2 : Below B w w2 := bb1.trans (hb2.mono (by omega)); have hVl := (HCL (.slice ra rs.length rc)).out; have hV1 := (HC1 (.slice ra rs.length rc) rfl).out; obtain ⟨VS, HVS⟩ := hidE (bodyC F (.slice ra rs.length rc)); rw [← HVS.out] at hVl hV1; rw [← HF.out, ← HVS.out])
  | (go_at_call 144; clear hone; refine (outside_no 65535 (by decide) w1).mono ?_; rintro e w2 ⟨rfl, rfl⟩)
  | (go_at_call 144; refine (ho.out w1).mono ?_; rintro e w2 ⟨rfl, rfl⟩)
  | (refine wl_boxV rfl 83 _ rfl CS rfl B hsz ?_; intro w1 hB1 bb1 hs1; obtain ⟨c0, c1, c2, c67⟩ := (hcells _ _ hB1).out))
 go_ret
 exact ⟨rfl, bb4⟩
end Go.Proofs.YtdhipjoplkpgmaaGreatDoor.hf
