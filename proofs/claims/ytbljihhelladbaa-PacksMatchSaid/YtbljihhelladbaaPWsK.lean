/-
  Contract of wrap.Fits. Conditions: a key of octets, a text of octets that lies in memory. Reading operations of a region that draws its order, in short words. Conditions: what each names.
-/
import Derived.Test.YtbljihhelladbaaPWrP
import Derived.Test.YtbljihhelladbaaPHld
namespace Go.Proofs.Ytbljihhelladbaa.wr
open Go.RowKit Go.Proofs.Ytbljihhelladbaa.st Go.Proofs.Ytbljihhelladbaa.hs Go.Proofs.Ytbljihhelladbaa.shr Go.Proofs.Ytbljihhelladbaa.sh
set_option linter.unusedSimpArgs false
set_option linter.unusedVariables false
set_option pp.maxSteps 6000
theorem yieldsIf_eqM' {P : Program} {ops : Array Oper} {S : World → Prop} {op : Oper} {a : Act} (hw : Region.wanted op (yielded ops a.tmps) = true) (ty ty2 : TypeId) (x y : Operand) (ho : op.op = .binOp .eql ty x y ty2)
    (A B : Array Value) (hx : a.eval x = .agg A) (hy : a.eval y = .agg B) (b : Bool) (he : ∀ w, (Op.equalIn 10000 ty (.agg A) (.agg B)).run P w = .ok b w) (hm : P.eqGuardType P.depth ty = false) : YieldsIf P ops S op (.bool b) a :=
  .inl ⟨hw, fun w hw' => by
    unfold execOp
    simp [ho, hx, hy, run_eqGuard_agg, run_eql_struct, hm, he w, Result.andThen]⟩
/-- what Fits answers -/
def fitsB (k l : List Int) : Bool := readE l == 0 && ((readX l).b == nameL k)
def fitsV (k l : List Int) : Value := .tuple #[.bool (fitsB k l), .int .i64 (readE l)]
set_option maxRecDepth 100000 in
set_option maxHeartbeats 2000000 in
theorem Fits_R (k l : List Int) (bo : Option Addr) (bc n : Nat) (w : World) (hk : k.length = 32) (ok : Octs k) (hn : n = l.length) (HL : Pt.Ok w ⟨bo, bc, l⟩) (h2 : readE l ≠ 0) :
    Calls Try.prog 191 #[.agg (k.map (Value.int .u8)).toArray, .slice bo n bc] w fun r w' => r = .returned (fitsV k l) ∧ Below w.heap.size w w' := by
  obtain ⟨B, HB⟩ : ∃ B, Hid (B = w.heap.size) := ⟨_, rfl⟩
  have hsz : w.heap.size = B := HB.out.symm
  have hV : fitsV k l = .tuple #[.bool false, .int .i64 (readE l)] := by unfold fitsV fitsB; simp [h2]
  rw [hV]
  clear hV
  have hzE := hid zeroEnv
  obtain ⟨ZE, HZE⟩ : ∃ Z, Hid (Z = env0.cs) := ⟨_, rfl⟩
  rw [← HZE.out] at hzE
  have hZEl : ZE.length = 130 := by rw [HZE.out]; exact env0_ok.csl
  have hZE1 : ∀ u ∈ ZE, u.oneCell' = true := by rw [HZE.out]; exact env0.cs_one
  have hrd := fun (y : World) (hb : Below B w y) => hid (Read_any bo bc n l y hn (fun _ => HL.below (hsz ▸ hb)))
  obtain ⟨e, He⟩ : ∃ e, Hid (e = readE l) := ⟨_, rfl⟩
  rw [readV_err He.out.symm (by rw [He.out]; exact h2), ← HZE.out] at hrd
  have h3 : ¬ e = 0 := by rw [He.out]; exact h2
  rw [← He.out]
  obtain ⟨K, HK⟩ : ∃ K, Hid (K = k.map (Value.int .u8)) := ⟨_, rfl⟩
  have hKl : K.length = 32 := by rw [HK.out, List.length_map, hk]
  rw [← HK.out] at ⊢
  have hu23 := Try.underlying23
  have hi23 : (Try.prog.info? 23).map (·.size) = some K.length := by rw [hKl]; exact aggKey.2
  clear hk hn HL h2
  go_enter Try.func191, Try.ntmps191
  go_wp2_with (first | (refine wl_storeV rfl 107 _ _ rfl 107 M rfl ZE rfl 130 aggEnv hZEl ZE hG3 hZEl hZE1 ?_; intro w4 hX4 hb4 hs4; have hB4 := hB3.below hb4 (by omega); have bb4 := bb3.trans (hb4.mono (by omega : B ≤ _)); clear hB3 bb3 hb4 hG3) | (refine wl_allocV rfl 107 rfl ZE hzE.out w2.heap.size rfl ?_; intro w3 hG3 hb3 hs3; obtain ⟨M, HM⟩ : ∃ g, Hid (g = w2.heap.size) := ⟨_, rfl⟩; rw [← HM.out] at hG3 hb3 hs3; rw [← HM.out]; have hMB : B + 1 ≤ M := (by rw [HM.out]; exact hs2); have hB3 := hB2.below hb3 (by omega); have bb3 := bb2.trans (hb3.mono (by omega : B ≤ _)); clear hB2 bb2 hb3) | (go_at_call 71; refine (hrd w1 hb1).out.mono ?_; rintro r w2 ⟨rfl, hb2⟩; have hB2 := hB1.below hb2 hB1.lt; have bb2 := hb1.trans (hb2.mono (by omega : B ≤ _)); have hs2 : B + 1 ≤ w2.heap.size := (by have := hb2.size; omega); clear hB1 hb1 hb2) | (refine wl_boxV rfl 23 _ rfl K rfl B hsz ?_; intro w1 hB1 hb1 hs1))
  refine wp_region_held_drew (S := (fun w' => BlkV 23 w' B K ∧ BlkV 107 w' M ZE)) (by kernel_rfl) ⟨(show BlkV 23 w4.drew B K from hB4), (show BlkV 107 w4.drew M ZE from hX4)⟩ (fun hHeld => ?_)
  obtain ⟨y0, HY0⟩ : ∃ y, Hid (y = w4.drew) := ⟨_, rfl⟩
  rw [← HY0.out] at hHeld ⊢
  have hB0 : BlkV 23 y0 B K := by rw [HY0.out]; exact hB4
  have hX0 : BlkV 107 y0 M ZE := by rw [HY0.out]; exact hX4
  have bb0 : Below B w y0 := by rw [HY0.out]; exact bb4.drew
  clear hB4 hX4 bb4
  refine take_l (i := 0) (v := ?rv1) rfl (by kernel_rfl) (by kernel_rfl) (by kernel_rfl) (fun _ _ _ h => h) (Or.inl ⟨by rfl, ?rhy1⟩) (by assumption) ?rrest1
  case rhy1 => (intro w hSw; (try dsimp only at hSw); go_simp; (try with_reducible rfl))
  try simp only [Act.put, List.setIfInBounds_toArray, List.set_cons_zero, List.set_cons_succ]
  refine take_l (i := 1) (v := .bool false) rfl (by kernel_rfl) (by kernel_rfl) (by kernel_rfl) (fun _ _ _ h => h) (Or.inl ⟨by rfl, ?rhy2⟩) (by assumption) ?rrest2
  case rhy2 => (intro w hSw; (try dsimp only at hSw); go_simp; (try simp [h3]))
  try simp only [Act.put, List.setIfInBounds_toArray, List.set_cons_zero, List.set_cons_succ]
  refine take_l (i := 2) (v := ?rv3) rfl (by kernel_rfl) (by kernel_rfl) (by kernel_rfl) (fun _ _ _ h => h) (Or.inl ⟨by rfl, ?rhy3⟩) (by assumption) ?rrest3
  case rhy3 => (intro w hSw; (try dsimp only at hSw); go_simp; (try with_reducible rfl))
  try simp only [Act.put, List.setIfInBounds_toArray, List.set_cons_zero, List.set_cons_succ]
  refine take_l (i := 3) (v := _) rfl (by kernel_rfl) (by kernel_rfl) (by kernel_rfl) (fun _ _ _ h => h) (Or.inr ⟨by kernel_rfl, rfl⟩) (by assumption) ?_
  try simp only [Act.put, List.setIfInBounds_toArray, List.set_cons_zero, List.set_cons_succ]
  refine take_l (i := 4) (v := _) rfl (by kernel_rfl) (by kernel_rfl) (by kernel_rfl) (fun _ _ _ h => h) (Or.inr ⟨by kernel_rfl, rfl⟩) (by assumption) ?_
  try simp only [Act.put, List.setIfInBounds_toArray, List.set_cons_zero, List.set_cons_succ]
  refine take_l (i := 5) (v := _) rfl (by kernel_rfl) (by kernel_rfl) (by kernel_rfl) (fun _ _ _ h => h) (Or.inr ⟨by kernel_rfl, rfl⟩) (by assumption) ?_
  try simp only [Act.put, List.setIfInBounds_toArray, List.set_cons_zero, List.set_cons_succ]
  refine take_l (i := 6) (v := _) rfl (by kernel_rfl) (by kernel_rfl) (by kernel_rfl) (fun _ _ _ h => h) (Or.inr ⟨by kernel_rfl, rfl⟩) (by assumption) ?_
  try simp only [Act.put, List.setIfInBounds_toArray, List.set_cons_zero, List.set_cons_succ]
  refine take_l (i := 7) (v := _) rfl (by kernel_rfl) (by kernel_rfl) (by kernel_rfl) (fun _ _ _ h => h) (Or.inr ⟨by kernel_rfl, rfl⟩) (by assumption) ?_
  try simp only [Act.put, List.setIfInBounds_toArray, List.set_cons_zero, List.set_cons_succ]
  refine take_l (i := 8) (v := ?rv9) rfl (by kernel_rfl) (by kernel_rfl) (by kernel_rfl) (fun _ _ _ h => h) (Or.inl ⟨by rfl, ?rhy9⟩) (by assumption) ?rrest9
  case rhy9 => (intro w hSw; (try dsimp only at hSw); go_simp; (try with_reducible rfl))
  try simp only [Act.put, List.setIfInBounds_toArray, List.set_cons_zero, List.set_cons_succ]
  refine take_l (i := 9) (v := ?rv10) rfl (by kernel_rfl) (by kernel_rfl) (by kernel_rfl) (fun _ _ _ h => h) (Or.inl ⟨by rfl, ?rhy10⟩) (by assumption) ?rrest10
  case rhy10 => (intro w hSw; (try dsimp only at hSw); go_simp; (try with_reducible rfl))
  try simp only [Act.put, List.setIfInBounds_toArray, List.set_cons_zero, List.set_cons_succ]
  refine take_l (i := 10) (v := ?rv11) rfl (by kernel_rfl) (by kernel_rfl) (by kernel_rfl) (fun _ _ _ h => h) (Or.inl ⟨by rfl, ?rhy11⟩) (by assumption) ?rrest11
  case rhy11 => (intro w hSw; (try dsimp only at hSw); go_simp; (try with_reducible rfl))
  try simp only [Act.put, List.setIfInBounds_toArray, List.set_cons_zero, List.set_cons_succ]
  refine take_l (i := 11) (v := ?rv12) rfl (by kernel_rfl) (by kernel_rfl) (by kernel_rfl) (fun _ _ _ h => h) (Or.inl ⟨by rfl, ?rhy12⟩) (by assumption) ?rrest12
  case rhy12 => (intro w hSw; (try dsimp only at hSw); go_simp; (try with_reducible rfl))
  try simp only [Act.put, List.setIfInBounds_toArray, List.set_cons_zero, List.set_cons_succ]
  refine wpAnyH_done (by kernel_rfl) ?_ _
  clear hHeld
  go_wp2
  go_ret2
  exact ⟨rfl, by rw [← HB.out]; exact bb0⟩
set_option maxRecDepth 100000 in
set_option maxHeartbeats 2000000 in
theorem Fits_T (k l : List Int) (bo : Option Addr) (bc n : Nat) (w : World) (hk : k.length = 32) (ok : Octs k) (hn : n = l.length) (HL : Pt.Ok w ⟨bo, bc, l⟩) (h2 : readE l = 0) (h1 : (readX l).b = nameL k) :
    Calls Try.prog 191 #[.agg (k.map (Value.int .u8)).toArray, .slice bo n bc] w fun r w' => r = .returned (fitsV k l) ∧ Below w.heap.size w w' := by
  obtain ⟨B, HB⟩ : ∃ B, Hid (B = w.heap.size) := ⟨_, rfl⟩
  have hsz : w.heap.size = B := HB.out.symm
  have hV : fitsV k l = .tuple #[.bool true, .int .i64 (readE l)] := by unfold fitsV fitsB; simp [h2, h1]
  rw [hV]
  clear hV
  have hzE := hid zeroEnv
  obtain ⟨ZE, HZE⟩ : ∃ Z, Hid (Z = env0.cs) := ⟨_, rfl⟩
  rw [← HZE.out] at hzE
  have hZEl : ZE.length = 130 := by rw [HZE.out]; exact env0_ok.csl
  have hZE1 : ∀ u ∈ ZE, u.oneCell' = true := by rw [HZE.out]; exact env0.cs_one
  have hrd := fun (y : World) (hb : Below B w y) => hid (Read_any bo bc n l y hn (fun _ => HL.below (hsz ▸ hb)))
  rw [readV_ok h2] at hrd
  rw [h2]
  have hx := readX_ok HL.oct h2
  have hnm := fun w => hid (NameOf_any k hk ok w)
  obtain ⟨NV, HNV⟩ : ∃ V, Hid (V = (nameL k).map (Value.int .u8)) := ⟨_, rfl⟩
  obtain ⟨XB, HXB⟩ : ∃ V, Hid (V = (readX l).b.map (Value.int .u8)) := ⟨_, rfl⟩
  have hXBl : XB.length = 16 := by rw [HXB.out, List.length_map, hx.bl]
  have heN : Hid (∀ w, (Op.equalIn 10000 57 (.agg XB.toArray) (.agg NV.toArray)).run Try.prog w = .ok true w) := hid (fun w => by
    rw [HXB.out, HNV.out, run_eq_id w _ (nameL k) hx.bl (nameL_length k)]
    have : ((readX l).b == nameL k) = true := by simp [h1]
    rw [this])
  have fB : Hid (∀ w G, BlkV 107 w G (readX l).cs → w.rangeAt G 2 XB) := hid (fun w G h => by rw [HXB.out]; exact at_range (env_b h))
  obtain ⟨CS, HCS⟩ : ∃ C, Hid (C = (readX l).cs) := ⟨_, rfl⟩
  have hCl : CS.length = 130 := by rw [HCS.out]; exact hx.csl
  have hC1 : ∀ u ∈ CS, u.oneCell' = true := by rw [HCS.out]; exact (readX l).cs_one
  rw [← HCS.out] at hrd fB
  rw [← HNV.out] at hnm
  obtain ⟨K, HK⟩ : ∃ K, Hid (K = k.map (Value.int .u8)) := ⟨_, rfl⟩
  have hKl : K.length = 32 := by rw [HK.out, List.length_map, hk]
  rw [← HK.out] at hnm ⊢
  have hu23 := Try.underlying23
  have hi23 : (Try.prog.info? 23).map (·.size) = some K.length := by rw [hKl]; exact aggKey.2
  have huI := Try.underlying57
  have hiI : (Try.prog.info? 57).map (·.size) = some XB.length := by rw [hXBl]; exact aggID.2
  clear hk hn HL h2 hx h1
  go_enter Try.func191, Try.ntmps191
  go_wp2_with (first | (refine wl_storeV rfl 107 _ _ rfl 107 M rfl CS rfl 130 aggEnv hCl ZE hG3 hZEl hC1 ?_; intro w4 hX4 hb4 hs4; have hB4 := hB3.below hb4 (by omega); have bb4 := bb3.trans (hb4.mono (by omega : B ≤ _)); clear hB3 bb3 hb4 hG3) | (refine wl_allocV rfl 107 rfl ZE hzE.out w2.heap.size rfl ?_; intro w3 hG3 hb3 hs3; obtain ⟨M, HM⟩ : ∃ g, Hid (g = w2.heap.size) := ⟨_, rfl⟩; rw [← HM.out] at hG3 hb3 hs3; rw [← HM.out]; have hMB : B + 1 ≤ M := (by rw [HM.out]; exact hs2); have hB3 := hB2.below hb3 (by omega); have bb3 := bb2.trans (hb3.mono (by omega : B ≤ _)); clear hB2 bb2 hb3) | (go_at_call 71; refine (hrd w1 hb1).out.mono ?_; rintro r w2 ⟨rfl, hb2⟩; have hB2 := hB1.below hb2 hB1.lt; have bb2 := hb1.trans (hb2.mono (by omega : B ≤ _)); have hs2 : B + 1 ≤ w2.heap.size := (by have := hb2.size; omega); clear hB1 hb1 hb2) | (refine wl_boxV rfl 23 _ rfl K rfl B hsz ?_; intro w1 hB1 hb1 hs1))
  refine wp_region_held_drew (S := (fun w' => BlkV 23 w' B K ∧ BlkV 107 w' M CS)) (by kernel_rfl) ⟨(show BlkV 23 w4.drew B K from hB4), (show BlkV 107 w4.drew M CS from hX4)⟩ (fun hHeld => ?_)
  obtain ⟨y0, HY0⟩ : ∃ y, Hid (y = w4.drew) := ⟨_, rfl⟩
  rw [← HY0.out] at hHeld ⊢
  have hB0 : BlkV 23 y0 B K := by rw [HY0.out]; exact hB4
  have hX0 : BlkV 107 y0 M CS := by rw [HY0.out]; exact hX4
  have bb0 : Below B w y0 := by rw [HY0.out]; exact bb4.drew
  clear hB4 hX4 bb4
  refine take_l (i := 0) (v := ?rv13) rfl (by kernel_rfl) (by kernel_rfl) (by kernel_rfl) (fun _ _ _ h => h) (Or.inl ⟨by rfl, ?rhy13⟩) (by assumption) ?rrest13
  case rhy13 => (intro w hSw; (try dsimp only at hSw); go_simp; (try with_reducible rfl))
  try simp only [Act.put, List.setIfInBounds_toArray, List.set_cons_zero, List.set_cons_succ]
  refine take_l (i := 1) (v := ?rv14) rfl (by kernel_rfl) (by kernel_rfl) (by kernel_rfl) (fun _ _ _ h => h) (Or.inl ⟨by rfl, ?rhy14⟩) (by assumption) ?rrest14
  case rhy14 => (intro w hSw; (try dsimp only at hSw); go_simp; (try with_reducible rfl))
  try simp only [Act.put, List.setIfInBounds_toArray, List.set_cons_zero, List.set_cons_succ]
  refine take_l (i := 2) (v := ?rv15) rfl (by kernel_rfl) (by kernel_rfl) (by kernel_rfl) (fun _ _ _ h => h) (Or.inl ⟨by rfl, ?rhy15⟩) (by assumption) ?rrest15
  case rhy15 => (intro w hSw; (try dsimp only at hSw); go_simp; (try with_reducible rfl))
  try simp only [Act.put, List.setIfInBounds_toArray, List.set_cons_zero, List.set_cons_succ]
  refine take_l (i := 3) (v := ?rv16) rfl (by kernel_rfl) (by kernel_rfl) (by kernel_rfl) (fun _ _ _ h => h) (Or.inl ⟨by rfl, ?rhy16⟩) (by assumption) ?rrest16
  case rhy16 => (intro w hSw; (try dsimp only at hSw); go_simp; (try with_reducible rfl))
  try simp only [Act.put, List.setIfInBounds_toArray, List.set_cons_zero, List.set_cons_succ]
  refine take_l (i := 4) (v := _) rfl (by kernel_rfl) (by kernel_rfl) (by kernel_rfl) (fun _ _ _ h => h) (yieldsIf_load_mid (by rfl) 57 _ rfl M 2 rfl XB _ (fun w hS => fB.out w _ hS.2) huI rfl hiI) (by assumption) ?_
  try simp only [Act.put, List.setIfInBounds_toArray, List.set_cons_zero, List.set_cons_succ]
  refine take_l (i := 5) (v := _) rfl (by kernel_rfl) (by kernel_rfl) (by kernel_rfl) (fun _ _ _ h => h) (yieldsIf_load_mid (by rfl) 23 _ rfl B 0 rfl K _ (fun w hS => at_range hS.1.at0) hu23 rfl hi23) (by assumption) ?_
  try simp only [Act.put, List.setIfInBounds_toArray, List.set_cons_zero, List.set_cons_succ]
  refine take_l (i := 9) (v := ?rv19) rfl (by kernel_rfl) (by kernel_rfl) (by kernel_rfl) (fun _ _ _ h => h) (Or.inl ⟨by rfl, ?rhy19⟩) (by assumption) ?rrest19
  case rhy19 => (intro w hSw; (try dsimp only at hSw); go_simp; (try with_reducible rfl))
  try simp only [Act.put, List.setIfInBounds_toArray, List.set_cons_zero, List.set_cons_succ]
  refine wpAnyH_ready (rs := [6]) (by kernel_rfl) (by simp) (cons_l rfl (fun K' hK' => ?_) AllReadyH.nil)
  rw [if_pos (by kernel_rfl)]
  go_simp
  go_at_call 174
  refine (hnm y0).out.mono ?_
  rintro e y1 ⟨rfl, hbx1⟩
  have hB1 := hB0.below hbx1 hB0.lt
  have hX1 := hX0.below hbx1 hX0.lt
  have bb1 := bb0.trans (hbx1.mono (by have := hX0.lt; omega : B ≤ _))
  refine hK'.out _ _ ⟨hB1, hX1⟩ (fun hHeld => ?_)
  clear hK' K'
  try simp only [Act.put, List.setIfInBounds_toArray, List.set_cons_zero, List.set_cons_succ]
  refine take_l (i := 7) (v := _) rfl (by kernel_rfl) (by kernel_rfl) (by kernel_rfl) (fun _ _ _ h => h) (yieldsIf_eqM' (by rfl) 57 _ _ _ rfl XB.toArray NV.toArray rfl rfl true heN.out (by kernel_rfl)) (by assumption) ?_
  try simp only [Act.put, List.setIfInBounds_toArray, List.set_cons_zero, List.set_cons_succ]
  refine take_l (i := 8) (v := ?rv21) rfl (by kernel_rfl) (by kernel_rfl) (by kernel_rfl) (fun _ _ _ h => h) (Or.inl ⟨by rfl, ?rhy21⟩) (by assumption) ?rrest21
  case rhy21 => (intro w hSw; (try dsimp only at hSw); go_simp; (try with_reducible rfl))
  try simp only [Act.put, List.setIfInBounds_toArray, List.set_cons_zero, List.set_cons_succ]
  refine take_l (i := 10) (v := ?rv22) rfl (by kernel_rfl) (by kernel_rfl) (by kernel_rfl) (fun _ _ _ h => h) (Or.inl ⟨by rfl, ?rhy22⟩) (by assumption) ?rrest22
  case rhy22 => (intro w hSw; (try dsimp only at hSw); go_simp; (try with_reducible rfl))
  try simp only [Act.put, List.setIfInBounds_toArray, List.set_cons_zero, List.set_cons_succ]
  refine take_l (i := 11) (v := ?rv23) rfl (by kernel_rfl) (by kernel_rfl) (by kernel_rfl) (fun _ _ _ h => h) (Or.inl ⟨by rfl, ?rhy23⟩) (by assumption) ?rrest23
  case rhy23 => (intro w hSw; (try dsimp only at hSw); go_simp; (try with_reducible rfl))
  try simp only [Act.put, List.setIfInBounds_toArray, List.set_cons_zero, List.set_cons_succ]
  refine wpAnyH_done (by kernel_rfl) ?_ _
  clear hHeld
  go_wp2
  go_ret2
  exact ⟨rfl, by rw [← HB.out]; exact bb1⟩
set_option maxRecDepth 100000 in
set_option maxHeartbeats 2000000 in
theorem Fits_F (k l : List Int) (bo : Option Addr) (bc n : Nat) (w : World) (hk : k.length = 32) (ok : Octs k) (hn : n = l.length) (HL : Pt.Ok w ⟨bo, bc, l⟩) (h2 : readE l = 0) (h1 : (readX l).b ≠ nameL k) :
    Calls Try.prog 191 #[.agg (k.map (Value.int .u8)).toArray, .slice bo n bc] w fun r w' => r = .returned (fitsV k l) ∧ Below w.heap.size w w' := by
  obtain ⟨B, HB⟩ : ∃ B, Hid (B = w.heap.size) := ⟨_, rfl⟩
  have hsz : w.heap.size = B := HB.out.symm
  have hV : fitsV k l = .tuple #[.bool false, .int .i64 (readE l)] := by unfold fitsV fitsB; simp [h2, h1]
  rw [hV]
  clear hV
  have hzE := hid zeroEnv
  obtain ⟨ZE, HZE⟩ : ∃ Z, Hid (Z = env0.cs) := ⟨_, rfl⟩
  rw [← HZE.out] at hzE
  have hZEl : ZE.length = 130 := by rw [HZE.out]; exact env0_ok.csl
  have hZE1 : ∀ u ∈ ZE, u.oneCell' = true := by rw [HZE.out]; exact env0.cs_one
  have hrd := fun (y : World) (hb : Below B w y) => hid (Read_any bo bc n l y hn (fun _ => HL.below (hsz ▸ hb)))
  rw [readV_ok h2] at hrd
  rw [h2]
  have hx := readX_ok HL.oct h2
  have hnm := fun w => hid (NameOf_any k hk ok w)
  obtain ⟨NV, HNV⟩ : ∃ V, Hid (V = (nameL k).map (Value.int .u8)) := ⟨_, rfl⟩
  obtain ⟨XB, HXB⟩ : ∃ V, Hid (V = (readX l).b.map (Value.int .u8)) := ⟨_, rfl⟩
  have hXBl : XB.length = 16 := by rw [HXB.out, List.length_map, hx.bl]
  have heN : Hid (∀ w, (Op.equalIn 10000 57 (.agg XB.toArray) (.agg NV.toArray)).run Try.prog w = .ok false w) := hid (fun w => by
    rw [HXB.out, HNV.out, run_eq_id w _ (nameL k) hx.bl (nameL_length k)]
    have : ((readX l).b == nameL k) = false := by simp [h1]
    rw [this])
  have fB : Hid (∀ w G, BlkV 107 w G (readX l).cs → w.rangeAt G 2 XB) := hid (fun w G h => by rw [HXB.out]; exact at_range (env_b h))
  obtain ⟨CS, HCS⟩ : ∃ C, Hid (C = (readX l).cs) := ⟨_, rfl⟩
  have hCl : CS.length = 130 := by rw [HCS.out]; exact hx.csl
  have hC1 : ∀ u ∈ CS, u.oneCell' = true := by rw [HCS.out]; exact (readX l).cs_one
  rw [← HCS.out] at hrd fB
  rw [← HNV.out] at hnm
  obtain ⟨K, HK⟩ : ∃ K, Hid (K = k.map (Value.int .u8)) := ⟨_, rfl⟩
  have hKl : K.length = 32 := by rw [HK.out, List.length_map, hk]
  rw [← HK.out] at hnm ⊢
  have hu23 := Try.underlying23
  have hi23 : (Try.prog.info? 23).map (·.size) = some K.length := by rw [hKl]; exact aggKey.2
  have huI := Try.underlying57
  have hiI : (Try.prog.info? 57).map (·.size) = some XB.length := by rw [hXBl]; exact aggID.2
  clear hk hn HL h2 hx h1
  go_enter Try.func191, Try.ntmps191
  go_wp2_with (first | (refine wl_storeV rfl 107 _ _ rfl 107 M rfl CS rfl 130 aggEnv hCl ZE hG3 hZEl hC1 ?_; intro w4 hX4 hb4 hs4; have hB4 := hB3.below hb4 (by omega); have bb4 := bb3.trans (hb4.mono (by omega : B ≤ _)); clear hB3 bb3 hb4 hG3) | (refine wl_allocV rfl 107 rfl ZE hzE.out w2.heap.size rfl ?_; intro w3 hG3 hb3 hs3; obtain ⟨M, HM⟩ : ∃ g, Hid (g = w2.heap.size) := ⟨_, rfl⟩; rw [← HM.out] at hG3 hb3 hs3; rw [← HM.out]; have hMB : B + 1 ≤ M := (by rw [HM.out]; exact hs2); have hB3 := hB2.below hb3 (by omega); have bb3 := bb2.trans (hb3.mono (by omega : B ≤ _)); clear hB2 bb2 hb3) | (go_at_call 71; refine (hrd w1 hb1).out.mono ?_; rintro r w2 ⟨rfl, hb2⟩; have hB2 := hB1.below hb2 hB1.lt; have bb2 := hb1.trans (hb2.mono (by omega : B ≤ _)); have hs2 : B + 1 ≤ w2.heap.size := (by have := hb2.size; omega); clear hB1 hb1 hb2) | (refine wl_boxV rfl 23 _ rfl K rfl B hsz ?_; intro w1 hB1 hb1 hs1))
  refine wp_region_held_drew (S := (fun w' => BlkV 23 w' B K ∧ BlkV 107 w' M CS)) (by kernel_rfl) ⟨(show BlkV 23 w4.drew B K from hB4), (show BlkV 107 w4.drew M CS from hX4)⟩ (fun hHeld => ?_)
  obtain ⟨y0, HY0⟩ : ∃ y, Hid (y = w4.drew) := ⟨_, rfl⟩
  rw [← HY0.out] at hHeld ⊢
  have hB0 : BlkV 23 y0 B K := by rw [HY0.out]; exact hB4
  have hX0 : BlkV 107 y0 M CS := by rw [HY0.out]; exact hX4
  have bb0 : Below B w y0 := by rw [HY0.out]; exact bb4.drew
  clear hB4 hX4 bb4
  refine take_l (i := 0) (v := ?rv24) rfl (by kernel_rfl) (by kernel_rfl) (by kernel_rfl) (fun _ _ _ h => h) (Or.inl ⟨by rfl, ?rhy24⟩) (by assumption) ?rrest24
  case rhy24 => (intro w hSw; (try dsimp only at hSw); go_simp; (try with_reducible rfl))
  try simp only [Act.put, List.setIfInBounds_toArray, List.set_cons_zero, List.set_cons_succ]
  refine take_l (i := 1) (v := ?rv25) rfl (by kernel_rfl) (by kernel_rfl) (by kernel_rfl) (fun _ _ _ h => h) (Or.inl ⟨by rfl, ?rhy25⟩) (by assumption) ?rrest25
  case rhy25 => (intro w hSw; (try dsimp only at hSw); go_simp; (try with_reducible rfl))
  try simp only [Act.put, List.setIfInBounds_toArray, List.set_cons_zero, List.set_cons_succ]
  refine take_l (i := 2) (v := ?rv26) rfl (by kernel_rfl) (by kernel_rfl) (by kernel_rfl) (fun _ _ _ h => h) (Or.inl ⟨by rfl, ?rhy26⟩) (by assumption) ?rrest26
  case rhy26 => (intro w hSw; (try dsimp only at hSw); go_simp; (try with_reducible rfl))
  try simp only [Act.put, List.setIfInBounds_toArray, List.set_cons_zero, List.set_cons_succ]
  refine take_l (i := 3) (v := ?rv27) rfl (by kernel_rfl) (by kernel_rfl) (by kernel_rfl) (fun _ _ _ h => h) (Or.inl ⟨by rfl, ?rhy27⟩) (by assumption) ?rrest27
  case rhy27 => (intro w hSw; (try dsimp only at hSw); go_simp; (try with_reducible rfl))
  try simp only [Act.put, List.setIfInBounds_toArray, List.set_cons_zero, List.set_cons_succ]
  refine take_l (i := 4) (v := _) rfl (by kernel_rfl) (by kernel_rfl) (by kernel_rfl) (fun _ _ _ h => h) (yieldsIf_load_mid (by rfl) 57 _ rfl M 2 rfl XB _ (fun w hS => fB.out w _ hS.2) huI rfl hiI) (by assumption) ?_
  try simp only [Act.put, List.setIfInBounds_toArray, List.set_cons_zero, List.set_cons_succ]
  refine take_l (i := 5) (v := _) rfl (by kernel_rfl) (by kernel_rfl) (by kernel_rfl) (fun _ _ _ h => h) (yieldsIf_load_mid (by rfl) 23 _ rfl B 0 rfl K _ (fun w hS => at_range hS.1.at0) hu23 rfl hi23) (by assumption) ?_
  try simp only [Act.put, List.setIfInBounds_toArray, List.set_cons_zero, List.set_cons_succ]
  refine take_l (i := 9) (v := ?rv30) rfl (by kernel_rfl) (by kernel_rfl) (by kernel_rfl) (fun _ _ _ h => h) (Or.inl ⟨by rfl, ?rhy30⟩) (by assumption) ?rrest30
  case rhy30 => (intro w hSw; (try dsimp only at hSw); go_simp; (try with_reducible rfl))
  try simp only [Act.put, List.setIfInBounds_toArray, List.set_cons_zero, List.set_cons_succ]
  refine wpAnyH_ready (rs := [6]) (by kernel_rfl) (by simp) (cons_l rfl (fun K' hK' => ?_) AllReadyH.nil)
  rw [if_pos (by kernel_rfl)]
  go_simp
  go_at_call 174
  refine (hnm y0).out.mono ?_
  rintro e y1 ⟨rfl, hbx1⟩
  have hB1 := hB0.below hbx1 hB0.lt
  have hX1 := hX0.below hbx1 hX0.lt
  have bb1 := bb0.trans (hbx1.mono (by have := hX0.lt; omega : B ≤ _))
  refine hK'.out _ _ ⟨hB1, hX1⟩ (fun hHeld => ?_)
  clear hK' K'
  try simp only [Act.put, List.setIfInBounds_toArray, List.set_cons_zero, List.set_cons_succ]
  refine take_l (i := 7) (v := _) rfl (by kernel_rfl) (by kernel_rfl) (by kernel_rfl) (fun _ _ _ h => h) (yieldsIf_eqM' (by rfl) 57 _ _ _ rfl XB.toArray NV.toArray rfl rfl false heN.out (by kernel_rfl)) (by assumption) ?_
  try simp only [Act.put, List.setIfInBounds_toArray, List.set_cons_zero, List.set_cons_succ]
  refine take_l (i := 8) (v := ?rv32) rfl (by kernel_rfl) (by kernel_rfl) (by kernel_rfl) (fun _ _ _ h => h) (Or.inl ⟨by rfl, ?rhy32⟩) (by assumption) ?rrest32
  case rhy32 => (intro w hSw; (try dsimp only at hSw); go_simp; (try with_reducible rfl))
  try simp only [Act.put, List.setIfInBounds_toArray, List.set_cons_zero, List.set_cons_succ]
  refine take_l (i := 10) (v := ?rv33) rfl (by kernel_rfl) (by kernel_rfl) (by kernel_rfl) (fun _ _ _ h => h) (Or.inl ⟨by rfl, ?rhy33⟩) (by assumption) ?rrest33
  case rhy33 => (intro w hSw; (try dsimp only at hSw); go_simp; (try with_reducible rfl))
  try simp only [Act.put, List.setIfInBounds_toArray, List.set_cons_zero, List.set_cons_succ]
  refine take_l (i := 11) (v := ?rv34) rfl (by kernel_rfl) (by kernel_rfl) (by kernel_rfl) (fun _ _ _ h => h) (Or.inl ⟨by rfl, ?rhy34⟩) (by assumption) ?rrest34
  case rhy34 => (intro w hSw; (try dsimp only at hSw); go_simp; (try with_reducible rfl))
  try simp only [Act.put, List.setIfInBounds_toArray, List.set_cons_zero, List.set_cons_succ]
  refine wpAnyH_done (by kernel_rfl) ?_ _
  clear hHeld
  go_wp2
  go_ret2
  exact ⟨rfl, by rw [← HB.out]; exact bb1⟩
theorem Fits_any (k l : List Int) (bo : Option Addr) (bc n : Nat) (w : World) (hk : k.length = 32) (ok : Octs k) (hn : n = l.length) (HL : Pt.Ok w ⟨bo, bc, l⟩) :
    Calls Try.prog 191 #[.agg (k.map (Value.int .u8)).toArray, .slice bo n bc] w fun r w' => r = .returned (fitsV k l) ∧ Below w.heap.size w w' := by
  by_cases h2 : readE l = 0
  · by_cases h1 : (readX l).b = nameL k
    · exact Fits_T k l bo bc n w hk ok hn HL h2 h1
    · exact Fits_F k l bo bc n w hk ok hn HL h2 h1
  · exact Fits_R k l bo bc n w hk ok hn HL h2
end Go.Proofs.Ytbljihhelladbaa.wr
namespace Go.Proofs.Ytbljihhelladbaa
set_option linter.unusedSimpArgs false
set_option linter.unusedVariables false
open Go.RowKit
section
variable {P : Program} {md : Region.Mode} {ops : Array Oper} {Q : Exit → Act → World → Prop} {S : World → Prop}
theorem tkR (i : Nat) {oi : Oper} {v : Value} {fuel : Nat} {listed : Array Bool} {a : Act} {w : World} (hi : ops.toList[i]? = some oi) (hy : YieldsIf P ops S oi v a) (hS : S w)
    (h : wpAnyH P md ops Q S fuel (listed.setIfInBounds i true) (a.put oi.dst v) w)
    (hs : Region.noSelect ops = true := by kernel_rfl) (hf : Region.free md ops listed i = true := by kernel_rfl) (hr : (Region.ready md ops listed).contains i = true := by kernel_rfl)
    (hQ : ∀ c a w, Q (.panic c) (a.put oi.dst v) w → Q (.panic c) a w := by exact fun _ _ _ h => h) : wpAnyH P md ops Q S (fuel + 1) listed a w :=
  take_l hi hs hf hr hQ hy hS h
theorem tkP (i : Nat) {oi : Oper} {fuel : Nat} {listed : Array Bool} {a : Act} {w : World} (hi : ops.toList[i]? = some oi) (hS : S w)
    (h : ∃ v, (∀ w, S w → (execOp a.eval oi).run P w = .ok (.value v) w) ∧ wpAnyH P md ops Q S fuel (listed.setIfInBounds i true) (a.put oi.dst v) w)
    (hs : Region.noSelect ops = true := by kernel_rfl) (hf : Region.free md ops listed i = true := by kernel_rfl) (hr : (Region.ready md ops listed).contains i = true := by kernel_rfl) (hw : Region.wanted oi (yielded ops a.tmps) = true := by rfl)
    (hQ : ∀ v c a w, Q (.panic c) (a.put oi.dst v) w → Q (.panic c) a w := by exact fun _ _ _ _ h => h) : wpAnyH P md ops Q S (fuel + 1) listed a w := by
  obtain ⟨v, h1, h2⟩ := h
  exact take_l hi hs hf hr (hQ v) (Or.inl ⟨hw, h1⟩) hS h2
end
theorem sArr {α : Type} (l : List α) (i : Nat) (x : α) : l.toArray.setIfInBounds i x = (l.set i x).toArray := by simp
theorem sZ {α : Type} (a x : α) (l : List α) : (a :: l).set 0 x = x :: l := rfl
theorem sS {α : Type} (a x : α) (l : List α) (n : Nat) : (a :: l).set (n + 1) x = a :: l.set n x := rfl
end Go.Proofs.Ytbljihhelladbaa
