/-
  HousesFound: contract of State.change at the first entry and the first state. Conditions: the maps are empty. HousesFound: contracts of policy.CheckAsk and policy.AskSum at the first ask. Conditions: a time in its bounds. HousesFound: contract of State.Apply at the first entry and the first state. Conditions: the entry lies in memory; the founder is not zero. HousesFound: contracts of State.Judge at the first entry and the first state, tree.Leaf, NewState, NewLedger. Conditions: the entry lies in memory.
-/
import Derived.Test.YtdhipjoplkpgmaaGreatDoorHHld
import Derived.Test.YtdhipjoplkpgmaaGreatDoorHHfL
import Derived.Test.YtdhipjoplkpgmaaGreatDoorHWrL
set_option maxRecDepth 100000
set_option linter.unusedSimpArgs false
set_option linter.unusedVariables false
set_option maxHeartbeats 16000000
namespace Go.Proofs.YtdhipjoplkpgmaaGreatDoor.hf
open Go.RowKit st hs wr shr sh lk
theorem stC_split (cnt tm : Int) (lv gv : List Value) (mm mk mv : Nat) : stC cnt tm lv gv mm mk mv = (Value.int .i64 cnt :: .int .i64 tm :: (lv ++ [.slice none 0 0, .bool false])) ++ (gv ++ [.map (some mm), .map (some mk), .map (some mv)]) := by simp [stC]
theorem stC_founder {cnt tm : Int} {lv gv hv : List Value} {mm mk mv : Nat} (hl : lv.length = 32) (hg : gv.length = 16) : (stC cnt tm lv gv mm mk mv).take 36 ++ hv ++ (stC cnt tm lv gv mm mk mv).drop (36 + 16) = stC cnt tm lv hv mm mk mv := by
 have h1 : (Value.int .i64 cnt :: .int .i64 tm :: (lv ++ [.slice none 0 0, .bool false])).length = 36 := by simp [hl]
 rw [stC_split, stC_split, ← h1, List.take_left, ← List.drop_drop, List.drop_left, ← hg, List.drop_left, List.append_assoc]
theorem step_updD {w : World} {ops : Array Oper} {o : Oper} {a : Act} {K : Act → World → Prop} {Q : Exit → Act → World → Prop} {E : Prop} (hgd : o.guard = none) (t et : TypeId) (m x y : Operand) (ho : o.op = .mapUpdate t m x y)
  (ht : Tryz.prog.underlying t = some (.map 25 et)) (b : Nat) (D : Mp Value) (h : MapD w b D) (l : List Int) (hl : l.length = 16) (kv : Value) (hk : kv = idV l) (hmv : a.eval m = .map (some b)) (hx : a.eval x = kv) (v : Value) (hv : a.eval y = v)
  (hK : ∀ w', MapD w' b (upd D l v) → Below b w w' → w'.heap.size = w.heap.size → w.grownBy w' (some b) → K (a.put o.dst undef) w') : if Region.wanted o (yielded ops a.tmps) = true then Oper.wp Tryz.prog o a w K Q else E := by
 have hw : Region.wanted o (yielded ops a.tmps) = true := by simp [Region.wanted, hgd]
 rw [if_pos hw]
 subst hk
 obtain ⟨w', hrun, h1, h2, h3, h4⟩ := run_updD h t et ht l hl v
 unfold Oper.wp
 simp only [execOp, ho, hmv, hx, hv, hrun, Sem.run_bind, Result.andThen_ok, Sem.run_pure]
 exact hK w' h1 h2 h3 h4
def sumVV (l : List Int) : Value := .agg (l.map (Value.int .u8)).toArray
theorem check_sum' (w : World) (b : Bool) (a0 a1 a2 a3 a4 a5 a6 a7 a8 a9 a10 a11 a12 a13 a14 a15 b0 b1 b2 b3 b4 b5 b6 b7 b8 b9 b10 b11 b12 b13 b14 b15 : Int) : (Instr.checkKey b 10000 39 (sumVV [a0, a1, a2, a3, a4, a5, a6, a7, a8, a9, a10, a11, a12, a13, a14, a15, b0, b1, b2, b3, b4, b5, b6, b7, b8, b9, b10, b11, b12, b13, b14, b15])).run Tryz.prog w = .ok () w := by
 kernel_rfl
theorem check_sum (w : World) (b : Bool) (l : List Int) (hll : l.length = 32) : (Instr.checkKey b 10000 39 (sumVV l)).run Tryz.prog w = .ok () w := by
 obtain ⟨a0, a1, a2, a3, a4, a5, a6, a7, a8, a9, a10, a11, a12, a13, a14, a15, h1⟩ := list16 (F := l.take 16) (by rw [List.length_take]; omega)
 obtain ⟨b0, b1, b2, b3, b4, b5, b6, b7, b8, b9, b10, b11, b12, b13, b14, b15, h2⟩ := list16 (F := l.drop 16) (by rw [List.length_drop]; omega)
 have e : l = [a0, a1, a2, a3, a4, a5, a6, a7, a8, a9, a10, a11, a12, a13, a14, a15, b0, b1, b2, b3, b4, b5, b6, b7, b8, b9, b10, b11, b12, b13, b14, b15] := by
  rw [← List.take_append_drop 16 l, h1, h2]; rfl
 subst e
 exact check_sum' w b _ _ _ _ _ _ _ _ _ _ _ _ _ _ _ _ _ _ _ _ _ _ _ _ _ _ _ _ _ _ _ _
theorem step_delE {w : World} {ops : Array Oper} {o : Oper} {a : Act} {K : Act → World → Prop} {Q : Exit → Act → World → Prop} {E : Prop} (hgd : o.guard = none) (t et : TypeId) (m x : Operand) (ho : o.op = .call { callee := .builtin .delete, args := #[m, x], argTypes := #[t, 39] })
  (ht : Tryz.prog.underlying t = some (.map 39 et)) (b : Nat) (h : w.heap[b]? = some (.map #[] 0)) (l : List Int) (hl : l.length = 32) (kv : Value) (hk : kv = sumVV l) (hmv : a.eval m = .map (some b)) (hx : a.eval x = kv)
  (hK : ∀ w', w'.heap[b]? = some (.map #[] 0) → w.grownBy w' (some b) → K (a.put o.dst (.tuple #[])) w') : if Region.wanted o (yielded ops a.tmps) = true then Oper.wp Tryz.prog o a w K Q else E := by
 have hw : Region.wanted o (yielded ops a.tmps) = true := by simp [Region.wanted, hgd]
 rw [if_pos hw]
 subst hk
 obtain ⟨s1, s2⟩ := MapKept.heap_set (o' := .map #[] 0) h
 have hfk : (Instr.findKey 39 (sumVV l) []).run Tryz.prog w = .ok none w := by rw [run_findKey_eq w (by kernel_rfl)]; rfl
 have hrun : (Builtin.delete_ #[t, 39] o.type #[.map (some b), sumVV l]).run Tryz.prog w = .ok (.tuple #[]) { w with heap := w.heap.setIfInBounds b (.map #[] 0) } := by
  simp [Builtin.delete_, run_underlying ht, MapKept.run_getObj_map h, check_sum, hl, hfk, MapKept.run_setObj_map _ h, Result.andThen]
 unfold Oper.wp
 simp [execOp, ho, resolve, invoke, builtin, hmv, hx, hrun, Result.andThen]
 exact hK _ s1 ⟨rfl, rfl, rfl, by simp, fun j _ hj => s2 j (fun e => hj (by rw [e]))⟩
theorem wl_rangeE {w : World} {ops : Array Oper} {rest : List Oper} {o : Oper} {a : Act} {Q : Exit → Act → World → Prop} (hgd : o.guard = none) (t k et : TypeId) (m : Operand) (ho : o.op = .range t m) (ht : Tryz.prog.underlying t = some (.map k et)) (b : Nat) (hb : w.heap[b]? = some (.map #[] 0)) (hmv : a.eval m = .map (some b)) (N : Nat) (hN : w.heap.size = N)
  (hK : ∀ w', w'.heap[N]? = some (.mapIter (some b) 0 #[] 0) → Below N w w' → w'.heap.size = N + 1 → wpList Tryz.prog ops Q rest (a.put o.dst (.pointer (some ⟨N, 0, none⟩))) w') : wpList Tryz.prog ops Q (o :: rest) a w := by
 subst hN
 have hrun := run_range_map (P := Tryz.prog) w t k et b #[] 0 ht hb
 refine wpList_plain hgd fun K hK' => ?_
 unfold Oper.wp
 simp only [execOp, ho, hmv, hrun, Sem.run_bind, Result.andThen_ok, Sem.run_pure]
 exact hK' _ _ (hK _ (heap_alloc_new w _) ((Below.refl _ _).alloc (Nat.le_refl _) _) (by simp))
theorem wl_nextE {w : World} {ops : Array Oper} {rest : List Oper} {o : Oper} {a : Act} {Q : Exit → Act → World → Prop} (hgd : o.guard = none) (m : Operand) (ho : o.op = .next m false) (b r : Nat) (hb : w.heap[b]? = some (.map #[] 0)) (hr : w.heap[r]? = some (.mapIter (some b) 0 #[] 0)) (hmv : a.eval m = .pointer (some ⟨r, 0, none⟩))
  (hK : wpList Tryz.prog ops Q rest (a.put o.dst (.tuple #[.bool false])) w) : wpList Tryz.prog ops Q (o :: rest) a w := by
 have hrun : (Instr.next (.pointer (some ⟨r, 0, none⟩)) false o.type).run Tryz.prog w = .ok (.tuple #[.bool false]) w := by
  rcases run_next_at (P := Tryz.prog) w o.type r b 0 0 #[] #[] 0 hr hb (fun x hx => by cases hx) (Nat.le_refl _) with ⟨_, h⟩ | ⟨e, he, _⟩
  ·exact h
  ·simp [leftOf] at he
 refine wpList_plain hgd fun K hK' => ?_
 unfold Oper.wp
 simp only [execOp, ho, hmv, hrun, Sem.run_bind, Result.andThen_ok, Sem.run_pure]
 exact hK' _ _ hK
theorem aggKeyS : Agg Tryz.prog 70 84 := .str Tryz.underlying70 (by kernel_rfl)
theorem zeroKeySt : (Tryz.prog.info? 70).map (·.zero) = some (some (.agg keyZ.toArray)) := by kernel_rfl
structure StAfter (w : World) (g mm mk mv : Nat) (cnt tm : Int) (lv fv : List Value) (f : List Int) (ro : Value) : Prop where
 blk : BlkV 160 w g (stC cnt tm lv fv mm mk mv)
 mem : MapD w mm (upd (fun _ => none) f ro)
 keys : MapD w mk (fun _ => none)
 vot : w.heap[mv]? = some (.map #[] 0)
theorem change_ok (g mm mk mv : Nat) (t : Int) (f s : List Int) (bo ro : Value) (w : World) (hf : f.length = 16) (hs : s.length = 32) (hr1 : ro.cells = #[ro]) (hS : StOk w g mm mk mv) (hd : g ≠ mm ∧ g ≠ mk ∧ g ≠ mv ∧ mm ≠ mk ∧ mm ≠ mv ∧ mk ≠ mv) :
  Calls Tryz.prog 156 #[.pointer (some ⟨g, 0, none⟩), .agg (entC t (f.map (Value.int .u8)) bo).toArray, .agg (bodyC (f.map (Value.int .u8)) ro).toArray, sumVV s] w fun e w' => e = .returned (.tuple #[]) ∧ StAfter w' g mm mk mv 0 0 zSum (f.map (Value.int .u8)) f ro ∧ Only w.heap.size [g, mm, mv] w w' := by
 obtain ⟨d1, d2, d3, d4, d5, d6⟩ := hd
 have hFl : (f.map (Value.int .u8)).length = 16 := by rw [List.length_map, hf]
 have hcells := fun (w : World) (g : Nat) (h : BlkV 83 w g (entC t (f.map (Value.int .u8)) bo)) => hid (ent_cells hFl h)
 have hkey := fun (w : World) (g : Nat) (h : BlkV 83 w g (entC t (f.map (Value.int .u8)) bo)) => hid (ent_key hFl h)
 have hmem := fun (w : World) (g : Nat) (h : BlkV 42 w g (bodyC (f.map (Value.int .u8)) ro)) => hid (body_member hFl h)
 have hrol := fun (w : World) (g : Nat) (h : BlkV 42 w g (bodyC (f.map (Value.int .u8)) ro)) => hid ((h.cell 17).trans (bodyC_tail hFl 0))
 obtain ⟨CS, HCS⟩ := hidE (entC t (f.map (Value.int .u8)) bo)
 obtain ⟨BS, HBS⟩ := hidE (bodyC (f.map (Value.int .u8)) ro)
 rw [← HCS.out] at hcells hkey ⊢
 rw [← HBS.out] at hmem hrol ⊢
 obtain ⟨F, HF⟩ := hidE (f.map (Value.int .u8))
 have hF1 : ∀ u ∈ F, u.oneCell' = true := by rw [HF.out]; exact ints_one _ _
 have HFI : Hid (Value.agg F.toArray = idV f) := hid (by rw [HF.out]; rfl)
 rw [← HF.out] at hmem hFl ⊢
 obtain ⟨ZI, HZI⟩ := hidE zID
 have hZIl : ZI.length = 16 := by rw [HZI.out]; rfl
 have HZV : Hid (Value.agg ZI.toArray = idV (List.replicate 16 0)) := hid (by rw [HZI.out]; rfl)
 rw [← HZI.out] at hkey
 obtain ⟨SV, HSV⟩ := hidE (s.map (Value.int .u8))
 have hSVl : SV.length = 32 := by rw [HSV.out, List.length_map, hs]
 have HSS : Hid (Value.agg SV.toArray = sumVV s) := hid (by rw [HSV.out]; rfl)
 rw [← HSS.out]
 have hKl : keyZ.length = 84 := by rfl
 have hK1 : ∀ u ∈ keyZ, u.oneCell' = true := by decide
 have hzk := hid zeroKeySt
 obtain ⟨KZ, HKZ⟩ := hidE keyZ
 have hzKS := hid zeroKeyS
 rw [← HKZ.out] at hKl hK1 hzk hzKS
 have hS0 := hid hS
 obtain ⟨hSblk, hSmm, hSmk, hSmv⟩ := hS
 have hgw := hSblk.lt
 have hmmw := hSmm.lt
 have hmkw := hSmk.lt
 have hmvw := (Array.getElem?_eq_some_iff.1 hSmv).1
 have HSL := hid (stC_len (cnt := 0) (tm := 0) (lv := zSum) (gv := zID) (mm := mm) (mk := mk) (mv := mv) rfl rfl)
 have HSF := hid (stC_founder (cnt := 0) (tm := 0) (lv := zSum) (gv := zID) (hv := F) (mm := mm) (mk := mk) (mv := mv) rfl rfl)
 have hc1 := fun (w' : World) (h : BlkV 160 w' g (stC 0 0 zSum zID mm mk mv)) => hid (st_cells rfl rfl h)
 have hc2 := fun (w' : World) (h : BlkV 160 w' g (stC 0 0 zSum F mm mk mv)) => hid (st_cells rfl hFl h)
 obtain ⟨ST1, HST1⟩ := hidE (stC 0 0 zSum zID mm mk mv)
 obtain ⟨ST2, HST2⟩ := hidE (stC 0 0 zSum F mm mk mv)
 rw [← HST1.out] at hc1 HSL HSF hSblk
 rw [← HST2.out] at hc2 HSF
 have HP : Hid (∀ w', BlkV 160 w' g ST2 → MapD w' mm (upd (fun _ => none) f ro) → MapD w' mk (fun _ => none) → w'.heap[mv]? = some (.map #[] 0) → StAfter w' g mm mk mv 0 0 zSum F f ro) := hid (fun w' h1 h2 h3 h4 => ⟨by rw [← HST2.out]; exact h1, h2, h3, h4⟩)
 obtain ⟨B, hsz⟩ := szE w
 rw [hsz] at hgw hmmw hmkw hmvw ⊢
 have hiF : (Tryz.prog.info? 25).map (·.size) = some F.length := by rw [hFl]; exact aggIDT.2
 have hiZI : (Tryz.prog.info? 25).map (·.size) = some ZI.length := by rw [hZIl]; exact aggIDT.2
 have hiSV : (Tryz.prog.info? 39).map (·.size) = some SV.length := by rw [hSVl]; exact aggSumT.2
 go_enter Tryz.func156, Tryz.ntmps156
 go_wp2_with (first
  | (refine wl_boxV rfl 39 _ rfl SV rfl (B + 3) (by omega) ?_; intro w4 hQ4 hb4 hs4; have hP4 := hP3.below hb4 (by omega); have hE4 := hE3.below hb4 (by omega); have hY4 := hY3.below hb4 (by omega); have bb4 : Below B w w4 := bb3.trans (hb4.mono (by omega)))
  | (refine wl_boxV rfl 42 _ rfl BS rfl (B + 2) (by omega) ?_; intro w3 hY3 hb3 hs3; have hP3 := hP2.below hb3 (by omega); have hE3 := hE2.below hb3 (by omega); have bb3 : Below B w w3 := bb2.trans (hb3.mono (by omega)))
  | (refine wl_boxV rfl 83 _ rfl CS rfl (B + 1) (by omega) ?_; intro w2 hE2 hb2 hs2; have hP2 := hP1.below hb2 (by omega); have bb2 : Below B w w2 := bb1.trans (hb2.mono (by omega)))
  | (refine wl_box1 rfl 76 _ rfl (.pointer (some ⟨g, 0, none⟩)) rfl rfl B hsz ?_; intro w1 hP1 bb1 hs1))
 have hS4 := hSblk.below bb4 hgw
 have hmm4 := hSmm.below bb4 hmmw
 have hmk4 := hSmk.below bb4 hmkw
 have hmv4 : w4.heap[mv]? = some (.map #[] 0) := (bb4.block _ hmvw).trans hSmv
 have hSS : ∀ w', Below (B + 4) w4 w' → (w'.cell? ⟨B, 0, none⟩ = some (.pointer (some ⟨g, 0, none⟩)) ∧ w'.cell? ⟨g, 53, none⟩ = some (.map (some mk)) ∧ w'.rangeAt (B + 1) 19 ZI ∧ MapD w' mk (fun _ => none)) := fun w' hb => by
  exact ⟨((hP4.below hb (by omega)).cell 0).trans rfl, ((hc1 _ (hS4.below hb (by omega))).out).2.2.2.2.2.1, at_range (hkey _ _ (hE4.below hb (by omega))).out, hmk4.below hb (by omega)⟩
 refine wp_region_held_drew (S := (fun w' => w'.cell? ⟨B, 0, none⟩ = some (.pointer (some ⟨g, 0, none⟩)) ∧ w'.cell? ⟨g, 53, none⟩ = some (.map (some mk)) ∧ w'.rangeAt (B + 1) 19 ZI ∧ MapD w' mk (fun _ => none))) (by kernel_rfl) (hSS _ (bdN (Below.refl _ _) 1)) (fun hHeld => ?_)
 obtain ⟨x0, HX0⟩ := hidE w4.drew
 rw [← HX0.out] at hHeld ⊢
 have bx0 : Below (B + 4) w4 x0 := by rw [HX0.out]; exact (Below.refl _ _).drew
 have hs0 : x0.heap.size = w4.heap.size := by rw [HX0.out]; rfl
 refine tq 0 rfl ?_
 refine tq 1 rfl ?_
 refine tq 2 rfl ?_
 refine tq 3 rfl ?_
 refine tq 4 rfl ?_
 refine tk 5 rfl (yieldsIf_load_mid (by rfl) 25 _ rfl (B + 1) 19 rfl ZI _ (fun w hS => hS.2.2.1) Tryz.underlying25 rfl hiZI) ?_
 refine tk 6 rfl (yieldsIf_lookD (by rfl) _ 70 _ _ false rfl (by kernel_rfl) (.agg KZ.toArray) hzKS.out mk (fun _ => none) (fun w hS => hS.2.2.2) (List.replicate 16 0) (by simp) (.agg ZI.toArray) HZV.out rfl rfl (.agg KZ.toArray) rfl) ?_
 refine e1 7 rfl fun K' hK' => ?_
 obtain ⟨X, HX⟩ := hidE x0.heap.size
 refine step_allocV rfl 70 rfl KZ hzk.out X HX.out.symm ?_
 intro x1 hX1 hb1 hsz1
 have hBX : B + 4 ≤ X := by rw [HX.out]; omega
 have bx1 : Below (B + 4) w4 x1 := bx0.trans (hb1.mono (by omega))
 refine ko hK' (hSS _ bx1) fun hHeld => ?_
 clear hK' K'
 refine e1 8 rfl fun K' hK' => ?_
 refine step_storeV rfl 70 _ _ rfl 70 X rfl KZ rfl 84 aggKeyS hKl KZ hX1 hKl hK1 ?_
 intro x2 hX2 hb2 hsz2
 have bx2 : Below (B + 4) w4 x2 := bx1.trans (hb2.mono (by omega))
 refine ko hK' (hSS _ bx2) fun hHeld => ?_
 clear hK' K'
 refine wpAnyH_done (by kernel_rfl) ?_ _
 clear hHeld hSS
 have hP5 := hP4.below bx2 (by omega)
 have hE5 := hE4.below bx2 (by omega)
 have hY5 := hY4.below bx2 (by omega)
 have hQ5 := hQ4.below bx2 (by omega)
 have hS5 := hS4.below bx2 (by omega)
 have hmm5 := hmm4.below bx2 (by omega)
 have hmk5 := hmk4.below bx2 (by omega)
 have hmv5 : x2.heap[mv]? = some (.map #[] 0) := (bx2.block _ (by omega)).trans hmv4
 have ho5 : Only B [g, mm, mv] w x2 := (Only.of bb4 (Nat.le_refl _)).trans (Only.of bx2 (by omega))
 clear hP4 hE4 hY4 hQ4 hS4 hmm4 hmk4 hmv4 bb4
 obtain ⟨c0, c1, c2, c67⟩ := (hcells _ _ hE5).out
 obtain ⟨s0, s1, s34, s35, s52, s53, s54⟩ := (hc1 _ hS5).out
 have p0 : x2.cell? ⟨B, 0, none⟩ = some (.pointer (some ⟨g, 0, none⟩)) := (hP5.cell 0).trans rfl
 go_wp2_with (first
  | (refine wl_storeP rfl 25 _ _ rfl 160 g 36 rfl F rfl 16 aggIDT hFl ST1 hS5 (by rw [HSL.out]; decide) hF1 ST2 HSF.out ?_; intro w6 hS6 hb6 hg6 hs6)
  | (refine wl_loadG (by rfl) 25 _ rfl ⟨B + 2, 1, none⟩ rfl 16 F hFl aggIDT (hmem _ _ hY5).out ?_))
 have kp := fun (k : Nat) (hk : k ≠ g) => (fun e => hk (by injection e with e; exact e.symm) : ¬ (some g = some k))
 have hP6 := hP5.grown hg6 (kp _ (by omega))
 have hE6 := hE5.grown hg6 (kp _ (by omega))
 have hY6 := hY5.grown hg6 (kp _ (by omega))
 have hQ6 := hQ5.grown hg6 (kp _ (by omega))
 have hmm6 := hmm5.grown hg6 (kp _ d1.symm)
 have hmk6 := hmk5.grown hg6 (kp _ d2.symm)
 have hmv6 : w6.heap[mv]? = some (.map #[] 0) := (hg6.block _ (Array.getElem?_eq_some_iff.1 hmv5).1 (fun e => by injection e with e; exact d3 e.symm)).trans hmv5
 have hsx2 : B + 4 ≤ x2.heap.size := by omega
 have ho6 := ho5.trans (Only.ofG (B := B) (ks := [g, mm, mv]) hg6 (by omega) (fun k hk => by injection hk with hk; right; rw [← hk]; simp))
 clear hP5 hE5 hY5 hQ5 hS5 hmm5 hmk5 hmv5 ho5 s0 s1 s34 s35 s52 s53 s54 c0 c1 c2 c67 p0
 have kq := fun (k : Nat) (hk : k ≠ mm) => (fun e => hk (by injection e with e; exact e.symm) : ¬ (some mm = some k))
 have hSS : ∀ w', BlkV 76 w' B [.pointer (some ⟨g, 0, none⟩)] → BlkV 160 w' g ST2 → BlkV 42 w' (B + 2) BS → (w'.cell? ⟨B, 0, none⟩ = some (.pointer (some ⟨g, 0, none⟩)) ∧ w'.cell? ⟨g, 52, none⟩ = some (.map (some mm)) ∧ w'.rangeAt (B + 2) 1 F ∧ w'.cell? ⟨B + 2, 17, none⟩ = some ro) := fun w' h1 h2 h3 => ⟨(h1.cell 0).trans rfl, ((hc2 _ h2).out).2.2.2.2.1, at_range (hmem _ _ h3).out, (hrol _ _ h3).out⟩
 refine wp_region_held_drew (S := (fun w' => w'.cell? ⟨B, 0, none⟩ = some (.pointer (some ⟨g, 0, none⟩)) ∧ w'.cell? ⟨g, 52, none⟩ = some (.map (some mm)) ∧ w'.rangeAt (B + 2) 1 F ∧ w'.cell? ⟨B + 2, 17, none⟩ = some ro)) (by kernel_rfl) (hSS w6.drew hP6 hS6 hY6) (fun hHeld => ?_)
 obtain ⟨x0, HX0'⟩ : ∃ x, Hid (x = w6.drew) := ⟨_, rfl⟩
 rw [← HX0'.out] at hHeld ⊢
 have hP7 : BlkV 76 x0 B [.pointer (some ⟨g, 0, none⟩)] := by rw [HX0'.out]; exact hP6
 have hE7 : BlkV 83 x0 (B + 1) CS := by rw [HX0'.out]; exact hE6
 have hY7 : BlkV 42 x0 (B + 2) BS := by rw [HX0'.out]; exact hY6
 have hQ7 : BlkV 39 x0 (B + 3) SV := by rw [HX0'.out]; exact hQ6
 have hS7 : BlkV 160 x0 g ST2 := by rw [HX0'.out]; exact hS6
 have hmm7 : MapD x0 mm (fun _ => none) := by rw [HX0'.out]; exact hmm6
 have hmk7 : MapD x0 mk (fun _ => none) := by rw [HX0'.out]; exact hmk6
 have hmv7 : x0.heap[mv]? = some (.map #[] 0) := by rw [HX0'.out]; exact hmv6
 have ho7 : Only B [g, mm, mv] w x0 := by rw [HX0'.out]; exact ⟨ho6.os, ho6.tape, ho6.output, ho6.size, ho6.block⟩
 have hs7 : B + 4 ≤ x0.heap.size := by rw [HX0'.out]; show B + 4 ≤ w6.heap.size; omega
 clear hP6 hE6 hY6 hQ6 hS6 hmm6 hmk6 hmv6 ho6
 refine tq 0 rfl ?_
 refine tq 1 rfl ?_
 refine tq 2 rfl ?_
 refine tq 3 rfl ?_
 refine tq 4 rfl ?_
 refine tk 5 rfl (yieldsIf_load_mid (by rfl) 25 _ rfl (B + 2) 1 rfl F _ (fun w hS => hS.2.2.1) Tryz.underlying25 rfl hiF) ?_
 refine tq 6 rfl ?_
 refine tq 7 rfl ?_
 refine e1 8 rfl fun K' hK' => ?_
 refine step_updD rfl _ 26 _ _ _ rfl (by kernel_rfl) mm (fun _ => none) hmm7 f hf (.agg F.toArray) HFI.out rfl rfl ro rfl ?_
 intro x1 hmm8 hbm8 hs8 hg8
 have hP8 := hP7.grown hg8 (kq _ (by omega))
 have hE8 := hE7.grown hg8 (kq _ (by omega))
 have hY8 := hY7.grown hg8 (kq _ (by omega))
 have hQ8 := hQ7.grown hg8 (kq _ (by omega))
 have hS8 := hS7.grown hg8 (kq _ d1)
 have hmk8 := hmk7.grown hg8 (kq _ d4.symm)
 have hmv8 : x1.heap[mv]? = some (.map #[] 0) := (hg8.block _ (Array.getElem?_eq_some_iff.1 hmv7).1 (fun e => by injection e with e; exact d5 e.symm)).trans hmv7
 have ho8 := ho7.trans (Only.ofG (B := B) (ks := [g, mm, mv]) hg8 (by omega) (fun k hk => by injection hk with hk; right; rw [← hk]; simp))
 refine ko hK' (hSS _ hP8 hS8 hY8) fun hHeld => ?_
 clear hK' K'
 refine wpAnyH_done (by kernel_rfl) ?_ _
 clear hHeld hSS hP7 hE7 hY7 hQ7 hS7 hmm7 hmk7 hmv7 ho7
 obtain ⟨c0, c1, c2, c67⟩ := (hcells _ _ hE8).out
 go_wp2_with fail
 have kr := fun (k : Nat) (hk : k ≠ mv) => (fun e => hk (by injection e with e; exact e.symm) : ¬ (some mv = some k))
 have hSS : ∀ w', BlkV 76 w' B [.pointer (some ⟨g, 0, none⟩)] → BlkV 160 w' g ST2 → BlkV 39 w' (B + 3) SV → (w'.cell? ⟨B, 0, none⟩ = some (.pointer (some ⟨g, 0, none⟩)) ∧ w'.cell? ⟨g, 54, none⟩ = some (.map (some mv)) ∧ w'.rangeAt (B + 3) 0 SV) := fun w' h1 h2 h3 => ⟨(h1.cell 0).trans rfl, ((hc2 _ h2).out).2.2.2.2.2.2, at_range h3.at0⟩
 refine wp_region_held_drew (S := (fun w' => w'.cell? ⟨B, 0, none⟩ = some (.pointer (some ⟨g, 0, none⟩)) ∧ w'.cell? ⟨g, 54, none⟩ = some (.map (some mv)) ∧ w'.rangeAt (B + 3) 0 SV)) (by kernel_rfl) (hSS x1.drew hP8 hS8 hQ8) (fun hHeld => ?_)
 obtain ⟨y0, HY0⟩ := hidE x1.drew
 rw [← HY0.out] at hHeld ⊢
 have hP9 : BlkV 76 y0 B [.pointer (some ⟨g, 0, none⟩)] := by rw [HY0.out]; exact hP8
 have hQ9 : BlkV 39 y0 (B + 3) SV := by rw [HY0.out]; exact hQ8
 have hS9 : BlkV 160 y0 g ST2 := by rw [HY0.out]; exact hS8
 have hmm9 : MapD y0 mm (upd (fun _ => none) f ro) := by rw [HY0.out]; exact hmm8
 have hmk9 : MapD y0 mk (fun _ => none) := by rw [HY0.out]; exact hmk8
 have hmv9 : y0.heap[mv]? = some (.map #[] 0) := by rw [HY0.out]; exact hmv8
 have ho9 : Only B [g, mm, mv] w y0 := by rw [HY0.out]; exact ⟨ho8.os, ho8.tape, ho8.output, ho8.size, ho8.block⟩
 have hs9 : B + 4 ≤ y0.heap.size := by rw [HY0.out]; show B + 4 ≤ x1.heap.size; omega
 clear hP8 hE8 hY8 hQ8 hS8 hmm8 hmk8 hmv8 ho8
 refine tq 0 rfl ?_
 refine tq 1 rfl ?_
 refine tq 2 rfl ?_
 refine tq 3 rfl ?_
 refine tk 4 rfl (yieldsIf_load_mid (by rfl) 39 _ rfl (B + 3) 0 rfl SV _ (fun w hS => hS.2.2) Tryz.underlying39 rfl hiSV) ?_
 refine e1 5 rfl fun K' hK' => ?_
 refine step_delE rfl _ 203 _ _ rfl (by kernel_rfl) mv hmv9 s hs (.agg SV.toArray) HSS.out rfl rfl ?_
 intro x2 hmvA hgA
 have hPA := hP9.grown hgA (kr _ (by omega))
 have hQA := hQ9.grown hgA (kr _ (by omega))
 have hSA := hS9.grown hgA (kr _ d3)
 have hmmA := hmm9.grown hgA (kr _ d5)
 have hmkA := hmk9.grown hgA (kr _ d6)
 have hsA : B + 4 ≤ x2.heap.size := by have := hgA.size; omega
 have hoA := ho9.trans (Only.ofG (B := B) (ks := [g, mm, mv]) hgA (by omega) (fun k hk => by injection hk with hk; right; rw [← hk]; simp))
 refine ko hK' (hSS _ hPA hSA hQA) fun hHeld => ?_
 clear hK' K'
 refine wpAnyH_done (by kernel_rfl) ?_ _
 clear hHeld hSS hP9 hQ9 hS9 hmm9 hmk9 hmv9 ho9
 have p0 : x2.cell? ⟨B, 0, none⟩ = some (.pointer (some ⟨g, 0, none⟩)) := (hPA.cell 0).trans rfl
 have s54 := ((hc2 _ hSA).out).2.2.2.2.2.2
 obtain ⟨RI, HRI⟩ := hidE x2.heap.size
 go_wp2_with (first | (refine wl_rangeE rfl _ 39 203 _ rfl (by kernel_rfl) mv hmvA rfl RI HRI.out.symm ?_; intro y3 hit hb3 hs3))
 have hRB : B + 4 ≤ RI := by rw [HRI.out]; exact hsA
 have hSB := hSA.below hb3 (by omega)
 have hmmB := hmmA.below hb3 (by omega)
 have hmkB := hmkA.below hb3 (by omega)
 have hmvB : y3.heap[mv]? = some (.map #[] 0) := (hb3.block _ (by omega)).trans hmvA
 have hoB := hoA.trans (Only.of hb3 (by omega))
 clear hPA hQA hSA hmmA hmkA hmvA hoA p0 s54
 simp only [Act.put, fpA, fpZ, fpN]
 go_loopw [11, 12] (fun _ _ wr => wr = y3) (fun _ _ _ => 0)
 case atStart => exact rfl
 case round =>
  subst hrel
  go_wp2_with (first | (refine wl_nextE rfl _ rfl mv RI hmvB hit rfl ?_))
  (try simp only [Exit.inBlock, Exit.then]); refine bodyPost_end (results_none rfl _ _ _) rfl ?_
  exact ⟨rfl, HP.out _ hSB hmmB hmkB hmvB, hoB⟩
end Go.Proofs.YtdhipjoplkpgmaaGreatDoor.hf
namespace Go.Proofs.YtdhipjoplkpgmaaGreatDoor.hf
open Go.RowKit st hs wr shr sh lk
section
variable {t : Int} {fv dv : List Value} {w : World} {g : Nat}
theorem askC_tail (h : fv.length = 16) (j : Nat) : (askC t fv dv)[16 + j]? = (.slice none 0 0 :: .int .i64 2 :: .string ⟨#[]⟩ :: (zID ++ (.int .i64 t :: dv)))[j]? := by
 unfold askC
 rw [show 16 + j = fv.length + j by omega, List.getElem?_append_right (by omega), Nat.add_sub_cancel_left]
theorem ask_cells (h : fv.length = 16) (hB : BlkV 165 w g (askC t fv dv)) : w.cell? ⟨g, 16, none⟩ = some (.slice none 0 0) ∧ w.cell? ⟨g, 17, none⟩ = some (.int .i64 2) ∧ w.cell? ⟨g, 18, none⟩ = some (.string ⟨#[]⟩) ∧ w.cell? ⟨g, 35, none⟩ = some (.int .i64 t) :=
 ⟨(hB.cell 16).trans (askC_tail h 0), (hB.cell 17).trans (askC_tail h 1), (hB.cell 18).trans (askC_tail h 2), (hB.cell 35).trans (askC_tail h 19)⟩
theorem ask_actor (hB : BlkV 165 w g (askC t fv dv)) : At w ⟨g, 0, none⟩ fv := hB.at 0 fv fun j u hu => by
 have hj := (List.getElem?_eq_some_iff.1 hu).1
 unfold askC
 rw [Nat.zero_add, List.getElem?_append_left hj]; exact hu
theorem ask_key (h : fv.length = 16) (hB : BlkV 165 w g (askC t fv dv)) : At w ⟨g, 19, none⟩ zID := hB.at 19 zID fun j u hu => by
 have hj := (List.getElem?_eq_some_iff.1 hu).1
 rw [show 19 + j = 16 + (j + 1 + 1 + 1) by omega, askC_tail h, List.getElem?_cons_succ, List.getElem?_cons_succ, List.getElem?_cons_succ, List.getElem?_append_left hj]; exact hu
theorem ask_detail (h : fv.length = 16) (hB : BlkV 165 w g (askC t fv dv)) : At w ⟨g, 36, none⟩ dv := hB.at 36 dv fun j u hu => by
 rw [show 36 + j = 16 + ((zID.length + (j + 1)) + 1 + 1 + 1) by rw [show zID.length = 16 from rfl]; omega, askC_tail h, List.getElem?_cons_succ, List.getElem?_cons_succ, List.getElem?_cons_succ, List.getElem?_append_right (Nat.le_add_right _ _), Nat.add_sub_cancel_left, List.getElem?_cons_succ]; exact hu
end
theorem polAct (w : World) : Calls Tryz.prog 351 #[.int .i64 2] w fun e w' => e = .returned (.bool true) ∧ w = w' := by
 go_enter Tryz.func351, Tryz.ntmps351
 go_wp2
 go_ret
 exact ⟨rfl, rfl⟩
theorem polOut (n : Int) (w : World) (h : timeE n = 0) : Calls Tryz.prog 353 #[.int .i64 n, .int .i64 0, .int .i64 1099511627776] w fun e w' => e = .returned (.bool false) ∧ w = w' := by
 have h1 : decide (n < 0) = false := by
  unfold timeE at h
  split at h
  ·cases h
  ·rename_i g; simp; omega
 have h2 : decide (1099511627776 < n) = false := by
  unfold timeE at h
  split at h
  ·cases h
  ·rename_i g; simp; omega
 clear h
 go_enter Tryz.func353, Tryz.ntmps353
 go_wp2
 go_ret
 exact ⟨rfl, rfl⟩
theorem IndexF_nil (v : Value) (w : World) : Calls Tryz.prog 360 #[.slice none 0 0, v] w fun e w' => e = .returned (.int .i64 (-1)) ∧ w = w' := by
 go_enter Tryz.func360, Tryz.ntmps360
 go_wp2
 go_loopw [5, 8] (fun _ i wr => i = .int .i64 0 ∧ wr = w) (fun _ _ _ => 0)
 case atStart => exact ⟨rfl, rfl⟩
 case round =>
  obtain ⟨rfl, rfl⟩ := hrel
  go_wp2
  go_ret
  exact ⟨rfl, rfl⟩
theorem ContainsF_nil (v : Value) (w : World) : Calls Tryz.prog 269 #[.slice none 0 0, v] w fun e w' => e = .returned (.bool false) ∧ w = w' := by
 go_enter Tryz.func269, Tryz.ntmps269
 go_wp2_with (go_at_call 360; refine (IndexF_nil v w).mono ?_; rintro e w1 ⟨rfl, rfl⟩)
 go_ret
 exact ⟨rfl, rfl⟩
theorem rising_nil (w : World) : Calls Tryz.prog 352 #[.slice none 0 0] w fun e w' => e = .returned (.bool true) ∧ w = w' := by
 go_enter Tryz.func352, Tryz.ntmps352
 go_wp2
 go_loopw [3] (fun i wr => i = .int .i64 1 ∧ wr = w) (fun _ _ => 0)
 case atStart => exact ⟨rfl, rfl⟩
 case round =>
  obtain ⟨rfl, rfl⟩ := hrel
  go_wp2
  go_ret
  exact ⟨rfl, rfl⟩
theorem CheckAsk_ok (t : Int) (fv dv : List Value) (hf : fv.length = 16) (ht : timeE t = 0) (w : World) : Calls Tryz.prog 254 #[.agg (askC t fv dv).toArray] w fun e w' => e = .returned (.int .i64 0) ∧ Below w.heap.size w w' := by
 have hcells := fun (w : World) (g : Nat) (h : BlkV 165 w g (askC t fv dv)) => hid (ask_cells hf h)
 have hout := fun w => hid (polOut t w ht)
 obtain ⟨CS, HCS⟩ := hidE (askC t fv dv)
 rw [← HCS.out] at hcells ⊢
 obtain ⟨B, hsz⟩ := szE w
 rw [hsz]
 clear ht
 go_enter Tryz.func254, Tryz.ntmps254
 go_wp2_with (first
  | (go_at_call 351; refine (polAct w1).mono ?_; rintro e w2 ⟨rfl, rfl⟩)
  | (go_at_call 269; refine (ContainsF_nil _ w1).mono ?_; rintro e w2 ⟨rfl, rfl⟩)
  | (go_at_call 352; refine (rising_nil w1).mono ?_; rintro e w2 ⟨rfl, rfl⟩)
  | (go_at_call 353; refine (hout w1).out.mono ?_; rintro e w2 ⟨rfl, rfl⟩)
  | (refine wl_boxV rfl 165 _ rfl CS rfl B hsz ?_; intro w1 hB1 bb1 hs1; obtain ⟨c16, c17, c18, c35⟩ := (hcells _ _ hB1).out))
 go_ret
 exact ⟨rfl, bb1⟩
theorem wl_lit0 {w : World} {ops : Array Oper} {rest : List Oper} {o : Oper} {a : Act} {Q : Exit → Act → World → Prop} (hgd : o.guard = none) (ho : o.op = .buildSlice 61 0 #[]) (N : Nat) (hN : w.heap.size = N)
  (h : ∀ w', Mine w' N 5 1 (.slice (some ⟨N, 0, none⟩) 0 0) 0 [] → Below N w w' → w'.heap.size = N + 1 → wpList Tryz.prog ops Q rest (a.put o.dst (.slice (some ⟨N, 0, none⟩) 0 0)) w') : wpList Tryz.prog ops Q (o :: rest) a w := by
 subst hN
 obtain ⟨i, hi, hz, hsi, hby⟩ := info8.parts
 have hrun : (Instr.buildSlice 61 0 #[]).run Tryz.prog w = .ok (.slice (some ⟨w.heap.size, 0, none⟩) 0 0) (w.alloc (.cells #[] 5)) := by
  have e0 : (Array.range 0).map (fun _ : Nat => (default : Value)) = #[] := by simp
  simp [Instr.buildSlice, e0, run_underlying Tryz.underlying61, sizeOf, typeInfo, hi, Instr.fill, newRow, Result.andThen]
 refine wpList_plain hgd fun K hK' => ?_
 unfold Oper.wp
 simp [execOp, ho, hrun, Result.andThen]
 exact hK' _ _ (h _ (Or.inl ⟨rfl, Or.inr ⟨w.heap.size, 0, #[], rfl, Nat.le_refl _, heap_alloc_new w _, Nat.le_refl _, Nat.zero_le _, rfl, rfl⟩⟩) ((Below.refl _ _).alloc (Nat.le_refl _) _) (by simp))
theorem AskSum_ok (t : Int) (f d : List Int) (hf : f.length = 16) (of : Octs f) (hd : d.length = 32) (od : Octs d) (ht : timeE t = 0) (w : World) : Calls Tryz.prog 148 #[.agg (askC t (f.map (Value.int .u8)) (d.map (Value.int .u8))).toArray] w fun e w' => (∃ S : List Int, S.length = 32 ∧ e = .returned (.tuple #[.agg (S.map (Value.int .u8)).toArray, .int .i64 0])) ∧ Below w.heap.size w w' := by
 have hFl : (f.map (Value.int .u8)).length = 16 := by rw [List.length_map, hf]
 have hDl : (d.map (Value.int .u8)).length = 32 := by rw [List.length_map, hd]
 have hck := fun w => hid (CheckAsk_ok t (f.map (Value.int .u8)) (d.map (Value.int .u8)) hFl ht w)
 have hCl := askC_len (t := t) hFl hDl
 have hcells := fun (w : World) (g : Nat) (h : BlkV 165 w g (askC t (f.map (Value.int .u8)) (d.map (Value.int .u8)))) => hid (ask_cells hFl h)
 have hact := fun (w : World) (g : Nat) (h : BlkV 165 w g (askC t (f.map (Value.int .u8)) (d.map (Value.int .u8)))) => hid (ask_actor h)
 have hkey := fun (w : World) (g : Nat) (h : BlkV 165 w g (askC t (f.map (Value.int .u8)) (d.map (Value.int .u8)))) => hid (ask_key hFl h)
 have hdet := fun (w : World) (g : Nat) (h : BlkV 165 w g (askC t (f.map (Value.int .u8)) (d.map (Value.int .u8)))) => hid (ask_detail hFl h)
 obtain ⟨CS, HCS⟩ := hidE (askC t (f.map (Value.int .u8)) (d.map (Value.int .u8)))
 rw [← HCS.out] at hck hcells hact hkey hdet hCl ⊢
 have HLO : Hid (Octs (((f ++ [2]) ++ List.replicate 16 0) ++ d)) := hid (octs_app (octs_app (octs_app of (by intro c hc; rw [List.mem_singleton.1 hc]; exact ⟨by decide, by decide⟩)) (zeros_oct _)) od)
 have HLL : Hid ((((f ++ [2]) ++ List.replicate 16 0) ++ d).length = 65) := hid (by simp [hf, hd])
 have hso := fun (w' : World) (a1 : Option Addr) (c1 : Nat) (h1 : Pt.Ok w' ⟨a1, c1, ((f ++ [2]) ++ List.replicate 16 0) ++ d⟩) => hid (sumOf_in 5 ⟨by decide, by decide⟩ a1 c1 65 _ w' (by simp [hf, hd]) h1 (by decide))
 obtain ⟨SI, HSI⟩ : ∃ l : List Int, Hid (l = sumL 5 (((f ++ [2]) ++ List.replicate 16 0) ++ d)) := ⟨_, hid rfl⟩
 have hSIl : SI.length = 32 := by rw [HSI.out, sumL_length]
 rw [← HSI.out] at hso
 have HP : Hid (∀ w', Below w.heap.size w w' → (∃ S : List Int, S.length = 32 ∧ Ending.returned (.tuple #[.agg (SI.map (Value.int .u8)).toArray, .int .i64 0]) = .returned (.tuple #[.agg (S.map (Value.int .u8)).toArray, .int .i64 0])) ∧ Below w.heap.size w w') := hid (fun w' hb => ⟨⟨SI, hSIl, rfl⟩, hb⟩)
 obtain ⟨S, HS⟩ := hidE (SI.map (Value.int .u8))
 have hSl : S.length = 32 := by rw [HS.out, List.length_map, hSIl]
 have hS1 : ∀ u ∈ S, u.oneCell' = true := by rw [HS.out]; exact ints_one _ _
 rw [← HS.out] at hso HP
 obtain ⟨Z, HZ⟩ := hidE zSum
 have hz := hid zeroSumZ
 have hZl : Z.length = 32 := by rw [HZ.out]; rfl
 rw [← HZ.out] at hz
 have hl16 : (f.map (Value.int .u8)).length = 16 * 1 := hFl
 have hl32 : (d.map (Value.int .u8)).length = 32 * 1 := hDl
 have hal1 : Tryz.prog.arrayLen 25 = 16 := by kernel_rfl
 have hal2 : Tryz.prog.arrayLen 39 = 32 := by kernel_rfl
 have hfi := hid hf
 have hdi := hid hd
 obtain ⟨B, hsz⟩ := szE w
 rw [hsz] at HP ⊢
 obtain ⟨Q, HQ⟩ : ∃ Q : Ending → World → Prop, Hid (Q = fun e w' => (∃ S : List Int, S.length = 32 ∧ e = .returned (.tuple #[.agg (S.map (Value.int .u8)).toArray, .int .i64 0])) ∧ Below B w w') := ⟨_, rfl⟩
 rw [← HQ.out]
 have HPQ : Hid (∀ w', Below B w w' → Q (.returned (.tuple #[.agg S.toArray, .int .i64 0])) w') := hid (by rw [HQ.out]; exact HP.out)
 clear hFl hDl ht hf hd of od HP
 go_enter Tryz.func148, Tryz.ntmps148
 go_wp2_with (first
  | (at_builtin; refine wl_appendS rfl _ _ 61 rfl 5 (.int .u8 0) 1 1 Tryz.underlying61 info8 rfl (by decide) (B + 2) _ 0 _ rfl hO4 (some ⟨B, 0, none⟩) 16 16 rfl (fun h => by cases h) (f.map (Value.int .u8)) hl16 (at_row (by omega) (hact _ _ hE4).out) (ints_one _ _) (by unfold maxLen; omega) (by omega) (by omega) 16 rfl ?_; intro a5 c5 w5 row5 hc5 hM5 hV5 hg5 hr5; have hE5 := blk_grown hE4 hg5 (fun k hk => (hr5 k hk).1) (by omega); have hT5 := blk_grown hT4 hg5 (fun k hk => (hr5 k hk).1) (by omega); have bb5 : Below B w w5 := bb4.grown hg5 (by omega) (fun k hk => by have := (hr5 k hk).1; omega); have hs5 : B + 2 ≤ w5.heap.size := (by have := hg5.size; omega))
  | (obtain ⟨M, HM⟩ := hidE w3.heap.size; have hsM : w3.heap.size = M := HM.out.symm; have hBM : B + 2 ≤ M := (by have := hb3.size; omega); refine wl_lit0 rfl rfl M hsM ?_; intro w4 hO4' hb4 hs4; have hO4 := hO4'.mono (by omega : B + 2 ≤ M); have hE4 := hE3.below hb4 (by omega); have hT4 := hT3.below hb4 (by omega); have bb4 : Below B w w4 := bb3.trans (hb4.mono (by omega)))
  | (go_at_call 254; refine (hck w2).out.mono ?_; rintro e w3 ⟨rfl, hb3⟩; have hT3 := hT2.below hb3 hT2.lt; have hE3 := hE2.below hb3 hE2.lt; have bb3 : Below B w w3 := bb2.trans (hb3.mono (by omega)))
  | (refine wl_loadG (by rfl) 165 _ rfl ⟨B, 0, none⟩ rfl 68 CS hCl aggAsk hE2.at0 ?_)
  | (refine wl_allocV rfl 39 rfl Z hz.out (B + 1) (by omega) ?_; intro w2 hT2 hb2 hs2; have hE2 := hE1.below hb2 (by omega); have bb2 : Below B w w2 := bb1.trans (hb2.mono (by omega)))
  | (refine wl_boxV rfl 165 _ rfl CS rfl B hsz ?_; intro w1 hE1 bb1 hs1))
 have hcell2 := fun (w' : World) (h : BlkV 165 w' B CS) => (hcells w' B h).out.2.1
 refine wp_region_held_drew (S := (fun w' => w'.cell? ⟨B, 17, none⟩ = some (.int .i64 2))) (by kernel_rfl) (hcell2 w5.drew hE5) (fun hHeld => ?_)
 obtain ⟨x0, HX0⟩ := hidE w5.drew
 rw [← HX0.out] at hHeld ⊢
 have hE0 : BlkV 165 x0 B CS := by rw [HX0.out]; exact hE5
 have hT0 : BlkV 39 x0 (B + 1) Z := by rw [HX0.out]; exact hT5
 have bb0 : Below B w x0 := by rw [HX0.out]; exact bb5.drew
 have hM0 : Mine x0 (B + 2) 5 1 (.slice a5 16 c5) 16 ([] ++ f.map (Value.int .u8)) := by rw [HX0.out]; exact hM5
 have hs0 : B + 2 ≤ x0.heap.size := by rw [HX0.out]; exact hs5
 clear hM5 hE5 bb5 hs5 hT5
 refine tq 0 rfl ?_
 refine tq 1 rfl ?_
 refine tq 2 rfl ?_
 refine tq 3 rfl ?_
 refine tq 6 rfl ?_
 refine tq 7 rfl ?_
 refine e1 4 rfl fun K' hK' => ?_
 obtain ⟨L1, HL1⟩ := hidE x0.heap.size
 refine step_lit rfl 61 5 1 _ rfl Tryz.underlying61 (.int .u8 0) 1 1 info8 (by decide) (by decide) [.int .u8 2] (by kernel_rfl) L1 HL1.out.symm ?_
 intro x1 hA1 hbx1 hsx1
 have hBL : B + 2 ≤ L1 := by rw [HL1.out]; exact hs0
 have hM1 := hM0.belowAll (HL1.out ▸ hbx1)
 have hE1 := hE0.below hbx1 (by omega)
 have hT1 := hT0.below hbx1 (by omega)
 have bb1 := bb0.trans (hbx1.mono (by omega : B ≤ _))
 refine ko hK' (hcell2 _ hE1) fun hHeld => ?_
 clear hK' K'
 refine e1 5 rfl fun K' hK' => ?_
 refine step_appendS rfl _ _ 61 rfl 5 (.int .u8 0) 1 1 Tryz.underlying61 info8 rfl (by decide) (B + 2) _ 16 _ rfl hM1 (some ⟨L1, 0, none⟩) 1 1 rfl (fun h => by cases h) [.int .u8 2] rfl (at_row hA1.lt hA1.at0) (by intro u hu; rw [List.mem_singleton.1 hu]; rfl) (by unfold maxLen; omega) (by omega) (by omega) 17 rfl ?_
 intro ao2 c2 x2 row2 hc2 hM2 hV2 hg2 hr2
 have hE2 := blk_grown hE1 hg2 (fun k hk => (hr2 k hk).1) (by omega)
 have hT2 := blk_grown hT1 hg2 (fun k hk => (hr2 k hk).1) (by omega)
 have bb2 := bb1.grown hg2 (by omega) (fun k hk => by have := (hr2 k hk).1; omega)
 have hs2 : B + 2 ≤ x2.heap.size := by have := hg2.size; omega
 refine ko hK' (hcell2 _ hE2) fun hHeld => ?_
 clear hK' K'
 refine e1 8 rfl fun K' hK' => ?_
 refine step_appendS rfl _ _ 61 rfl 5 (.int .u8 0) 1 1 Tryz.underlying61 info8 rfl (by decide) (B + 2) _ 17 _ rfl hM2 (some ⟨B, 19, none⟩) 16 16 rfl (fun h => by cases h) zID rfl (at_row (by omega) (hkey _ _ hE2).out) (ints_one _ _) (by unfold maxLen; omega) (by omega) (by omega) 33 rfl ?_
 intro ao3 c3 x3 row3 hc3 hM3 hV3 hg3 hr3
 have hE3 := blk_grown hE2 hg3 (fun k hk => (hr3 k hk).1) (by omega)
 have hT3 := blk_grown hT2 hg3 (fun k hk => (hr3 k hk).1) (by omega)
 have bb3 := bb2.grown hg3 (by omega) (fun k hk => by have := (hr3 k hk).1; omega)
 have hs3 : B + 2 ≤ x3.heap.size := by have := hg3.size; omega
 refine ko hK' (hcell2 _ hE3) fun hHeld => ?_
 clear hK' K'
 refine tq 9 rfl ?_
 refine wpAnyH_done (by kernel_rfl) ?_ _
 clear hHeld hM0 hE0 bb0 hM1 hE1 bb1 hM2 hE2 bb2 hV2 hV3 hcell2 hA1 hT0 hT1 hT2
 have HEL : Hid (((([] ++ f.map (Value.int .u8)) ++ [.int .u8 2]) ++ zID) ++ d.map (Value.int .u8) = ((((f ++ [2]) ++ List.replicate 16 0) ++ d)).map (Value.int .u8)) := hid (by unfold zID; simp)
 go_wp2_with (first
  | (refine wl_storeV rfl 39 _ _ rfl 39 (B + 1) rfl S rfl 32 aggSumT hSl Z hT5 hZl hS1 ?_; intro x6 hT6 hb6 hs6; have bb6 : Below B w x6 := bb5.trans (hb6.mono (by omega)))
  | (go_at_call 100; refine (hso x4 ao4 c4 (mine_pt (l := ((f ++ [2]) ++ List.replicate 16 0) ++ d) (by rw [← HEL.out]; exact hM4) HLL.out.symm (by decide) HLO.out).1).out.mono ?_; rintro e x5 ⟨rfl, hb5⟩; have hT5 := hT4.below hb5 hT4.lt; have bb5 : Below B w x5 := bb4.trans (hb5.mono (by have := bb4.size; omega)))
  | (at_builtin; refine wl_appendS rfl _ _ 61 rfl 5 (.int .u8 0) 1 1 Tryz.underlying61 info8 rfl (by decide) (B + 2) _ 33 _ rfl hM3 (some ⟨B, 36, none⟩) 32 32 rfl (fun h => by cases h) (d.map (Value.int .u8)) hl32 (at_row (by omega) (hdet _ _ hE3).out) (ints_one _ _) (by unfold maxLen; omega) (by omega) (by omega) 65 rfl ?_; intro ao4 c4 x4 row4 hc4 hM4 hV4 hg4 hr4; have hT4 := blk_grown hT3 hg4 (fun k hk => (hr4 k hk).1) (by omega); have bb4 := bb3.grown hg4 (by omega) (fun k hk => by have := (hr4 k hk).1; omega)))
 (try simp only [Exit.inBlock, Exit.then]); refine bodyPost_ret (results_cell2 rfl _ _ _ _ rfl S (by rw [hSl]; exact aggSumT) hT6.at0) rfl ?_
 exact HPQ.out _ bb6
end Go.Proofs.YtdhipjoplkpgmaaGreatDoor.hf
namespace Go.Proofs.YtdhipjoplkpgmaaGreatDoor.hf
open Go.RowKit st hs wr shr sh lk
theorem step_storeP {P : Program} {ops : Array Oper} {o : Oper} {a : Act} {w : World} {K : Act → World → Prop} {Q : Exit → Act → World → Prop} {E : Prop} (hgd : o.guard = none) (ty : TypeId) (x y : Operand) (ho : o.op = .store ty x y)
  (t : TypeId) (g i : Nat) (hx : a.eval x = .pointer (some ⟨g, i, none⟩)) (cs : List Value) (hy : a.eval y = .agg cs.toArray) (n : Nat) (hi : Agg P ty n) (hn : cs.length = n) (cur : List Value) (hg : BlkV t w g cur) (hc : i + n ≤ cur.length) (h1 : ∀ u ∈ cs, u.oneCell' = true)
  (ds : List Value) (hds : cur.take i ++ cs ++ cur.drop (i + n) = ds)
  (h : ∀ w', BlkV t w' g ds → Below g w w' → w.grownBy w' (some g) → w'.heap.size = w.heap.size → K (a.put o.dst undef) w') : if Region.wanted o (yielded ops a.tmps) = true then Oper.wp P o a w K Q else E := by
 have hw : Region.wanted o (yielded ops a.tmps) = true := by simp [Region.wanted, hgd]
 rw [if_pos hw]
 subst hds; subst hn
 have hrun := run_store_agg (P := P) w ty t g i cur cs hi.2 hg hc h1
 unfold Oper.wp
 simp only [execOp, ho, hx, hy, Instr.storeAt, Instr.sureAddr, hrun, Sem.run_bind, Result.andThen_ok, Sem.run_pure]
 exact h _ (hg.setRow _) (below_setRow' (Below.refl _ _) (Nat.le_refl _) _) ⟨rfl, rfl, rfl, by simp, fun k _ hk => setRow_other w g k _ (fun e => hk (by rw [e]))⟩ (by simp)
theorem stC_count {c d tm : Int} {lv gv : List Value} {mm mk mv : Nat} : (stC c tm lv gv mm mk mv).set 0 (.int .i64 d) = stC d tm lv gv mm mk mv := rfl
theorem stC_time {c tm um : Int} {lv gv : List Value} {mm mk mv : Nat} : (stC c tm lv gv mm mk mv).set 1 (.int .i64 um) = stC c um lv gv mm mk mv := rfl
theorem stC_last {c tm : Int} {lv gv sv : List Value} {mm mk mv : Nat} (hl : lv.length = 32) : (stC c tm lv gv mm mk mv).take 2 ++ sv ++ (stC c tm lv gv mm mk mv).drop (2 + 32) = stC c tm sv gv mm mk mv := by
 unfold stC
 rw [List.take_succ_cons, List.take_succ_cons, List.take_zero, show 2 + 32 = 32 + 1 + 1 from rfl, List.drop_succ_cons, List.drop_succ_cons, ← hl, List.drop_left]
 rfl
def ApplyPost (g mm mk mv : Nat) (t : Int) (f : List Int) (rs : List ByteArray) (w : World) (e : Ending) (w' : World) : Prop := e = .returned (.int .i64 0) ∧ (∃ ra rc, StAfter w' g mm mk mv 1 t ((entryS f t (bodyB f rs)).map (Value.int .u8)) (f.map (Value.int .u8)) f (.slice ra rs.length rc) ∧ RowS w' ra rs ∧ (∀ b, ra = some b → rs ≠ [] → w.heap.size ≤ b.block)) ∧ Only w.heap.size [g, mm, mv] w w'
theorem rowS_only {B : Nat} {ks : List Nat} {w w' : World} {ao : Option Addr} {rs : List ByteArray} (h : Only B ks w w') (hx : RowS w ao rs) (hp : ∀ b, ao = some b → rs ≠ [] → b.block < B ∧ b.block ∉ ks) : RowS w' ao rs := by
 by_cases e : rs = []
 ·exact Or.inl e
 ·exact h.rowS hx (fun b hb => hp b hb e)
theorem rowS_lt {w : World} {ao : Option Addr} {rs : List ByteArray} (h : RowS w ao rs) {b : Addr} (hb : ao = some b) (hne : rs ≠ []) : b.block < w.heap.size := by
 rcases h with h | ⟨q, off, h1, h2, _⟩
 ·exact absurd h hne
 ·rw [hb] at h1; injection h1 with h1; subst h1; exact h2
theorem Apply_ok (g mm mk mv : Nat) (t : Int) (f : List Int) (rs : List ByteArray) (ao : Option Addr) (n c : Nat) (w : World) (h : EntOk w t f rs ao n c) (h0 : f ≠ List.replicate 16 0) (hS : StOk w g mm mk mv) (hd : g ≠ mm ∧ g ≠ mk ∧ g ≠ mv ∧ mm ≠ mk ∧ mm ≠ mv ∧ mk ≠ mv) :
  Calls Tryz.prog 86 #[.pointer (some ⟨g, 0, none⟩), .agg (entC t (f.map (Value.int .u8)) (.slice ao n c)).toArray] w (ApplyPost g mm mk mv t f rs w) := by
 have hf := h.hf
 have hFl : (f.map (Value.int .u8)).length = 16 := by rw [List.length_map, h.hf]
 have hes := fun (w' : World) (hb : Below w.heap.size w w') => hid (EntrySum_ok t f rs ao n c w' (h.below hb))
 have hpb := fun (w' : World) (hb : Below w.heap.size w w') => hid (ParseBody_ok f rs ao n c w' h.hf h.hE h.hn (h.pt.below hb))
 have hask := fun (w' : World) (hb : Below w.heap.size w w') => hid (Ask_ok g mm mk mv t f rs ao n c w' (h.below hb) (hS.below hb (Nat.le_refl _)))
 have hrf := fun (ro : Value) (w' : World) (hb : Below w.heap.size w w') => hid (rowFault_ok g mm mk mv t f (.slice ao n c) ro w' h.hf h.ht (hS.below hb (Nat.le_refl _)))
 have hmf := fun (ro : Value) (w' : World) (hb : Below w.heap.size w w') => hid (memberFault_ok g mm mk mv t f (.slice ao n c) ro w' h.hf h0 (hS.below hb (Nat.le_refl _)))
 have hch := fun (ro : Value) (s : List Int) (hs : s.length = 32) (hr1 : ro.cells = #[ro]) (w' : World) (hb : Below w.heap.size w w') => hid (change_ok g mm mk mv t f s (.slice ao n c) ro w' h.hf hs hr1 (hS.below hb (Nat.le_refl _)) hd)
 have hsm := fun (w' : World) => hid (AskSum_ok t f (sumL 0 (bodyB f rs)) h.hf h.of (sumL_length _ _) (sumL_octs _ _) h.ht w')
 have hCl := entC_len (t := t) (bo := .slice ao n c) hFl
 have hcells := fun (w : World) (g : Nat) (h : BlkV 83 w g (entC t (f.map (Value.int .u8)) (.slice ao n c))) => hid (ent_cells hFl h)
 obtain ⟨CS, HCS⟩ := hidE (entC t (f.map (Value.int .u8)) (.slice ao n c))
 rw [← HCS.out] at hes hask hrf hmf hch hcells hCl ⊢
 have hAl := askC_len (t := t) hFl (dv := (sumL 0 (bodyB f rs)).map (Value.int .u8)) (by rw [List.length_map, sumL_length])
 have hA1 := askC_one (t := t) (ints_one .u8 f) (ints_one .u8 (sumL 0 (bodyB f rs)))
 obtain ⟨AS, HAS⟩ := hidE (askC t (f.map (Value.int .u8)) ((sumL 0 (bodyB f rs)).map (Value.int .u8)))
 rw [← HAS.out] at hask hsm hAl hA1
 have HCL := fun v => hid (bodyC_len (ro := v) hFl)
 have HC1 := fun v hv => hid (bodyC_one (fv := f.map (Value.int .u8)) (ro := v) (ints_one _ _) hv)
 have HP : Hid (∀ ra rc w', StAfter w' g mm mk mv 1 t ((entryS f t (bodyB f rs)).map (Value.int .u8)) (f.map (Value.int .u8)) f (.slice ra rs.length rc) → RowS w' ra rs → (∀ b, ra = some b → rs ≠ [] → w.heap.size ≤ b.block) → Only w.heap.size [g, mm, mv] w w' → ApplyPost g mm mk mv t f rs w (.returned (.int .i64 0)) w') := hid (fun ra rc w' h1 h2 h3 h4 => ⟨rfl, ⟨ra, rc, h1, h2, h3⟩, h4⟩)
 obtain ⟨Q, HQ⟩ := hidE (ApplyPost g mm mk mv t f rs w)
 rw [← HQ.out] at HP ⊢
 obtain ⟨SI, HSI⟩ := hidE (entryS f t (bodyB f rs))
 have hSIl : SI.length = 32 := by rw [HSI.out, entryS_length]
 rw [← HSI.out] at hes HP
 obtain ⟨S, HS⟩ := hidE (SI.map (Value.int .u8))
 have hSl : S.length = 32 := by rw [HS.out, List.length_map, hSIl]
 have hS1 : ∀ u ∈ S, u.oneCell' = true := by rw [HS.out]; exact ints_one _ _
 rw [← HS.out] at hes HP
 obtain ⟨F, HF⟩ := hidE (f.map (Value.int .u8))
 rw [← HF.out] at hrf hmf hch HCL HC1 HP hFl
 have hpb2 := fun (w' : World) (hb : Below w.heap.size w w') => hid (show Calls Tryz.prog 145 #[.int .i64 2, .slice ao n c] w' (fun e w'' => ∃ ra rc, e = .returned (.tuple #[.agg (bodyC F (.slice ra rs.length rc)).toArray, .int .i64 0]) ∧ RowS w'' ra rs ∧ (∀ b, ra = some b → rs ≠ [] → w'.heap.size ≤ b.block) ∧ Below w'.heap.size w' w'') by rw [HF.out]; exact (hpb w' hb).out)
 clear hpb
 obtain ⟨ZS, HZS⟩ := hidE zSum
 have hzs := hid zeroSumZ
 have hZSl : ZS.length = 32 := by rw [HZS.out]; rfl
 rw [← HZS.out] at hzs
 have hzb := hid zeroBody
 have HZB : Hid ((bodyC zID (.slice none 0 0)).length = 58) := hid (bodyC_len rfl)
 obtain ⟨ZB, HZBB⟩ := hidE (bodyC zID (.slice none 0 0))
 rw [← HZBB.out] at HZB hzb
 have hza := hid zeroAsk
 have hZAl : askZ.length = 68 := by rfl
 obtain ⟨ZA, HZA⟩ := hidE askZ
 rw [← HZA.out] at hza hZAl
 have hgw := hS.blk.lt
 have hmmw := hS.mem.lt
 have hmvw := (Array.getElem?_eq_some_iff.1 hS.vot).1
 obtain ⟨B, hsz⟩ := szE w
 rw [hsz] at hes hask hrf hmf hch hpb2 HP hgw hmmw hmvw
 obtain ⟨m, Hm⟩ := hidE rs.length
 rw [← Hm.out] at HP hpb2
 obtain ⟨hd1, hd2, hd3, hd4, hd5, hd6⟩ := hd
 clear h h0 hS
 go_enter Tryz.func86, Tryz.ntmps86
 go_wp2_with (first
  | (go_at_call 156; refine (hch' wE bbE).out.mono ?_; rintro e wF ⟨rfl, hAF, hoF⟩)
  | (refine wl_loadG (by rfl) 39 _ rfl ⟨X4, 0, none⟩ rfl 32 SV hSVl aggSumT hQE.at0 ?_)
  | (refine wl_loadG (by rfl) 42 _ rfl ⟨X2, 0, none⟩ rfl 58 YS hYl aggBody hYE.at0 ?_)
  | (refine wl_loadG (by rfl) 83 _ rfl ⟨B, 0, none⟩ rfl 68 CS hCl aggEntry hEE.at0 ?_)
  | (refine wl_storeV rfl 39 _ _ rfl 39 X4 rfl SV rfl 32 aggSumT hSVl ZS hQD hZSl hSV1 ?_; intro wE hQE hbE hsE; have hTE := hTD.below hbE (by omega); have hYE := hYD.below hbE (by omega); have hEE := hED.below hbE (by omega); have hRE := hRWb wE (hb5.trans (hb6.trans ((hb9.mono (by omega)).trans ((hbA.mono (by omega)).trans ((hbB.mono (by omega)).trans ((hbC.mono (by omega)).trans ((hbD.mono (by omega)).trans (hbE.mono (by omega))))))))); have bbE : Below B w wE := bbD.trans (hbE.mono (by omega)); have hsE4 : X4 < wE.heap.size := (by omega))
  | (obtain ⟨X4, HX4⟩ := hidE wC.heap.size; have hX34 : X3 < X4 := (by rw [HX4.out]; have := hbC.size; omega); refine wl_allocV rfl 39 rfl ZS hzs.out X4 HX4.out.symm ?_; intro wD hQD hbD hsD; have hTD := hTC.below hbD (by omega); have hYD := hYC.below hbD (by omega); have hED := hEC.below hbD (by omega); have bbD : Below B w wD := bbC.trans (hbD.mono (by omega)))
  | (go_at_call 148; refine (hsm wB).out.mono ?_; rintro e wC ⟨⟨SA, hSAl, rfl⟩, hbC⟩; have hTC := hTB.below hbC hTB.lt; have hYC := hYB.below hbC hYB.lt; have hEC := hEB.below hbC hEB.lt; have bbC : Below B w wC := bbB.trans (hbC.mono (by omega)); obtain ⟨SV, HSV⟩ := hidE (SA.map (Value.int .u8)); have hSVl : SV.length = 32 := (by rw [HSV.out, List.length_map, hSAl]); have hSV1 : ∀ u ∈ SV, u.oneCell' = true := (by rw [HSV.out]; exact ints_one _ _); have hch' : ∀ (w' : World), Below B w w' → Hid (Calls Tryz.prog 156 #[.pointer (some ⟨g, 0, none⟩), .agg CS.toArray, .agg YS.toArray, .agg SV.toArray] w' (fun e w'' => e = .returned (.tuple #[]) ∧ StAfter w'' g mm mk mv 0 0 zSum F f RO ∧ Only w'.heap.size [g, mm, mv] w' w'')) := (fun w' hb => hid (by rw [HSV.out]; exact (hch2 SA hSAl w' hb).out)); rw [← HSV.out])
  | (refine wl_loadG (by rfl) 165 _ rfl ⟨X3, 0, none⟩ rfl 68 AS hAl aggAsk hKB.at0 ?_)
  | (refine wl_storeV rfl 165 _ _ rfl 165 X3 rfl AS rfl 68 aggAsk hAl ZA hKA hZAl hA1 ?_; intro wB hKB hbB hsB; have hTB := hTA.below hbB (by omega); have hYB := hYA.below hbB (by omega); have hEB := hEA.below hbB (by omega); have bbB : Below B w wB := bbA.trans (hbB.mono (by omega)))
  | (obtain ⟨X3, HX3⟩ := hidE w9.heap.size; have hX23 : X2 < X3 := (by rw [HX3.out]; have := hb9.size; omega); refine wl_allocV rfl 165 rfl ZA hza.out X3 HX3.out.symm ?_; intro wA hKA hbA hsA; have hTA := hT9.below hbA (by omega); have hYA := hY9.below hbA (by omega); have hEA := hE9.below hbA (by omega); have bbA : Below B w wA := bb9.trans (hbA.mono (by omega)))
  | (go_at_call 146; refine (hask w8 bb8).out.mono ?_; rintro e w9 ⟨rfl, hb9'⟩; have hb9 := hb8x.trans (hb9'.mono hs8x); have hT9 := hT8.below hb9' hT8.lt; have hY9 := hY8.below hb9' hY8.lt; have hE9 := hE8.below hb9' hE8.lt; have bb9 : Below B w w9 := bb8.trans (hb9'.mono (by omega)))
  | (refine wl_loadG (by rfl) 83 _ rfl ⟨B, 0, none⟩ rfl 68 CS hCl aggEntry hE8.at0 ?_)
  | (go_at_call 155; refine (hmf' w7 bb7).out.mono ?_; rintro e w8 ⟨rfl, hb8⟩; have hb8x := hb7x.trans (hb8.mono hs7x); have hs8x : X2 + 1 ≤ w8.heap.size := (by have := hb8.size; omega); have hT8 := hT7.below hb8 hT7.lt; have hY8 := hY7.below hb8 hY7.lt; have hE8 := hE7.below hb8 hE7.lt; have bb8 : Below B w w8 := bb7.trans (hb8.mono (by omega)))
  | (go_at_call 154; refine (keyless_two w7).mono ?_; rintro e w7' ⟨rfl, rfl⟩)
  | (refine wl_loadG (by rfl) 42 _ rfl ⟨X2, 0, none⟩ rfl 58 YS hYl aggBody hY7.at0 ?_)
  | (refine wl_loadG (by rfl) 83 _ rfl ⟨B, 0, none⟩ rfl 68 CS hCl aggEntry hE7.at0 ?_)
  | (go_at_call 152; refine (hrf' w6 bb6).out.mono ?_; rintro e w7 ⟨rfl, hb7⟩; have hb7x : Below (X2 + 1) w6 w7 := hb7.mono (by omega); have hs7x : X2 + 1 ≤ w7.heap.size := (by have := hb7.size; omega); have hT7 := hT6.below hb7 hT6.lt; have hY7 := hY6.below hb7 hY6.lt; have hE7 := hE6.below hb7 hE6.lt; have bb7 : Below B w w7 := bb6.trans (hb7.mono (by omega)); obtain ⟨c0, c1, c2, c67⟩ := (hcells _ _ hE7).out)
  | (refine wl_loadG (by rfl) 42 _ rfl ⟨X2, 0, none⟩ rfl 58 YS hYl aggBody hY6.at0 ?_)
  | (refine wl_loadG (by rfl) 83 _ rfl ⟨B, 0, none⟩ rfl 68 CS hCl aggEntry hE6.at0 ?_)
  | (refine wl_storeV rfl 42 _ _ rfl 42 X2 rfl YS rfl 58 aggBody hYl ZB hY5 HZB.out hY1 ?_; intro w6 hY6 hb6 hs6; have hT6 := hT5.below hb6 (by omega); have hE6 := hE5.below hb6 (by omega); have bb6 : Below B w w6 := bb5.trans (hb6.mono (by omega)); have hRW6 := hRWb w6 (hb5.trans hb6))
  | (obtain ⟨X2, HX2⟩ := hidE w4.heap.size; have hX12 : X1 < X2 := (by rw [HX2.out]; have := hb4.size; omega); refine wl_allocV rfl 42 rfl ZB hzb.out X2 HX2.out.symm ?_; intro w5 hY5 hb5 hs5; have hT5 := hT4.below hb5 (by omega); have hE5 := hE4.below hb5 (by omega); have bb5 : Below B w w5 := bb4.trans (hb5.mono (by omega)); have hRWb := fun (w' : World) (hb : Below X2 w4 w') => hRW4.below (HX2.out ▸ hb))
  | (go_at_call 145; refine (hpb2 w3 bb3).out.mono ?_; rintro e w4 ⟨ra, rc, rfl, hRW4, hlow4', hb4⟩; have hlow : ∀ b, ra = some b → rs ≠ [] → B ≤ b.block := (fun b hb hne => by have := hlow4' b hb hne; omega); clear hlow4'; have hT4 := hT3.below hb4 hT3.lt; have hE4 := hE3.below hb4 hE3.lt; have bb4 : Below B w w4 := bb3.trans (hb4.mono (by omega)); have hYl := (HCL (.slice ra m rc)).out; have hY1 := (HC1 (.slice ra m rc) rfl).out; have hrf' := hrf (.slice ra m rc); have hmf' := hmf (.slice ra m rc); have hch2 := fun (s : List Int) (hs : s.length = 32) => hch (.slice ra m rc) s hs rfl; obtain ⟨RO, HRO⟩ := hidE (Value.slice ra m rc); rw [← HRO.out] at hYl hY1 hrf' hmf' hch2; obtain ⟨YS, HYS⟩ := hidE (bodyC F RO); rw [← HYS.out] at hYl hY1 hrf' hmf' hch2; rw [← HRO.out, ← HYS.out])
  | (refine wl_storeV rfl 39 _ _ rfl 39 X1 rfl S rfl 32 aggSumT hSl ZS hT2 hZSl hS1 ?_; intro w3 hT3 hb3 hs3; have hE3 := hE2.below hb3 (by omega); have bb3 : Below B w w3 := bb2.trans (hb3.mono (by omega)); obtain ⟨c0, c1, c2, c67⟩ := (hcells _ _ hE3).out)
  | (obtain ⟨X1, HX1⟩ := hidE w1b.heap.size; have hBX1 : B < X1 := (by rw [HX1.out]; have := hb1b.size; omega); refine wl_allocV rfl 39 rfl ZS hzs.out X1 HX1.out.symm ?_; intro w2 hT2 hb2 hs2; have hE2 := hE1b.below hb2 (by omega); have bb2 : Below B w w2 := bb1b.trans (hb2.mono (by omega)))
  | (go_at_call 151; refine (hes w1 bb1).out.mono ?_; rintro e w1b ⟨rfl, hb1b⟩; have hE1b := hE1.below hb1b hE1.lt; have bb1b : Below B w w1b := bb1.trans (hb1b.mono (by omega)))
  | (refine wl_loadG (by rfl) 83 _ rfl ⟨B, 0, none⟩ rfl 68 CS hCl aggEntry hE1.at0 ?_)
  | (refine wl_boxV rfl 83 _ rfl CS rfl B hsz ?_; intro w1 hE1 bb1 hs1))
 have hkg := fun (w' : World) (hA : StAfter w' g mm mk mv 0 0 zSum F f RO) => hid (st_cells rfl hFl hA.blk)
 have hSa : BlkV 160 wF g (stC 0 0 zSum F mm mk mv) := hAF.blk
 obtain ⟨hMMa, hMKa, hMVa⟩ : MapD wF mm (upd (fun _ => none) f RO) ∧ MapD wF mk (fun _ => none) ∧ wF.heap[mv]? = some (.map #[] 0) := ⟨hAF.mem, hAF.keys, hAF.vot⟩
 have s0 := ((st_cells rfl hFl hAF.blk).1)
 have HC0l := hid (stC_len (cnt := 0) (tm := 0) (lv := zSum) (gv := F) (mm := mm) (mk := mk) (mv := mv) rfl hFl)
 have HC1l := hid (stC_len (cnt := 1) (tm := 0) (lv := zSum) (gv := F) (mm := mm) (mk := mk) (mv := mv) rfl hFl)
 have HC2l := hid (stC_len (cnt := 1) (tm := 0) (lv := S) (gv := F) (mm := mm) (mk := mk) (mv := mv) hSl hFl)
 have HQ1 := hid (stC_count (c := 0) (d := 1) (tm := 0) (lv := zSum) (gv := F) (mm := mm) (mk := mk) (mv := mv))
 have HQ2 := hid (stC_last (c := 1) (tm := 0) (lv := zSum) (gv := F) (sv := S) (mm := mm) (mk := mk) (mv := mv) rfl)
 have HQ3 := hid (stC_time (c := 1) (tm := 0) (um := t) (lv := S) (gv := F) (mm := mm) (mk := mk) (mv := mv))
 have HPP : Hid (∀ w', BlkV 160 w' g (stC 1 t S F mm mk mv) → MapD w' mm (upd (fun _ => none) f RO) → MapD w' mk (fun _ => none) → w'.heap[mv]? = some (.map #[] 0) → RowS w' ra rs → Only B [g, mm, mv] w w' → Q (.returned (.int .i64 0)) w') := hid (fun w' h1 h2 h3 h4 h5 h6 => HP.out ra rc w' ⟨h1, by rw [← HRO.out]; exact h2, h3, h4⟩ h5 (fun b hb hne => by have := hlow b hb hne; omega) h6)
 obtain ⟨C0, HC0⟩ := hidE (stC 0 0 zSum F mm mk mv)
 obtain ⟨C1, HC1⟩ := hidE (stC 1 0 zSum F mm mk mv)
 obtain ⟨C2, HC2⟩ := hidE (stC 1 0 S F mm mk mv)
 obtain ⟨C3, HC3⟩ := hidE (stC 1 t S F mm mk mv)
 rw [← HC0.out] at hSa HC0l HQ1
 rw [← HC1.out] at HC1l HQ1 HQ2
 rw [← HC2.out] at HC2l HQ2 HQ3
 rw [← HC3.out] at HQ3 HPP
 have hS1' := hS1
 have hiS : (Tryz.prog.info? 39).map (·.size) = some S.length := by rw [hSl]; exact aggSumT.2
 have kp := fun (k : Nat) (hk : k ≠ g) => (fun e => hk (by injection e with e; exact e.symm) : ¬ (some g = some k))
 have hsF : B ≤ wF.heap.size := by have := hoF.size; omega
 have hnB : ∀ k, B ≤ k → k ∉ [g, mm, mv] := fun k hk hm => by
  simp only [List.mem_cons, List.not_mem_nil, or_false] at hm
  rcases hm with h | h | h <;> omega
 have hTF := hoF.blk hTE (by omega) (hnB _ (by omega))
 have hEF := hoF.blk hEE (by omega) (hnB _ (by omega))
 have hRF := rowS_only hoF hRE (fun b hb hne => ⟨rowS_lt hRE hb hne, hnB _ (by have := hlow b hb hne; omega)⟩)
 have hoW : Only B [g, mm, mv] w wF := (Only.of bbE (Nat.le_refl _)).trans (hoF.mono (by omega) (fun k hk => Or.inl hk))
 clear hTE hEE hRE hQE hYE bbE hAF hkg
 have hSS : ∀ w', BlkV 83 w' B CS → BlkV 39 w' X1 S → (w'.cell? ⟨B, 1, none⟩ = some (.int .i64 t) ∧ w'.rangeAt X1 0 S) := fun w' h1 h2 => ⟨((hcells _ _ h1).out).2.1, at_range h2.at0⟩
 refine wp_region_held_drew (S := (fun w' => w'.cell? ⟨B, 1, none⟩ = some (.int .i64 t) ∧ w'.rangeAt X1 0 S)) (by kernel_rfl) (hSS wF.drew hEF hTF) (fun hHeld => ?_)
 obtain ⟨x0, HX0⟩ := hidE wF.drew
 rw [← HX0.out] at hHeld ⊢
 have hE0 : BlkV 83 x0 B CS := by rw [HX0.out]; exact hEF
 have hT0 : BlkV 39 x0 X1 S := by rw [HX0.out]; exact hTF
 have hS0 : BlkV 160 x0 g C0 := by rw [HX0.out]; exact hSa
 have hMM0 : MapD x0 mm (upd (fun _ => none) f RO) := by rw [HX0.out]; exact hMMa
 have hMK0 : MapD x0 mk (fun _ => none) := by rw [HX0.out]; exact hMKa
 have hMV0 : x0.heap[mv]? = some (.map #[] 0) := by rw [HX0.out]; exact hMVa
 have hR0 : RowS x0 ra rs := by rw [HX0.out]; exact hRF
 have ho0 : Only B [g, mm, mv] w x0 := by rw [HX0.out]; exact ⟨hoW.os, hoW.tape, hoW.output, hoW.size, hoW.block⟩
 have s00 : x0.cell? ⟨g, 0, none⟩ = some (.int .i64 0) := by rw [HX0.out]; exact s0
 have hs0 : B ≤ x0.heap.size := by rw [HX0.out]; exact hsF
 clear hEF hTF hSa hMMa hMKa hMVa hRF hoW s0
 refine tq 0 rfl ?_
 refine tq 1 rfl ?_
 refine tq 2 rfl ?_
 refine tq 3 rfl ?_
 refine tq 4 rfl ?_
 refine tq 5 rfl ?_
 refine tk 8 rfl (yieldsIf_load_mid (by rfl) 39 _ rfl X1 0 rfl S _ (fun w hS => hS.2) Tryz.underlying39 rfl hiS) ?_
 refine tq 9 rfl ?_
 refine tq 10 rfl ?_
 refine e1 6 rfl fun K' hK' => ?_
 rw [if_pos (by rfl)]
 go_simp
 refine ko hK' (hSS _ hE0 hT0) fun hHeld => ?_
 clear hK' K'
 refine tq 7 rfl ?_
 refine tq 11 rfl ?_
 refine tq 12 rfl ?_
 refine e1 13 rfl fun K' hK' => ?_
 refine step_set1 rfl 3 _ _ rfl 160 g 0 rfl (.int .i64 1) rfl rfl rfl (by kernel_rfl) C0 hS0 (by rw [HC0l.out]; decide) ?_
 intro x1 hS1' hg1 hbl1 hs1
 have hS1 : BlkV 160 x1 g C1 := by rw [← HQ1.out]; exact hS1'
 clear hS1'
 have hT1 := hT0.grown hg1 (kp _ (by omega))
 have hE1 := hE0.grown hg1 (kp _ (by omega))
 have hMM1 := hMM0.grown hg1 (kp _ hd1.symm)
 have hMK1 := hMK0.grown hg1 (kp _ hd2.symm)
 have hMV1 : x1.heap[mv]? = some (.map #[] 0) := (hg1.block _ (Array.getElem?_eq_some_iff.1 hMV0).1 (fun e => by injection e with e; exact hd3 e.symm)).trans hMV0
 have hR1 := rowS_grown hR0 hg1 (fun b hb hne => by have := hlow b hb hne; omega)
 have ho1 := ho0.trans (Only.ofG (B := B) (ks := [g, mm, mv]) hg1 (by omega) (fun k hk => by injection hk with hk; right; rw [← hk]; simp))
 refine ko hK' (hSS _ hE1 hT1) fun hHeld => ?_
 clear hK' K'
 refine tq 14 rfl ?_
 refine tq 15 rfl ?_
 refine e1 16 rfl fun K' hK' => ?_
 refine step_storeP rfl 39 _ _ rfl 160 g 2 rfl S rfl 32 aggSumT hSl C1 hS1 (by rw [HC1l.out]; decide) hS1' C2 HQ2.out ?_
 intro x2 hS2 hbl2 hg2 hs2
 have hT2 := hT1.grown hg2 (kp _ (by omega))
 have hE2 := hE1.grown hg2 (kp _ (by omega))
 have hMM2 := hMM1.grown hg2 (kp _ hd1.symm)
 have hMK2 := hMK1.grown hg2 (kp _ hd2.symm)
 have hMV2 : x2.heap[mv]? = some (.map #[] 0) := (hg2.block _ (Array.getElem?_eq_some_iff.1 hMV1).1 (fun e => by injection e with e; exact hd3 e.symm)).trans hMV1
 have hR2 := rowS_grown hR1 hg2 (fun b hb hne => by have := hlow b hb hne; omega)
 have ho2 := ho1.trans (Only.ofG (B := B) (ks := [g, mm, mv]) hg2 (by omega) (fun k hk => by injection hk with hk; right; rw [← hk]; simp))
 refine ko hK' (hSS _ hE2 hT2) fun hHeld => ?_
 clear hK' K'
 refine tq 17 rfl ?_
 refine tq 18 rfl ?_
 refine e1 19 rfl fun K' hK' => ?_
 refine step_set1 rfl 3 _ _ rfl 160 g 1 rfl (.int .i64 t) rfl rfl rfl (by kernel_rfl) C2 hS2 (by rw [HC2l.out]; decide) ?_
 intro x3 hS3' hg3 hbl3 hs3
 have hS3 : BlkV 160 x3 g C3 := by rw [← HQ3.out]; exact hS3'
 clear hS3'
 have hT3 := hT2.grown hg3 (kp _ (by omega))
 have hE3 := hE2.grown hg3 (kp _ (by omega))
 have hMM3 := hMM2.grown hg3 (kp _ hd1.symm)
 have hMK3 := hMK2.grown hg3 (kp _ hd2.symm)
 have hMV3 : x3.heap[mv]? = some (.map #[] 0) := (hg3.block _ (Array.getElem?_eq_some_iff.1 hMV2).1 (fun e => by injection e with e; exact hd3 e.symm)).trans hMV2
 have hR3 := rowS_grown hR2 hg3 (fun b hb hne => by have := hlow b hb hne; omega)
 have ho3 := ho2.trans (Only.ofG (B := B) (ks := [g, mm, mv]) hg3 (by omega) (fun k hk => by injection hk with hk; right; rw [← hk]; simp))
 refine ko hK' (hSS _ hE3 hT3) fun hHeld => ?_
 clear hK' K'
 refine wpAnyH_done (by kernel_rfl) ?_ _
 clear hHeld hSS
 go_wp2_with fail
 exact HPP.out _ hS3 hMM3 hMK3 hMV3 hR3 ho3
end Go.Proofs.YtdhipjoplkpgmaaGreatDoor.hf
namespace Go.Proofs.YtdhipjoplkpgmaaGreatDoor.hf
open Go.RowKit st hs wr shr sh lk
def decZ : List Value := [.bool false, .int .i64 0, .int .i64 0, .string ⟨#[]⟩]
def decF : List Value := [.bool true, .int .i64 (-1), .int .i64 0, .string ⟨#[]⟩]
theorem aggDec : Agg Tryz.prog 94 4 := .str Tryz.underlying94 (by kernel_rfl)
theorem zeroDec : (Tryz.prog.info? 94).map (·.zero) = some (some (.agg decZ.toArray)) := by kernel_rfl
theorem builtDec : Tryz.prog.built 94 [(0, .bool true), (1, .int .i64 (-1))] = some decF.toArray := by kernel_rfl
theorem wl_buildL {P : Program} {w : World} {ops : Array Oper} {rest : List Oper} {o : Oper} {a : Act} {Q : Exit → Act → World → Prop} (hgd : o.guard = none) (t : TypeId) (l : List (Nat × Operand)) (ho : o.op = .build t l.toArray)
  (vs : List (Nat × Value)) (hv : l.map (fun p => (p.1, a.eval p.2)) = vs) (cs : List Value) (hb : P.built t vs = some cs.toArray) (h : wpList P ops Q rest (a.put o.dst (.agg cs.toArray)) w) : wpList P ops Q (o :: rest) a w := by
 refine wpList_plain hgd fun K hK' => ?_
 have e : (l.toArray.map fun (i, x) => (i, a.eval x)) = vs.toArray := by rw [← hv]; simp
 unfold Oper.wp execOp
 simp only [ho, e]
 simp [run_build w t vs.toArray cs.toArray (by simpa using hb), Result.andThen]
 exact hK' _ _ h
def newStC (mm mk mv : Nat) : List Value := stC 0 0 zSum zID mm mk mv
theorem builtState (mm mk mv : Nat) : Tryz.prog.built 160 [(6, .map (some mm)), (7, .map (some mk)), (8, .map (some mv))] = some (newStC mm mk mv).toArray := by kernel_rfl
theorem NewState_ok (w : World) : Calls Tryz.prog 33 #[] w fun e w' => ∃ g mm mk mv, e = .returned (.pointer (some ⟨g, 0, none⟩)) ∧ StOk w' g mm mk mv ∧ (w.heap.size ≤ g ∧ w.heap.size ≤ mm ∧ w.heap.size ≤ mk ∧ w.heap.size ≤ mv) ∧ (g ≠ mm ∧ g ≠ mk ∧ g ≠ mv ∧ mm ≠ mk ∧ mm ≠ mv ∧ mk ≠ mv) ∧ Below w.heap.size w w' := by
 obtain ⟨B, hsz⟩ := szE w
 rw [hsz]
 have hb := hid (builtState B (B + 1) (B + 2))
 obtain ⟨NS, HNS⟩ := hidE (newStC B (B + 1) (B + 2))
 rw [← HNS.out] at hb
 go_enter Tryz.func33, Tryz.ntmps33
 go_wp2_with (first
  | (refine wl_boxV rfl 160 _ rfl NS rfl (B + 3) (by omega) ?_; intro w4 hS4 hb4 hs4)
  | (refine wl_buildL rfl 160 _ rfl [(6, .map (some B)), (7, .map (some (B + 1))), (8, .map (some (B + 2)))] rfl NS hb.out ?_)
  | (refine wl_makeMap rfl _ rfl (B + 2) (by omega) ?_; intro w3 hV3 hb3 hs3)
  | (refine wl_makeMap rfl _ rfl (B + 1) (by omega) ?_; intro w2 hK2 hb2 hs2)
  | (refine wl_makeMap rfl _ rfl B hsz ?_; intro w1 hM1 hb1 hs1))
 go_ret
 have hM4 : w4.heap[B]? = some (.map #[] 0) := ((hb4.block B (by omega)).trans ((hb3.block B (by omega)).trans (hb2.block B (by omega)))).trans hM1
 have hK4 : w4.heap[B + 1]? = some (.map #[] 0) := ((hb4.block _ (by omega)).trans (hb3.block _ (by omega))).trans hK2
 have hV4 : w4.heap[B + 2]? = some (.map #[] 0) := (hb4.block _ (by omega)).trans hV3
 refine ⟨B + 3, B, B + 1, B + 2, rfl, ⟨?_, MapD.new hM4, MapD.new hK4, hV4⟩, ⟨by omega, by omega, by omega, by omega⟩, ⟨by omega, by omega, by omega, by omega, by omega, by omega⟩, ?_⟩
 ·rw [HNS.out] at hS4; exact hS4
 ·exact hb1.trans ((hb2.mono (by omega)).trans ((hb3.mono (by omega)).trans (hb4.mono (by omega))))
def ledC (oct ends : Value) (tm : Int) (lv : List Value) (leaves : Value) : List Value := oct :: ends :: .int .i64 tm :: (lv ++ [leaves])
theorem builtLedger : Tryz.prog.built 162 [] = some (ledC (.slice none 0 0) (.slice none 0 0) 0 zSum (.slice none 0 0)).toArray := by kernel_rfl
theorem NewLedger_ok (w : World) : Calls Tryz.prog 34 #[] w fun e w' => ∃ g, e = .returned (.pointer (some ⟨g, 0, none⟩)) ∧ BlkV 162 w' g (ledC (.slice none 0 0) (.slice none 0 0) 0 zSum (.slice none 0 0)) ∧ w.heap.size ≤ g ∧ Below w.heap.size w w' := by
 obtain ⟨B, hsz⟩ := szE w
 rw [hsz]
 have hb := hid builtLedger
 obtain ⟨NS, HNS⟩ := hidE (ledC (.slice none 0 0) (.slice none 0 0) 0 zSum (.slice none 0 0))
 rw [← HNS.out] at hb ⊢
 go_enter Tryz.func34, Tryz.ntmps34
 go_wp2_with (first
  | (refine wl_boxV rfl 162 _ rfl NS rfl B hsz ?_; intro w4 hS4 hb4 hs4)
  | (refine wl_build0G (by rfl) 162 rfl NS hb.out ?_))
 go_ret
 exact ⟨B, rfl, hS4, Nat.le_refl _, hb4⟩
theorem Leaf_ok (ao : Option Addr) (cap n : Nat) (l : List Int) (w : World) (hn : n = l.length) (HP : Pt.Ok w ⟨ao, cap, l⟩) (hm : n ≤ 1048576) :
  Calls Tryz.prog 158 #[.slice ao n cap] w fun e w' => e = .returned (.tuple #[.agg ((sumL 1 l).map (Value.int .u8)).toArray, .int .i64 0]) ∧ Below w.heap.size w w' := by
 have hsum := fun (y : World) (hb : Below w.heap.size w y) => hid (sumOf_in 1 ⟨by decide, by decide⟩ ao cap n l y hn (HP.below hb) hm)
 obtain ⟨Z, HZ⟩ := hidE zSum
 have hz := hid zeroSumZ
 have hZl : Z.length = 32 := by rw [HZ.out]; rfl
 rw [← HZ.out] at hz
 obtain ⟨S, HS⟩ := hidE ((sumL 1 l).map (Value.int .u8))
 have hSl : S.length = 32 := by rw [HS.out, List.length_map]; exact sumL_length _ _
 have hS1 : ∀ u ∈ S, u.oneCell' = true := by rw [HS.out]; exact ints_one _ _
 rw [← HS.out] at hsum ⊢
 obtain ⟨B, hsz⟩ := szE w
 rw [hsz] at hsum ⊢
 clear HP hn
 go_enter Tryz.func158, Tryz.ntmps158
 go_wp2_with (first
  | (refine wl_storeV rfl 39 _ _ rfl 39 B rfl S rfl 32 aggSumT hSl Z hT2 hZl hS1 ?_; intro w3 hT3 hb3 hs3; have bb3 : Below B w w3 := bb2.trans (hb3.mono (by omega)))
  | (go_at_call 100; refine (hsum w1 bb1).out.mono ?_; rintro e w2 ⟨rfl, hb2⟩; have hT2 := hT1.below hb2 hT1.lt; have bb2 : Below B w w2 := bb1.trans (hb2.mono (by omega)))
  | (refine wl_allocV rfl 39 rfl Z hz.out B hsz ?_; intro w1 hT1 bb1 hs1))
 (try simp only [Exit.inBlock, Exit.then]); refine bodyPost_ret (results_cell2 rfl _ _ _ _ rfl S (by rw [hSl]; exact aggSumT) hT3.at0) rfl ?_
 exact ⟨rfl, bb3⟩
theorem Judge_ok (g mm mk mv : Nat) (t : Int) (f : List Int) (rs : List ByteArray) (ao : Option Addr) (n c : Nat) (w : World) (h : EntOk w t f rs ao n c) (hS : StOk w g mm mk mv) :
  Calls Tryz.prog 85 #[.pointer (some ⟨g, 0, none⟩), .agg (entC t (f.map (Value.int .u8)) (.slice ao n c)).toArray] w fun e w' => e = .returned (.tuple #[.agg decF.toArray, .int .i64 0]) ∧ Below w.heap.size w w' := by
 have hFl : (f.map (Value.int .u8)).length = 16 := by rw [List.length_map, h.hf]
 have hask := fun (w' : World) (hb : Below w.heap.size w w') => hid (Ask_ok g mm mk mv t f rs ao n c w' (h.below hb) (hS.below hb (Nat.le_refl _)))
 have hSb := fun (w' : World) (hb : Below w.heap.size w w') => hid (hS.below hb (Nat.le_refl _))
 have hCl := entC_len (t := t) (bo := .slice ao n c) hFl
 obtain ⟨CS, HCS⟩ := hidE (entC t (f.map (Value.int .u8)) (.slice ao n c))
 rw [← HCS.out] at hask hCl ⊢
 have hAl := askC_len (t := t) hFl (dv := (sumL 0 (bodyB f rs)).map (Value.int .u8)) (by rw [List.length_map, sumL_length])
 have hA1 := askC_one (t := t) (ints_one .u8 f) (ints_one .u8 (sumL 0 (bodyB f rs)))
 obtain ⟨AS, HAS⟩ := hidE (askC t (f.map (Value.int .u8)) ((sumL 0 (bodyB f rs)).map (Value.int .u8)))
 rw [← HAS.out] at hask hAl hA1
 have hza := hid zeroAsk
 have hZAl : askZ.length = 68 := by rfl
 obtain ⟨ZA, HZA⟩ := hidE askZ
 rw [← HZA.out] at hza hZAl
 have hzd := hid zeroDec
 have hbd := hid builtDec
 have hDZl : decZ.length = 4 := by rfl
 have hDFl : decF.length = 4 := by rfl
 have hDF1 : ∀ u ∈ decF, u.oneCell' = true := by decide
 obtain ⟨DZ, HDZ⟩ := hidE decZ
 obtain ⟨DF, HDF⟩ := hidE decF
 rw [← HDZ.out] at hzd hDZl
 rw [← HDF.out] at hbd hDFl hDF1 ⊢
 obtain ⟨B, hsz⟩ := szE w
 rw [hsz] at hask hSb ⊢
 clear h hS
 go_enter Tryz.func85, Tryz.ntmps85
 go_wp2_with (first
  | (refine wl_storeV rfl 94 _ _ rfl 94 X2 rfl DF rfl 4 aggDec hDFl DZ hX6 hDZl hDF1 ?_; intro w7 hX7 hb7 hs7; have hT7 := hT6.below hb7 (by omega); have bb7 : Below B w w7 := bb6.trans (hb7.mono (by omega)); obtain ⟨s0, s1, s34, s35, s52, s53, s54⟩ := st_cells rfl rfl (hSb w7 bb7).out.blk)
  | (obtain ⟨X2, HX2⟩ := hidE w5.heap.size; refine wl_allocV rfl 94 rfl DZ hzd.out X2 HX2.out.symm ?_; intro w6 hX6 hb6 hs6; have hX12 : X1 < X2 := (by rw [HX2.out]; omega); have hT6 := hT5.below hb6 (by omega); have bb6 : Below B w w6 := bb5.trans (hb6.mono (by omega)))
  | (refine wl_buildL rfl 94 _ rfl [(0, .bool true), (1, .int .i64 (-1))] rfl DF hbd.out ?_)
  | (refine wl_storeV rfl 165 _ _ rfl 165 X1 rfl AS rfl 68 aggAsk hAl ZA hX4 hZAl hA1 ?_; intro w5 hX5 hb5 hs5; have hT5 := hT4.below hb5 (by omega); have bb5 : Below B w w5 := bb4.trans (hb5.mono (by omega)))
  | (obtain ⟨X1, HX1⟩ := hidE w3.heap.size; have hX1B : B + 1 < X1 := (by rw [HX1.out]; have := hb3.size; omega); refine wl_allocV rfl 165 rfl ZA hza.out X1 HX1.out.symm ?_; intro w4 hX4 hb4 hs4; have hT4 := hT3.below hb4 (by omega); have bb4 : Below B w w4 := bb3.trans (hb4.mono (by omega)))
  | (go_at_call 146; refine (hask w2 bb2).out.mono ?_; rintro e w3 ⟨rfl, hb3⟩; have hT3 := hT2.below hb3 hT2.lt; have bb3 : Below B w w3 := bb2.trans (hb3.mono (by omega)))
  | (refine wl_loadG (by rfl) 83 _ rfl ⟨B, 0, none⟩ rfl 68 CS hCl aggEntry hE2.at0 ?_)
  | (refine wl_allocV rfl 94 rfl DZ hzd.out (B + 1) (by omega) ?_; intro w2 hT2 hb2 hs2; have hE2 := hE1.below hb2 (by omega); have bb2 : Below B w w2 := bb1.trans (hb2.mono (by omega)))
  | (refine wl_boxV rfl 83 _ rfl CS rfl B hsz ?_; intro w1 hE1 bb1 hs1))
 refine wp_region_held_drew (S := (fun w' => w'.cell? ⟨g, 0, none⟩ = some (.int .i64 0))) (by kernel_rfl) s0 (fun hHeld => ?_)
 obtain ⟨x0, HX0⟩ := hidE w7.drew
 rw [← HX0.out] at hHeld ⊢
 have hX8 : BlkV 94 x0 X2 DF := by rw [HX0.out]; exact hX7
 have hT8 : BlkV 94 x0 (B + 1) DZ := by rw [HX0.out]; exact hT7
 have bb8 : Below B w x0 := by rw [HX0.out]; exact bb7.drew
 clear hX7 hT7 bb7
 refine tq 0 rfl ?_
 refine tq 1 rfl ?_
 refine tq 2 rfl ?_
 refine tq 3 rfl ?_
 refine tq 4 rfl ?_
 refine tq 5 rfl ?_
 refine tk 6 rfl (Or.inr ⟨by kernel_rfl, rfl⟩) ?_
 refine tk 7 rfl (Or.inr ⟨by kernel_rfl, rfl⟩) ?_
 refine tk 8 rfl (Or.inr ⟨by kernel_rfl, rfl⟩) ?_
 refine tk 9 rfl (Or.inr ⟨by kernel_rfl, rfl⟩) ?_
 refine tk 10 rfl (Or.inr ⟨by kernel_rfl, rfl⟩) ?_
 refine tk 11 rfl (Or.inr ⟨by kernel_rfl, rfl⟩) ?_
 refine tk 12 rfl (Or.inr ⟨by kernel_rfl, rfl⟩) ?_
 refine tk 13 rfl (Or.inr ⟨by kernel_rfl, rfl⟩) ?_
 refine tk 14 rfl (Or.inr ⟨by kernel_rfl, rfl⟩) ?_
 refine tk 15 rfl (Or.inr ⟨by kernel_rfl, rfl⟩) ?_
 refine tk 16 rfl (Or.inr ⟨by kernel_rfl, rfl⟩) ?_
 refine tk 17 rfl (Or.inr ⟨by kernel_rfl, rfl⟩) ?_
 refine tk 18 rfl (Or.inr ⟨by kernel_rfl, rfl⟩) ?_
 refine tk 19 rfl (Or.inr ⟨by kernel_rfl, rfl⟩) ?_
 refine tk 20 rfl (Or.inr ⟨by kernel_rfl, rfl⟩) ?_
 refine tk 21 rfl (Or.inr ⟨by kernel_rfl, rfl⟩) ?_
 refine tk 22 rfl (Or.inr ⟨by kernel_rfl, rfl⟩) ?_
 refine tq 23 rfl ?_
 refine wpAnyH_done (by kernel_rfl) ?_ _
 clear hHeld s0 s1 s34 s35 s52 s53 s54
 go_wp2_with (first
  | (refine wl_storeV rfl 94 _ _ rfl 94 (B + 1) rfl DF rfl 4 aggDec hDFl DZ hT8 hDZl hDF1 ?_; intro w9 hT9 hb9 hs9; have bb9 : Below B w w9 := bb8.trans (hb9.mono (by omega)))
  | (refine wl_loadG (by rfl) 94 _ rfl ⟨X2, 0, none⟩ rfl 4 DF hDFl aggDec hX8.at0 ?_))
 (try simp only [Exit.inBlock, Exit.then]); refine bodyPost_ret (results_cell2 rfl _ _ _ _ rfl DF (by rw [hDFl]; exact aggDec) hT9.at0) rfl ?_
 exact ⟨rfl, bb9⟩
end Go.Proofs.YtdhipjoplkpgmaaGreatDoor.hf
