/-
  keyref2.ReadEnvelope: laws for a map literal, its closure, its errors. Conditions: a slice of octets that lies in memory.
-/
import Derived.Test.YtbjmadcbhkeenaaGreatCWrK
import Derived.WideMake
set_option maxRecDepth 100000
set_option linter.unusedSimpArgs false
set_option linter.unusedVariables false
namespace Go.Proofs.YtbjmadcbhkeenaaGreat.wr
open Go.RowKit st hs shr sh
theorem wl_box1 {P : Program} {w : World} {ops : Array Oper} {rest : List Oper} {o : Oper} {a : Act} {Q : Exit → Act → World → Prop} (hgd : o.guard = none) (t : TypeId) (x : Operand) (ho : o.op = .box t x)
  (v : Value) (hv : v.cells = #[v]) (hx : a.eval x = v) (N : Nat) (hN : w.heap.size = N)
  (h : ∀ w', BlkV t w' N [v] → Below N w w' → w'.heap.size = N + 1 → wpList P ops Q rest (a.put o.dst (.pointer (some ⟨N, 0, none⟩))) w') : wpList P ops Q (o :: rest) a w := by
 subst hN
 refine wpList_plain hgd fun K hK' => ?_
 unfold Oper.wp
 simp [execOp, ho, hx, Instr.box, newVar, newRow, hv, Result.andThen]
 exact hK' _ _ (h _ (BlkV.new t w [v] rfl) ((Below.refl _ _).alloc (Nat.le_refl _) _) (by simp))
theorem wl_makeMap {P : Program} {w : World} {ops : Array Oper} {rest : List Oper} {o : Oper} {a : Act} {Q : Exit → Act → World → Prop} (hgd : o.guard = none) (t : TypeId) (ho : o.op = .makeMap t none) (N : Nat) (hN : w.heap.size = N)
  (h : ∀ w' : World, w'.heap[N]? = some (.map #[] 0) → Below N w w' → w'.heap.size = N + 1 → wpList P ops Q rest (a.put o.dst (.map (some N))) w') : wpList P ops Q (o :: rest) a w := by
 subst hN
 refine wpList_plain hgd fun K hK' => ?_
 unfold Oper.wp
 simp [execOp, ho, run_makeMap_plain, Result.andThen]
 exact hK' _ _ (h _ (heap_alloc_new _ _) ((Below.refl _ _).alloc (Nat.le_refl _) _) (by simp))
theorem wl_insert {P : Program} {w : World} {ops : Array Oper} {rest : List Oper} {o : Oper} {a : Act} {Q : Exit → Act → World → Prop} (hgd : o.guard = none) (t kt et : TypeId) (m x v : Operand) (ho : o.op = .insert t m x v)
  (hm : P.underlying t = some (.map kt et)) (q : IntKind) (hk : P.underlying kt = some (.int q)) (r clock : Nat) (es : Array MapEntry) (k : Int) (val : Value) (hmv : a.eval m = .map (some r)) (hx : a.eval x = .int q k) (hv : a.eval v = val)
  (hb : w.heap[r]? = some (.map es clock)) (hf : Instr.findNow (.int q) (.int q k) es.toList 0 = some none)
  (h : ∀ w' : World, w'.heap[r]? = some (.map (es.push ⟨.int q k, val, clock⟩) (clock + 1)) → Below r w w' → w'.heap.size = w.heap.size → wpList P ops Q rest (a.put o.dst undef) w') : wpList P ops Q (o :: rest) a w := by
 have hc : (Instr.checkKey false 10000 kt (.int q k)).run P w = .ok () w := MapKept.run_checkKey (k := .int q k) hk (by simp [MapKept.IsKey]) false 9999
 have hrun : (Instr.mapUpdate t (.map (some r)) (.int q k) val).run P w = .ok () { w with heap := w.heap.setIfInBounds r (.map (es.push ⟨.int q k, val, clock⟩) (clock + 1)) } := by
  simp [Instr.mapUpdate, run_underlying hm, MapKept.run_getObj_map hb, hc, MapKept.run_findKey hk hf, MapKept.run_setObj_map _ hb, Result.andThen]
 obtain ⟨h1, h2⟩ := MapKept.heap_set (o' := .map (es.push ⟨.int q k, val, clock⟩) (clock + 1)) hb
 refine wpList_plain hgd fun K hK' => ?_
 unfold Oper.wp
 simp only [execOp, ho, hmv, hx, hv, hrun, Sem.run_bind, Result.andThen_ok, Sem.run_pure]
 exact hK' _ _ (h _ h1 ⟨rfl, rfl, rfl, by simp, fun j hj => h2 j (by omega)⟩ (by simp))
theorem wl_lookup1 {P : Program} {w : World} {ops : Array Oper} {rest : List Oper} {o : Oper} {a : Act} {Q : Exit → Act → World → Prop} (hgd : o.guard = none) (t kt et : TypeId) (m x : Operand) (ho : o.op = .lookup t m x false)
  (hm : P.underlying t = some (.map kt et)) (q : IntKind) (hk : P.underlying kt = some (.int q)) (r clock i : Nat) (es : Array MapEntry) (k : Int) (val : Value) (hmv : a.eval m = .map (some r)) (hx : a.eval x = .int q k)
  (hb : w.heap[r]? = some (.map es clock)) (hf : Instr.findNow (.int q) (.int q k) es.toList 0 = some (some (i, val)))
  (h : wpList P ops Q rest (a.put o.dst val) w) : wpList P ops Q (o :: rest) a w := by
 have hc : (Instr.checkKey es.isEmpty 10000 kt (.int q k)).run P w = .ok () w := MapKept.run_checkKey (k := .int q k) hk (by simp [MapKept.IsKey]) _ 9999
 have hrun : (Instr.lookup t (.map (some r)) (.int q k) false).run P w = .ok val w := by
  simp [Instr.lookup, run_underlying hm, MapKept.run_getObj_map hb, hc, MapKept.run_findKey hk hf, Result.andThen]
 refine wpList_plain hgd fun K hK' => ?_
 unfold Oper.wp
 simp only [execOp, ho, hmv, hx, hrun, Sem.run_bind, Result.andThen_ok, Sem.run_pure]
 exact hK' _ _ h
theorem wpList_copy_run {P : Program} (w : World) {ops : Array Oper} {rest : List Oper} {o : Oper} {a : Act} {Q : Exit → Act → World → Prop} (hgd : o.guard = none) (d s : Operand) (dT sT : TypeId)
  (ho : o.op = .call { callee := .builtin .copy, args := #[d, s], argTypes := #[dT, sT] }) (elem : TypeId) (hu : P.underlying dT = some (.slice elem)) (hsz : (P.info? elem).map (·.size) = some 1)
  (dp sp : Addr) (dLen dCap sLen sCap : Nat) (hd : a.eval d = .slice (some dp) dLen dCap) (hs : a.eval s = .slice (some sp) sLen sCap) (t : TypeId) (cur : List Value) (hg : BlkV t w dp.block cur) (cs : List Value) (hn : cs.length = Nat.min sLen dLen)
  (hsrc : At w sp cs) (hfit : dp.off + cs.length ≤ cur.length) (h1 : ∀ v ∈ cs, v.oneCell' = true) (hsp : dp.spot = none)
  (h : ∀ w', BlkV t w' dp.block (splice cur dp.off cs) → Below dp.block w w' → w'.heap.size = w.heap.size → (∀ k, k ≠ dp.block → w'.heap[k]? = w.heap[k]?) → wpList P ops Q rest (a.put o.dst (goInt cs.length)) w') : wpList P ops Q (o :: rest) a w := by
 obtain ⟨g, off, sp0⟩ := dp
 subst hsp
 by_cases h0 : cs.length = 0
 ·obtain rfl : cs = [] := List.eq_nil_of_length_eq_zero h0
  refine Go.wpList_copy_nothing hgd d s dT sT ho elem hu hsz _ _ dLen dCap sLen sCap hd hs (by simpa using hn.symm) ?_
  exact h w (by simpa [splice] using hg) (Below.refl _ _) rfl fun k _ => rfl
 ·refine Go.wpList_copy_own hgd d s dT sT ho elem hu hsz g off dLen dCap sp sLen sCap hd hs cur.toArray t hg cs hn (fun j u hu => hsrc j u hu) (by simpa using hfit) h1 ?_
  exact h _ (by simpa [splice] using hg.setRow _) (below_setRow' (Below.refl _ _) (Nat.le_refl _) _) (by simp) fun k hk => setRow_other w g k _ hk
theorem mid_eq (cur D : List Value) (off m : Nat) (h : D.length = m) : splice cur off D = cur.take off ++ D ++ cur.drop (off + m) := by subst h; unfold splice; rw [List.append_assoc]
def TakePost (p g goff m b off n c : Nat) (t : TypeId) (cur D : List Value) (w : World) (e : Ending) (w' : World) : Prop :=
 e = .returned (.tuple #[]) ∧ (∃ ao, BlkV 25 w' p [.slice ao (n - m) (c - m)] ∧ (m < c → ao = some ⟨b, off + m, none⟩)) ∧ BlkV t w' g (cur.take goff ++ D ++ cur.drop (goff + m)) ∧ Below p w w' ∧ (∀ k, p < k → k < g → w'.heap[k]? = w.heap[k]?) ∧ w'.heap.size = w.heap.size
set_option maxHeartbeats 1000000 in
theorem take_ok (p g goff m cm b off n c : Nat) (t : TypeId) (cur D : List Value) (w : World) (hp : BlkV 25 w p [.slice (some ⟨b, off, none⟩) n c]) (hg : BlkV t w g cur) (hD : At w ⟨b, off, none⟩ D) (hDl : D.length = m) (hmn : m ≤ n) (hnc : n ≤ c) (hc : c ≤ maxLen)
  (hfit : goff + m ≤ cur.length) (hpg : p < g) (hD1 : ∀ u ∈ D, u.oneCell' = true) (hcm : m ≤ cm) :
  Calls Tryz.prog 50 #[.slice (some ⟨g, goff, none⟩) m cm, .pointer (some ⟨p, 0, none⟩)] w (TakePost p g goff m b off n c t cur D w) := by
 have hmid := hid (mid_eq cur D goff m hDl)
 have hmin : Hid (D.length = Nat.min n m) := hid (by rw [hDl]; exact (Nat.min_eq_right hmn).symm)
 have hsz : (Tryz.prog.info? 5).map (·.size) = some 1 := by kernel_rfl
 have cP : w.cell? ⟨p, 0, none⟩ = some (.slice (some ⟨b, off, none⟩) n c) := hp.cell 0
 have hbI : (m : Int) ≤ (n : Int) := by omega
 have hcI : (n : Int) ≤ (c : Int) := by omega
 have hbI0 : (0 : Int) ≤ (m : Int) := by omega
 have hfit' : goff + D.length ≤ cur.length := by rw [hDl]; exact hfit
 clear hDl
 by_cases hmc : c = m
 ·subst hmc
  obtain rfl : n = c := by omega
  go_enter Tryz.func50, Tryz.ntmps50
  go_wp2_with (first | (refine wpList_copy_run _ rfl _ _ 25 25 rfl 5 Tryz.underlying25 hsz ⟨g, goff, none⟩ ⟨b, off, none⟩ n cm n n rfl rfl t cur hg D hmin.out hD hfit' hD1 rfl ?_; intro w1 hG1 hb1 hs1 ho1; have hP1 := hp.below hb1 hpg; have cP1 : w1.cell? ⟨p, 0, none⟩ = some (.slice (some ⟨b, off, none⟩) n n) := hP1.cell 0; have fP1 := hP1.frozen 0; clear hg hp hD cP))
  go_end0
  unfold TakePost
  refine ⟨rfl, ⟨some ⟨b, off, none⟩, by rw [Nat.sub_self]; exact hP1.set 0 _, fun h => absurd h (by omega)⟩, ?_, ?_, ?_, ?_⟩
  ·rw [← hmid.out]; exact hG1.other (by simp; omega) _
  ·exact (hb1.mono (by omega)).setCell (by simp) _
  ·intro k h1 h2; rw [heap_setCell_other _ _ _ _ (by simp; omega)]; exact hb1.block k h2
  ·simp [hs1]
 ·have hmc' : ¬ c = m := hmc
  go_enter Tryz.func50, Tryz.ntmps50
  go_wp2_with (first | (refine wpList_copy_run _ rfl _ _ 25 25 rfl 5 Tryz.underlying25 hsz ⟨g, goff, none⟩ ⟨b, off, none⟩ m cm n c rfl rfl t cur hg D hmin.out hD hfit' hD1 rfl ?_; intro w1 hG1 hb1 hs1 ho1; have hP1 := hp.below hb1 hpg; have cP1 : w1.cell? ⟨p, 0, none⟩ = some (.slice (some ⟨b, off, none⟩) n c) := hP1.cell 0; have fP1 := hP1.frozen 0; clear hg hp hD cP))
  go_end0
  unfold TakePost
  refine ⟨rfl, ⟨_, hP1.set 0 _, fun h => rfl⟩, ?_, ?_, ?_, ?_⟩
  ·rw [← hmid.out]; exact hG1.other (by simp; omega) _
  ·exact (hb1.mono (by omega)).setCell (by simp) _
  ·intro k h1 h2; rw [heap_setCell_other _ _ _ _ (by simp; omega)]; exact hb1.block k h2
  ·simp [hs1]
set_option maxHeartbeats 2000000 in
theorem RefRead_short (ao : Option Addr) (cap n : Nat) (l : List Int) (w : World) (hn : n = l.length) (hl : n < 4) :
  Calls Tryz.prog 27 #[.slice ao n cap] w fun e w' => e = .returned (readV l) ∧ Below w.heap.size w w' := by
 obtain ⟨B, HB⟩ : ∃ B, Hid (B = w.heap.size) := ⟨_, rfl⟩
 have hsz : w.heap.size = B := HB.out.symm
 have hz := hid zeroEnv
 obtain ⟨Z, HZ⟩ : ∃ Z, Hid (Z = env0.cs) := ⟨_, rfl⟩
 have hZl : Z.length = 130 := by rw [HZ.out]; exact env0_ok.csl
 have hZ1 : ∀ u ∈ Z, u.oneCell' = true := by rw [HZ.out]; exact env0.cs_one
 rw [← HZ.out] at hz
 have HN := hid hn
 have HV : Hid (readV l = .tuple #[.agg Z.toArray, .int .i64 1]) := by
  show _ = _
  rw [HZ.out]
  exact readV_err (by unfold readE; rw [if_pos (by omega)]) (by decide)
 rw [HV.out]
 have hI : (n : Int) < 4 := by omega
 clear hn
 go_enter Tryz.func27, Tryz.ntmps27
 go_wp2_with (first | (refine wl_allocV rfl 57 rfl Z hz.out (B + 2) hs1 ?_; intro w2 hX2 hb2 hs2; have hP2 := hP1.below hb2 (by omega); have hR2 := hR1.below hb2 (by omega); have bb2 := bb1.trans (hb2.mono (by omega : B ≤ _)); have cP2 : w2.cell? ⟨B, 0, none⟩ = some (Value.slice ao n cap) := hP2.cell 0; clear hP1 hR1 bb1 hb2) | (refine wl_allocV rfl 57 rfl Z hz.out (B + 1) hs0 ?_; intro w1 hR1 hb1 hs1; have hP1 := hP0.below hb1 (by omega); have bb1 := hb0.trans (hb1.mono (by omega : B ≤ _)); clear hP0 hb0 hb1) | (refine wl_box1 rfl 25 _ rfl (Value.slice ao n cap) rfl rfl B hsz ?_; intro w0 hP0 hb0 hs0) | (refine wl_load rfl 57 _ rfl ⟨B + 2, 0, none⟩ rfl Z (by rw [hZl]; exact aggEnv) hX2.at0 ?_) | (refine wl_storeV rfl 57 _ _ rfl 57 (B + 1) rfl Z rfl 130 aggEnv hZl Z hR2 hZl hZ1 ?_; intro w9 hR9 hb9 hs9))
 (try simp only [Exit.inBlock, Exit.then]); refine bodyPost_ret (results_cell2 rfl _ _ _ _ rfl Z (by rw [hZl]; exact aggEnv) hR9.at0) rfl ?_
 exact ⟨rfl, by first | exact bb2.trans (hb9.mono (by omega)) | (rw [hsz]; exact bb2.trans (hb9.mono (by omega)))⟩
set_option maxHeartbeats 2000000 in
theorem RefRead_form (ao : Option Addr) (cap n : Nat) (l : List Int) (w : World) (hn : n = l.length) (hP : Pt.Ok w ⟨ao, cap, l⟩) (hl : 4 ≤ n) (hf : ¬ l.take 3 = kww) :
  Calls Tryz.prog 27 #[.slice ao n cap] w fun e w' => e = .returned (readV l) ∧ Below w.heap.size w w' := by
 obtain ⟨B, HB⟩ : ∃ B, Hid (B = w.heap.size) := ⟨_, rfl⟩
 have hsz : w.heap.size = B := HB.out.symm
 have hz := hid zeroEnv
 obtain ⟨Z, HZ⟩ : ∃ Z, Hid (Z = env0.cs) := ⟨_, rfl⟩
 have hZl : Z.length = 130 := by rw [HZ.out]; exact env0_ok.csl
 have hZ1 : ∀ u ∈ Z, u.oneCell' = true := by rw [HZ.out]; exact env0.cs_one
 rw [← HZ.out] at hz
 have HN := hid hn
 have HV : Hid (readV l = .tuple #[.agg Z.toArray, .int .i64 2]) := by
  show _ = _
  rw [HZ.out]
  exact readV_err (by unfold readE; rw [if_neg (by omega), if_pos hf]) (by decide)
 rw [HV.out]
 obtain ⟨b, off, rfl, hb, hc⟩ := hP.row.at (i := 0) (by show 0 < l.length; omega)
 have hI : ¬ (n : Int) < 4 := by omega
 have hcap : n ≤ cap := by rw [hn]; exact hP.len
 have h3c : 3 ≤ cap := by omega
 have h3I : (3 : Int) ≤ (cap : Int) := by omega
 have h3n : (3 : Int) < (n : Int) := by omega
 obtain ⟨S, HS⟩ : ∃ S, Hid (S = strOfNums (l.take 3)) := ⟨_, rfl⟩
 have ho3 : Octs (l.take 3) := fun c hc => hP.oct c (List.mem_of_mem_take hc)
 have hlen3 : 3 = (l.take 3).length := by rw [List.length_take]; omega
 have hkS := fun w1 (hb1 : Below B w w1) => hid (run_convStr w1 (some ⟨b, off, none⟩) 3 cap (l.take 3) hlen3 (RowI.takeS (hP.row.below (hsz ▸ hb1)) 3))
 rw [← HS.out] at hkS
 have hne : ¬ S = strOfNums kww := fun e => hf (str_inj ho3 kww_octs (by rw [← HS.out]; exact e))
 have hne' : ¬ S.toList = [75, 87, 87] := by
  intro e
  have h1 := str_ne hne
  rw [beq_eq_false_iff_ne] at h1
  exact h1 (e.trans (by rw [toList_eq]; rfl))
 have hne2 : (S.toList == [75, 87, 87]) = false := by simpa using hne'
 clear hne' hne hn hP hf hlen3
 go_enter Tryz.func27, Tryz.ntmps27
 go_wp2_with (first | (refine wl_allocV rfl 57 rfl Z hz.out (B + 2) hs1 ?_; intro w2 hX2 hb2 hs2; have hP2 := hP1.below hb2 (by omega); have hR2 := hR1.below hb2 (by omega); have bb2 := bb1.trans (hb2.mono (by omega : B ≤ _)); have cP2 : w2.cell? ⟨B, 0, none⟩ = some (Value.slice (some ⟨b, off, none⟩) n cap) := hP2.cell 0; clear hP1 hR1 bb1 hb2; have kS := (hkS w2 bb2).out) | (refine wl_allocV rfl 57 rfl Z hz.out (B + 1) hs0 ?_; intro w1 hR1 hb1 hs1; have hP1 := hP0.below hb1 (by omega); have bb1 := hb0.trans (hb1.mono (by omega : B ≤ _)); clear hP0 hb0 hb1) | (refine wl_box1 rfl 25 _ rfl (Value.slice (some ⟨b, off, none⟩) n cap) rfl rfl B hsz ?_; intro w0 hP0 hb0 hs0) | (refine wl_load rfl 57 _ rfl ⟨B + 2, 0, none⟩ rfl Z (by rw [hZl]; exact aggEnv) hX2.at0 ?_) | (refine wl_storeV rfl 57 _ _ rfl 57 (B + 1) rfl Z rfl 130 aggEnv hZl Z hR2 hZl hZ1 ?_; intro w9 hR9 hb9 hs9))
 (try simp only [Exit.inBlock, Exit.then]); refine bodyPost_ret (results_cell2 rfl _ _ _ _ rfl Z (by rw [hZl]; exact aggEnv) hR9.at0) rfl ?_
 exact ⟨rfl, by first | exact bb2.trans (hb9.mono (by omega)) | (rw [hsz]; exact bb2.trans (hb9.mono (by omega)))⟩
set_option maxHeartbeats 2000000 in
theorem RefRead_version (ao : Option Addr) (cap n : Nat) (l : List Int) (w : World) (hn : n = l.length) (hP : Pt.Ok w ⟨ao, cap, l⟩) (hl : 4 ≤ n) (hf : l.take 3 = kww) (hv : ¬ (l.getD 3 0 = 1 ∨ l.getD 3 0 = 2)) :
  Calls Tryz.prog 27 #[.slice ao n cap] w fun e w' => e = .returned (readV l) ∧ Below w.heap.size w w' := by
 obtain ⟨B, HB⟩ : ∃ B, Hid (B = w.heap.size) := ⟨_, rfl⟩
 have hsz : w.heap.size = B := HB.out.symm
 have hz := hid zeroEnv
 obtain ⟨Z, HZ⟩ : ∃ Z, Hid (Z = env0.cs) := ⟨_, rfl⟩
 have hZl : Z.length = 130 := by rw [HZ.out]; exact env0_ok.csl
 have hZ1 : ∀ u ∈ Z, u.oneCell' = true := by rw [HZ.out]; exact env0.cs_one
 rw [← HZ.out] at hz
 have HN := hid hn
 have HV : Hid (readV l = .tuple #[.agg Z.toArray, .int .i64 19]) := by
  show _ = _
  rw [HZ.out]
  exact readV_err (by unfold readE; rw [if_neg (by omega), if_neg (fun h => h hf), if_pos hv]) (by decide)
 rw [HV.out]
 obtain ⟨b, off, rfl, hb, hc⟩ := hP.row.at (i := 0) (by show 0 < l.length; omega)
 have hI : ¬ (n : Int) < 4 := by omega
 have hcap : n ≤ cap := by rw [hn]; exact hP.len
 have h3c : 3 ≤ cap := by omega
 have h3I : (3 : Int) ≤ (cap : Int) := by omega
 have h3n : (3 : Int) < (n : Int) := by omega
 obtain ⟨S, HS⟩ : ∃ S, Hid (S = strOfNums (l.take 3)) := ⟨_, rfl⟩
 have ho3 : Octs (l.take 3) := fun c hc => hP.oct c (List.mem_of_mem_take hc)
 have hlen3 : 3 = (l.take 3).length := by rw [List.length_take]; omega
 have hkS := fun w1 (hb1 : Below B w w1) => hid (run_convStr w1 (some ⟨b, off, none⟩) 3 cap (l.take 3) hlen3 (RowI.takeS (hP.row.below (hsz ▸ hb1)) 3))
 rw [← HS.out] at hkS
 have ems : S = ⟨#[75, 87, 87]⟩ := by rw [HS.out, hf]; rfl
 rw [ems] at hkS
 obtain ⟨x3, H3⟩ : ∃ x, Hid (x = l.getD 3 0) := ⟨_, rfl⟩
 have hc3 : w.cell? ⟨b, off + 3, none⟩ = some (.int .u8 x3) := by rw [H3.out]; exact hc 3 (by show 3 < l.length; omega)
 have hbB : b < B := by rw [HB.out]; exact hb
 rw [← H3.out] at hv
 have hv1 : ¬ x3 = 1 := fun h => hv (Or.inl h)
 have hv2 : ¬ x3 = 2 := fun h => hv (Or.inr h)
 have hn1 : (x3 != 1) = true := by simpa using hv1
 have hn2 : (x3 != 2) = true := by simpa using hv2
 clear hn hP hf hlen3 hv ems
 go_enter Tryz.func27, Tryz.ntmps27
 go_wp2_with (first | (refine wl_allocV rfl 57 rfl Z hz.out (B + 2) hs1 ?_; intro w2 hX2 hb2 hs2; have hP2 := hP1.below hb2 (by omega); have hR2 := hR1.below hb2 (by omega); have bb2 := bb1.trans (hb2.mono (by omega : B ≤ _)); have cP2 : w2.cell? ⟨B, 0, none⟩ = some (Value.slice (some ⟨b, off, none⟩) n cap) := hP2.cell 0; clear hP1 hR1 bb1 hb2; have kS := (hkS w2 bb2).out; have c3 := (bb2.cell (p := ⟨b, off + 3, none⟩) hbB).trans hc3) | (refine wl_allocV rfl 57 rfl Z hz.out (B + 1) hs0 ?_; intro w1 hR1 hb1 hs1; have hP1 := hP0.below hb1 (by omega); have bb1 := hb0.trans (hb1.mono (by omega : B ≤ _)); clear hP0 hb0 hb1) | (refine wl_box1 rfl 25 _ rfl (Value.slice (some ⟨b, off, none⟩) n cap) rfl rfl B hsz ?_; intro w0 hP0 hb0 hs0) | (refine wl_load rfl 57 _ rfl ⟨B + 2, 0, none⟩ rfl Z (by rw [hZl]; exact aggEnv) hX2.at0 ?_) | (refine wl_storeV rfl 57 _ _ rfl 57 (B + 1) rfl Z rfl 130 aggEnv hZl Z hR2 hZl hZ1 ?_; intro w9 hR9 hb9 hs9))
 (try simp only [Exit.inBlock, Exit.then]); refine bodyPost_ret (results_cell2 rfl _ _ _ _ rfl Z (by rw [hZl]; exact aggEnv) hR9.at0) rfl ?_
 exact ⟨rfl, by first | exact bb2.trans (hb9.mono (by omega)) | (rw [hsz]; exact bb2.trans (hb9.mono (by omega)))⟩
set_option maxHeartbeats 2000000 in
theorem RefRead_few1 (ao : Option Addr) (cap n : Nat) (l : List Int) (w : World) (hn : n = l.length) (hP : Pt.Ok w ⟨ao, cap, l⟩) (hl : 4 ≤ n) (hf : l.take 3 = kww) (hv : l.getD 3 0 = 1) (hzl : n < 88) :
  Calls Tryz.prog 27 #[.slice ao n cap] w fun e w' => e = .returned (readV l) ∧ Below w.heap.size w w' := by
 obtain ⟨B, HB⟩ : ∃ B, Hid (B = w.heap.size) := ⟨_, rfl⟩
 have hsz : w.heap.size = B := HB.out.symm
 have hz := hid zeroEnv
 obtain ⟨Z, HZ⟩ : ∃ Z, Hid (Z = env0.cs) := ⟨_, rfl⟩
 have hZl : Z.length = 130 := by rw [HZ.out]; exact env0_ok.csl
 have hZ1 : ∀ u ∈ Z, u.oneCell' = true := by rw [HZ.out]; exact env0.cs_one
 rw [← HZ.out] at hz
 have HN := hid hn
 have HV : Hid (readV l = .tuple #[.agg Z.toArray, .int .i64 1]) := by
  show _ = _
  rw [HZ.out]
  exact readV_err (by have hs : szR l = 88 := (by unfold szR; rw [if_neg (by omega)]); unfold readE; rw [if_neg (by omega), if_neg (fun h => h hf), if_neg (by omega), hs, if_pos (by omega)]) (by decide)
 rw [HV.out]
 obtain ⟨b, off, rfl, hb, hc⟩ := hP.row.at (i := 0) (by show 0 < l.length; omega)
 have hI : ¬ (n : Int) < 4 := by omega
 have hcap : n ≤ cap := by rw [hn]; exact hP.len
 have h3c : 3 ≤ cap := by omega
 have h3I : (3 : Int) ≤ (cap : Int) := by omega
 have h3n : (3 : Int) < (n : Int) := by omega
 obtain ⟨S, HS⟩ : ∃ S, Hid (S = strOfNums (l.take 3)) := ⟨_, rfl⟩
 have ho3 : Octs (l.take 3) := fun c hc => hP.oct c (List.mem_of_mem_take hc)
 have hlen3 : 3 = (l.take 3).length := by rw [List.length_take]; omega
 have hkS := fun w1 (hb1 : Below B w w1) => hid (run_convStr w1 (some ⟨b, off, none⟩) 3 cap (l.take 3) hlen3 (RowI.takeS (hP.row.below (hsz ▸ hb1)) 3))
 rw [← HS.out] at hkS
 have ems : S = ⟨#[75, 87, 87]⟩ := by rw [HS.out, hf]; rfl
 rw [ems] at hkS
 obtain ⟨x3, H3⟩ : ∃ x, Hid (x = l.getD 3 0) := ⟨_, rfl⟩
 have hc3 : w.cell? ⟨b, off + 3, none⟩ = some (.int .u8 x3) := by rw [H3.out]; exact hc 3 (by show 3 < l.length; omega)
 have hbB : b < B := by rw [HB.out]; exact hb
 rw [← H3.out] at hv
 subst hv
 have hq : (n : Int) < 88 := by omega
 clear hn hP hf hlen3 ems
 go_enter Tryz.func27, Tryz.ntmps27
 go_wp2_with (first | (refine wl_lookup1 rfl 93 5 3 _ _ rfl Tryz.underlying93 .u8 Tryz.underlying5 (B + 3) 2 0 #[⟨.int .u8 1, .int .i64 88, 0⟩, ⟨.int .u8 2, .int .i64 136, 1⟩] 1 (.int .i64 88) rfl rfl hM5 (by rfl) ?_) | (refine wl_insert rfl 93 5 3 _ _ _ rfl Tryz.underlying93 .u8 Tryz.underlying5 (B + 3) 1 #[⟨.int .u8 1, .int .i64 88, 0⟩] 2 (.int .i64 136) rfl rfl rfl hM4 (by rfl) ?_; intro w5 hM5 hb5 hs5; have hP5 := hP4.below hb5 (by omega); have hR5 := hR4.below hb5 (by omega); have hX5 := hX4.below hb5 (by omega); have bb5 := bb4.trans (hb5.mono (by omega : B ≤ _)); have cP5 : w5.cell? ⟨B, 0, none⟩ = some (Value.slice (some ⟨b, off, none⟩) n cap) := hP5.cell 0; have c35 := (bb5.cell (p := ⟨b, off + 3, none⟩) hbB).trans hc3; clear hP4 hR4 hX4 bb4 cP4 hb5; clear hM4 c34) | (refine wl_insert rfl 93 5 3 _ _ _ rfl Tryz.underlying93 .u8 Tryz.underlying5 (B + 3) 0 #[] 1 (.int .i64 88) rfl rfl rfl hM3 (by rfl) ?_; intro w4 hM4 hb4 hs4; have hP4 := hP3.below hb4 (by omega); have hR4 := hR3.below hb4 (by omega); have hX4 := hX3.below hb4 (by omega); have bb4 := bb3.trans (hb4.mono (by omega : B ≤ _)); have cP4 : w4.cell? ⟨B, 0, none⟩ = some (Value.slice (some ⟨b, off, none⟩) n cap) := hP4.cell 0; have c34 := (bb4.cell (p := ⟨b, off + 3, none⟩) hbB).trans hc3; clear hP3 hR3 hX3 bb3 cP3 hb4; clear hM3 c33) | (refine wl_makeMap rfl 93 rfl (B + 3) hs2 ?_; intro w3 hM3 hb3 hs3; have hP3 := hP2.below hb3 (by omega); have hR3 := hR2.below hb3 (by omega); have hX3 := hX2.below hb3 (by omega); have bb3 := bb2.trans (hb3.mono (by omega : B ≤ _)); have cP3 : w3.cell? ⟨B, 0, none⟩ = some (Value.slice (some ⟨b, off, none⟩) n cap) := hP3.cell 0; have c33 := (bb3.cell (p := ⟨b, off + 3, none⟩) hbB).trans hc3; clear hP2 hR2 hX2 bb2 cP2 hb3; clear c3) | (refine wl_allocV rfl 57 rfl Z hz.out (B + 2) hs1 ?_; intro w2 hX2 hb2 hs2; have hP2 := hP1.below hb2 (by omega); have hR2 := hR1.below hb2 (by omega); have bb2 := bb1.trans (hb2.mono (by omega : B ≤ _)); have cP2 : w2.cell? ⟨B, 0, none⟩ = some (Value.slice (some ⟨b, off, none⟩) n cap) := hP2.cell 0; clear hP1 hR1 bb1 hb2; have kS := (hkS w2 bb2).out; have c3 := (bb2.cell (p := ⟨b, off + 3, none⟩) hbB).trans hc3) | (refine wl_allocV rfl 57 rfl Z hz.out (B + 1) hs0 ?_; intro w1 hR1 hb1 hs1; have hP1 := hP0.below hb1 (by omega); have bb1 := hb0.trans (hb1.mono (by omega : B ≤ _)); clear hP0 hb0 hb1) | (refine wl_box1 rfl 25 _ rfl (Value.slice (some ⟨b, off, none⟩) n cap) rfl rfl B hsz ?_; intro w0 hP0 hb0 hs0) | (refine wl_load rfl 57 _ rfl ⟨B + 2, 0, none⟩ rfl Z (by rw [hZl]; exact aggEnv) hX5.at0 ?_) | (refine wl_storeV rfl 57 _ _ rfl 57 (B + 1) rfl Z rfl 130 aggEnv hZl Z hR5 hZl hZ1 ?_; intro w9 hR9 hb9 hs9))
 (try simp only [Exit.inBlock, Exit.then]); refine bodyPost_ret (results_cell2 rfl _ _ _ _ rfl Z (by rw [hZl]; exact aggEnv) hR9.at0) rfl ?_
 exact ⟨rfl, by first | exact bb5.trans (hb9.mono (by omega)) | (rw [hsz]; exact bb5.trans (hb9.mono (by omega)))⟩
set_option maxHeartbeats 2000000 in
theorem RefRead_many1 (ao : Option Addr) (cap n : Nat) (l : List Int) (w : World) (hn : n = l.length) (hP : Pt.Ok w ⟨ao, cap, l⟩) (hl : 4 ≤ n) (hf : l.take 3 = kww) (hv : l.getD 3 0 = 1) (hzl : 88 < n) :
  Calls Tryz.prog 27 #[.slice ao n cap] w fun e w' => e = .returned (readV l) ∧ Below w.heap.size w w' := by
 obtain ⟨B, HB⟩ : ∃ B, Hid (B = w.heap.size) := ⟨_, rfl⟩
 have hsz : w.heap.size = B := HB.out.symm
 have hz := hid zeroEnv
 obtain ⟨Z, HZ⟩ : ∃ Z, Hid (Z = env0.cs) := ⟨_, rfl⟩
 have hZl : Z.length = 130 := by rw [HZ.out]; exact env0_ok.csl
 have hZ1 : ∀ u ∈ Z, u.oneCell' = true := by rw [HZ.out]; exact env0.cs_one
 rw [← HZ.out] at hz
 have HN := hid hn
 have HV : Hid (readV l = .tuple #[.agg Z.toArray, .int .i64 2]) := by
  show _ = _
  rw [HZ.out]
  exact readV_err (by have hs : szR l = 88 := (by unfold szR; rw [if_neg (by omega)]); unfold readE; rw [if_neg (by omega), if_neg (fun h => h hf), if_neg (by omega), hs, if_neg (by omega), if_pos (by omega)]) (by decide)
 rw [HV.out]
 obtain ⟨b, off, rfl, hb, hc⟩ := hP.row.at (i := 0) (by show 0 < l.length; omega)
 have hI : ¬ (n : Int) < 4 := by omega
 have hcap : n ≤ cap := by rw [hn]; exact hP.len
 have h3c : 3 ≤ cap := by omega
 have h3I : (3 : Int) ≤ (cap : Int) := by omega
 have h3n : (3 : Int) < (n : Int) := by omega
 obtain ⟨S, HS⟩ : ∃ S, Hid (S = strOfNums (l.take 3)) := ⟨_, rfl⟩
 have ho3 : Octs (l.take 3) := fun c hc => hP.oct c (List.mem_of_mem_take hc)
 have hlen3 : 3 = (l.take 3).length := by rw [List.length_take]; omega
 have hkS := fun w1 (hb1 : Below B w w1) => hid (run_convStr w1 (some ⟨b, off, none⟩) 3 cap (l.take 3) hlen3 (RowI.takeS (hP.row.below (hsz ▸ hb1)) 3))
 rw [← HS.out] at hkS
 have ems : S = ⟨#[75, 87, 87]⟩ := by rw [HS.out, hf]; rfl
 rw [ems] at hkS
 obtain ⟨x3, H3⟩ : ∃ x, Hid (x = l.getD 3 0) := ⟨_, rfl⟩
 have hc3 : w.cell? ⟨b, off + 3, none⟩ = some (.int .u8 x3) := by rw [H3.out]; exact hc 3 (by show 3 < l.length; omega)
 have hbB : b < B := by rw [HB.out]; exact hb
 rw [← H3.out] at hv
 subst hv
 have hq : ¬ (n : Int) < 88 := by omega
 have hq2 : (88 : Int) < (n : Int) := by omega
 clear hn hP hf hlen3 ems
 go_enter Tryz.func27, Tryz.ntmps27
 go_wp2_with (first | (refine wl_lookup1 rfl 93 5 3 _ _ rfl Tryz.underlying93 .u8 Tryz.underlying5 (B + 3) 2 0 #[⟨.int .u8 1, .int .i64 88, 0⟩, ⟨.int .u8 2, .int .i64 136, 1⟩] 1 (.int .i64 88) rfl rfl hM5 (by rfl) ?_) | (refine wl_insert rfl 93 5 3 _ _ _ rfl Tryz.underlying93 .u8 Tryz.underlying5 (B + 3) 1 #[⟨.int .u8 1, .int .i64 88, 0⟩] 2 (.int .i64 136) rfl rfl rfl hM4 (by rfl) ?_; intro w5 hM5 hb5 hs5; have hP5 := hP4.below hb5 (by omega); have hR5 := hR4.below hb5 (by omega); have hX5 := hX4.below hb5 (by omega); have bb5 := bb4.trans (hb5.mono (by omega : B ≤ _)); have cP5 : w5.cell? ⟨B, 0, none⟩ = some (Value.slice (some ⟨b, off, none⟩) n cap) := hP5.cell 0; have c35 := (bb5.cell (p := ⟨b, off + 3, none⟩) hbB).trans hc3; clear hP4 hR4 hX4 bb4 cP4 hb5; clear hM4 c34) | (refine wl_insert rfl 93 5 3 _ _ _ rfl Tryz.underlying93 .u8 Tryz.underlying5 (B + 3) 0 #[] 1 (.int .i64 88) rfl rfl rfl hM3 (by rfl) ?_; intro w4 hM4 hb4 hs4; have hP4 := hP3.below hb4 (by omega); have hR4 := hR3.below hb4 (by omega); have hX4 := hX3.below hb4 (by omega); have bb4 := bb3.trans (hb4.mono (by omega : B ≤ _)); have cP4 : w4.cell? ⟨B, 0, none⟩ = some (Value.slice (some ⟨b, off, none⟩) n cap) := hP4.cell 0; have c34 := (bb4.cell (p := ⟨b, off + 3, none⟩) hbB).trans hc3; clear hP3 hR3 hX3 bb3 cP3 hb4; clear hM3 c33) | (refine wl_makeMap rfl 93 rfl (B + 3) hs2 ?_; intro w3 hM3 hb3 hs3; have hP3 := hP2.below hb3 (by omega); have hR3 := hR2.below hb3 (by omega); have hX3 := hX2.below hb3 (by omega); have bb3 := bb2.trans (hb3.mono (by omega : B ≤ _)); have cP3 : w3.cell? ⟨B, 0, none⟩ = some (Value.slice (some ⟨b, off, none⟩) n cap) := hP3.cell 0; have c33 := (bb3.cell (p := ⟨b, off + 3, none⟩) hbB).trans hc3; clear hP2 hR2 hX2 bb2 cP2 hb3; clear c3) | (refine wl_allocV rfl 57 rfl Z hz.out (B + 2) hs1 ?_; intro w2 hX2 hb2 hs2; have hP2 := hP1.below hb2 (by omega); have hR2 := hR1.below hb2 (by omega); have bb2 := bb1.trans (hb2.mono (by omega : B ≤ _)); have cP2 : w2.cell? ⟨B, 0, none⟩ = some (Value.slice (some ⟨b, off, none⟩) n cap) := hP2.cell 0; clear hP1 hR1 bb1 hb2; have kS := (hkS w2 bb2).out; have c3 := (bb2.cell (p := ⟨b, off + 3, none⟩) hbB).trans hc3) | (refine wl_allocV rfl 57 rfl Z hz.out (B + 1) hs0 ?_; intro w1 hR1 hb1 hs1; have hP1 := hP0.below hb1 (by omega); have bb1 := hb0.trans (hb1.mono (by omega : B ≤ _)); clear hP0 hb0 hb1) | (refine wl_box1 rfl 25 _ rfl (Value.slice (some ⟨b, off, none⟩) n cap) rfl rfl B hsz ?_; intro w0 hP0 hb0 hs0) | (refine wl_load rfl 57 _ rfl ⟨B + 2, 0, none⟩ rfl Z (by rw [hZl]; exact aggEnv) hX5.at0 ?_) | (refine wl_storeV rfl 57 _ _ rfl 57 (B + 1) rfl Z rfl 130 aggEnv hZl Z hR5 hZl hZ1 ?_; intro w9 hR9 hb9 hs9))
 (try simp only [Exit.inBlock, Exit.then]); refine bodyPost_ret (results_cell2 rfl _ _ _ _ rfl Z (by rw [hZl]; exact aggEnv) hR9.at0) rfl ?_
 exact ⟨rfl, by first | exact bb5.trans (hb9.mono (by omega)) | (rw [hsz]; exact bb5.trans (hb9.mono (by omega)))⟩
set_option maxHeartbeats 2000000 in
theorem RefRead_few2 (ao : Option Addr) (cap n : Nat) (l : List Int) (w : World) (hn : n = l.length) (hP : Pt.Ok w ⟨ao, cap, l⟩) (hl : 4 ≤ n) (hf : l.take 3 = kww) (hv : l.getD 3 0 = 2) (hzl : n < 136) :
  Calls Tryz.prog 27 #[.slice ao n cap] w fun e w' => e = .returned (readV l) ∧ Below w.heap.size w w' := by
 obtain ⟨B, HB⟩ : ∃ B, Hid (B = w.heap.size) := ⟨_, rfl⟩
 have hsz : w.heap.size = B := HB.out.symm
 have hz := hid zeroEnv
 obtain ⟨Z, HZ⟩ : ∃ Z, Hid (Z = env0.cs) := ⟨_, rfl⟩
 have hZl : Z.length = 130 := by rw [HZ.out]; exact env0_ok.csl
 have hZ1 : ∀ u ∈ Z, u.oneCell' = true := by rw [HZ.out]; exact env0.cs_one
 rw [← HZ.out] at hz
 have HN := hid hn
 have HV : Hid (readV l = .tuple #[.agg Z.toArray, .int .i64 1]) := by
  show _ = _
  rw [HZ.out]
  exact readV_err (by have hs : szR l = 136 := (by unfold szR; rw [if_pos hv]); unfold readE; rw [if_neg (by omega), if_neg (fun h => h hf), if_neg (by omega), hs, if_pos (by omega)]) (by decide)
 rw [HV.out]
 obtain ⟨b, off, rfl, hb, hc⟩ := hP.row.at (i := 0) (by show 0 < l.length; omega)
 have hI : ¬ (n : Int) < 4 := by omega
 have hcap : n ≤ cap := by rw [hn]; exact hP.len
 have h3c : 3 ≤ cap := by omega
 have h3I : (3 : Int) ≤ (cap : Int) := by omega
 have h3n : (3 : Int) < (n : Int) := by omega
 obtain ⟨S, HS⟩ : ∃ S, Hid (S = strOfNums (l.take 3)) := ⟨_, rfl⟩
 have ho3 : Octs (l.take 3) := fun c hc => hP.oct c (List.mem_of_mem_take hc)
 have hlen3 : 3 = (l.take 3).length := by rw [List.length_take]; omega
 have hkS := fun w1 (hb1 : Below B w w1) => hid (run_convStr w1 (some ⟨b, off, none⟩) 3 cap (l.take 3) hlen3 (RowI.takeS (hP.row.below (hsz ▸ hb1)) 3))
 rw [← HS.out] at hkS
 have ems : S = ⟨#[75, 87, 87]⟩ := by rw [HS.out, hf]; rfl
 rw [ems] at hkS
 obtain ⟨x3, H3⟩ : ∃ x, Hid (x = l.getD 3 0) := ⟨_, rfl⟩
 have hc3 : w.cell? ⟨b, off + 3, none⟩ = some (.int .u8 x3) := by rw [H3.out]; exact hc 3 (by show 3 < l.length; omega)
 have hbB : b < B := by rw [HB.out]; exact hb
 rw [← H3.out] at hv
 subst hv
 have hq : (n : Int) < 136 := by omega
 clear hn hP hf hlen3 ems
 go_enter Tryz.func27, Tryz.ntmps27
 go_wp2_with (first | (refine wl_lookup1 rfl 93 5 3 _ _ rfl Tryz.underlying93 .u8 Tryz.underlying5 (B + 3) 2 1 #[⟨.int .u8 1, .int .i64 88, 0⟩, ⟨.int .u8 2, .int .i64 136, 1⟩] 2 (.int .i64 136) rfl rfl hM5 (by rfl) ?_) | (refine wl_insert rfl 93 5 3 _ _ _ rfl Tryz.underlying93 .u8 Tryz.underlying5 (B + 3) 1 #[⟨.int .u8 1, .int .i64 88, 0⟩] 2 (.int .i64 136) rfl rfl rfl hM4 (by rfl) ?_; intro w5 hM5 hb5 hs5; have hP5 := hP4.below hb5 (by omega); have hR5 := hR4.below hb5 (by omega); have hX5 := hX4.below hb5 (by omega); have bb5 := bb4.trans (hb5.mono (by omega : B ≤ _)); have cP5 : w5.cell? ⟨B, 0, none⟩ = some (Value.slice (some ⟨b, off, none⟩) n cap) := hP5.cell 0; have c35 := (bb5.cell (p := ⟨b, off + 3, none⟩) hbB).trans hc3; clear hP4 hR4 hX4 bb4 cP4 hb5; clear hM4 c34) | (refine wl_insert rfl 93 5 3 _ _ _ rfl Tryz.underlying93 .u8 Tryz.underlying5 (B + 3) 0 #[] 1 (.int .i64 88) rfl rfl rfl hM3 (by rfl) ?_; intro w4 hM4 hb4 hs4; have hP4 := hP3.below hb4 (by omega); have hR4 := hR3.below hb4 (by omega); have hX4 := hX3.below hb4 (by omega); have bb4 := bb3.trans (hb4.mono (by omega : B ≤ _)); have cP4 : w4.cell? ⟨B, 0, none⟩ = some (Value.slice (some ⟨b, off, none⟩) n cap) := hP4.cell 0; have c34 := (bb4.cell (p := ⟨b, off + 3, none⟩) hbB).trans hc3; clear hP3 hR3 hX3 bb3 cP3 hb4; clear hM3 c33) | (refine wl_makeMap rfl 93 rfl (B + 3) hs2 ?_; intro w3 hM3 hb3 hs3; have hP3 := hP2.below hb3 (by omega); have hR3 := hR2.below hb3 (by omega); have hX3 := hX2.below hb3 (by omega); have bb3 := bb2.trans (hb3.mono (by omega : B ≤ _)); have cP3 : w3.cell? ⟨B, 0, none⟩ = some (Value.slice (some ⟨b, off, none⟩) n cap) := hP3.cell 0; have c33 := (bb3.cell (p := ⟨b, off + 3, none⟩) hbB).trans hc3; clear hP2 hR2 hX2 bb2 cP2 hb3; clear c3) | (refine wl_allocV rfl 57 rfl Z hz.out (B + 2) hs1 ?_; intro w2 hX2 hb2 hs2; have hP2 := hP1.below hb2 (by omega); have hR2 := hR1.below hb2 (by omega); have bb2 := bb1.trans (hb2.mono (by omega : B ≤ _)); have cP2 : w2.cell? ⟨B, 0, none⟩ = some (Value.slice (some ⟨b, off, none⟩) n cap) := hP2.cell 0; clear hP1 hR1 bb1 hb2; have kS := (hkS w2 bb2).out; have c3 := (bb2.cell (p := ⟨b, off + 3, none⟩) hbB).trans hc3) | (refine wl_allocV rfl 57 rfl Z hz.out (B + 1) hs0 ?_; intro w1 hR1 hb1 hs1; have hP1 := hP0.below hb1 (by omega); have bb1 := hb0.trans (hb1.mono (by omega : B ≤ _)); clear hP0 hb0 hb1) | (refine wl_box1 rfl 25 _ rfl (Value.slice (some ⟨b, off, none⟩) n cap) rfl rfl B hsz ?_; intro w0 hP0 hb0 hs0) | (refine wl_load rfl 57 _ rfl ⟨B + 2, 0, none⟩ rfl Z (by rw [hZl]; exact aggEnv) hX5.at0 ?_) | (refine wl_storeV rfl 57 _ _ rfl 57 (B + 1) rfl Z rfl 130 aggEnv hZl Z hR5 hZl hZ1 ?_; intro w9 hR9 hb9 hs9))
 (try simp only [Exit.inBlock, Exit.then]); refine bodyPost_ret (results_cell2 rfl _ _ _ _ rfl Z (by rw [hZl]; exact aggEnv) hR9.at0) rfl ?_
 exact ⟨rfl, by first | exact bb5.trans (hb9.mono (by omega)) | (rw [hsz]; exact bb5.trans (hb9.mono (by omega)))⟩
set_option maxHeartbeats 2000000 in
theorem RefRead_many2 (ao : Option Addr) (cap n : Nat) (l : List Int) (w : World) (hn : n = l.length) (hP : Pt.Ok w ⟨ao, cap, l⟩) (hl : 4 ≤ n) (hf : l.take 3 = kww) (hv : l.getD 3 0 = 2) (hzl : 136 < n) :
  Calls Tryz.prog 27 #[.slice ao n cap] w fun e w' => e = .returned (readV l) ∧ Below w.heap.size w w' := by
 obtain ⟨B, HB⟩ : ∃ B, Hid (B = w.heap.size) := ⟨_, rfl⟩
 have hsz : w.heap.size = B := HB.out.symm
 have hz := hid zeroEnv
 obtain ⟨Z, HZ⟩ : ∃ Z, Hid (Z = env0.cs) := ⟨_, rfl⟩
 have hZl : Z.length = 130 := by rw [HZ.out]; exact env0_ok.csl
 have hZ1 : ∀ u ∈ Z, u.oneCell' = true := by rw [HZ.out]; exact env0.cs_one
 rw [← HZ.out] at hz
 have HN := hid hn
 have HV : Hid (readV l = .tuple #[.agg Z.toArray, .int .i64 2]) := by
  show _ = _
  rw [HZ.out]
  exact readV_err (by have hs : szR l = 136 := (by unfold szR; rw [if_pos hv]); unfold readE; rw [if_neg (by omega), if_neg (fun h => h hf), if_neg (by omega), hs, if_neg (by omega), if_pos (by omega)]) (by decide)
 rw [HV.out]
 obtain ⟨b, off, rfl, hb, hc⟩ := hP.row.at (i := 0) (by show 0 < l.length; omega)
 have hI : ¬ (n : Int) < 4 := by omega
 have hcap : n ≤ cap := by rw [hn]; exact hP.len
 have h3c : 3 ≤ cap := by omega
 have h3I : (3 : Int) ≤ (cap : Int) := by omega
 have h3n : (3 : Int) < (n : Int) := by omega
 obtain ⟨S, HS⟩ : ∃ S, Hid (S = strOfNums (l.take 3)) := ⟨_, rfl⟩
 have ho3 : Octs (l.take 3) := fun c hc => hP.oct c (List.mem_of_mem_take hc)
 have hlen3 : 3 = (l.take 3).length := by rw [List.length_take]; omega
 have hkS := fun w1 (hb1 : Below B w w1) => hid (run_convStr w1 (some ⟨b, off, none⟩) 3 cap (l.take 3) hlen3 (RowI.takeS (hP.row.below (hsz ▸ hb1)) 3))
 rw [← HS.out] at hkS
 have ems : S = ⟨#[75, 87, 87]⟩ := by rw [HS.out, hf]; rfl
 rw [ems] at hkS
 obtain ⟨x3, H3⟩ : ∃ x, Hid (x = l.getD 3 0) := ⟨_, rfl⟩
 have hc3 : w.cell? ⟨b, off + 3, none⟩ = some (.int .u8 x3) := by rw [H3.out]; exact hc 3 (by show 3 < l.length; omega)
 have hbB : b < B := by rw [HB.out]; exact hb
 rw [← H3.out] at hv
 subst hv
 have hq : ¬ (n : Int) < 136 := by omega
 have hq2 : (136 : Int) < (n : Int) := by omega
 clear hn hP hf hlen3 ems
 go_enter Tryz.func27, Tryz.ntmps27
 go_wp2_with (first | (refine wl_lookup1 rfl 93 5 3 _ _ rfl Tryz.underlying93 .u8 Tryz.underlying5 (B + 3) 2 1 #[⟨.int .u8 1, .int .i64 88, 0⟩, ⟨.int .u8 2, .int .i64 136, 1⟩] 2 (.int .i64 136) rfl rfl hM5 (by rfl) ?_) | (refine wl_insert rfl 93 5 3 _ _ _ rfl Tryz.underlying93 .u8 Tryz.underlying5 (B + 3) 1 #[⟨.int .u8 1, .int .i64 88, 0⟩] 2 (.int .i64 136) rfl rfl rfl hM4 (by rfl) ?_; intro w5 hM5 hb5 hs5; have hP5 := hP4.below hb5 (by omega); have hR5 := hR4.below hb5 (by omega); have hX5 := hX4.below hb5 (by omega); have bb5 := bb4.trans (hb5.mono (by omega : B ≤ _)); have cP5 : w5.cell? ⟨B, 0, none⟩ = some (Value.slice (some ⟨b, off, none⟩) n cap) := hP5.cell 0; have c35 := (bb5.cell (p := ⟨b, off + 3, none⟩) hbB).trans hc3; clear hP4 hR4 hX4 bb4 cP4 hb5; clear hM4 c34) | (refine wl_insert rfl 93 5 3 _ _ _ rfl Tryz.underlying93 .u8 Tryz.underlying5 (B + 3) 0 #[] 1 (.int .i64 88) rfl rfl rfl hM3 (by rfl) ?_; intro w4 hM4 hb4 hs4; have hP4 := hP3.below hb4 (by omega); have hR4 := hR3.below hb4 (by omega); have hX4 := hX3.below hb4 (by omega); have bb4 := bb3.trans (hb4.mono (by omega : B ≤ _)); have cP4 : w4.cell? ⟨B, 0, none⟩ = some (Value.slice (some ⟨b, off, none⟩) n cap) := hP4.cell 0; have c34 := (bb4.cell (p := ⟨b, off + 3, none⟩) hbB).trans hc3; clear hP3 hR3 hX3 bb3 cP3 hb4; clear hM3 c33) | (refine wl_makeMap rfl 93 rfl (B + 3) hs2 ?_; intro w3 hM3 hb3 hs3; have hP3 := hP2.below hb3 (by omega); have hR3 := hR2.below hb3 (by omega); have hX3 := hX2.below hb3 (by omega); have bb3 := bb2.trans (hb3.mono (by omega : B ≤ _)); have cP3 : w3.cell? ⟨B, 0, none⟩ = some (Value.slice (some ⟨b, off, none⟩) n cap) := hP3.cell 0; have c33 := (bb3.cell (p := ⟨b, off + 3, none⟩) hbB).trans hc3; clear hP2 hR2 hX2 bb2 cP2 hb3; clear c3) | (refine wl_allocV rfl 57 rfl Z hz.out (B + 2) hs1 ?_; intro w2 hX2 hb2 hs2; have hP2 := hP1.below hb2 (by omega); have hR2 := hR1.below hb2 (by omega); have bb2 := bb1.trans (hb2.mono (by omega : B ≤ _)); have cP2 : w2.cell? ⟨B, 0, none⟩ = some (Value.slice (some ⟨b, off, none⟩) n cap) := hP2.cell 0; clear hP1 hR1 bb1 hb2; have kS := (hkS w2 bb2).out; have c3 := (bb2.cell (p := ⟨b, off + 3, none⟩) hbB).trans hc3) | (refine wl_allocV rfl 57 rfl Z hz.out (B + 1) hs0 ?_; intro w1 hR1 hb1 hs1; have hP1 := hP0.below hb1 (by omega); have bb1 := hb0.trans (hb1.mono (by omega : B ≤ _)); clear hP0 hb0 hb1) | (refine wl_box1 rfl 25 _ rfl (Value.slice (some ⟨b, off, none⟩) n cap) rfl rfl B hsz ?_; intro w0 hP0 hb0 hs0) | (refine wl_load rfl 57 _ rfl ⟨B + 2, 0, none⟩ rfl Z (by rw [hZl]; exact aggEnv) hX5.at0 ?_) | (refine wl_storeV rfl 57 _ _ rfl 57 (B + 1) rfl Z rfl 130 aggEnv hZl Z hR5 hZl hZ1 ?_; intro w9 hR9 hb9 hs9))
 (try simp only [Exit.inBlock, Exit.then]); refine bodyPost_ret (results_cell2 rfl _ _ _ _ rfl Z (by rw [hZl]; exact aggEnv) hR9.at0) rfl ?_
 exact ⟨rfl, by first | exact bb5.trans (hb9.mono (by omega)) | (rw [hsz]; exact bb5.trans (hb9.mono (by omega)))⟩
end Go.Proofs.YtbjmadcbhkeenaaGreat.wr
