/-
  ChainsMatch: contracts of slices.AppendSeq, slices.Collect, slices.SortedFunc and wrap.ordered at sets of IDs: the IDs in order. Conditions: a set of at most 400 IDs.
-/
import Derived.Test.YtbjmadcbhkeenaaGreatCLkR
set_option maxRecDepth 100000
set_option linter.unusedSimpArgs false
set_option linter.unusedVariables false
namespace Go.Proofs.YtbjmadcbhkeenaaGreat.lk
open Go.RowKit Go.Shelf wr shr sh st srt
attribute [local go_sem] Oper.semAt_some
theorem wi_push {F : Fence} {n' : Nat} {P : Program} {w : World} {ops : Array Oper} {rest : List Oper} {o : Oper} {a : Act} {Q : Exit → Act → World → Prop} (hgd : o.guard = none) (s x : Operand) (t : TypeId)
  (ho : o.op = .call { callee := .builtin .append, args := #[s, x], argTypes := #[t, t] }) (e : TypeId) (z : Value) (size bytes : Nat) (ht : P.underlying t = some (.slice e)) (hi : Info P e z size bytes) (hzs : z.cells.size = size) (hsz : 0 < size)
  (base : Nat) (v : Value) (n : Nat) (xs : List Value) (hs : a.eval s = v) (hown : w.ownsRow base e size v n xs) (ad : Addr) (m c : Nat) (hx : a.eval x = .slice (some ad) m c) (news : List Value) (hl : news.length = m * size) (hrow : At w ad news) (h1 : ∀ u ∈ news, u.oneCell' = true)
  (b1 : n + m ≤ maxLen) (b2 : (n + m) * bytes ≤ 140737488355328) (hbase : base ≤ w.heap.size) (N : Nat) (hN : N = n + m)
  (hK : ∀ ao' cap' w', w'.ownsRow base e size (.slice ao' N cap') N (xs ++ news) → w.grownBy w' v.ownBlock → wpListIn F n' P ops Q rest (a.put o.dst (.slice ao' N cap')) w') : wpListIn F n' P ops Q (o :: rest) a w := by
 subst hN
 obtain ⟨i, hi, hz, hsi, hby⟩ := hi.parts
 obtain ⟨v', w', hrun, r1, r2, _, r4⟩ := run_append_own_at (P := P) w base t o.type e i z size bytes ht hi hz hsi hby hzs hsz v n xs hown ad m c news hl (fun j u hu => hrow j u hu) h1 b1 b2 hbase
 obtain ⟨ao', cap', rfl, h2, _⟩ := Mine.row (Or.inl r1)
 refine wpListIn_plain hgd fun K' hK' => ?_
 unfold Oper.wpIn
 refine ⟨by simp [Oper.about, ho, resolve, Target.leads, Sem.run_pure], ?_⟩
 rw [Oper.semAt_plain F _ _ (by rw [ho]; intro c hc'; cases hc')]
 simp [execOp, ho, resolve, invoke, builtin, hs, hx, hrun, Result.andThen]
 exact hK' _ _ (hK ao' cap' w' r1 r2)
theorem blk_own (t : TypeId) (g : Nat) (cs : List Value) (B : Nat) : OwnFrom B (fun (_ : Unit) W => BlkV t W g cs) := fun s W W' row hs hg hr => by
 refine (hg.block g hs.lt (fun e => ?_)).trans hs
 obtain ⟨_, o, ho, hc⟩ := hr g e.symm
 rw [show W.heap[g]? = _ from hs] at ho
 cases ho
 cases hc
def AsPost (S : Id → Bool) (w : World) (e : Ending) (W' : World) : Prop := ∃ (ao : Option Addr) (c : Nat) (ks : List Id), e = .returned (.slice ao ks.length c) ∧ W'.ownsRow w.heap.size 27 16 (.slice ao ks.length c) ks.length (flatL ks) ∧ ks.Nodup ∧ (∀ k, S k = true ↔ k ∈ ks) ∧ Below w.heap.size w W'
set_option maxHeartbeats 4000000 in
theorem appendSeq_in (n : Nat) (hn : 3 ≤ n) (Bm b : Nat) (S : Id → Bool) (hfew : Hid (∀ l : List Id, l.Nodup → (∀ k ∈ l, S k = true) → l.length ≤ 400)) (w : World) (hBm : Bm < w.heap.size) (hm : w.cell? ⟨Bm, 0, none⟩ = some (.map (some b))) (hM : MapD w b (bmap S)) :
  CallsIn Fence.wide n Tryz.prog 101 #[.slice none 0 0, .func (.func 74) #[] #[.pointer (some ⟨Bm, 0, none⟩)]] w (AsPost S w) := by
 have h1 : 1 ≤ n := by omega
 obtain ⟨ZI, HZI⟩ : ∃ Z, Hid (Z = (List.replicate 16 (0 : Int)).map (Value.int .u8)) := ⟨_, rfl⟩
 have hzI := hid zeroID
 have HII := hid infoId
 have HI2 := hid infoId2
 rw [← HZI.out] at hzI HII HI2
 have hZIl : ZI.length = 16 := by rw [HZI.out]; simp
 have HZC : Hid ((Value.agg ZI.toArray).cells.size = 16) := hid (by show ZI.toArray.size = 16; simpa using hZIl)
 refine callsIn_of_wp_marks Tryz.func101 rfl trivial ?_ rfl
 simp only [Tryz.ntmps101, List.size_toArray, List.length_cons, List.length_nil, Nat.reduceAdd, Nat.reduceSub, Array.replicate_succ, Array.replicate_zero, List.push_toArray, List.append_toArray, List.nil_append, List.cons_append]
 gi_wp2
 have bO := Boxed.new w 28 (.slice none 0 0)
 have hB0 : Below w.heap.size w (w.alloc (.cells #[.slice none 0 0] 28)) := (Below.refl _ w).alloc (Nat.le_refl _) _
 have hm1 := (hB0.cell (p := ⟨Bm, 0, none⟩) hBm).trans hm
 have hM1 := hM.below hB0 hM.lt
 refine wpIn_rangeFunc_ownH rfl h1 (gf := 74) (lb := #[.pointer (some ⟨Bm, 0, none⟩)]) rfl trivial (enters_of Tryz.func74 (by kernel_rfl) rfl)
  (keys_stops (n - 1) (by omega) Bm b S hfew _ (by simp; omega) hm1 hM1) walksK_t walksK_b (Below.refl _ _) (fun _ => rfl)
  (fun pre W => (∃ v, Boxed W w.heap.size 28 v ∧ W.ownsRow w.heap.size 27 16 v pre.length (flatL (valsS pre)) ∧ True) ∧ Below w.heap.size w W)
  (fun _ _ _ => False)
  (OwnFrom.and (Own.from (holdsRow_own w.heap.size w.heap.size 28 27 16 (fun pre => List.length pre) (fun pre => flatL (valsS pre)) (fun pre v => True)) _) (ownFrom_below (Nat.le_refl _) (by simp)))
  (fun _ _ _ _ _ hs _ _ => hs)
  ⟨⟨_, bO, World.ownsRow_nil _ _ _ _, trivial⟩, hB0⟩
  (fun x a' W => ∃ Bx, w.heap.size < Bx ∧ BlkV 27 W Bx (x.1.map (Value.int .u8)) ∧ a' = { tmps := #[.slice none 0 0, (.func (.func 74) #[] #[.pointer (some ⟨Bm, 0, none⟩)]), .pointer (some ⟨w.heap.size, 0, none⟩), undef, .slice none 0 0, .pointer (some ⟨Bx, 0, none⟩), (.func (.func 74) #[] #[.pointer (some ⟨Bm, 0, none⟩)]), idV x.1, undef, undef, undef, undef, undef], defers := [] }) ?hAx ?assign ?body ?done ?stop
 case hAx =>
  rintro x a' s W W' row ⟨Bx, h1, h2, h3⟩ hg hr
  exact ⟨Bx, h1, blk_own _ _ _ _ () W W' row h2 hg hr, h3⟩
 case assign =>
  rintro l pre ⟨x, hx16⟩ W K ⟨⟨v, hv, hrow, _⟩, hB⟩ hK
  obtain ⟨KS, HKS⟩ : ∃ KS, Hid (KS = x.map (Value.int .u8)) := ⟨_, rfl⟩
  have HIDK : Hid (idV x = .agg KS.toArray) := hid (by rw [HKS.out]; rfl)
  have hKl : KS.length = 16 := by rw [HKS.out, List.length_map, hx16]
  have hK1 : ∀ u ∈ KS, u.oneCell' = true := by rw [HKS.out]; exact ints_one _ _
  dsimp only at hK ⊢
  rw [← HKS.out, HIDK.out] at hK
  rw [HIDK.out]
  have hBs := hB.size
  simp only [List.zip_toArray, List.zip_cons_cons, List.zip_nil_right, List.zip_nil_left, List.size_toArray, List.length_cons, List.length_nil, List.foldl_toArray', List.foldl_toArray, List.foldl_cons, List.foldl_nil, List.setIfInBounds_toArray, List.set_cons_succ, List.set_cons_zero]
  gi_wp2_with (first
   | (refine wi_storeV rfl 27 _ _ rfl 27 W.heap.size rfl KS rfl 16 aggID hKl ZI hG3 hZIl hK1 ?_; intro w4 hK4 hg4 hs4; have b24 : Below W.heap.size W w4 := hb3.grown hg4 hb3.size (fun k hk => by injection hk with hk; omega); clear hg4 hs4 hs3 hb3 hG3)
   | (refine wi_allocV rfl 27 rfl ZI hzI.out W.heap.size rfl ?_; intro w3 hG3 hb3 hs3))
  refine hK _ _ ⟨b24.size, fun k o _ hk _ => (b24.block k (Array.getElem?_eq_some_iff.1 hk).1).trans hk⟩ ⟨b24.size, fun k o hk _ => (b24.block k (Array.getElem?_eq_some_iff.1 hk).1).trans hk⟩ ⟨⟨v, (b24.block _ hv.lt).trans hv, owns_up hrow b24, trivial⟩, hB.trans (b24.mono hBs)⟩ ⟨W.heap.size, hv.lt, hK4, rfl⟩
 case body =>
  rintro l pre ⟨x, hx16⟩ a' W hl ⟨r, hr⟩ ⟨⟨v, hv, hrow, _⟩, hB⟩ ⟨Bx, hBx, bX, rfl⟩ hlt
  have hc := hv.cell
  obtain ⟨KS, HKS⟩ : ∃ KS, Hid (KS = x.map (Value.int .u8)) := ⟨_, rfl⟩
  have hKl : KS.length = 16 := by rw [HKS.out, List.length_map, hx16]
  have hK1 : ∀ u ∈ KS, u.oneCell' = true := by rw [HKS.out]; exact ints_one _ _
  dsimp only at bX
  rw [← HKS.out] at bX
  have hBs := hB.size
  have HFS : Hid (flatL (valsS pre) ++ KS = flatL (valsS (pre ++ [⟨x, hx16⟩]))) := hid (by rw [valsS_snoc, flatL_snoc, HKS.out])
  obtain ⟨np, HNP⟩ : ∃ m, Hid (m = pre.length) := ⟨_, rfl⟩
  rw [← HNP.out] at hrow hlt
  have HNP2 : Hid ((pre ++ [(⟨x, hx16⟩ : IdS)]).length = np + 1) := hid (by rw [List.length_append, HNP.out]; rfl)
  gi_wp2_with (first
   | (gi_at_builtin; refine wi_push rfl _ _ 28 rfl 27 (.agg ZI.toArray) 16 16 Tryz.underlying28 HII.out HZC.out (by decide) w.heap.size v np (flatL (valsS pre)) rfl (hrow.alloc _) ⟨W.heap.size, 0, none⟩ 1 1 rfl KS (by rw [hKl]) (at_new' _ _ _ rfl) hK1 (by unfold maxLen; omega) (by omega) (by simp; omega) (np + 1) rfl ?_; intro ao' cap' w1 hown' hgrow; obtain ⟨hv1, hv2, hr2, hk2, hb2⟩ := hv.appended (by decide) hrow hBs (Nat.le_refl _) hown' hgrow; have hc1 := hv1.cell; have hf1 := hv1.frozen; have hw2 : KeepsWalks W (w1.setCell ⟨w.heap.size, 0, none⟩ (.slice ao' (np + 1) cap')) := ⟨hk2.size, fun k o hk ho => hk2.same k o hk (by cases o <;> first | rfl | (simp [Obj.isWalk] at ho))⟩; clear hgrow hown')
   | (refine wi_slice1 rfl 28 27 _ rfl Tryz.underlying28 16 ZI HI2.out hZIl (by decide) (by decide) KS rfl hKl W.heap.size rfl ?_)
   | (refine wi_load rfl 27 _ rfl ⟨Bx, 0, none⟩ rfl KS (by rw [hKl]; exact aggID) bX.at0 ?_))
  exact ⟨hk2.from _, hw2, ⟨_, hv2, by rw [HNP2.out, ← HFS.out]; exact hr2, trivial⟩, hB.trans hb2⟩
 case done =>
  rintro D ys W hD ⟨hnd, hall⟩ ⟨⟨v, hv, hrow, _⟩, hB⟩ hK
  have hc := hv.cell
  obtain ⟨ao', c', rfl, _, _⟩ := Mine.row (Or.inl hrow)
  gi_wp2
  refine ⟨by simp, .inl ⟨_, _, rfl, run_takeDeferred hK, ?_⟩⟩
  have hvl : (valsS ys).length = ys.length := by unfold valsS; rw [List.length_map]
  exact ⟨_, results_tmp rfl _ _ _, ao', c', valsS ys, by rw [hvl]; rfl, by rw [hvl]; exact ownsRow_putObj hrow _ hK rfl, hnd, hall, hB.trans (belowK_b (w := w) (Nat.le_refl _) W D _ _ (by simp at hD; omega) hK rfl rfl)⟩
 case stop =>
  rintro D c pre W _ _ h _
  exact h.elim
set_option maxHeartbeats 1000000 in
theorem Collect_any (Bm b : Nat) (S : Id → Bool) (hfew : Hid (∀ l : List Id, l.Nodup → (∀ k ∈ l, S k = true) → l.length ≤ 400)) (w : World) (hBm : Bm < w.heap.size) (hm : w.cell? ⟨Bm, 0, none⟩ = some (.map (some b))) (hM : MapD w b (bmap S)) :
  Calls Tryz.prog 73 #[.func (.func 74) #[] #[.pointer (some ⟨Bm, 0, none⟩)]] w (AsPost S w) := by
 have hc := hid (callsIn_wide.1 (appendSeq_in 3 (Nat.le_refl _) Bm b S hfew w hBm hm hM))
 clear hm hM
 go_enter Tryz.func73, Tryz.ntmps73
 go_wp2_with (go_at_call 101; refine hc.out.mono ?_; rintro e w1 ⟨ao, c, ks, rfl, hp⟩)
 go_ret
 exact ⟨ao, c, ks, rfl, hp⟩
set_option maxHeartbeats 1000000 in
theorem ordered_any (b : Nat) (S : Id → Bool) (hfew : Hid (∀ l : List Id, l.Nodup → (∀ k ∈ l, S k = true) → l.length ≤ 400)) (hok : Hid (∀ k, S k = true → IdOk k)) (w : World) (hM : MapD w b (bmap S)) :
  Calls Tryz.prog 23 #[.map (some b)] w (IdsPost (fun ks => ∀ k, k ∈ ks ↔ S k = true) w) := by
 obtain ⟨N, HN⟩ : ∃ r, Hid (r = w.heap.size) := ⟨_, rfl⟩
 have hsz : w.heap.size = N := HN.out.symm
 have hKeys : Hid (Calls Tryz.prog 47 #[.map (some b)] w fun e w' => e = .returned (.func (.func 74) #[] #[.pointer (some ⟨N, 0, none⟩)]) ∧ w'.cell? ⟨N, 0, none⟩ = some (.map (some b)) ∧ Below N w w' ∧ w'.heap.size = N + 1) := hid (by
  go_enter Tryz.func47, Tryz.ntmps47
  go_wp2
  go_ret
  exact ⟨by first | rfl | rw [hsz], by rw [← hsz]; simp, by rw [← hsz]; exact (Below.refl _ w).alloc (Nat.le_refl _) _, by simp [hsz]⟩)
 have hSorted : Hid (∀ w1 : World, N < w1.heap.size → w1.cell? ⟨N, 0, none⟩ = some (.map (some b)) → MapD w1 b (bmap S) → Calls Tryz.prog 46 #[.func (.func 74) #[] #[.pointer (some ⟨N, 0, none⟩)], .func (.func 48) #[] #[]] w1 (IdsPost (fun ks => ∀ k, k ∈ ks ↔ S k = true) w1)) := hid (fun w1 h1 h2 h3 => by
  have hco := hid (Collect_any N b S hfew w1 h1 h2 h3)
  clear h2 h3 hKeys hM
  go_enter Tryz.func46, Tryz.ntmps46
  go_wp2_with (first | (go_at_call 35; refine hsr.out.mono ?_; rintro e w3 ⟨rfl, l', hper, hord, hRV, hg3⟩) | (go_at_call 73; refine hco.out.mono ?_; rintro e w2 ⟨ao, c, ks, rfl, hown, hnd, hall, hb2⟩; have HOKS : Hid (∀ s ∈ ks, IdOk s) := hid (fun s hs => hok.out s ((hall s).2 hs)); have HAL := hid hall; have hkl : ks.length ≤ 400 := hfew.out ks hnd (fun k hk => (hall k).2 hk); have HND := hid hnd; have hsr := hid (SortOrd ao ks.length c ks HOKS.out w2 w1.heap.size hown rfl (by omega)); have HOB : Hid (∀ k, (Value.slice ao ks.length c).ownBlock = some k → w1.heap.size ≤ k) := hid (fun k hk => (hown.lt k hk).1); clear hown hall hnd))
  go_ret
  exact ⟨hb2.grown hg3 hb2.size HOB.out, ao, ks.length, c, l', rfl, hper.length_eq.symm, ⟨rowH_flat (fun s hs => HOKS.out s (hper.mem_iff.1 hs)) hRV, fun s hs => (HOKS.out s (hper.mem_iff.1 hs)).1⟩, hper.nodup_iff.2 HND.out, hord, fun k => by rw [hper.mem_iff, ← HAL.out]⟩)
 clear hsz hok hfew
 go_enter Tryz.func23, Tryz.ntmps23
 go_wp2_with (first | (go_at_call 46; refine (hSorted.out w1 (by omega) hc1 (hM.below hb1 (by rw [HN.out]; exact hM.lt))).mono ?_; rintro e w2 ⟨hb2, ao, m, c, ks, rfl, hp0⟩; have hp := hid hp0; clear hp0) | (go_at_call 47; refine hKeys.out.mono ?_; rintro e w1 ⟨rfl, hc1, hb1, hs1⟩))
 go_ret
 exact ⟨by rw [← HN.out]; exact hb1.trans (hb2.mono (by omega)), ao, m, c, ks, rfl, hp.out⟩
end Go.Proofs.YtbjmadcbhkeenaaGreat.lk
