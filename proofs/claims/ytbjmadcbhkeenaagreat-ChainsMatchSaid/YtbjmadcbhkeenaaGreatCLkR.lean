/-
  ChainsMatch: contracts of maps.Keys, slices.Collect, slices.SortedFunc and wrap.ordered at sets of IDs: the IDs in order. Conditions: a set of at most 400 IDs.
-/
import Derived.Test.YtbjmadcbhkeenaaGreatCLkG
import Derived.RangeFuncNested
import Derived.RangeFuncBound
import Derived.RangeFuncCalls
import Derived.RangeFuncLeaves
import Derived.RangeFuncBox
import Derived.Shelf.Abstract
import Derived.Shelf.RegionOpen
import Derived.WalkKit
import Derived.OwnWalkIn
import Derived.TacticsInMore
import Derived.LoopNIn
import Derived.LoopIn
import Derived.Maps.AppendAt
import Derived.Sort.QuietIn
import Derived.Sort.MapsRangeIn
import Derived.Test.YtbjmadcbhkeenaaGreatChecked
set_option maxRecDepth 100000
set_option linter.unusedSimpArgs false
set_option linter.unusedVariables false
namespace Go.Proofs.YtbjmadcbhkeenaaGreat.lk
open Go.RowKit Go.Shelf wr shr sh st srt
attribute [local go_sem] Oper.semAt_some
section
variable {F : Fence} {n : Nat} {P : Program} {w : World} {ops : Array Oper} {rest : List Oper} {o : Oper} {a : Act} {Q : Exit → Act → World → Prop}
theorem wi_load (hgd : o.guard = none) (ty : TypeId) (x : Operand) (ho : o.op = .load ty x) (p : Addr) (hx : a.eval x = .pointer (some p)) (cs : List Value) (ha : Agg P ty cs.length) (hc : At w p cs) (h : wpListIn F n P ops Q rest (a.put o.dst (.agg cs.toArray)) w) : wpListIn F n P ops Q (o :: rest) a w := by
 refine wpListIn_plain hgd fun K' hK' => ?_
 unfold Oper.wpIn
 refine ⟨by simp [Oper.about, ho], ?_⟩
 rw [Oper.semAt_plain F _ _ (by rw [ho]; intro c hc'; cases hc')]
 simp [execOp, ho, hx, Instr.loadAt, Instr.sureAddr, run_load_agg w ty p cs ha hc, Result.andThen]
 exact hK' _ _ h
theorem wi_allocV (hgd : o.guard = none) (t : TypeId) (ho : o.op = .alloc t) (cs : List Value) (hz : (P.info? t).map (·.zero) = some (some (.agg cs.toArray))) (N : Nat) (hN : w.heap.size = N)
  (h : ∀ w', BlkV t w' N cs → Below N w w' → w'.heap.size = N + 1 → wpListIn F n P ops Q rest (a.put o.dst (.pointer (some ⟨N, 0, none⟩))) w') : wpListIn F n P ops Q (o :: rest) a w := by
 subst hN
 obtain ⟨i, hi, hs⟩ := Option.map_eq_some_iff.1 hz
 refine wpListIn_plain hgd fun K' hK' => ?_
 unfold Oper.wpIn
 refine ⟨by simp [Oper.about, ho], ?_⟩
 rw [Oper.semAt_plain F _ _ (by rw [ho]; intro c hc'; cases hc')]
 simp [execOp, ho, Instr.alloc, zeroValue, typeInfo, hi, hs, newVar, newRow, Value.cells, Result.andThen]
 exact hK' _ _ (h _ (BlkV.new t w cs rfl) ((Below.refl _ _).alloc (Nat.le_refl _) _) (by simp))
theorem wi_storeV (hgd : o.guard = none) (ty : TypeId) (x y : Operand) (ho : o.op = .store ty x y) (t : TypeId) (g : Nat) (hx : a.eval x = .pointer (some ⟨g, 0, none⟩)) (cs : List Value) (hy : a.eval y = .agg cs.toArray) (m : Nat) (hi : Agg P ty m) (hn : cs.length = m) (cur : List Value) (hg : BlkV t w g cur) (hc : cur.length = m) (h1 : ∀ u ∈ cs, u.oneCell' = true)
  (h : ∀ w', BlkV t w' g cs → w.grownBy w' (some g) → w'.heap.size = w.heap.size → wpListIn F n P ops Q rest (a.put o.dst undef) w') : wpListIn F n P ops Q (o :: rest) a w := by
 have hrun := run_store_agg (P := P) w ty t g 0 cur cs (by rw [hi.2, hn]) hg (by omega) h1
 have e : cur.take 0 ++ cs ++ cur.drop (0 + cs.length) = cs := by rw [List.take_zero, List.nil_append, List.drop_of_length_le (by omega), List.append_nil]
 rw [e] at hrun
 refine wpListIn_plain hgd fun K' hK' => ?_
 unfold Oper.wpIn
 refine ⟨by simp [Oper.about, ho], ?_⟩
 rw [Oper.semAt_plain F _ _ (by rw [ho]; intro c hc'; cases hc')]
 simp [execOp, ho, hx, hy, Instr.storeAt, Instr.sureAddr, hrun, Result.andThen]
 exact hK' _ _ (h _ (hg.setRow cs) ⟨rfl, rfl, rfl, by simp, fun k _ hk => setRow_other w g k _ (fun e => hk (by rw [e]))⟩ (by simp))
theorem wi_slice1 (hgd : o.guard = none) (t e : TypeId) (x : Operand) (ho : o.op = .buildSlice t 1 #[(0, x)])
  (ht : P.underlying t = some (.slice e)) (size : Nat) (z : List Value) (hi : (P.info? e).map (fun i => (i.zero, i.size)) = some (some (.agg z.toArray), size)) (hz : z.length = size) (h0 : 0 < size) (h24 : size ≤ 2 ^ 24)
  (cs : List Value) (hx : a.eval x = .agg cs.toArray) (hcs : cs.length = size) (N : Nat) (hN : w.heap.size = N)
  (h : wpListIn F n P ops Q rest (a.put o.dst (.slice (some ⟨N, 0, none⟩) 1 1)) (w.alloc (.cells cs.toArray e))) : wpListIn F n P ops Q (o :: rest) a w := by
 subst hN
 obtain ⟨i, hi0, hh⟩ := Option.map_eq_some_iff.1 hi
 simp only [Prod.mk.injEq] at hh
 obtain ⟨hzi, hsi⟩ := hh
 subst hsi
 have hf : Instr.fill (fun j => some (j * i.size, i.size)) ((Array.range (1 * i.size)).map (fun j => (Value.agg z.toArray).cells[j % (Value.agg z.toArray).cells.size]!)) #[(0, Value.agg cs.toArray)].toList = some cs.toArray := fill_one i.size cs _ hcs (by simp)
 have hrun := run_buildSlice (P := P) w t e 1 #[(0, Value.agg cs.toArray)] cs.toArray i (.agg z.toArray) ht hi0 hzi (by omega) (by omega) hf
 refine wpListIn_plain hgd fun K' hK' => ?_
 unfold Oper.wpIn
 refine ⟨by simp [Oper.about, ho], ?_⟩
 rw [Oper.semAt_plain F _ _ (by rw [ho]; intro c hc'; cases hc')]
 simp [execOp, ho, hx, hrun, Result.andThen]
 exact hK' _ _ h
end
section
variable {F : Fence} {n : Nat} {w : World} {ops : Array Oper} {rest : List Oper} {o : Oper} {a : Act} {Q : Exit → Act → World → Prop}
theorem wi_rangeD (hgd : o.guard = none) (t et : TypeId) (m : Operand) (ho : o.op = .range t m) (ht : Tryz.prog.underlying t = some (.map 27 et)) (b : Nat) (D : Mp Value) (h : MapD w b D) (hmv : a.eval m = .map (some b)) (N : Nat) (hN : w.heap.size = N)
  (hK : ∀ w' cnt, IterD w' b N D (fun k => (D k).isSome = true) cnt → Below N w w' → w'.heap.size = N + 1 → wpListIn F n Tryz.prog ops Q rest (a.put o.dst (.pointer (some ⟨N, 0, none⟩))) w') : wpListIn F n Tryz.prog ops Q (o :: rest) a w := by
 subst hN
 obtain ⟨w', cnt, hrun, h1, h2, h3⟩ := run_rangeD h t et ht
 refine wpListIn_plain hgd fun K' hK' => ?_
 unfold Oper.wpIn
 refine ⟨by simp [Oper.about, ho], ?_⟩
 rw [Oper.semAt_plain F _ _ (by rw [ho]; intro c hc'; cases hc')]
 simp [execOp, ho, hmv, hrun, Result.andThen]
 exact hK' _ _ (hK w' cnt h1 h2 h3)
theorem wi_nextD (hgd : o.guard = none) (it : Operand) (ho : o.op = .next it false) (b r : Nat) (D : Mp Value) (left : Id → Prop) (cnt : Nat) (hit : a.eval it = .pointer (some ⟨r, 0, none⟩)) (h : IterD w b r D left cnt)
  (hDone : cnt = 0 → (∀ k, ¬ left k) → wpListIn F n Tryz.prog ops Q rest (a.put o.dst (.tuple #[.bool false])) w)
  (hMore : ∀ k v w' cnt', left k → D k = some v → IterD w' b r D (fun j => left j ∧ j ≠ k) cnt' → cnt' < cnt → w.grownBy w' (some r) → w'.heap.size = w.heap.size → (Instr.entry (.pointer (some ⟨r, 0, none⟩))).run Tryz.prog w' = .ok (.tuple #[idV k, v]) w' →
   wpListIn F n Tryz.prog ops Q rest (a.put o.dst (.tuple #[.bool true, idV k, v])) w') : wpListIn F n Tryz.prog ops Q (o :: rest) a w := by
 refine wpListIn_plain hgd fun K' hK' => ?_
 unfold Oper.wpIn
 refine ⟨by simp [Oper.about, ho], ?_⟩
 rw [Oper.semAt_plain F _ _ (by rw [ho]; intro c hc'; cases hc')]
 rcases h.step o.type with ⟨h0, hl, hrun⟩ | ⟨k, v, w', cnt', h1, h2, hrun, h3, h4, h5, h6, h7⟩
 ·simp [execOp, ho, hit, hrun, Result.andThen]
  exact hK' _ _ (hDone h0 hl)
 ·simp [execOp, ho, hit, hrun, Result.andThen]
  exact hK' _ _ (hMore k v w' cnt' h1 h2 h3 h4 h5 h6 h7)
end
abbrev IdS := {k : Id // k.length = 16}
def valsS (l : List IdS) : List Id := l.map Subtype.val
theorem valsS_snoc (l : List IdS) (x : IdS) : valsS (l ++ [x]) = valsS l ++ [x.1] := by simp [valsS]
theorem iter_walk {w : World} {b r : Nat} {D : Mp Value} {left : Id → Prop} {cnt : Nat} (h : IterD w b r D left cnt) : ∃ o : Obj, w.heap[r]? = some o ∧ o.isWalk = true := by
 obtain ⟨es, clock, since, seen, c0, _, _, h, _⟩ := h
 exact ⟨_, h, rfl⟩
theorem iter_walks {w w' : World} {b r : Nat} {D : Mp Value} {left : Id → Prop} {cnt : Nat} (h : IterD w b r D left cnt) (hk : KeepsWalks w w') : IterD w' b r D left cnt := by
 obtain ⟨es, clock, since, seen, c0, hb, hE, hr, rest⟩ := h
 exact ⟨es, clock, since, seen, c0, hk.same _ _ hb rfl, hE, hk.same _ _ hr rfl, rest⟩
theorem grown_none {w w' : World} (h : Below w.heap.size w w') : w.grownBy w' none := ⟨h.os, h.tape, h.output, h.size, fun i hi _ => h.block i hi⟩
set_option maxHeartbeats 4000000 in
theorem keys1_in (n : Nat) (hn : 1 ≤ n) (l Bm b : Nat) (S : Id → Bool) (hfew : Hid (∀ l : List Id, l.Nodup → (∀ k ∈ l, S k = true) → l.length ≤ 400)) (J Jx : List IdS → World → Prop)
  (hY : ∀ pre x W, J pre W → pre.length < 400 → YieldAt Fence.wide (n - 1) Tryz.prog l #[idV x.1] W fun e W' =>
   (e = .returned (.bool true) ∧ J (pre ++ [x]) W' ∧ KeepsWalks W W') ∨ (e = .returned (.bool false) ∧ Jx (pre ++ [x]) W'))
  (W : World) (hJ : AbidesFrom W.heap.size J) (hm : W.cell? ⟨Bm, 0, none⟩ = some (.map (some b))) (hM : MapD W b (bmap S)) (h0 : J [] W) :
  CallsIn Fence.wide n Tryz.prog 74 #[.func (.yield l) #[] #[], .pointer (some ⟨Bm, 0, none⟩)] W fun e W' => (∃ v, e = .returned v) ∧
   ((∃ ss : List IdS, ((valsS ss).Nodup ∧ ∀ k, S k = true ↔ k ∈ valsS ss) ∧ J ss W') ∨ (∃ pre : List IdS, True ∧ Jx pre W')) := by
 obtain ⟨ZI, HZI⟩ : ∃ Z, Hid (Z = (List.replicate 16 (0 : Int)).map (Value.int .u8)) := ⟨_, rfl⟩
 have hzI := hid zeroID
 rw [← HZI.out] at hzI
 have hZIl : ZI.length = 16 := by rw [HZI.out]; simp
 obtain ⟨r, Hr⟩ : ∃ r, Hid (r = W.heap.size) := ⟨_, rfl⟩
 have hsz : W.heap.size = r := Hr.out.symm
 refine callsIn_of_wp Tryz.func74 rfl trivial ?_ rfl
 simp only [Tryz.ntmps74, List.size_toArray, List.length_cons, List.length_nil, Nat.reduceAdd, Nat.reduceSub, Array.replicate_succ, Array.replicate_zero, List.push_toArray, List.append_toArray, List.nil_append, List.cons_append]
 gi_wp2_with (first
  | (gi_at_range; refine wi_rangeD rfl 60 4 _ rfl Tryz.underlying60 b _ hM rfl r hsz ?_; intro w0 cnt0 hI0 hb0 hs0)
  | gi_in)
 go_frame
 gi_loopw [3] (fun _ wr => ∃ (left : Id → Prop) (cnt : Nat) (ss : List IdS), IterD wr b r (bmap S) left cnt ∧ Hid (Coll S left (valsS ss)) ∧ J ss wr ∧ r < wr.heap.size)
  (fun _ wr => wr.rangeLeft b r)
 case atStart =>
  exact ⟨_, _, [], hI0, hid (Coll.start (fun k => bmap_some S k)), hJ [] W w0 none h0 (grown_none (by rw [hsz]; exact hb0)) (fun r e => by cases e), by omega⟩
 case round =>
  clear hI0 hb0 hs0 h0 hM hm
  obtain ⟨left, cnt, ss, hIt, HC, hJs, hrl⟩ := hrel
  gi_wp2_with (first
   | (gi_at_next; refine wi_nextD rfl _ rfl b r (bmap S) left cnt rfl hIt ?_ ?_)
   | gi_in)
  ·intro hc0 hl0
   gi_wp2
   go_end0
   exact ⟨⟨_, rfl⟩, .inl ⟨ss, ⟨HC.out.nodup, fun k => by rw [HC.out.all k]; exact ⟨fun h => h.elim id (fun h => absurd h (hl0 k)), Or.inl⟩⟩, hJs⟩⟩
  ·intro k v w2 cnt2 hk hkv hI2 hlt hg2 hs2 hen
   obtain ⟨KS, HKS⟩ : ∃ KS, Hid (KS = k.map (Value.int .u8)) := ⟨_, rfl⟩
   have HIDK : Hid (idV k = .agg KS.toArray) := hid (by rw [HKS.out]; rfl)
   have hk16 : k.length = 16 := hIt.map.len hkv
   have hKl : KS.length = 16 := by rw [HKS.out, List.length_map, hk16]
   have hK1 : ∀ u ∈ KS, u.oneCell' = true := by rw [HKS.out]; exact ints_one _ _
   rw [HIDK.out] at hen ⊢
   have hJ2 : J ss w2 := hJ ss wr w2 (some r) hJs hg2 (fun r' e => by cases e; exact ⟨by rw [hsz]; exact Nat.le_refl _, iter_walk hIt⟩)
   have HC2 := hid (HC.out.step hk)
   have hsl : ss.length < 400 := by
    have h1 := hfew.out _ HC2.out.nodup (fun j hj => (HC2.out.all j).2 (Or.inl hj))
    rw [List.length_append] at h1
    unfold valsS at h1
    rw [List.length_map, List.length_singleton] at h1
    omega
   have hY2 := hid (fun w4 (hJ4 : J ss w4) => hY ss ⟨k, hk16⟩ w4 hJ4 hsl)
   have hr2 : r < w2.heap.size := by rw [hs2]; exact hrl
   clear hs2 hg2 HC hfew
   gi_wp2_with (first
    | (refine wi_load rfl 27 _ rfl ⟨w2.heap.size, 0, none⟩ rfl KS (by rw [hKl]; exact aggID) hK4.at0 ?_; obtain ⟨fn, tmps, assign, body, hy, hR⟩ := hY2.out w4 hJ4; rw [HIDK.out] at hy)
    | (refine wi_storeV rfl 27 _ _ rfl 27 w2.heap.size rfl KS rfl 16 aggID hKl ZI hG3 hZIl hK1 ?_; intro w4 hK4 hg4 hs4; have b24 : Below w2.heap.size w2 w4 := hb3.grown hg4 hb3.size (fun k hk => by injection hk with hk; omega); have hJ4 : J ss w4 := hJ ss w2 w4 none hJ2 (grown_none b24) (fun r e => by cases e); have hI4 := hI2.below b24 hI2.map.lt hI2.lt; have hr4 : r < w4.heap.size := Nat.lt_of_lt_of_le hr2 b24.size; clear hg4 hs4 hs3 hb3 hG3 hJ2)
    | (refine wi_allocV rfl 27 rfl ZI hzI.out w2.heap.size rfl ?_; intro w3 hG3 hb3 hs3)
    | gi_in)
   refine hR.mono ?_
   rintro e W3 (⟨rfl, hJ3, hk3⟩ | ⟨rfl, hJx3⟩)
   ·gi_wp2
    have hI3 := iter_walks hI4 hk3
    go_roundw
    case rel => exact ⟨_, cnt2, ss ++ [⟨k, hk16⟩], hI3, hid (by rw [valsS_snoc]; exact HC2.out), hJ3, Nat.lt_of_lt_of_le hr4 hk3.size⟩
    case measure => rw [hI3.left_eq, hIt.left_eq]; exact hlt
   ·gi_wp2
    refine bodyPost_ret (results_none rfl _ _ _) rfl ?_
    exact ⟨⟨_, rfl⟩, .inr ⟨_, trivial, hJx3⟩⟩
theorem keys_stops (n : Nat) (hn : 1 ≤ n) (Bm b : Nat) (S : Id → Bool) (hfew : Hid (∀ l : List Id, l.Nodup → (∀ k ∈ l, S k = true) → l.length ≤ 400)) (w : World) (hBm : Bm < w.heap.size) (hm : w.cell? ⟨Bm, 0, none⟩ = some (.map (some b))) (hM : MapD w b (bmap S)) :
  SeqStopsK Fence.wide n Tryz.prog 74 #[.pointer (some ⟨Bm, 0, none⟩)] (fun x : IdS => #[idV x.1]) KeepsWalks (fun ss => (valsS ss).Nodup ∧ ∀ k, S k = true ↔ k ∈ valsS ss) (fun _ => True) 400 w := fun l J Jx W hW hJ _ hY h0 =>
 keys1_in n hn l Bm b S hfew J Jx hY W hJ ((hW.cell (p := ⟨Bm, 0, none⟩) hBm).trans hm) (hM.below hW hM.lt) h0
end Go.Proofs.YtbjmadcbhkeenaaGreat.lk
