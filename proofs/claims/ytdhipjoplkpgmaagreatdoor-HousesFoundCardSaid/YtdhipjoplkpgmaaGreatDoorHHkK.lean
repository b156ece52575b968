/-
  HousesFound: contracts of maps.Keys, slices.AppendSeq, slices.Collect, slices.SortedFunc, sortedIDs at maps of IDs with at most one key. Conditions: such a map. HousesFound: contracts of slices.Clone at strings, of State.Members and State.Keys of a founded state. Conditions: such a state; at most 16 roles. HousesFound: contracts of the founded house's Octets, Head, Time, Keys, Held, of tree.Root over one leaf. Conditions: such a house. HousesFound: contracts of ledger.PrintHead, mix.SealOf, ledger.SealHead, house.headKey, of Head and SealedHead of a founded house. Conditions: such a house; a time in its bounds. HousesFound: contracts of ledger.SealHead, of Head and SealedHead of a founded house. Conditions: such a house; a time in its bounds. HousesFound: the keys of an empty map of sums, sorted: an empty row. Conditions: the map is empty.
-/
import Derived.Test.YtdhipjoplkpgmaaGreatDoorHHfL
import Derived.Test.YtdhipjoplkpgmaaGreatDoorHMkZ
import Derived.Test.YtdhipjoplkpgmaaGreatDoorHCmD
import Derived.Test.YtdhipjoplkpgmaaGreatDoorHHfX
import Derived.Test.YtdhipjoplkpgmaaGreatDoorHHld
import Derived.Test.YtdhipjoplkpgmaaGreatDoorHHgI
import Derived.RangeFuncNested
import Derived.RangeFuncBound
import Derived.RangeFuncCalls
import Derived.RangeFuncLeaves
import Derived.RangeFuncBox
import Derived.Shelf.Abstract
import Derived.Shelf.RegionOpen
import Derived.WalkKit
import Derived.OwnWalkIn
import Derived.TacticsInMore
import Derived.LoopNIn
import Derived.LoopIn
import Derived.Maps.AppendAt
import Derived.Sort.QuietIn
import Derived.Sort.MapsRangeIn
set_option maxRecDepth 100000
set_option linter.unusedSimpArgs false
set_option linter.unusedVariables false
set_option maxHeartbeats 8000000
namespace Go.Proofs.YtdhipjoplkpgmaaGreatDoor.hf
open Go.RowKit Go.Shelf st hs wr shr sh lk
attribute [local go_sem] Oper.semAt_some
section
variable {F : Fence} {n : Nat} {P : Program} {w : World} {ops : Array Oper} {rest : List Oper} {o : Oper} {a : Act} {Q : Exit → Act → World → Prop}
theorem wi_load (hgd : o.guard = none) (ty : TypeId) (x : Operand) (ho : o.op = .load ty x) (p : Addr) (hx : a.eval x = .pointer (some p)) (cs : List Value) (ha : Agg P ty cs.length) (hc : At w p cs) (h : wpListIn F n P ops Q rest (a.put o.dst (.agg cs.toArray)) w) : wpListIn F n P ops Q (o :: rest) a w := by
 refine wpListIn_plain hgd fun K' hK' => ?_
 unfold Oper.wpIn
 refine ⟨by simp [Oper.about, ho], ?_⟩
 rw [Oper.semAt_plain F _ _ (by rw [ho]; intro c hc'; cases hc')]
 simp [execOp, ho, hx, Instr.loadAt, Instr.sureAddr, run_load_agg w ty p cs ha hc, Result.andThen]
 exact hK' _ _ h
theorem wi_allocV (hgd : o.guard = none) (t : TypeId) (ho : o.op = .alloc t) (cs : List Value) (hz : (P.info? t).map (·.zero) = some (some (.agg cs.toArray))) (N : Nat) (hN : w.heap.size = N)
  (h : ∀ w', BlkV t w' N cs → Below N w w' → w'.heap.size = N + 1 → wpListIn F n P ops Q rest (a.put o.dst (.pointer (some ⟨N, 0, none⟩))) w') : wpListIn F n P ops Q (o :: rest) a w := by
 subst hN
 obtain ⟨i, hi, hs⟩ := Option.map_eq_some_iff.1 hz
 refine wpListIn_plain hgd fun K' hK' => ?_
 unfold Oper.wpIn
 refine ⟨by simp [Oper.about, ho], ?_⟩
 rw [Oper.semAt_plain F _ _ (by rw [ho]; intro c hc'; cases hc')]
 simp [execOp, ho, Instr.alloc, zeroValue, typeInfo, hi, hs, newVar, newRow, Value.cells, Result.andThen]
 exact hK' _ _ (h _ (BlkV.new t w cs rfl) ((Below.refl _ _).alloc (Nat.le_refl _) _) (by simp))
theorem wi_storeV (hgd : o.guard = none) (ty : TypeId) (x y : Operand) (ho : o.op = .store ty x y) (t : TypeId) (g : Nat) (hx : a.eval x = .pointer (some ⟨g, 0, none⟩)) (cs : List Value) (hy : a.eval y = .agg cs.toArray) (m : Nat) (hi : Agg P ty m) (hn : cs.length = m) (cur : List Value) (hg : BlkV t w g cur) (hc : cur.length = m) (h1 : ∀ u ∈ cs, u.oneCell' = true)
  (h : ∀ w', BlkV t w' g cs → w.grownBy w' (some g) → w'.heap.size = w.heap.size → wpListIn F n P ops Q rest (a.put o.dst undef) w') : wpListIn F n P ops Q (o :: rest) a w := by
 have hrun := run_store_agg (P := P) w ty t g 0 cur cs (by rw [hi.2, hn]) hg (by omega) h1
 have e : cur.take 0 ++ cs ++ cur.drop (0 + cs.length) = cs := by rw [List.take_zero, List.nil_append, List.drop_of_length_le (by omega), List.append_nil]
 rw [e] at hrun
 refine wpListIn_plain hgd fun K' hK' => ?_
 unfold Oper.wpIn
 refine ⟨by simp [Oper.about, ho], ?_⟩
 rw [Oper.semAt_plain F _ _ (by rw [ho]; intro c hc'; cases hc')]
 simp [execOp, ho, hx, hy, Instr.storeAt, Instr.sureAddr, hrun, Result.andThen]
 exact hK' _ _ (h _ (hg.setRow cs) ⟨rfl, rfl, rfl, by simp, fun k _ hk => setRow_other w g k _ (fun e => hk (by rw [e]))⟩ (by simp))
theorem wi_slice1 (hgd : o.guard = none) (t e : TypeId) (x : Operand) (ho : o.op = .buildSlice t 1 #[(0, x)])
  (ht : P.underlying t = some (.slice e)) (size : Nat) (z : List Value) (hi : (P.info? e).map (fun i => (i.zero, i.size)) = some (some (.agg z.toArray), size)) (hz : z.length = size) (h0 : 0 < size) (h24 : size ≤ 2 ^ 24)
  (cs : List Value) (hx : a.eval x = .agg cs.toArray) (hcs : cs.length = size) (N : Nat) (hN : w.heap.size = N)
  (h : wpListIn F n P ops Q rest (a.put o.dst (.slice (some ⟨N, 0, none⟩) 1 1)) (w.alloc (.cells cs.toArray e))) : wpListIn F n P ops Q (o :: rest) a w := by
 subst hN
 obtain ⟨i, hi0, hh⟩ := Option.map_eq_some_iff.1 hi
 simp only [Prod.mk.injEq] at hh
 obtain ⟨hzi, hsi⟩ := hh
 subst hsi
 have hf : Instr.fill (fun j => some (j * i.size, i.size)) ((Array.range (1 * i.size)).map (fun j => (Value.agg z.toArray).cells[j % (Value.agg z.toArray).cells.size]!)) #[(0, Value.agg cs.toArray)].toList = some cs.toArray := fill_one i.size cs _ hcs (by simp)
 have hrun := run_buildSlice (P := P) w t e 1 #[(0, Value.agg cs.toArray)] cs.toArray i (.agg z.toArray) ht hi0 hzi (by omega) (by omega) hf
 refine wpListIn_plain hgd fun K' hK' => ?_
 unfold Oper.wpIn
 refine ⟨by simp [Oper.about, ho], ?_⟩
 rw [Oper.semAt_plain F _ _ (by rw [ho]; intro c hc'; cases hc')]
 simp [execOp, ho, hx, hrun, Result.andThen]
 exact hK' _ _ h
end
section
variable {F : Fence} {n : Nat} {w : World} {ops : Array Oper} {rest : List Oper} {o : Oper} {a : Act} {Q : Exit → Act → World → Prop}
theorem wi_rangeD (hgd : o.guard = none) (t et : TypeId) (m : Operand) (ho : o.op = .range t m) (ht : Tryz.prog.underlying t = some (.map 25 et)) (b : Nat) (D : Mp Value) (h : MapD w b D) (hmv : a.eval m = .map (some b)) (N : Nat) (hN : w.heap.size = N)
  (hK : ∀ w' cnt, IterD w' b N D (fun k => (D k).isSome = true) cnt → Below N w w' → w'.heap.size = N + 1 → wpListIn F n Tryz.prog ops Q rest (a.put o.dst (.pointer (some ⟨N, 0, none⟩))) w') : wpListIn F n Tryz.prog ops Q (o :: rest) a w := by
 subst hN
 obtain ⟨w', cnt, hrun, h1, h2, h3⟩ := run_rangeD h t et ht
 refine wpListIn_plain hgd fun K' hK' => ?_
 unfold Oper.wpIn
 refine ⟨by simp [Oper.about, ho], ?_⟩
 rw [Oper.semAt_plain F _ _ (by rw [ho]; intro c hc'; cases hc')]
 simp [execOp, ho, hmv, hrun, Result.andThen]
 exact hK' _ _ (hK w' cnt h1 h2 h3)
theorem wi_nextD (hgd : o.guard = none) (it : Operand) (ho : o.op = .next it false) (b r : Nat) (D : Mp Value) (left : lk.Id → Prop) (cnt : Nat) (hit : a.eval it = .pointer (some ⟨r, 0, none⟩)) (h : IterD w b r D left cnt)
  (hDone : cnt = 0 → (∀ k, ¬ left k) → wpListIn F n Tryz.prog ops Q rest (a.put o.dst (.tuple #[.bool false])) w)
  (hMore : ∀ k v w' cnt', left k → D k = some v → IterD w' b r D (fun j => left j ∧ j ≠ k) cnt' → cnt' < cnt → w.grownBy w' (some r) → w'.heap.size = w.heap.size → (Instr.entry (.pointer (some ⟨r, 0, none⟩))).run Tryz.prog w' = .ok (.tuple #[idV k, v]) w' →
   wpListIn F n Tryz.prog ops Q rest (a.put o.dst (.tuple #[.bool true, idV k, v])) w') : wpListIn F n Tryz.prog ops Q (o :: rest) a w := by
 refine wpListIn_plain hgd fun K' hK' => ?_
 unfold Oper.wpIn
 refine ⟨by simp [Oper.about, ho], ?_⟩
 rw [Oper.semAt_plain F _ _ (by rw [ho]; intro c hc'; cases hc')]
 rcases h.step o.type with ⟨h0, hl, hrun⟩ | ⟨k, v, w', cnt', h1, h2, hrun, h3, h4, h5, h6, h7⟩
 ·simp [execOp, ho, hit, hrun, Result.andThen]
  exact hK' _ _ (hDone h0 hl)
 ·simp [execOp, ho, hit, hrun, Result.andThen]
  exact hK' _ _ (hMore k v w' cnt' h1 h2 h3 h4 h5 h6 h7)
end
abbrev IdS := {k : lk.Id // k.length = 16}
def valsS (l : List IdS) : List lk.Id := l.map Subtype.val
theorem valsS_snoc (l : List IdS) (x : IdS) : valsS (l ++ [x]) = valsS l ++ [x.1] := by simp [valsS]
theorem iter_walk {w : World} {b r : Nat} {D : Mp Value} {left : lk.Id → Prop} {cnt : Nat} (h : IterD w b r D left cnt) : ∃ o : Obj, w.heap[r]? = some o ∧ o.isWalk = true := by
 obtain ⟨es, clock, since, seen, c0, _, _, h, _⟩ := h
 exact ⟨_, h, rfl⟩
theorem iter_walks {w w' : World} {b r : Nat} {D : Mp Value} {left : lk.Id → Prop} {cnt : Nat} (h : IterD w b r D left cnt) (hk : KeepsWalks w w') : IterD w' b r D left cnt := by
 obtain ⟨es, clock, since, seen, c0, hb, hE, hr, rest⟩ := h
 exact ⟨es, clock, since, seen, c0, hk.same _ _ hb rfl, hE, hk.same _ _ hr rfl, rest⟩
theorem grown_none {w w' : World} (h : Below w.heap.size w w') : w.grownBy w' none := ⟨h.os, h.tape, h.output, h.size, fun i hi _ => h.block i hi⟩
structure Coll (S : lk.Id → Bool) (left : lk.Id → Prop) (ks : List lk.Id) : Prop where
 nodup : ks.Nodup
 all : ∀ k, S k = true ↔ k ∈ ks ∨ left k
 apart : ∀ k ∈ ks, ¬ left k
theorem Coll.start {S : lk.Id → Bool} {left : lk.Id → Prop} (h : ∀ k, left k ↔ S k = true) : Coll S left [] := ⟨List.nodup_nil, fun k => by rw [← h]; simp, fun k hk => by cases hk⟩
theorem Coll.step {S : lk.Id → Bool} {left : lk.Id → Prop} {ks : List lk.Id} (h : Coll S left ks) {k : lk.Id} (hk : left k) : Coll S (fun j => left j ∧ j ≠ k) (ks ++ [k]) := by
 refine ⟨?_, fun j => ?_, fun j hj => ?_⟩
 ·refine List.nodup_append.2 ⟨h.nodup, by simp, fun a ha b hb => ?_⟩
  rw [List.mem_singleton.1 hb]
  intro e
  exact h.apart a ha (e ▸ hk)
 ·rw [h.all j, List.mem_append, List.mem_singleton]
  by_cases hjk : j = k
  ·simp [hjk, hk]
  ·simp [hjk]
 ·rcases List.mem_append.1 hj with hj | hj
  ·exact fun hl => h.apart j hj hl.1
  ·exact fun hl => hl.2 (List.mem_singleton.1 hj)
def flatL (l : List (List Int)) : List Value := l.flatMap fun h => h.map (Value.int .u8)
theorem infoId : Info Tryz.prog 25 (.agg ((List.replicate 16 (0 : Int)).map (Value.int .u8)).toArray) 16 16 := by unfold Info; kernel_rfl
theorem infoId2 : (Tryz.prog.info? 25).map (fun i => (i.zero, i.size)) = some (some (.agg ((List.replicate 16 (0 : Int)).map (Value.int .u8)).toArray), 16) := by kernel_rfl
theorem flatL_snoc (l : List (List Int)) (h : List Int) : flatL (l ++ [h]) = flatL l ++ h.map (Value.int .u8) := by unfold flatL; simp
theorem zeroIDr : (Tryz.prog.info? 25).map (·.zero) = some (some (.agg ((List.replicate 16 (0 : Int)).map (Value.int .u8)).toArray)) := by kernel_rfl
theorem keys1_R (n : Nat) (hn : 1 ≤ n) (l Bm b : Nat) (D : Mp Value) (hfew : Hid (∀ l : List lk.Id, l.Nodup → (∀ k ∈ l, (D k).isSome = true) → l.length ≤ 400)) (J Jx : List IdS → World → Prop)
  (hY : ∀ pre x W, J pre W → pre.length < 400 → YieldAt Fence.wide (n - 1) Tryz.prog l #[idV x.1] W fun e W' =>
   (e = .returned (.bool true) ∧ J (pre ++ [x]) W' ∧ KeepsWalks W W') ∨ (e = .returned (.bool false) ∧ Jx (pre ++ [x]) W'))
  (W : World) (hJ : AbidesFrom W.heap.size J) (hm : W.cell? ⟨Bm, 0, none⟩ = some (.map (some b))) (hM : MapD W b D) (h0 : J [] W) :
  CallsIn Fence.wide n Tryz.prog 285 #[.func (.yield l) #[] #[], .pointer (some ⟨Bm, 0, none⟩)] W fun e W' => (∃ v, e = .returned v) ∧
   ((∃ ss : List IdS, ((valsS ss).Nodup ∧ ∀ k, (D k).isSome = true ↔ k ∈ valsS ss) ∧ J ss W') ∨ (∃ pre : List IdS, True ∧ Jx pre W')) := by
 obtain ⟨ZI, HZI⟩ := hidE ((List.replicate 16 (0 : Int)).map (Value.int .u8))
 have hzI := hid zeroIDr
 rw [← HZI.out] at hzI
 have hZIl : ZI.length = 16 := by rw [HZI.out]; simp
 obtain ⟨r, hsz⟩ := szE W
 refine callsIn_of_wp Tryz.func285 rfl trivial ?_ rfl
 simp only [Tryz.ntmps285, List.size_toArray, List.length_cons, List.length_nil, Nat.reduceAdd, Nat.reduceSub, Array.replicate_succ, Array.replicate_zero, List.push_toArray, List.append_toArray, List.nil_append, List.cons_append]
 gi_wp2_with (first
  | (gi_at_range; refine wi_rangeD rfl 87 26 _ rfl Tryz.underlying87 b _ hM rfl r hsz ?_; intro w0 cnt0 hI0 hb0 hs0)
  | gi_in)
 go_frame
 gi_loopw [3] (fun _ wr => ∃ (left : lk.Id → Prop) (cnt : Nat) (ss : List IdS), IterD wr b r D left cnt ∧ Hid (Coll (fun k => (D k).isSome) left (valsS ss)) ∧ J ss wr ∧ r < wr.heap.size)
  (fun _ wr => wr.rangeLeft b r)
 case atStart =>
  exact ⟨_, _, [], hI0, hid (Coll.start (fun k => Iff.rfl)), hJ [] W w0 none h0 (grown_none (by rw [hsz]; exact hb0)) (fun r e => by cases e), by omega⟩
 case round =>
  clear hI0 hb0 hs0 h0 hM hm
  obtain ⟨left, cnt, ss, hIt, HC, hJs, hrl⟩ := hrel
  gi_wp2_with (first
   | (gi_at_next; refine wi_nextD rfl _ rfl b r D left cnt rfl hIt ?_ ?_)
   | gi_in)
  ·intro hc0 hl0
   gi_wp2
   go_end0
   exact ⟨⟨_, rfl⟩, .inl ⟨ss, ⟨HC.out.nodup, fun k => by rw [HC.out.all k]; exact ⟨fun h => h.elim id (fun h => absurd h (hl0 k)), Or.inl⟩⟩, hJs⟩⟩
  ·intro k v w2 cnt2 hk hkv hI2 hlt hg2 hs2 hen
   obtain ⟨KS, HKS⟩ := hidE (k.map (Value.int .u8))
   have HIDK : Hid (idV k = .agg KS.toArray) := hid (by rw [HKS.out]; rfl)
   have hk16 : k.length = 16 := hIt.map.len hkv
   have hKl : KS.length = 16 := by rw [HKS.out, List.length_map, hk16]
   have hK1 : ∀ u ∈ KS, u.oneCell' = true := by rw [HKS.out]; exact ints_one _ _
   rw [HIDK.out] at hen ⊢
   have hJ2 : J ss w2 := hJ ss wr w2 (some r) hJs hg2 (fun r' e => by cases e; exact ⟨by rw [hsz]; exact Nat.le_refl _, iter_walk hIt⟩)
   have HC2 := hid (HC.out.step hk)
   have hsl : ss.length < 400 := by
    have h1 := hfew.out _ HC2.out.nodup (fun j hj => (HC2.out.all j).2 (Or.inl hj))
    rw [List.length_append] at h1
    unfold valsS at h1
    rw [List.length_map, List.length_singleton] at h1
    omega
   have hY2 := hid (fun w4 (hJ4 : J ss w4) => hY ss ⟨k, hk16⟩ w4 hJ4 hsl)
   have hr2 : r < w2.heap.size := by rw [hs2]; exact hrl
   clear hs2 hg2 HC hfew
   gi_wp2_with (first
    | (refine wi_load rfl 25 _ rfl ⟨w2.heap.size, 0, none⟩ rfl KS (by rw [hKl]; exact aggIDT) hK4.at0 ?_; obtain ⟨fn, tmps, assign, body, hy, hR⟩ := hY2.out w4 hJ4; rw [HIDK.out] at hy)
    | (refine wi_storeV rfl 25 _ _ rfl 25 w2.heap.size rfl KS rfl 16 aggIDT hKl ZI hG3 hZIl hK1 ?_; intro w4 hK4 hg4 hs4; have b24 : Below w2.heap.size w2 w4 := hb3.grown hg4 hb3.size (fun k hk => by injection hk with hk; omega); have hJ4 : J ss w4 := hJ ss w2 w4 none hJ2 (grown_none b24) (fun r e => by cases e); have hI4 := hI2.below b24 hI2.map.lt hI2.lt; have hr4 : r < w4.heap.size := Nat.lt_of_lt_of_le hr2 b24.size; clear hg4 hs4 hs3 hb3 hG3 hJ2)
    | (refine wi_allocV rfl 25 rfl ZI hzI.out w2.heap.size rfl ?_; intro w3 hG3 hb3 hs3)
    | gi_in)
   refine hR.mono ?_
   rintro e W3 (⟨rfl, hJ3, hk3⟩ | ⟨rfl, hJx3⟩)
   ·gi_wp2
    have hI3 := iter_walks hI4 hk3
    go_roundw
    case rel => exact ⟨_, cnt2, ss ++ [⟨k, hk16⟩], hI3, hid (by rw [valsS_snoc]; exact HC2.out), hJ3, Nat.lt_of_lt_of_le hr4 hk3.size⟩
    case measure => rw [hI3.left_eq, hIt.left_eq]; exact hlt
   ·gi_wp2
    refine bodyPost_ret (results_none rfl _ _ _) rfl ?_
    exact ⟨⟨_, rfl⟩, .inr ⟨_, trivial, hJx3⟩⟩
theorem keysS_R (n : Nat) (hn : 1 ≤ n) (Bm b : Nat) (D : Mp Value) (hfew : Hid (∀ l : List lk.Id, l.Nodup → (∀ k ∈ l, (D k).isSome = true) → l.length ≤ 400)) (w : World) (hBm : Bm < w.heap.size) (hm : w.cell? ⟨Bm, 0, none⟩ = some (.map (some b))) (hM : MapD w b D) :
  SeqStopsK Fence.wide n Tryz.prog 285 #[.pointer (some ⟨Bm, 0, none⟩)] (fun x : IdS => #[idV x.1]) KeepsWalks (fun ss => (valsS ss).Nodup ∧ ∀ k, (D k).isSome = true ↔ k ∈ valsS ss) (fun _ => True) 400 w := fun l J Jx W hW hJ _ hY h0 =>
 keys1_R n hn l Bm b D hfew J Jx hY W hJ ((hW.cell (p := ⟨Bm, 0, none⟩) hBm).trans hm) (hM.below hW hM.lt) h0
theorem keys1_K (n : Nat) (hn : 1 ≤ n) (l Bm b : Nat) (D : Mp Value) (hfew : Hid (∀ l : List lk.Id, l.Nodup → (∀ k ∈ l, (D k).isSome = true) → l.length ≤ 400)) (J Jx : List IdS → World → Prop)
  (hY : ∀ pre x W, J pre W → pre.length < 400 → YieldAt Fence.wide (n - 1) Tryz.prog l #[idV x.1] W fun e W' =>
   (e = .returned (.bool true) ∧ J (pre ++ [x]) W' ∧ KeepsWalks W W') ∨ (e = .returned (.bool false) ∧ Jx (pre ++ [x]) W'))
  (W : World) (hJ : AbidesFrom W.heap.size J) (hm : W.cell? ⟨Bm, 0, none⟩ = some (.map (some b))) (hM : MapD W b D) (h0 : J [] W) :
  CallsIn Fence.wide n Tryz.prog 325 #[.func (.yield l) #[] #[], .pointer (some ⟨Bm, 0, none⟩)] W fun e W' => (∃ v, e = .returned v) ∧
   ((∃ ss : List IdS, ((valsS ss).Nodup ∧ ∀ k, (D k).isSome = true ↔ k ∈ valsS ss) ∧ J ss W') ∨ (∃ pre : List IdS, True ∧ Jx pre W')) := by
 obtain ⟨ZI, HZI⟩ := hidE ((List.replicate 16 (0 : Int)).map (Value.int .u8))
 have hzI := hid zeroIDr
 rw [← HZI.out] at hzI
 have hZIl : ZI.length = 16 := by rw [HZI.out]; simp
 obtain ⟨r, hsz⟩ := szE W
 refine callsIn_of_wp Tryz.func325 rfl trivial ?_ rfl
 simp only [Tryz.ntmps325, List.size_toArray, List.length_cons, List.length_nil, Nat.reduceAdd, Nat.reduceSub, Array.replicate_succ, Array.replicate_zero, List.push_toArray, List.append_toArray, List.nil_append, List.cons_append]
 gi_wp2_with (first
  | (gi_at_range; refine wi_rangeD rfl 88 70 _ rfl Tryz.underlying88 b _ hM rfl r hsz ?_; intro w0 cnt0 hI0 hb0 hs0)
  | gi_in)
 go_frame
 gi_loopw [3] (fun _ wr => ∃ (left : lk.Id → Prop) (cnt : Nat) (ss : List IdS), IterD wr b r D left cnt ∧ Hid (Coll (fun k => (D k).isSome) left (valsS ss)) ∧ J ss wr ∧ r < wr.heap.size)
  (fun _ wr => wr.rangeLeft b r)
 case atStart =>
  exact ⟨_, _, [], hI0, hid (Coll.start (fun k => Iff.rfl)), hJ [] W w0 none h0 (grown_none (by rw [hsz]; exact hb0)) (fun r e => by cases e), by omega⟩
 case round =>
  clear hI0 hb0 hs0 h0 hM hm
  obtain ⟨left, cnt, ss, hIt, HC, hJs, hrl⟩ := hrel
  gi_wp2_with (first
   | (gi_at_next; refine wi_nextD rfl _ rfl b r D left cnt rfl hIt ?_ ?_)
   | gi_in)
  ·intro hc0 hl0
   gi_wp2
   go_end0
   exact ⟨⟨_, rfl⟩, .inl ⟨ss, ⟨HC.out.nodup, fun k => by rw [HC.out.all k]; exact ⟨fun h => h.elim id (fun h => absurd h (hl0 k)), Or.inl⟩⟩, hJs⟩⟩
  ·intro k v w2 cnt2 hk hkv hI2 hlt hg2 hs2 hen
   obtain ⟨KS, HKS⟩ := hidE (k.map (Value.int .u8))
   have HIDK : Hid (idV k = .agg KS.toArray) := hid (by rw [HKS.out]; rfl)
   have hk16 : k.length = 16 := hIt.map.len hkv
   have hKl : KS.length = 16 := by rw [HKS.out, List.length_map, hk16]
   have hK1 : ∀ u ∈ KS, u.oneCell' = true := by rw [HKS.out]; exact ints_one _ _
   rw [HIDK.out] at hen ⊢
   have hJ2 : J ss w2 := hJ ss wr w2 (some r) hJs hg2 (fun r' e => by cases e; exact ⟨by rw [hsz]; exact Nat.le_refl _, iter_walk hIt⟩)
   have HC2 := hid (HC.out.step hk)
   have hsl : ss.length < 400 := by
    have h1 := hfew.out _ HC2.out.nodup (fun j hj => (HC2.out.all j).2 (Or.inl hj))
    rw [List.length_append] at h1
    unfold valsS at h1
    rw [List.length_map, List.length_singleton] at h1
    omega
   have hY2 := hid (fun w4 (hJ4 : J ss w4) => hY ss ⟨k, hk16⟩ w4 hJ4 hsl)
   have hr2 : r < w2.heap.size := by rw [hs2]; exact hrl
   clear hs2 hg2 HC hfew
   gi_wp2_with (first
    | (refine wi_load rfl 25 _ rfl ⟨w2.heap.size, 0, none⟩ rfl KS (by rw [hKl]; exact aggIDT) hK4.at0 ?_; obtain ⟨fn, tmps, assign, body, hy, hR⟩ := hY2.out w4 hJ4; rw [HIDK.out] at hy)
    | (refine wi_storeV rfl 25 _ _ rfl 25 w2.heap.size rfl KS rfl 16 aggIDT hKl ZI hG3 hZIl hK1 ?_; intro w4 hK4 hg4 hs4; have b24 : Below w2.heap.size w2 w4 := hb3.grown hg4 hb3.size (fun k hk => by injection hk with hk; omega); have hJ4 : J ss w4 := hJ ss w2 w4 none hJ2 (grown_none b24) (fun r e => by cases e); have hI4 := hI2.below b24 hI2.map.lt hI2.lt; have hr4 : r < w4.heap.size := Nat.lt_of_lt_of_le hr2 b24.size; clear hg4 hs4 hs3 hb3 hG3 hJ2)
    | (refine wi_allocV rfl 25 rfl ZI hzI.out w2.heap.size rfl ?_; intro w3 hG3 hb3 hs3)
    | gi_in)
   refine hR.mono ?_
   rintro e W3 (⟨rfl, hJ3, hk3⟩ | ⟨rfl, hJx3⟩)
   ·gi_wp2
    have hI3 := iter_walks hI4 hk3
    go_roundw
    case rel => exact ⟨_, cnt2, ss ++ [⟨k, hk16⟩], hI3, hid (by rw [valsS_snoc]; exact HC2.out), hJ3, Nat.lt_of_lt_of_le hr4 hk3.size⟩
    case measure => rw [hI3.left_eq, hIt.left_eq]; exact hlt
   ·gi_wp2
    refine bodyPost_ret (results_none rfl _ _ _) rfl ?_
    exact ⟨⟨_, rfl⟩, .inr ⟨_, trivial, hJx3⟩⟩
theorem keysS_K (n : Nat) (hn : 1 ≤ n) (Bm b : Nat) (D : Mp Value) (hfew : Hid (∀ l : List lk.Id, l.Nodup → (∀ k ∈ l, (D k).isSome = true) → l.length ≤ 400)) (w : World) (hBm : Bm < w.heap.size) (hm : w.cell? ⟨Bm, 0, none⟩ = some (.map (some b))) (hM : MapD w b D) :
  SeqStopsK Fence.wide n Tryz.prog 325 #[.pointer (some ⟨Bm, 0, none⟩)] (fun x : IdS => #[idV x.1]) KeepsWalks (fun ss => (valsS ss).Nodup ∧ ∀ k, (D k).isSome = true ↔ k ∈ valsS ss) (fun _ => True) 400 w := fun l J Jx W hW hJ _ hY h0 =>
 keys1_K n hn l Bm b D hfew J Jx hY W hJ ((hW.cell (p := ⟨Bm, 0, none⟩) hBm).trans hm) (hM.below hW hM.lt) h0
theorem wi_push {F : Fence} {n' : Nat} {P : Program} {w : World} {ops : Array Oper} {rest : List Oper} {o : Oper} {a : Act} {Q : Exit → Act → World → Prop} (hgd : o.guard = none) (s x : Operand) (t : TypeId)
  (ho : o.op = .call { callee := .builtin .append, args := #[s, x], argTypes := #[t, t] }) (e : TypeId) (z : Value) (size bytes : Nat) (ht : P.underlying t = some (.slice e)) (hi : Info P e z size bytes) (hzs : z.cells.size = size) (hsz : 0 < size)
  (base : Nat) (v : Value) (n : Nat) (xs : List Value) (hs : a.eval s = v) (hown : w.ownsRow base e size v n xs) (ad : Addr) (m c : Nat) (hx : a.eval x = .slice (some ad) m c) (news : List Value) (hl : news.length = m * size) (hrow : At w ad news) (h1 : ∀ u ∈ news, u.oneCell' = true)
  (b1 : n + m ≤ maxLen) (b2 : (n + m) * bytes ≤ 140737488355328) (hbase : base ≤ w.heap.size) (N : Nat) (hN : N = n + m)
  (hK : ∀ ao' cap' w', w'.ownsRow base e size (.slice ao' N cap') N (xs ++ news) → w.grownBy w' v.ownBlock → wpListIn F n' P ops Q rest (a.put o.dst (.slice ao' N cap')) w') : wpListIn F n' P ops Q (o :: rest) a w := by
 subst hN
 obtain ⟨i, hi, hz, hsi, hby⟩ := hi.parts
 obtain ⟨v', w', hrun, r1, r2, _, r4⟩ := run_append_own_at (P := P) w base t o.type e i z size bytes ht hi hz hsi hby hzs hsz v n xs hown ad m c news hl (fun j u hu => hrow j u hu) h1 b1 b2 hbase
 obtain ⟨ao', cap', rfl, h2, _⟩ := Mine.row (Or.inl r1)
 refine wpListIn_plain hgd fun K' hK' => ?_
 unfold Oper.wpIn
 refine ⟨by simp [Oper.about, ho, resolve, Target.leads, Sem.run_pure], ?_⟩
 rw [Oper.semAt_plain F _ _ (by rw [ho]; intro c hc'; cases hc')]
 simp [execOp, ho, resolve, invoke, builtin, hs, hx, hrun, Result.andThen]
 exact hK' _ _ (hK ao' cap' w' r1 r2)
theorem blk_own (t : TypeId) (g : Nat) (cs : List Value) (B : Nat) : OwnFrom B (fun (_ : Unit) W => BlkV t W g cs) := fun s W W' row hs hg hr => by
 refine (hg.block g hs.lt (fun e => ?_)).trans hs
 obtain ⟨_, o, ho, hc⟩ := hr g e.symm
 rw [show W.heap[g]? = _ from hs] at ho
 cases ho
 cases hc
def AsI (PS : List IdS → Prop) (w : World) (e : Ending) (W' : World) : Prop := ∃ (ao : Option Addr) (c : Nat) (ks : List lk.Id), e = .returned (.slice ao ks.length c) ∧ W'.ownsRow w.heap.size 25 16 (.slice ao ks.length c) ks.length (flatL ks) ∧ (∃ ss, valsS ss = ks ∧ PS ss) ∧ Below w.heap.size w W'
theorem appendSeqI (n : Nat) (hn : 3 ≤ n) (G : Nat) (hG : ∀ args w, (callFunc G args).run Tryz.prog w = .ok (.enter G args) w) (Bm : Nat) (PS : List IdS → Prop) (w : World) (hBm : Bm < w.heap.size)
  (hst : ∀ w0, Below w.heap.size w w0 → SeqStopsK Fence.wide (n - 1) Tryz.prog G #[.pointer (some ⟨Bm, 0, none⟩)] (fun x : IdS => #[idV x.1]) KeepsWalks PS (fun _ => True) 400 w0) :
  CallsIn Fence.wide n Tryz.prog 376 #[.slice none 0 0, .func (.func G) #[] #[.pointer (some ⟨Bm, 0, none⟩)]] w (AsI PS w) := by
 have h1 : 1 ≤ n := by omega
 obtain ⟨ZI, HZI⟩ := hidE ((List.replicate 16 (0 : Int)).map (Value.int .u8))
 have hzI := hid zeroIDr
 have HII := hid infoId
 have HI2 := hid infoId2
 rw [← HZI.out] at hzI HII HI2
 have hZIl : ZI.length = 16 := by rw [HZI.out]; simp
 have HZC : Hid ((Value.agg ZI.toArray).cells.size = 16) := hid (by show ZI.toArray.size = 16; simpa using hZIl)
 refine callsIn_of_wp_marks Tryz.func376 rfl trivial ?_ rfl
 simp only [Tryz.ntmps376, List.size_toArray, List.length_cons, List.length_nil, Nat.reduceAdd, Nat.reduceSub, Array.replicate_succ, Array.replicate_zero, List.push_toArray, List.append_toArray, List.nil_append, List.cons_append]
 gi_wp2
 have bO := Boxed.new w 40 (.slice none 0 0)
 have hB0 : Below w.heap.size w (w.alloc (.cells #[.slice none 0 0] 40)) := (Below.refl _ w).alloc (Nat.le_refl _) _
 refine wpIn_rangeFunc_ownH rfl h1 (gf := G) (lb := #[.pointer (some ⟨Bm, 0, none⟩)]) rfl trivial hG
  (hst _ hB0) walksK_t walksK_b (Below.refl _ _) (fun _ => rfl)
  (fun pre W => (∃ v, Boxed W w.heap.size 40 v ∧ W.ownsRow w.heap.size 25 16 v pre.length (flatL (valsS pre)) ∧ True) ∧ Below w.heap.size w W)
  (fun _ _ _ => False)
  (OwnFrom.and (Own.from (holdsRow_own w.heap.size w.heap.size 40 25 16 (fun pre => List.length pre) (fun pre => flatL (valsS pre)) (fun pre v => True)) _) (ownFrom_below (Nat.le_refl _) (by simp)))
  (fun _ _ _ _ _ hs _ _ => hs)
  ⟨⟨_, bO, World.ownsRow_nil _ _ _ _, trivial⟩, hB0⟩
  (fun x a' W => ∃ Bx, w.heap.size < Bx ∧ BlkV 25 W Bx (x.1.map (Value.int .u8)) ∧ a' = { tmps := #[.slice none 0 0, (.func (.func G) #[] #[.pointer (some ⟨Bm, 0, none⟩)]), .pointer (some ⟨w.heap.size, 0, none⟩), undef, .slice none 0 0, .pointer (some ⟨Bx, 0, none⟩), (.func (.func G) #[] #[.pointer (some ⟨Bm, 0, none⟩)]), idV x.1, undef, undef, undef, undef, undef], defers := [] }) ?hAx ?assign ?body ?done ?stop
 case hAx =>
  rintro x a' s W W' row ⟨Bx, h1, h2, h3⟩ hg hr
  exact ⟨Bx, h1, blk_own _ _ _ _ () W W' row h2 hg hr, h3⟩
 case assign =>
  rintro l pre ⟨x, hx16⟩ W K ⟨⟨v, hv, hrow, _⟩, hB⟩ hK
  obtain ⟨KS, HKS⟩ := hidE (x.map (Value.int .u8))
  have HIDK : Hid (idV x = .agg KS.toArray) := hid (by rw [HKS.out]; rfl)
  have hKl : KS.length = 16 := by rw [HKS.out, List.length_map, hx16]
  have hK1 : ∀ u ∈ KS, u.oneCell' = true := by rw [HKS.out]; exact ints_one _ _
  dsimp only at hK ⊢
  rw [← HKS.out, HIDK.out] at hK
  rw [HIDK.out]
  have hBs := hB.size
  simp only [List.zip_toArray, List.zip_cons_cons, List.zip_nil_right, List.zip_nil_left, List.size_toArray, List.length_cons, List.length_nil, List.foldl_toArray', List.foldl_toArray, List.foldl_cons, List.foldl_nil, List.setIfInBounds_toArray, List.set_cons_succ, List.set_cons_zero]
  gi_wp2_with (first
   | (refine wi_storeV rfl 25 _ _ rfl 25 W.heap.size rfl KS rfl 16 aggIDT hKl ZI hG3 hZIl hK1 ?_; intro w4 hK4 hg4 hs4; have b24 : Below W.heap.size W w4 := hb3.grown hg4 hb3.size (fun k hk => by injection hk with hk; omega); clear hg4 hs4 hs3 hb3 hG3)
   | (refine wi_allocV rfl 25 rfl ZI hzI.out W.heap.size rfl ?_; intro w3 hG3 hb3 hs3))
  refine hK _ _ ⟨b24.size, fun k o _ hk _ => (b24.block k (Array.getElem?_eq_some_iff.1 hk).1).trans hk⟩ ⟨b24.size, fun k o hk _ => (b24.block k (Array.getElem?_eq_some_iff.1 hk).1).trans hk⟩ ⟨⟨v, (b24.block _ hv.lt).trans hv, owns_up hrow b24, trivial⟩, hB.trans (b24.mono hBs)⟩ ⟨W.heap.size, hv.lt, hK4, rfl⟩
 case body =>
  rintro l pre ⟨x, hx16⟩ a' W hl ⟨r, hr⟩ ⟨⟨v, hv, hrow, _⟩, hB⟩ ⟨Bx, hBx, bX, rfl⟩ hlt
  have hc := hv.cell
  obtain ⟨KS, HKS⟩ := hidE (x.map (Value.int .u8))
  have hKl : KS.length = 16 := by rw [HKS.out, List.length_map, hx16]
  have hK1 : ∀ u ∈ KS, u.oneCell' = true := by rw [HKS.out]; exact ints_one _ _
  dsimp only at bX
  rw [← HKS.out] at bX
  have hBs := hB.size
  have HFS : Hid (flatL (valsS pre) ++ KS = flatL (valsS (pre ++ [⟨x, hx16⟩]))) := hid (by rw [valsS_snoc, flatL_snoc, HKS.out])
  obtain ⟨np, HNP⟩ := hidE pre.length
  rw [← HNP.out] at hrow hlt
  have HNP2 : Hid ((pre ++ [(⟨x, hx16⟩ : IdS)]).length = np + 1) := hid (by rw [List.length_append, HNP.out]; rfl)
  gi_wp2_with (first
   | (gi_at_builtin; refine wi_push rfl _ _ 40 rfl 25 (.agg ZI.toArray) 16 16 Tryz.underlying40 HII.out HZC.out (by decide) w.heap.size v np (flatL (valsS pre)) rfl (hrow.alloc _) ⟨W.heap.size, 0, none⟩ 1 1 rfl KS (by rw [hKl]) (at_new' _ _ _ rfl) hK1 (by unfold maxLen; omega) (by omega) (by simp; omega) (np + 1) rfl ?_; intro ao' cap' w1 hown' hgrow; obtain ⟨hv1, hv2, hr2, hk2, hb2⟩ := hv.appended (by decide) hrow hBs (Nat.le_refl _) hown' hgrow; have hc1 := hv1.cell; have hf1 := hv1.frozen; have hw2 : KeepsWalks W (w1.setCell ⟨w.heap.size, 0, none⟩ (.slice ao' (np + 1) cap')) := ⟨hk2.size, fun k o hk ho => hk2.same k o hk (by cases o <;> first | rfl | (simp [Obj.isWalk] at ho))⟩; clear hgrow hown')
   | (refine wi_slice1 rfl 40 25 _ rfl Tryz.underlying40 16 ZI HI2.out hZIl (by decide) (by decide) KS rfl hKl W.heap.size rfl ?_)
   | (refine wi_load rfl 25 _ rfl ⟨Bx, 0, none⟩ rfl KS (by rw [hKl]; exact aggIDT) bX.at0 ?_))
  exact ⟨hk2.from _, hw2, ⟨_, hv2, by rw [HNP2.out, ← HFS.out]; exact hr2, trivial⟩, hB.trans hb2⟩
 case done =>
  rintro D ys W hD hps ⟨⟨v, hv, hrow, _⟩, hB⟩ hK
  have hc := hv.cell
  obtain ⟨ao', c', rfl, _, _⟩ := Mine.row (Or.inl hrow)
  gi_wp2
  refine ⟨by simp, .inl ⟨_, _, rfl, run_takeDeferred hK, ?_⟩⟩
  have hvl : (valsS ys).length = ys.length := by unfold valsS; rw [List.length_map]
  exact ⟨_, results_tmp rfl _ _ _, ao', c', valsS ys, by rw [hvl]; rfl, by rw [hvl]; exact ownsRow_putObj hrow _ hK rfl, ⟨ys, rfl, hps⟩, hB.trans (belowK_b (w := w) (Nat.le_refl _) W D _ _ (by simp at hD; omega) hK rfl rfl)⟩
 case stop =>
  rintro D c pre W _ _ h _
  exact h.elim
theorem CollectI (G : Nat) (hG : ∀ args w, (callFunc G args).run Tryz.prog w = .ok (.enter G args) w) (Bm : Nat) (PS : List IdS → Prop) (w : World) (hBm : Bm < w.heap.size)
  (hst : ∀ w0, Below w.heap.size w w0 → SeqStopsK Fence.wide 2 Tryz.prog G #[.pointer (some ⟨Bm, 0, none⟩)] (fun x : IdS => #[idV x.1]) KeepsWalks PS (fun _ => True) 400 w0) :
  Calls Tryz.prog 283 #[.func (.func G) #[] #[.pointer (some ⟨Bm, 0, none⟩)]] w (AsI PS w) := by
 have hc := hid (callsIn_wide.1 (appendSeqI 3 (Nat.le_refl _) G hG Bm PS w hBm hst))
 clear hst
 go_enter Tryz.func283, Tryz.ntmps283
 go_wp2_with (go_at_call 376; refine hc.out.mono ?_; rintro e w1 ⟨ao, c, ks, rfl, hp⟩)
 go_ret
 exact ⟨ao, c, ks, rfl, hp⟩
theorem SortedI (G : Nat) (hG : ∀ args w, (callFunc G args).run Tryz.prog w = .ok (.enter G args) w) (Bm : Nat) (PS : List IdS → Prop) (hPS : Hid (∀ ss, PS ss → ss.length ≤ 1)) (w : World) (hBm : Bm < w.heap.size)
  (hst : ∀ w0, Below w.heap.size w w0 → SeqStopsK Fence.wide 2 Tryz.prog G #[.pointer (some ⟨Bm, 0, none⟩)] (fun x : IdS => #[idV x.1]) KeepsWalks PS (fun _ => True) 400 w0) (cm : Value) :
  Calls Tryz.prog 178 #[.func (.func G) #[] #[.pointer (some ⟨Bm, 0, none⟩)], cm] w (AsI PS w) := by
 have hco := hid (CollectI G hG Bm PS w hBm hst)
 clear hst
 go_enter Tryz.func178, Tryz.ntmps178
 go_wp2_with (first
  | (go_at_call 284; refine hsr.out.mono ?_; rintro e w3 ⟨rfl, rfl⟩)
  | (go_at_call 283; refine hco.out.mono ?_; rintro e w2 ⟨ao, c, ks, rfl, hown, ⟨ss, hss, hps⟩, hb2⟩; have hkl : ks.length ≤ 1 := (by rw [← hss]; unfold valsS; rw [List.length_map]; exact hPS.out ss hps); have hsr := hid (SortFuncI ao ks.length c cm w2 hkl); have HR := hid (⟨ao, c, ks, rfl, hown, ⟨ss, hss, hps⟩, hb2⟩ : AsI PS w (.returned (.slice ao ks.length c)) w2); clear hown hps hss hkl hb2))
 go_ret
 exact HR.out
theorem ownsRow_low {w : World} {base base' : Nat} {e : TypeId} {size n : Nat} {v : Value} {xs : List Value} (h : w.ownsRow base e size v n xs) (hb : base' ≤ base) : w.ownsRow base' e size v n xs :=
 ⟨h.1, h.2.imp id fun ⟨g, cap, cur, hv, hg, r⟩ => ⟨g, cap, cur, hv, Nat.le_trans hb hg, r⟩⟩
theorem sortedIDs_R (b : Nat) (D : Mp Value) (hone : Hid (∀ l : List lk.Id, l.Nodup → (∀ k ∈ l, (D k).isSome = true) → l.length ≤ 1)) (w : World) (hM : MapD w b D) :
  Calls Tryz.prog 98 #[.map (some b)] w (AsI (fun ss => (valsS ss).Nodup ∧ ∀ k, (D k).isSome = true ↔ k ∈ valsS ss) w) := by
 obtain ⟨N, HN⟩ := hidE w.heap.size
 have hsz : w.heap.size = N := HN.out.symm
 have hKeys : Hid (Calls Tryz.prog 179 #[.map (some b)] w fun e w' => e = .returned (.func (.func 285) #[] #[.pointer (some ⟨N, 0, none⟩)]) ∧ w'.cell? ⟨N, 0, none⟩ = some (.map (some b)) ∧ Below N w w' ∧ w'.heap.size = N + 1) := hid (by
  go_enter Tryz.func179, Tryz.ntmps179
  go_wp2
  go_ret
  exact ⟨by first | rfl | rw [hsz], by rw [← hsz]; simp, by rw [← hsz]; exact (Below.refl _ w).alloc (Nat.le_refl _) _, by simp [hsz]⟩)
 have hSorted : ∀ w1 : World, N < w1.heap.size → w1.cell? ⟨N, 0, none⟩ = some (.map (some b)) → Below N w w1 → ∀ cm, Hid (Calls Tryz.prog 178 #[.func (.func 285) #[] #[.pointer (some ⟨N, 0, none⟩)], cm] w1 (AsI (fun ss => (valsS ss).Nodup ∧ ∀ k, (D k).isSome = true ↔ k ∈ valsS ss) w1)) := fun w1 h1 h2 h3 cm => hid (by
  have hM1 := hM.below h3 (by rw [HN.out]; exact hM.lt)
  refine SortedI _ (enters_of Tryz.func285 (by kernel_rfl) rfl) N _ (hid (fun ss hs => ?_)) w1 h1 (fun w0 hb0 => keysS_R 2 (by decide) N b D (hid (fun l hl hk => Nat.le_trans (hone.out l hl hk) (by decide))) w0 (Nat.lt_of_lt_of_le h1 hb0.size) ((hb0.cell (p := ⟨N, 0, none⟩) h1).trans h2) (hM1.below hb0 hM1.lt)) cm
  have := hone.out _ hs.1 (fun k hk => (hs.2 k).2 hk)
  rwa [valsS, List.length_map] at this)
 clear hone
 go_enter Tryz.func98, Tryz.ntmps98
 go_wp2_with (first
  | (go_at_call 178; refine (hSorted w1 (by omega) hc1 hb1 _).out.mono ?_; rintro e w2 ⟨ao, c, ks, rfl, hp1, hp2, hb2⟩)
  | (go_at_call 179; refine hKeys.out.mono ?_; rintro e w1 ⟨rfl, hc1, hb1, hs1⟩))
 go_ret
 exact ⟨ao, c, ks, rfl, by rw [← HN.out]; exact ownsRow_low hp1 (by omega), hp2, by rw [← HN.out]; exact hb1.trans (hb2.mono (by omega))⟩
theorem sortedIDs_K (b : Nat) (D : Mp Value) (hone : Hid (∀ l : List lk.Id, l.Nodup → (∀ k ∈ l, (D k).isSome = true) → l.length ≤ 1)) (w : World) (hM : MapD w b D) :
  Calls Tryz.prog 132 #[.map (some b)] w (AsI (fun ss => (valsS ss).Nodup ∧ ∀ k, (D k).isSome = true ↔ k ∈ valsS ss) w) := by
 obtain ⟨N, HN⟩ := hidE w.heap.size
 have hsz : w.heap.size = N := HN.out.symm
 have hKeys : Hid (Calls Tryz.prog 221 #[.map (some b)] w fun e w' => e = .returned (.func (.func 325) #[] #[.pointer (some ⟨N, 0, none⟩)]) ∧ w'.cell? ⟨N, 0, none⟩ = some (.map (some b)) ∧ Below N w w' ∧ w'.heap.size = N + 1) := hid (by
  go_enter Tryz.func221, Tryz.ntmps221
  go_wp2
  go_ret
  exact ⟨by first | rfl | rw [hsz], by rw [← hsz]; simp, by rw [← hsz]; exact (Below.refl _ w).alloc (Nat.le_refl _) _, by simp [hsz]⟩)
 have hSorted : ∀ w1 : World, N < w1.heap.size → w1.cell? ⟨N, 0, none⟩ = some (.map (some b)) → Below N w w1 → ∀ cm, Hid (Calls Tryz.prog 178 #[.func (.func 325) #[] #[.pointer (some ⟨N, 0, none⟩)], cm] w1 (AsI (fun ss => (valsS ss).Nodup ∧ ∀ k, (D k).isSome = true ↔ k ∈ valsS ss) w1)) := fun w1 h1 h2 h3 cm => hid (by
  have hM1 := hM.below h3 (by rw [HN.out]; exact hM.lt)
  refine SortedI _ (enters_of Tryz.func325 (by kernel_rfl) rfl) N _ (hid (fun ss hs => ?_)) w1 h1 (fun w0 hb0 => keysS_K 2 (by decide) N b D (hid (fun l hl hk => Nat.le_trans (hone.out l hl hk) (by decide))) w0 (Nat.lt_of_lt_of_le h1 hb0.size) ((hb0.cell (p := ⟨N, 0, none⟩) h1).trans h2) (hM1.below hb0 hM1.lt)) cm
  have := hone.out _ hs.1 (fun k hk => (hs.2 k).2 hk)
  rwa [valsS, List.length_map] at this)
 clear hone
 go_enter Tryz.func132, Tryz.ntmps132
 go_wp2_with (first
  | (go_at_call 178; refine (hSorted w1 (by omega) hc1 hb1 _).out.mono ?_; rintro e w2 ⟨ao, c, ks, rfl, hp1, hp2, hb2⟩)
  | (go_at_call 221; refine hKeys.out.mono ?_; rintro e w1 ⟨rfl, hc1, hb1, hs1⟩))
 go_ret
 exact ⟨ao, c, ks, rfl, by rw [← HN.out]; exact ownsRow_low hp1 (by omega), hp2, by rw [← HN.out]; exact hb1.trans (hb2.mono (by omega))⟩
end Go.Proofs.YtdhipjoplkpgmaaGreatDoor.hf
namespace Go.Proofs.YtdhipjoplkpgmaaGreatDoor.hf
open Go.RowKit st hs wr shr sh lk
theorem rowV_of {w : World} {ao : Option Addr} {rs : List ByteArray} (h : RowS w ao rs) : RowV w ao (strV rs) := by
 rcases h with h | ⟨b, off, h1, h2, h3⟩
 ·exact Or.inl (by rw [h]; rfl)
 ·refine Or.inr ⟨b, off, h1, h2, fun j u hu => ?_⟩
  unfold strV at hu
  rw [List.getElem?_map] at hu
  obtain ⟨s, hs, rfl⟩ := Option.map_eq_some_iff.1 hu
  obtain ⟨hj, e⟩ := List.getElem?_eq_some_iff.1 hs
  rw [h3 j hj, roleAt_get rs hj, e]
theorem strV_one (rs : List ByteArray) : ∀ u ∈ strV rs, u.oneCell' = true := fun u hu => by
 obtain ⟨s, _, rfl⟩ := List.mem_map.1 hu
 rfl
theorem mine_no {w : World} {base n c size : Nat} {e : TypeId} {ao : Option Addr} {xs : List Value} (h : Mine w base e size (.slice ao n c) n xs) : ao = none → c = 0 := by
 intro e0
 subst e0
 rcases h with h | ⟨_, _, a, hv⟩
 ·rcases h.2 with ⟨h, _⟩ | ⟨g, cap, cur, hv, _⟩
  ·injection h
  ·cases hv
 ·injection hv
theorem CloneR (ao : Option Addr) (n c : Nat) (rs : List ByteArray) (w : World) (hn : n = rs.length) (hr : RowS w ao rs) (hm : n ≤ 1000) :
  Calls Tryz.prog 73 #[.slice ao n c] w fun e w' => ∃ a' c', e = .returned (.slice a' n c') ∧ RowS w' a' rs ∧ (a' = none → c' = 0) ∧ Below w.heap.size w w' := by
 have hq := fun w => Lib.run_eql_slice_nil (P := Tryz.prog) w 26 9 ao n c 0 0 Tryz.underlying26
 cases ao with
 | none =>
  have e : rs = [] := by
   rcases hr with h | ⟨b, off, h1, _⟩
   ·exact h
   ·cases h1
  subst e
  obtain rfl : n = 0 := hn
  clear hr hm
  go_enter Tryz.func73, Tryz.ntmps73
  go_wp2
  go_ret
  exact ⟨none, 0, rfl, Or.inl rfl, fun _ => rfl, Below.refl _ _⟩
 | some a =>
  have hrv := rowV_of hr
  have hl : (strV rs).length = n * 1 := by unfold strV; rw [List.length_map]; omega
  have HN := hid hn
  have h1 := strV_one rs
  obtain ⟨SV, HSV⟩ := hidE (strV rs)
  rw [← HSV.out] at hrv hl h1
  clear hr hn
  go_enter Tryz.func73, Tryz.ntmps73
  go_wp2_with (at_builtin; refine wl_append rfl _ _ 26 rfl 9 (.string ⟨#[]⟩) 1 16 Tryz.underlying26 infoStr rfl (by decide) w.heap.size _ 0 [] rfl (Or.inr ⟨rfl, rfl, _, rfl⟩) (some a) n c rfl (fun h => by cases h) SV hl (hrv.alloc _) h1 (by unfold maxLen; omega) (by omega) (by simp) ?_; intro v w1 row hM hg hrow)
  go_ret
  rw [Nat.zero_add, List.nil_append, HSV.out] at hM
  rw [HN.out] at hM
  obtain ⟨a', c', rfl, hR⟩ := rowS_of hM
  exact ⟨a', c', by rw [HN.out]; rfl, hR, mine_no hM, slInt.bel2 ((Below.refl _ _).alloc (Nat.le_refl _) _) hg fun k hk => (hrow k hk).1⟩
def memC (fv : List Value) (ro : Value) : List Value := fv ++ [ro]
theorem builtMem {F : List Value} (hF : F.length = 16) (a : Option Addr) (n c : Nat) : Tryz.prog.built 120 [(0, .agg F.toArray), (1, .slice a n c)] = some (memC F (.slice a n c)).toArray := by
 obtain ⟨a0, a1, a2, a3, a4, a5, a6, a7, a8, a9, a10, a11, a12, a13, a14, a15, rfl⟩ := list16 hF
 kernel_rfl
def memZ : List Value := memC zID (.slice none 0 0)
theorem infoMem : Info Tryz.prog 120 (.agg memZ.toArray) 17 40 := by unfold Info; kernel_rfl
theorem infoMem2 : (Tryz.prog.info? 120).map (fun i => (i.zero, i.size)) = some (some (.agg memZ.toArray), 17) := by kernel_rfl
theorem one_key {f : List Int} {ro : Value} (l : List lk.Id) (hn : l.Nodup) (h : ∀ k ∈ l, (upd (fun _ => none) f ro k).isSome = true) : l.length ≤ 1 := by
 have h2 : ∀ k ∈ l, k = f := fun k hk => by
  have := h k hk
  unfold upd at this
  by_cases e : k = f
  ·exact e
  ·simp [e] at this
 match l, hn, h2 with
 | [], _, _ => decide
 | [_], _, _ => exact Nat.le_refl 1
 | a :: b :: l, hn, h2 =>
  have ha := h2 a (by simp)
  have hb := h2 b (by simp)
  simp [ha, hb] at hn
theorem keys_are {f : List Int} {ro : Value} {ks : List lk.Id} (hn : ks.Nodup) (h : ∀ k, (upd (fun _ => none) f ro k).isSome = true ↔ k ∈ ks) : ks = [f] := by
 have h1 := one_key ks hn (fun k hk => (h k).2 hk)
 have h2 : f ∈ ks := (h f).1 (by unfold upd; simp)
 match ks, h1, h2 with
 | [a], _, h2 => rw [List.mem_singleton.1 h2]
def MemPost (f : List Int) (rs : List ByteArray) (w : World) (e : Ending) (w' : World) : Prop := ∃ M c a' c', e = .returned (.slice (some ⟨M, 0, none⟩) 1 c) ∧ RowV w' (some ⟨M, 0, none⟩) (memC (f.map (Value.int .u8)) (.slice a' rs.length c')) ∧ RowS w' a' rs ∧ (a' = none → c' = 0) ∧ Below w.heap.size w w'
theorem Members_ok (g mm mk mv : Nat) (cnt t : Int) (lv : List Value) (hlv : lv.length = 32) (f : List Int) (hf : f.length = 16) (ra : Option Addr) (rc : Nat) (rs : List ByteArray) (hrs : rs.length ≤ 16) (w : World) (hS : StAfter w g mm mk mv cnt t lv (f.map (Value.int .u8)) f (.slice ra rs.length rc)) (hR : RowS w ra rs) :
  Calls Tryz.prog 40 #[.pointer (some ⟨g, 0, none⟩)] w (MemPost f rs w) := by
 have hFl : (f.map (Value.int .u8)).length = 16 := by rw [List.length_map, hf]
 obtain ⟨B, hsz⟩ := szE w
 have hgw := hS.blk.lt
 have hmw := hS.mem.lt
 have s52 := (st_cells hlv hFl hS.blk).2.2.2.2.1
 have hids := hid (sortedIDs_R mm _ (hid (fun l h1 h2 => one_key l h1 h2)) w hS.mem)
 have hcl := fun (w' : World) (hb : Below B w w') => hid (CloneR ra rs.length rc rs w' rfl (hR.below (by rw [hsz]; exact hb)) (by omega))
 have HP : Hid (∀ M c a' c' w', RowV w' (some ⟨M, 0, none⟩) (memC (f.map (Value.int .u8)) (.slice a' rs.length c')) → RowS w' a' rs → (a' = none → c' = 0) → Below B w w' → MemPost f rs w (.returned (.slice (some ⟨M, 0, none⟩) 1 c)) w') := hid (fun M c a' c' w' h1 h2 h4 h3 => ⟨M, c, a', c', rfl, h1, h2, h4, by rw [hsz]; exact h3⟩)
 obtain ⟨Q, HQ⟩ := hidE (MemPost f rs w)
 rw [← HQ.out] at HP ⊢
 have hSm := fun (w' : World) (hb : Below B w w') => hid (show MapD w' mm (upd (fun _ => none) f (Value.slice ra rs.length rc)) ∧ w'.cell? ⟨g, 52, none⟩ = some (.map (some mm)) from ⟨hS.mem.below hb (by omega), (hb.cell (p := ⟨g, 52, none⟩) (by show g < B; omega)).trans s52⟩)
 obtain ⟨F, HF⟩ := hidE (f.map (Value.int .u8))
 have hF1 : ∀ u ∈ F, u.oneCell' = true := by rw [HF.out]; exact ints_one _ _
 have HFI : Hid (Value.agg F.toArray = idV f) := hid (by rw [HF.out]; rfl)
 rw [← HF.out] at HP hFl
 have hbm := fun a n c => hid (builtMem hFl a n c)
 have hzid := hid zeroIDT
 obtain ⟨ZI, HZI⟩ := hidE zID
 have hZIl : ZI.length = 16 := by rw [HZI.out]; rfl
 rw [← HZI.out] at hzid
 have hiF : (Tryz.prog.info? 25).map (·.size) = some F.length := by rw [hFl]; exact aggIDT.2
 have hmz : memZ.length = 17 := rfl
 have hin1 := hid infoMem
 have hin2 := hid infoMem2
 obtain ⟨MZ, HMZ⟩ := hidE memZ
 rw [← HMZ.out] at hmz hin1 hin2
 have HUP : Hid (upd (fun _ => none) f (Value.slice ra rs.length rc) f = some (Value.slice ra rs.length rc)) := hid (by unfold upd; simp)
 obtain ⟨D, HD⟩ : ∃ D, Hid (D = upd (fun _ => none) f (Value.slice ra rs.length rc)) := ⟨_, hid rfl⟩
 rw [← HD.out] at hSm HUP
 obtain ⟨m, Hm⟩ := hidE rs.length
 rw [← Hm.out] at hcl HP HUP
 have HE : ∀ (ao : Option Addr) (c : Nat) (ks : List lk.Id) (w' : World), w'.ownsRow B 25 16 (.slice ao ks.length c) ks.length (flatL ks) → ks = [f] → Hid (∃ G, ao = some ⟨G, 0, none⟩ ∧ B ≤ G ∧ ks.length = 1 ∧ G < w'.heap.size ∧ At w' ⟨G, 0, none⟩ F) := fun ao c ks w' h1 h2 => hid (by
  subst h2
  rcases h1.2 with ⟨_, h⟩ | ⟨G, cap, cur, hv, hG, hblk, _, _, _, ht⟩
  ·cases h
  ·injection hv with hv
   refine ⟨G, hv, hG, rfl, (Array.getElem?_eq_some_iff.1 hblk).1, fun j u hu => ?_⟩
   have hfl : flatL [f] = F := by rw [HF.out]; simp [flatL]
   have ht' : cur.toList.take (1 * 16) = flatL [f] := ht
   rw [hfl] at ht'
   have h5 : (cur.toList.take (1 * 16))[j]? = some u := by rw [ht']; exact hu
   have hj : j < 16 := by have := (List.getElem?_eq_some_iff.1 hu).1; omega
   rw [List.getElem?_take, if_pos (by omega)] at h5
   rw [addr_add, Nat.zero_add]
   simp only [World.cell?, hblk]
   simpa using h5)
 clear hS hR s52
 go_enter Tryz.func40, Tryz.ntmps40
 have s52 := (hSm w (Below.refl _ _)).out.2
 go_wp2_with (first | (go_at_call 98; refine hids.out.mono ?_; rintro e w1 ⟨ao, c, ks, rfl, hown, ⟨ss, hss, hnd, hall⟩, hb1⟩; rw [hss] at hnd hall; have HKS : Hid (ks = [f]) := hid (keys_are hnd hall); obtain ⟨G, rfl, hBG, hk1, hGl, hAtG⟩ := (HE ao c ks w1 (by rw [← hsz]; exact hown) HKS.out).out; have hb1' : Below B w w1 := (by rw [← hsz]; exact hb1); clear hss hnd hall hown hb1; rw [hk1]))
 clear hids HE hgw hmw
 try simp only [Act.put, fpA, fpZ, fpN]
 go_loopw [3, 12] (fun o i wr => (i = .int .i64 0 ∧ o = .slice none 0 0 ∧ wr = w1) ∨ (i = .int .i64 1 ∧ ∃ M c a' c', o = .slice (some ⟨M, 0, none⟩) 1 c ∧ RowV wr (some ⟨M, 0, none⟩) (memC F (.slice a' m c')) ∧ RowS wr a' rs ∧ (a' = none → c' = 0) ∧ Below B w wr)) (fun _ i _ => 2 - (intOf i).toNat)
 case atStart => exact Or.inl ⟨rfl, rfl, rfl⟩
 case round =>
  rcases hrel with ⟨rfl, rfl, rfl⟩ | ⟨rfl, M, c', a2, c2, rfl, hV, hRS, hno2, hb⟩
  ·go_wp2_with (first
    | (refine wl_storeV rfl 25 _ _ rfl 25 I rfl F rfl 16 aggIDT hFl ZI hI2 hZIl hF1 ?_; intro w3 hI3 hb3 hs3; have bb3 : Below B w w3 := bb2.trans (hb3.mono (by omega)))
    | (obtain ⟨I, HI⟩ := hidE wr.heap.size; have hBI : B ≤ I := (by rw [HI.out]; omega); refine wl_allocV rfl 25 rfl ZI hzid.out I HI.out.symm ?_; intro w2 hI2 hb2 hs2; have bb2 : Below B w w2 := hb1'.trans (hb2.mono (by omega)))
    | (refine wl_loadG (by rfl) 25 _ rfl ⟨G, 0, none⟩ rfl 16 F hFl aggIDT hAtG ?_))
   have hSS : ∀ w', Below B w w' → BlkV 25 w' I F → (fun w' => w'.rangeAt I 0 F ∧ w'.cell? ⟨g, 52, none⟩ = some (.map (some mm)) ∧ MapD w' mm D) w' := fun w' h1 h2 => ⟨at_range h2.at0, (hSm w' h1).out.2, (hSm w' h1).out.1⟩
   refine wp_region_held_drew (S := fun w' => w'.rangeAt I 0 F ∧ w'.cell? ⟨g, 52, none⟩ = some (.map (some mm)) ∧ MapD w' mm D) (by kernel_rfl) (hSS _ bb3.drew hI3) (fun hHeld => ?_)
   obtain ⟨x, HX⟩ := hidE w3.drew
   rw [← HX.out] at hHeld ⊢
   have hIx : BlkV 25 x I F := by rw [HX.out]; exact hI3
   have bx : Below B w x := by rw [HX.out]; exact bb3.drew
   have hsx : B ≤ x.heap.size := by have := hIx.lt; omega
   clear hI2 hI3 hb2 hb3 bb2 bb3 hAtG hs2 hs3
   refine tq 0 rfl ?_
   refine tk 1 rfl (yieldsIf_load_mid (by rfl) 25 _ rfl I 0 rfl F _ (fun w hS => hS.1) Tryz.underlying25 rfl hiF) ?_
   refine tq 2 rfl ?_
   refine tq 3 rfl ?_
   refine tq 4 rfl ?_
   refine tq 5 rfl ?_
   refine tk 6 rfl (yieldsIf_load_mid (by rfl) 25 _ rfl I 0 rfl F _ (fun w hS => hS.1) Tryz.underlying25 rfl hiF) ?_
   refine tk 7 rfl (yieldsIf_lookD (by rfl) _ 26 _ _ false rfl (by kernel_rfl) (.slice none 0 0) zeroRoles mm D (fun w hS => hS.2.2) f hf (.agg F.toArray) HFI.out rfl rfl (.slice ra m rc) (by rw [HUP.out]; rfl)) ?_
   refine e1 8 rfl fun K' hK' => ?_
   rw [if_pos (by rfl)]
   go_simp
   go_at_call 73
   refine (hcl x bx).out.mono ?_
   rintro e x1 ⟨a1, c1, rfl, hR1, hno1, hb1⟩
   have hIx1 := hIx.below hb1 hIx.lt
   have bx1 : Below B w x1 := bx.trans (hb1.mono hsx)
   have hsx1 : B ≤ x1.heap.size := by have := hb1.size; omega
   refine hK'.out _ _ (hSS _ bx1 hIx1) (fun hHeld => ?_)
   clear hK' K' hb1 hIx bx
   try simp only [Act.put, sArr, sZ, sS]
   refine tk 9 rfl (yieldsIf_build (by rfl) 120 _ rfl [(0, .agg F.toArray), (1, .slice a1 m c1)] rfl (memC F (.slice a1 m c1)) (hbm a1 m c1).out) ?_
   have hml : (memC F (.slice a1 m c1)).length = 17 := by unfold memC; rw [List.length_append, hFl]; rfl
   have hm1 : ∀ u ∈ memC F (.slice a1 m c1), u.oneCell' = true := fun u hu => by
    unfold memC at hu
    rcases List.mem_append.1 hu with h | h
    ·exact hF1 u h
    ·rw [List.mem_singleton.1 h]; rfl
   obtain ⟨MC, HMC⟩ := hidE (memC F (Value.slice a1 m c1))
   rw [← HMC.out] at hml hm1 ⊢
   refine e1 10 rfl fun K' hK' => ?_
   obtain ⟨A, HA⟩ := hidE x1.heap.size
   have hIA : I < A := by rw [HA.out]; exact hIx1.lt
   refine step_slice1 rfl 49 120 _ rfl Tryz.underlying49 17 MZ hin2.out hmz (by decide) (by decide) MC rfl hml A HA.out.symm ?_
   intro x2 hA2 hb2 hs2
   have hIx2 := hIx1.below hb2 hIA
   have bx2 : Below B w x2 := bx1.trans (hb2.mono (by omega))
   have hR2 := hR1.below (by rw [← HA.out]; exact hb2)
   refine hK'.out _ _ (hSS _ bx2 hIx2) (fun hHeld => ?_)
   clear hK' K' hIx1 bx1 hR1
   try simp only [Act.put, sArr, sZ, sS]
   refine e1 11 rfl fun K' hK' => ?_
   obtain ⟨BB, HBB⟩ := hidE x2.heap.size
   refine step_appendS rfl _ _ 49 rfl 120 (.agg MZ.toArray) 17 40 Tryz.underlying49 hin1.out (by show MZ.toArray.size = 17; simpa using hmz) (by decide) BB _ 0 [] rfl (Mine.nil _ _ _ _) (some ⟨A, 0, none⟩) 1 1 rfl (fun h => by cases h) MC (by rw [hml]) (at_row hA2.lt hA2.at0) hm1 (by unfold maxLen; omega) (by omega) (Nat.le_of_eq HBB.out) 1 rfl ?_
   intro ao3 c3 x3 row3 hc3 hM3 hV3 hg3 hr3
   have hb3 : Below BB x2 x3 := (Below.refl _ _).grown hg3 (Nat.le_of_eq HBB.out) (fun k hk => (hr3 k hk).1)
   have hIB : I < BB := by rw [HBB.out]; exact hIx2.lt
   have hIx3 := hIx2.below hb3 hIB
   have bx3 : Below B w x3 := bx2.trans (hb3.mono (by omega))
   have hR3 := hR2.below (by rw [← HBB.out]; exact hb3)
   rw [List.nil_append] at hV3
   obtain ⟨M, HMM⟩ : ∃ M, Hid (ao3 = some ⟨M, 0, none⟩) := by
    rcases (mine_own hM3 (by decide)).2 with ⟨_, h⟩ | ⟨g1, cap1, cur1, hv1, _⟩
    ·cases h
    ·injection hv1 with hv1
     exact ⟨g1, hid hv1⟩
   have hao := HMM.out
   subst hao
   refine hK'.out _ _ (hSS _ bx3 hIx3) (fun hHeld => ?_)
   clear hK' K' hM3 hIx2 bx2 hR2
   try simp only [Act.put, sArr, sZ, sS]
   refine tq 12 rfl ?_
   refine wpAnyH_done (by kernel_rfl) ?_ _
   clear hHeld
   go_wp2_with fail
   go_roundw
   case rel => exact Or.inr ⟨rfl, M, c3, a1, c1, rfl, by rw [← HMC.out]; exact hV3, hR3, hno1, bx3⟩
   case measure => exact (by decide : (2 - ((1 : Int)).toNat) < 2 - ((0 : Int)).toNat)
  ·go_wp2
   exact HP.out M c' a2 c2 _ hV hRS hno2 hb
end Go.Proofs.YtdhipjoplkpgmaaGreatDoor.hf
namespace Go.Proofs.YtdhipjoplkpgmaaGreatDoor.hf
open Go.RowKit st hs wr shr sh lk
theorem Octets_ok (h g L ms : Nat) (R : List Value) (hR : R.length = 32) (B : Nat) (t : Int) (E S : List Int) (hE0 : 0 < E.length) (hEl : E.length ≤ 1000) (w : World) (hH : BlkV 81 w h (houC R g L ms)) (hL : LedOk w L B t E S) :
  Calls Tryz.prog 17 #[.pointer (some ⟨h, 0, none⟩)] w fun e w' => ∃ a c, e = .returned (.slice a E.length c) ∧ Pt.Ok w' ⟨a, c, E⟩ ∧ Below w.heap.size w w' := by
 obtain ⟨oa, oc, ea, ec, la, lc, hB, hP, hno, _⟩ := hL.rows
 have h33 := (hou_cells hR hH).2.1
 have hl0 := (hB.cell 0).trans (rfl : _ = some (Value.slice oa E.length oc))
 have hrv : RowV w oa (E.map (Value.int .u8)) := by
  rcases hP.row with q | ⟨b, off, h1, h2, h3⟩
  ·exact absurd q (by intro q; rw [show E = [] from q] at hE0; exact absurd hE0 (by decide))
  ·refine Or.inr ⟨b, off, h1, h2, fun j u hu => ?_⟩
   rw [List.getElem?_map] at hu
   obtain ⟨c, hc, rfl⟩ := Option.map_eq_some_iff.1 hu
   obtain ⟨hj, e⟩ := List.getElem?_eq_some_iff.1 hc
   rw [h3 j hj, getD_lt' E _ hj, e]
 have hoc := hP.oct
 have hcl := hid (cloneB oa E.length oc (E.map (Value.int .u8)) w hrv (by simp) (ints_one _ _) (fun e => by
  subst e
  rcases hrv with q | ⟨b, off, h1, _⟩
  ·rw [List.map_eq_nil_iff] at q; rw [q] at hE0; exact absurd hE0 (by decide)
  ·cases h1) (by omega))
 have HOC := hid hoc
 obtain ⟨n, Hn⟩ := hidE E.length
 rw [← Hn.out] at hcl hl0 hE0 ⊢
 have hO : Hid (Calls Tryz.prog 50 #[.pointer (some ⟨L, 0, none⟩)] w (fun e w' => ∃ a c, e = .returned (.slice a n c) ∧ Pt.Ok w' ⟨a, c, E⟩ ∧ Below w.heap.size w w')) := hid (by
  clear hrv hP hno hB
  go_enter Tryz.func50, Tryz.ntmps50
  go_wp2_with (first | (go_at_call 44; refine hcl.out.mono ?_; rintro e w1 ⟨v, rfl, hM, hb⟩))
  go_ret
  obtain ⟨a, c, rfl, _, _⟩ := hM.row
  exact ⟨a, c, rfl, (mine_pt hM Hn.out hE0 HOC.out).1, hb⟩)
 clear hrv hP hno hB hcl hl0 hoc
 go_enter Tryz.func17, Tryz.ntmps17
 go_wp2_with (first | (go_at_call 50; refine hO.out.mono ?_; rintro e w1 ⟨a, c, rfl, hp⟩))
 go_ret
 exact ⟨a, c, rfl, hp⟩
theorem Time_ok (h g mm mk mv L ms : Nat) (R : List Value) (hR : R.length = 32) (cnt t : Int) (lv fv : List Value) (hlv : lv.length = 32) (hfv : fv.length = 16) (w : World) (hH : BlkV 81 w h (houC R g L ms)) (hS : BlkV 160 w g (stC cnt t lv fv mm mk mv)) :
  Calls Tryz.prog 21 #[.pointer (some ⟨h, 0, none⟩)] w fun e w' => e = .returned (.int .i64 t) ∧ w = w' := by
 have h32 := (hou_cells hR hH).1
 have s1 := (st_cells hlv hfv hS).2.1
 have hT : Hid (Calls Tryz.prog 55 #[.pointer (some ⟨g, 0, none⟩)] w (fun e w' => e = .returned (.int .i64 t) ∧ w = w')) := hid (by
  go_enter Tryz.func55, Tryz.ntmps55
  go_wp2
  go_ret
  exact ⟨rfl, rfl⟩)
 go_enter Tryz.func21, Tryz.ntmps21
 go_wp2_with (first | (go_at_call 55; refine hT.out.mono ?_; rintro e w1 ⟨rfl, rfl⟩))
 go_ret
 exact ⟨rfl, rfl⟩
theorem KeysS_ok (g mm mk mv : Nat) (cnt t : Int) (lv fv : List Value) (hlv : lv.length = 32) (hfv : fv.length = 16) (w : World) (hS : BlkV 160 w g (stC cnt t lv fv mm mk mv)) (hK : MapD w mk (fun _ => none)) :
  Calls Tryz.prog 67 #[.pointer (some ⟨g, 0, none⟩)] w fun e w' => e = .returned (.slice none 0 0) ∧ Below w.heap.size w w' := by
 have s53 := (st_cells hlv hfv hS).2.2.2.2.2.1
 have hids := hid (sortedIDs_K mk _ (hid (fun l h1 h2 => by
  match l, h2 with
  | [], _ => exact Nat.zero_le _
  | a :: l, h2 => exact absurd (h2 a (List.mem_cons_self ..)) (by simp))) w hK)
 go_enter Tryz.func67, Tryz.ntmps67
 go_wp2_with (first | (go_at_call 132; refine hids.out.mono ?_; rintro e w1 ⟨ao, c, ks, rfl, hown, ⟨ss, hss, hnd, hall⟩, hb1⟩; rw [hss] at hall; have hk0 : ks.length = 0 := (by match ks, hall with | [], _ => rfl | a :: l, hall => exact absurd ((hall a).2 (List.mem_cons_self ..)) (by simp)); rw [hk0]))
 clear hids hK hS
 go_loopw [3, 12] (fun o i wr => i = .int .i64 0 ∧ o = .slice none 0 0 ∧ wr = w1) (fun _ _ _ => 0)
 case atStart => exact ⟨rfl, rfl, rfl⟩
 case round =>
  obtain ⟨rfl, rfl, rfl⟩ := hrel
  go_wp2
  go_ret
  exact ⟨rfl, hb1⟩
theorem Keys_ok (h g mm mk mv L ms : Nat) (R : List Value) (hR : R.length = 32) (cnt t : Int) (lv fv : List Value) (hlv : lv.length = 32) (hfv : fv.length = 16) (w : World) (hH : BlkV 81 w h (houC R g L ms)) (hS : BlkV 160 w g (stC cnt t lv fv mm mk mv)) (hK : MapD w mk (fun _ => none)) :
  Calls Tryz.prog 26 #[.pointer (some ⟨h, 0, none⟩)] w fun e w' => e = .returned (.slice none 0 0) ∧ Below w.heap.size w w' := by
 have h32 := (hou_cells hR hH).1
 have hk := hid (KeysS_ok g mm mk mv cnt t lv fv hlv hfv w hS hK)
 clear hS hK
 go_enter Tryz.func26, Tryz.ntmps26
 go_wp2_with (first | (go_at_call 67; refine hk.out.mono ?_; rintro e w1 ⟨rfl, hb1⟩))
 go_ret
 exact ⟨rfl, hb1⟩
theorem Held_ok (h g mm mk mv L ms : Nat) (R : List Value) (hR : R.length = 32) (cnt t : Int) (lv fv : List Value) (hlv : lv.length = 32) (hfv : fv.length = 16) (w : World) (hH : BlkV 81 w h (houC R g L ms)) (hS : BlkV 160 w g (stC cnt t lv fv mm mk mv)) (hK : MapD w mk (fun _ => none)) :
  Calls Tryz.prog 31 #[.pointer (some ⟨h, 0, none⟩)] w fun e w' => e = .returned (.slice none 0 0) ∧ Below w.heap.size w w' := by
 have h32 := (hou_cells hR hH).1
 have hk := hid (KeysS_ok g mm mk mv cnt t lv fv hlv hfv w hS hK)
 clear hS hK
 go_enter Tryz.func31, Tryz.ntmps31
 go_wp2_with (first | (go_at_call 67; refine hk.out.mono ?_; rintro e w1 ⟨rfl, hb1⟩))
 clear hk
 go_loopw [3, 15] (fun o i wr => i = .int .i64 0 ∧ o = .slice none 0 0 ∧ wr = w1) (fun _ _ _ => 0)
 case atStart => exact ⟨rfl, rfl, rfl⟩
 case round =>
  obtain ⟨rfl, rfl, rfl⟩ := hrel
  go_wp2
  go_ret
  exact ⟨rfl, hb1⟩
theorem HMembers_ok (h g mm mk mv L ms : Nat) (R : List Value) (hR : R.length = 32) (cnt t : Int) (lv : List Value) (hlv : lv.length = 32) (f : List Int) (hf : f.length = 16) (ra : Option Addr) (rc : Nat) (rs : List ByteArray) (hrs : rs.length ≤ 16) (w : World) (hH : BlkV 81 w h (houC R g L ms)) (hS : StAfter w g mm mk mv cnt t lv (f.map (Value.int .u8)) f (.slice ra rs.length rc)) (hRS : RowS w ra rs) :
  Calls Tryz.prog 12 #[.pointer (some ⟨h, 0, none⟩)] w (MemPost f rs w) := by
 have h32 := (hou_cells hR hH).1
 have hk := hid (Members_ok g mm mk mv cnt t lv hlv f hf ra rc rs hrs w hS hRS)
 obtain ⟨Q, HQ⟩ := hidE (MemPost f rs w)
 have HP : Hid (∀ e w', MemPost f rs w e w' → (∃ v, e = .returned v) ∧ Q e w') := hid (fun e w' hp => ⟨by obtain ⟨M, c, a', c', rfl, _⟩ := hp; exact ⟨_, rfl⟩, by rw [HQ.out]; exact hp⟩)
 rw [← HQ.out]
 clear hS hRS
 go_enter Tryz.func12, Tryz.ntmps12
 go_wp2_with (first | (go_at_call 40; refine hk.out.mono ?_; intro e w1 hp; obtain ⟨⟨v, rfl⟩, hq⟩ := HP.out e w1 hp; clear hp))
 (try simp only [Exit.inBlock, Exit.then])
 exact hq
def hdC (n t : Int) (lv rv : List Value) : List Value := .int .i64 n :: .int .i64 t :: (lv ++ rv)
theorem hdC_len {n t : Int} {lv rv : List Value} (h1 : lv.length = 32) (h2 : rv.length = 32) : (hdC n t lv rv).length = 66 := by simp [hdC, h1, h2]
theorem hdC_one {n t : Int} {lv rv : List Value} (h1 : ∀ u ∈ lv, u.oneCell' = true) (h2 : ∀ u ∈ rv, u.oneCell' = true) : ∀ u ∈ hdC n t lv rv, u.oneCell' = true := by
 intro u hu
 unfold hdC at hu
 rcases List.mem_cons.1 hu with rfl | hu
 ·rfl
 rcases List.mem_cons.1 hu with rfl | hu
 ·rfl
 rcases List.mem_append.1 hu with h | h
 ·exact h1 u h
 ·exact h2 u h
theorem aggHead : Agg Tryz.prog 52 66 := .str Tryz.underlying52 (by kernel_rfl)
def hdZ : List Value := hdC 0 0 zSum zSum
theorem zeroHead : (Tryz.prog.info? 52).map (·.zero) = some (some (.agg hdZ.toArray)) := by kernel_rfl
theorem builtHead {S Rv : List Value} (h1 : S.length = 32) (h2 : Rv.length = 32) (n t : Int) : Tryz.prog.built 52 [(0, .int .i64 n), (1, .int .i64 t), (2, .agg S.toArray), (3, .agg Rv.toArray)] = some (hdC n t S Rv).toArray := by
 obtain ⟨c0, c1, c2, c3, c4, c5, c6, c7, c8, c9, c10, c11, c12, c13, c14, c15, b0, b1, b2, b3, b4, b5, b6, b7, b8, b9, b10, b11, b12, b13, b14, b15, rfl⟩ := list32 h1
 obtain ⟨d0, d1, d2, d3, d4, d5, d6, d7, d8, d9, d10, d11, d12, d13, d14, d15, e0, e1, e2, e3, e4, e5, e6, e7, e8, e9, e10, e11, e12, e13, e14, e15, rfl⟩ := list32 h2
 kernel_rfl
theorem Root_one (b off c : Nat) (Rv : List Value) (hRv : Rv.length = 32) (h1 : ∀ u ∈ Rv, u.oneCell' = true) (w : World) (hb : b < w.heap.size) (hAt : At w ⟨b, off, none⟩ Rv) :
  Calls Tryz.prog 111 #[.slice (some ⟨b, off, none⟩) 1 c] w fun e w' => e = .returned (.tuple #[.agg Rv.toArray, .int .i64 0]) ∧ Below w.heap.size w w' := by
 have hlf := fun (w : World) => hid (show Calls Tryz.prog 189 #[.slice (some ⟨b, off, none⟩) 1 c] w (fun e w' => e = .returned (.int .i64 0) ∧ w = w') by
  go_enter Tryz.func189, Tryz.ntmps189
  go_wp2
  go_ret
  exact ⟨rfl, rfl⟩)
 obtain ⟨Z, HZ⟩ := hidE zSum
 have hz := hid zeroSumZ
 have hZl : Z.length = 32 := by rw [HZ.out]; rfl
 rw [← HZ.out] at hz
 have hro := fun (w : World) (hb : b < w.heap.size) (hAt : At w ⟨b, off, none⟩ Rv) => hid (show Calls Tryz.prog 190 #[.slice (some ⟨b, off, none⟩) 1 c] w (fun e w' => e = .returned (.agg Rv.toArray) ∧ Below w.heap.size w w') by
  obtain ⟨B, HB⟩ := hidE w.heap.size
  have hsz : w.heap.size = B := HB.out.symm
  rw [hsz]
  have hAb := fun (w' : World) (hb' : Below B w w') => hid (show At w' ⟨b, off, none⟩ Rv from fun j u hu => ((hb'.cell (p := (⟨b, off, none⟩ : Addr).add j) (by rw [addr_add]; show b < B; omega)).trans (hAt j u hu)))
  clear hAt
  go_enter Tryz.func190, Tryz.ntmps190
  go_wp2_with (first
   | (refine wl_storeV rfl 39 _ _ rfl 39 B rfl Rv rfl 32 aggSumT hRv Z hT1 hZl h1 ?_; intro w2 hT2 hb2 hs2)
   | (refine wl_loadG (by rfl) 39 _ rfl ⟨b, off, none⟩ rfl 32 Rv hRv aggSumT (hAb w1 hb1).out ?_)
   | (refine wl_allocV rfl 39 rfl Z hz.out B hsz ?_; intro w1 hT1 hb1 hs1))
  (try simp only [Exit.inBlock, Exit.then]); refine bodyPost_ret (results_cell rfl _ _ _ _ rfl Rv (by rw [hRv]; exact aggSumT) hT2.at0) rfl ?_
  exact ⟨rfl, hb1.trans hb2⟩)
 obtain ⟨B, HB⟩ := hidE w.heap.size
 have hsz : w.heap.size = B := HB.out.symm
 rw [hsz] at hb ⊢
 have hAb := fun (w' : World) (hb' : Below B w w') => hid (show At w' ⟨b, off, none⟩ Rv from fun j u hu => ((hb'.cell (p := (⟨b, off, none⟩ : Addr).add j) (by rw [addr_add]; show b < B; omega)).trans (hAt j u hu)))
 clear hAt
 go_enter Tryz.func111, Tryz.ntmps111
 go_wp2_with (first
  | (refine wl_storeV rfl 39 _ _ rfl 39 B rfl Rv rfl 32 aggSumT hRv Z hT2 hZl h1 ?_; intro w3 hT3 hb3 hs3)
  | (go_at_call 190; refine (hro w1 (by omega) (hAb w1 hb1).out).out.mono ?_; rintro e w2 ⟨rfl, hb2⟩; have hT2 := hT1.below hb2 hT1.lt)
  | (go_at_call 189; refine (hlf w1).out.mono ?_; rintro e w1b ⟨rfl, rfl⟩)
  | (refine wl_allocV rfl 39 rfl Z hz.out B hsz ?_; intro w1 hT1 hb1 hs1))
 (try simp only [Exit.inBlock, Exit.then]); refine bodyPost_ret (results_cell2 rfl _ _ _ _ rfl Rv (by rw [hRv]; exact aggSumT) hT3.at0) rfl ?_
 exact ⟨rfl, hb1.trans ((hb2.mono (by omega)).trans hb3)⟩
end Go.Proofs.YtdhipjoplkpgmaaGreatDoor.hf
namespace Go.Proofs.YtdhipjoplkpgmaaGreatDoor.hf
open Go.RowKit st hs wr shr sh lk
def headL (t : Int) (S Rt : List Int) : List Int := [75, 87, 72, 49] ++ o8 1 ++ o8 t ++ S ++ Rt
theorem headL_len {t : Int} {S Rt : List Int} (h1 : S.length = 32) (h2 : Rt.length = 32) : (headL t S Rt).length = 84 := by simp [headL, o8_length, h1, h2]
theorem oH4 : Octs [75, 87, 72, 49] := by intro c hc; simp only [List.mem_cons, List.not_mem_nil, or_false] at hc; unfold Oct; omega
theorem headL_octs {t : Int} {S Rt : List Int} (h1 : Octs S) (h2 : Octs Rt) : Octs (headL t S Rt) := octs_app (octs_app (octs_app (octs_app oH4 (o8_octs _)) (o8_octs _)) h1) h2
section
variable {n t : Int} {lv rv : List Value} {w : World} {g : Nat}
theorem hd_cells (hB : BlkV 52 w g (hdC n t lv rv)) : w.cell? ⟨g, 0, none⟩ = some (.int .i64 n) ∧ w.cell? ⟨g, 1, none⟩ = some (.int .i64 t) := ⟨hB.cell 0, hB.cell 1⟩
theorem hd_last (hB : BlkV 52 w g (hdC n t lv rv)) : At w ⟨g, 2, none⟩ lv := hB.at 2 lv fun j u hu => by
 have hj := (List.getElem?_eq_some_iff.1 hu).1
 unfold hdC
 rw [show 2 + j = j + 1 + 1 by omega, List.getElem?_cons_succ, List.getElem?_cons_succ, List.getElem?_append_left hj]; exact hu
theorem hd_root (hl : lv.length = 32) (hB : BlkV 52 w g (hdC n t lv rv)) : At w ⟨g, 34, none⟩ rv := hB.at 34 rv fun j u hu => by
 unfold hdC
 rw [show 34 + j = (lv.length + j) + 1 + 1 by omega, List.getElem?_cons_succ, List.getElem?_cons_succ, List.getElem?_append_right (by omega), Nat.add_sub_cancel_left]; exact hu
end
theorem outside_in {n high : Int} (h0 : 0 ≤ n) (h1 : n ≤ high) (w : World) : Calls Tryz.prog 144 #[.int .i64 n, .int .i64 0, .int .i64 high] w fun e w' => e = .returned (.bool false) ∧ w = w' := by
 refine (outside_any n 0 high w).mono ?_
 rintro e w' ⟨rfl, rfl⟩
 exact ⟨by rw [show decide (n < 0) = false by simp; omega, show decide (high < n) = false by simp; omega]; rfl, rfl⟩
theorem PrintHead_ok (t : Int) (ht0 : 0 ≤ t) (ht1 : t ≤ 1099511627776) (S Rt : List Int) (hS : S.length = 32) (oS : Octs S) (hRt : Rt.length = 32) (oR : Octs Rt) (w : World) :
  Calls Tryz.prog 99 #[.agg (hdC 1 t (S.map (Value.int .u8)) (Rt.map (Value.int .u8))).toArray] w fun e w' => ∃ a c, e = .returned (.tuple #[.slice a 84 c, .int .i64 0]) ∧ Mine w' w.heap.size 5 1 (.slice a 84 c) 84 ((headL t S Rt).map (Value.int .u8)) ∧ Below w.heap.size w w' := by
 have hSl : (S.map (Value.int .u8)).length = 32 := by rw [List.length_map, hS]
 have hRl : (Rt.map (Value.int .u8)).length = 32 := by rw [List.length_map, hRt]
 have hcs := fun (w : World) (g : Nat) (h : BlkV 52 w g (hdC 1 t (S.map (Value.int .u8)) (Rt.map (Value.int .u8)))) => hid (hd_cells h)
 have hla := fun (w : World) (g : Nat) (h : BlkV 52 w g (hdC 1 t (S.map (Value.int .u8)) (Rt.map (Value.int .u8)))) => hid (hd_last h)
 have hro := fun (w : World) (g : Nat) (h : BlkV 52 w g (hdC 1 t (S.map (Value.int .u8)) (Rt.map (Value.int .u8)))) => hid (hd_root hSl h)
 have hCl := hdC_len (n := 1) (t := t) hSl hRl
 obtain ⟨CS, HCS⟩ := hidE (hdC 1 t (S.map (Value.int .u8)) (Rt.map (Value.int .u8)))
 rw [← HCS.out] at hcs hla hro hCl ⊢
 have HEQ : Hid ((headL t S Rt).map (Value.int .u8) = (([75, 87, 72, 49] ++ o8 1 ++ o8 t).map (Value.int .u8) ++ S.map (Value.int .u8)) ++ Rt.map (Value.int .u8)) := hid (by unfold headL; rw [List.map_append, List.map_append])
 have HO2 := hid (octs_app oH4 (o8_octs 1))
 have hal2 : Tryz.prog.arrayLen 39 = 32 := by kernel_rfl
 have ho1 := fun w => hid (outside_in (n := 1) (high := 65536) (by decide) (by decide) w)
 have ho2 := fun w => hid (outside_in ht0 ht1 w)
 have ht2 : 0 ≤ t ∧ t ≤ 4611686018427387904 := ⟨ht0, by omega⟩
 obtain ⟨B, hsz⟩ := szE w
 rw [hsz]
 clear hS oS hRt oR ht0 ht1
 go_enter Tryz.func99, Tryz.ntmps99
 go_wp2_with (first
  | (clear hone2; go_at_call 144; refine (ho2 _).out.mono ?_; rintro e w1c ⟨rfl, rfl⟩)
  | (clear hone; go_at_call 144; refine (ho1 _).out.mono ?_; rintro e w1b ⟨rfl, rfl⟩; have hone2 := hid trivial)
  | (refine wl_boxV rfl 52 _ rfl CS rfl B hsz ?_; intro w1 hE1 bb1 hs1; obtain ⟨c0, c1⟩ := (hcs _ _ hE1).out; have hone := hid trivial))
 refine wp_region_held_drew (S := fun w' => w'.cell? ⟨B, 0, none⟩ = some (.int .i64 1) ∧ w'.cell? ⟨B, 1, none⟩ = some (.int .i64 t)) (by kernel_rfl) (hcs w1.drew _ hE1).out (fun hHeld => ?_)
 obtain ⟨x0, HX0⟩ := hidE w1.drew
 rw [← HX0.out] at hHeld ⊢
 have hE0 : BlkV 52 x0 B CS := by rw [HX0.out]; exact hE1
 have bb0 : Below B w x0 := by rw [HX0.out]; exact bb1.drew
 have hs0 : x0.heap.size = B + 1 := by rw [HX0.out]; exact hs1
 clear hE1 bb1 hs1 c0 c1
 refine tq 2 rfl ?_
 refine tq 3 rfl ?_
 refine tq 5 rfl ?_
 refine tq 6 rfl ?_
 refine e1 0 rfl fun K' hK' => ?_
 refine step_lit rfl 61 5 4 _ rfl Tryz.underlying61 (.int .u8 0) 1 1 info8 (by decide) (by decide) [.int .u8 75, .int .u8 87, .int .u8 72, .int .u8 49] (by kernel_rfl) (B + 1) (by omega) ?_
 intro x1 hA1 hbx1 hsx1
 have hE1 := hE0.below hbx1 (by omega)
 have bb1 := bb0.trans (hbx1.mono (by omega : B ≤ _))
 refine ko hK' (hcs _ _ hE1).out fun hHeld => ?_
 clear hK' K'
 refine e1 1 rfl fun K' hK' => ?_
 refine step_convC rfl _ rfl (B + 1) 4 4 [.int .u8 75, .int .u8 87, .int .u8 72, .int .u8 49] rfl hA1 ?_
 intro x2 hA2 hgx2 hbx2 hsx2
 have hE2 := hE1.grown hgx2 (by intro e; injection e with e; omega)
 have bb2 := bb1.trans (hbx2.mono (by omega : B ≤ _))
 have hs2 : x2.heap.size = B + 2 := by omega
 refine ko hK' (hcs _ _ hE2).out fun hHeld => ?_
 clear hK' K'
 refine e1 4 rfl fun K' hK' => ?_
 rw [if_pos (by rfl)]
 go_simp
 go_at_call 143
 refine (PutLong_any (some ⟨B + 1, 0, none⟩) 4 4 [75, 87, 72, 49] 1 x2 rfl (at_rowO (l := [75, 87, 72, 49]) (by omega) hA2) (fun b e => by injection e with e; subst e; show B + 1 < _; omega) (fun h => by cases h) (by decide) (by decide)).mono ?_
 rintro e x3 ⟨ao3, c3, rfl, hM3, hbx3⟩
 have hE3 := hE2.below hbx3 (by omega)
 have bb3 := bb2.trans (hbx3.mono (by omega : B ≤ _))
 have hs3 := hbx3.size
 refine ko hK' (hcs _ _ hE3).out fun hHeld => ?_
 clear hK' K'
 refine e1 7 rfl fun K' hK' => ?_
 rw [if_pos (by rfl)]
 go_simp
 go_at_call 143
 obtain ⟨HP3, hno3⟩ := mine_pt (l := [75, 87, 72, 49] ++ o8 1) hM3 rfl (by decide) HO2.out
 refine (PutLong_any ao3 12 c3 ([75, 87, 72, 49] ++ o8 1) t x3 rfl HP3.row HP3.lt (fun h => (hno3 h).1) (by decide) ht2).mono ?_
 rintro e x4 ⟨ao4, c4, rfl, hM4, hbx4⟩
 have hE4 := hE3.below hbx4 (by omega)
 have bb4 := bb3.trans (hbx4.mono (by omega : B ≤ _))
 have hs4 := hbx4.size
 refine ko hK' (hcs _ _ hE4).out fun hHeld => ?_
 clear hK' K'
 refine tq 8 rfl ?_
 refine wpAnyH_done (by kernel_rfl) ?_ _
 clear hHeld
 have hM := hM4.mono (by omega : B + 1 ≤ _)
 have hs : B + 1 ≤ x4.heap.size := by omega
 clear hM4 hM3 hE3 bb3 hE2 bb2 hE1 bb1 hE0 bb0 hA1 hA2 hgx2
 go_wp2_with fail
 refine wp_region_held_drew (S := fun _ => True) (by kernel_rfl) trivial (fun hHeld => ?_)
 obtain ⟨x5, HX5⟩ := hidE x4.drew
 rw [← HX5.out]
 have hE5 : BlkV 52 x5 B CS := by rw [HX5.out]; exact hE4
 have bb5 : Below B w x5 := by rw [HX5.out]; exact bb4.drew
 have hM5 : Mine x5 (B + 1) 5 1 (.slice ao4 20 c4) 20 (([75, 87, 72, 49] ++ o8 1 ++ o8 t).map (Value.int .u8)) := by rw [HX5.out]; exact hM
 have hs5 : B + 1 ≤ x5.heap.size := by rw [HX5.out]; exact hs
 clear hM hE4 bb4 hs
 refine tq 0 rfl ?_
 refine tq 1 rfl ?_
 refine tq 2 rfl ?_
 refine tq 4 rfl ?_
 refine tq 5 rfl ?_
 refine e1 3 rfl fun K' hK' => ?_
 refine step_appendS rfl _ _ 61 rfl 5 (.int .u8 0) 1 1 Tryz.underlying61 info8 rfl (by decide) (B + 1) _ 20 _ rfl hM5 (some ⟨B, 2, none⟩) 32 32 rfl (fun h => by cases h) (S.map (Value.int .u8)) hSl (at_row (by omega) (hla _ _ hE5).out) (ints_one _ _) (by unfold maxLen; omega) (by omega) (by omega) 52 rfl ?_
 intro ao6 c6 x6 row6 hc6 hM6 hV6 hg6 hr6
 have hE6 := blk_grown hE5 hg6 (fun k hk => (hr6 k hk).1) (by omega)
 have bb6 := bb5.grown hg6 (by omega) (fun k hk => by have := (hr6 k hk).1; omega)
 have hs6 : B + 1 ≤ x6.heap.size := by have := hg6.size; omega
 refine ko hK' trivial fun hHeld => ?_
 clear hK' K'
 refine e1 6 rfl fun K' hK' => ?_
 refine step_appendS rfl _ _ 61 rfl 5 (.int .u8 0) 1 1 Tryz.underlying61 info8 rfl (by decide) (B + 1) _ 52 _ rfl hM6 (some ⟨B, 34, none⟩) 32 32 rfl (fun h => by cases h) (Rt.map (Value.int .u8)) hRl (at_row (by omega) (hro _ _ hE6).out) (ints_one _ _) (by unfold maxLen; omega) (by omega) (by omega) 84 rfl ?_
 intro ao7 c7 x7 row7 hc7 hM7 hV7 hg7 hr7
 have hE7 := blk_grown hE6 hg7 (fun k hk => (hr7 k hk).1) (by omega)
 have bb7 := bb6.grown hg7 (by omega) (fun k hk => by have := (hr7 k hk).1; omega)
 have hs7 : B + 1 ≤ x7.heap.size := by have := hg7.size; omega
 refine ko hK' trivial fun hHeld => ?_
 clear hK' K'
 refine tq 7 rfl ?_
 refine tq 8 rfl ?_
 refine wpAnyH_done (by kernel_rfl) ?_ _
 clear hHeld
 go_wp2_with fail
 go_ret2
 exact ⟨ao7, c7, rfl, by rw [HEQ.out]; exact hM7.mono (by omega), bb7⟩
def sealL (k T : List Int) : List Int := stirL (endL (hs.start 9) (k ++ T))
theorem aggSeal : Agg Tryz.prog 54 64 := .arr Tryz.underlying54 (by kernel_rfl)
theorem sealL_length (k T : List Int) : (sealL k T).length = 64 := stirL_length' _
def slZ : List Value := (List.replicate 64 (0 : Int)).map (Value.int .u8)
theorem zeroSeal : (Tryz.prog.info? 54).map (·.zero) = some (some (.agg slZ.toArray)) := by kernel_rfl
theorem infoBts2 : Info Tryz.prog 61 (.slice none 0 0) 1 24 := by unfold Info; kernel_rfl
theorem SealOf_ok (k : List Int) (hk : k.length = 32) (ok : Octs k) (ao : Option Addr) (c n : Nat) (T : List Int) (w : World) (hn : n = T.length) (HP : Pt.Ok w ⟨ao, c, T⟩) (hm : n ≤ 1000) :
  Calls Tryz.prog 101 #[.agg (k.map (Value.int .u8)).toArray, .slice ao n c] w fun e w' => e = .returned (.tuple #[.agg ((sealL k T).map (Value.int .u8)).toArray, .int .i64 0]) ∧ Below w.heap.size w w' := by
 have hKl : (k.map (Value.int .u8)).length = 32 := by rw [List.length_map, hk]
 have HPb := fun (w' : World) (hb : Below w.heap.size w w') => hid (HP.below hb)
 obtain ⟨B, hsz⟩ := szE w
 rw [hsz] at HPb ⊢
 have hcat : cat [⟨some ⟨B, 0, none⟩, 32, k⟩, ⟨ao, c, T⟩] = k ++ T := by unfold cat; simp
 have hsm := fun (w' : World) (L : Nat) (hL : BlkV 61 w' L [.slice (some ⟨B, 0, none⟩) 32 32, .slice ao n c]) (hB : BlkV 23 w' B (k.map (Value.int .u8))) (hb : Below B w w') => hid (show Calls Tryz.prog 181 #[.int .i64 9, .slice (some ⟨L, 0, none⟩) 2 2] w' (fun e w'' => Below w'.heap.size w' w'' ∧ e = .returned (.tuple #[.pointer (some ⟨w'.heap.size, 0, none⟩), .int .i64 0]) ∧ SumOk w'' w'.heap.size (hs.start 9) (k ++ T) ((k ++ T).length : Int)) by
  refine (summed_ok 9 ⟨by decide, by decide⟩ (some ⟨L, 0, none⟩) 2 2 [⟨some ⟨B, 0, none⟩, 32, k⟩, ⟨ao, c, T⟩] w' rfl (by decide) (by
   show RowV w' _ [.slice (some ⟨B, 0, none⟩) k.length 32, .slice ao T.length c]
   rw [hk, ← hn]
   exact at_row hL.lt hL.at0) (by
   intro x hx
   simp only [List.mem_cons, List.not_mem_nil, or_false] at hx
   rcases hx with rfl | rfl
   ·exact ptAt hB.lt hB.at0 ok (Nat.le_of_eq hk) (by decide)
   ·exact (HPb w' hb).out)).mono ?_
  rintro e w'' ⟨h1, h2 | h2⟩
  ·rw [hcat] at h2; exact ⟨h1, h2.2.1, h2.2.2⟩
  ·rw [hcat, List.length_append, hk, ← hn] at h2; omega)
 have hend := fun (w' : World) (p : Nat) (h : SumOk w' p (hs.start 9) (k ++ T) ((k ++ T).length : Int)) => hid (end_ok p (hs.start 9) (k ++ T) _ w' (hs.start_length 9) (hs.start_octs ⟨by decide, by decide⟩) rfl (by rw [List.length_append, hk, ← hn]; omega) h)
 have hst := fun w' => hid (stirM (endL (hs.start 9) (k ++ T)) w' (endL_length _ _) (endL_octs _ _))
 obtain ⟨KV, HKV⟩ := hidE (k.map (Value.int .u8))
 rw [← HKV.out] at hKl hsm ⊢
 have hSl : ((sealL k T).map (Value.int .u8)).length = 64 := by rw [List.length_map, sealL_length]
 have hS1 := ints_one .u8 (sealL k T)
 rw [show stirL (endL (hs.start 9) (k ++ T)) = sealL k T from rfl] at hst
 obtain ⟨SV, HSV⟩ := hidE ((sealL k T).map (Value.int .u8))
 rw [← HSV.out] at hSl hS1 hst ⊢
 obtain ⟨EV, HEV⟩ := hidE ((endL (hs.start 9) (k ++ T)).map (Value.int .u8))
 rw [← HEV.out] at hend hst
 obtain ⟨KT, HKT⟩ := hidE (k ++ T)
 rw [← HKT.out] at hsm hend
 have hz := hid zeroSeal
 have hZl : slZ.length = 64 := by simp [slZ]
 obtain ⟨Z, HZ⟩ := hidE slZ
 rw [← HZ.out] at hz hZl
 have hal : Tryz.prog.arrayLen 23 = 32 := by kernel_rfl
 have HBT := hid infoBts2
 clear HP HPb hn hcat hk ok
 go_enter Tryz.func101, Tryz.ntmps101
 go_wp2_with (first
  | (refine wl_storeV rfl 54 _ _ rfl 54 (B + 1) rfl SV rfl 64 aggSeal hSl Z hS6 hZl hS1 ?_; intro w7 hS7 hb7 hs7; have bb7 : Below B w w7 := bb6.trans (hb7.mono (by omega)))
  | (go_at_call 183; refine (hst w5).out.mono ?_; rintro e w6 ⟨rfl, hb6⟩; have hS6 := hS5.below hb6 hS5.lt; have bb6 : Below B w w6 := bb5.trans (hb6.mono (by have := hS5.lt; omega)))
  | (go_at_call 184; refine (hend w4 p hP4).out.mono ?_; rintro e w5 ⟨rfl, hb5⟩; have hS5 := hS4.below hb5 hS4.lt; have bb5 : Below B w w5 := bb4.trans (hb5.mono (by have := hS4.lt; omega)))
  | (go_at_call 181; refine (hsm w3 L hL3 hK3 bb3).out.mono ?_; rintro e w4 ⟨hb4, rfl, hP4⟩; have hS4 := hS3.below hb4 hS3.lt; have bb4 : Below B w w4 := bb3.trans (hb4.mono (by have := hS3.lt; omega)); obtain ⟨p, Hp⟩ := hidE w3.heap.size; rw [← Hp.out] at hP4 ⊢)
  | (obtain ⟨L, HL⟩ := hidE w2.heap.size; have hLB : B + 2 ≤ L := (by rw [HL.out]; omega); refine wl_lit rfl 286 61 2 _ rfl Tryz.underlying286 (.slice none 0 0) 1 24 HBT.out (by decide) (by decide) [.slice (some ⟨B, 0, none⟩) 32 32, .slice ao n c] (by kernel_rfl) L HL.out.symm ?_; intro w3 hL3 hb3 hs3; have hK3 := hK2.below hb3 (by omega); have hS3 := hS2.below hb3 (by omega); have bb3 : Below B w w3 := bb2.trans (hb3.mono (by omega)))
  | (refine wl_allocV rfl 54 rfl Z hz.out (B + 1) (by omega) ?_; intro w2 hS2 hb2 hs2; have hK2 := hK1.below hb2 (by omega); have bb2 : Below B w w2 := bb1.trans (hb2.mono (by omega)))
  | (refine wl_boxV rfl 23 _ rfl KV rfl B hsz ?_; intro w1 hK1 bb1 hs1))
 (try simp only [Exit.inBlock, Exit.then]); refine bodyPost_ret (results_cell2 rfl _ _ _ _ rfl SV (by rw [hSl]; exact aggSeal) hS7.at0) rfl ?_
 exact ⟨rfl, bb7⟩
theorem headWord : isName (strOfNums [104, 101, 97, 100]) = true := by decide
theorem headStr : strOfNums [104, 101, 97, 100] = ⟨#[104, 101, 97, 100]⟩ := by decide
def hkL (k : List Int) : List Int := deriveL k [104, 101, 97, 100] 0
theorem hkL_len (k : List Int) : (hkL k).length = 32 := sumL_length _ _
theorem hkL_octs (k : List Int) : Octs (hkL k) := sumL_octs _ _
def ky0 : List Value := (List.replicate 32 (0 : Int)).map (Value.int .u8)
theorem zeroKey32 : (Tryz.prog.info? 23).map (·.zero) = some (some (.agg ky0.toArray)) := by kernel_rfl
theorem headKey_ok (k : List Int) (hk : k.length = 32) (ok : Octs k) (w : World) :
  Calls Tryz.prog 42 #[.agg (k.map (Value.int .u8)).toArray] w fun e w' => e = .returned (.agg ((hkL k).map (Value.int .u8)).toArray) ∧ Below w.heap.size w w' := by
 have hKl : (k.map (Value.int .u8)).length = 32 := by rw [List.length_map, hk]
 have hde := fun w' => hid (Derive_ok k hk ok [104, 101, 97, 100] (by intro c hc; simp only [List.mem_cons, List.not_mem_nil, or_false] at hc; unfold Oct; omega) headWord 0 ⟨by decide, by decide⟩ w')
 rw [headStr] at hde
 have hDl : ((hkL k).map (Value.int .u8)).length = 32 := by rw [List.length_map, hkL_len]
 have hD1 := ints_one .u8 (hkL k)
 rw [show deriveL k [104, 101, 97, 100] 0 = hkL k from rfl] at hde
 obtain ⟨DV, HDV⟩ := hidE ((hkL k).map (Value.int .u8))
 rw [← HDV.out] at hDl hD1 hde ⊢
 obtain ⟨KV, HKV⟩ := hidE (k.map (Value.int .u8))
 rw [← HKV.out] at hKl hde ⊢
 have hz := hid zeroKey32
 have hZl : ky0.length = 32 := by simp [ky0]
 obtain ⟨Z, HZ⟩ := hidE ky0
 rw [← HZ.out] at hz hZl
 obtain ⟨B, hsz⟩ := szE w
 rw [hsz]
 go_enter Tryz.func42, Tryz.ntmps42
 go_wp2_with (first
  | (refine wl_storeV rfl 23 _ _ rfl 23 (B + 1) rfl DV rfl 32 aggKey32 hDl Z hT5 hZl hD1 ?_; intro w6 hT6 hb6 hs6; have bb6 : Below B w w6 := bb5.trans (hb6.mono (by omega)))
  | (refine wl_loadG (by rfl) 23 _ rfl ⟨X, 0, none⟩ rfl 32 DV hDl aggKey32 hX5.at0 ?_)
  | (refine wl_storeV rfl 23 _ _ rfl 23 X rfl DV rfl 32 aggKey32 hDl Z hX4 hZl hD1 ?_; intro w5 hX5 hb5 hs5; have hT5 := hT4.below hb5 (by omega); have bb5 : Below B w w5 := bb4.trans (hb5.mono (by omega)))
  | (clear hone; obtain ⟨X, HX⟩ := hidE w3.heap.size; have hXB : B + 2 ≤ X := (by rw [HX.out]; have := hb3.size; omega); refine wl_allocV rfl 23 rfl Z hz.out X HX.out.symm ?_; intro w4 hX4 hb4 hs4; have hT4 := hT3.below hb4 (by omega); have bb4 : Below B w w4 := bb3.trans (hb4.mono (by omega)))
  | (go_at_call 102; refine (hde w2).out.mono ?_; rintro e w3 ⟨rfl, hb3⟩; have hT3 := hT2.below hb3 hT2.lt; have bb3 : Below B w w3 := bb2.trans (hb3.mono (by omega)); have hone := hid trivial)
  | (refine wl_loadG (by rfl) 23 _ rfl ⟨B, 0, none⟩ rfl 32 KV hKl aggKey32 hK2.at0 ?_)
  | (refine wl_allocV rfl 23 rfl Z hz.out (B + 1) (by omega) ?_; intro w2 hT2 hb2 hs2; have hK2 := hK1.below hb2 (by omega); have bb2 : Below B w w2 := bb1.trans (hb2.mono (by omega)))
  | (refine wl_boxV rfl 23 _ rfl KV rfl B hsz ?_; intro w1 hK1 bb1 hs1))
 (try simp only [Exit.inBlock, Exit.then]); refine bodyPost_ret (results_cell rfl _ _ _ _ rfl DV (by rw [hDl]; exact aggKey32) hT6.at0) rfl ?_
 exact ⟨rfl, bb6⟩
end Go.Proofs.YtdhipjoplkpgmaaGreatDoor.hf
namespace Go.Proofs.YtdhipjoplkpgmaaGreatDoor.hf
open Go.RowKit st hs wr shr sh lk
theorem SealHead_ok (k : List Int) (hk : k.length = 32) (ok : Octs k) (t : Int) (ht0 : 0 ≤ t) (ht1 : t ≤ 1099511627776) (S Rt : List Int) (hS : S.length = 32) (oS : Octs S) (hRt : Rt.length = 32) (oR : Octs Rt) (w : World) :
  Calls Tryz.prog 41 #[.agg (k.map (Value.int .u8)).toArray, .agg (hdC 1 t (S.map (Value.int .u8)) (Rt.map (Value.int .u8))).toArray] w fun e w' => e = .returned (.tuple #[.agg ((sealL k (sumL 6 (headL t S Rt))).map (Value.int .u8)).toArray, .int .i64 0]) ∧ Below w.heap.size w w' := by
 have hKl : (k.map (Value.int .u8)).length = 32 := by rw [List.length_map, hk]
 have hph := fun w' => hid (PrintHead_ok t ht0 ht1 S Rt hS oS hRt oR w')
 have hHl := headL_len (t := t) hS hRt
 have hHo := hid (headL_octs (t := t) oS oR)
 have hCl := hdC_len (n := 1) (t := t) (lv := S.map (Value.int .u8)) (rv := Rt.map (Value.int .u8)) (by rw [List.length_map, hS]) (by rw [List.length_map, hRt])
 obtain ⟨CS, HCS⟩ := hidE (hdC 1 t (S.map (Value.int .u8)) (Rt.map (Value.int .u8)))
 rw [← HCS.out] at hph hCl ⊢
 obtain ⟨HL, HHL⟩ := hidE (headL t S Rt)
 rw [← HHL.out] at hph hHl hHo ⊢
 have hsu := fun (w' : World) (a : Option Addr) (c : Nat) (h : Pt.Ok w' ⟨a, c, HL⟩) => hid (sumOf_in 6 ⟨by decide, by decide⟩ a c 84 HL w' hHl.symm h (by decide))
 obtain ⟨SI, HSI⟩ := hidE (sumL 6 HL)
 have hSIl : SI.length = 32 := by rw [HSI.out, sumL_length]
 have hSIo : Octs SI := by rw [HSI.out]; exact sumL_octs _ _
 rw [← HSI.out] at hsu ⊢
 have hse := fun (w' : World) (g : Nat) (h : BlkV 39 w' g (SI.map (Value.int .u8))) => hid (SealOf_ok k hk ok (some ⟨g, 0, none⟩) 32 32 SI w' hSIl.symm (ptAt h.lt h.at0 hSIo (Nat.le_of_eq hSIl) (by decide)) (by decide))
 have hSVl : (SI.map (Value.int .u8)).length = 32 := by rw [List.length_map, hSIl]
 have hSV1 := ints_one .u8 SI
 obtain ⟨SV, HSV⟩ := hidE (SI.map (Value.int .u8))
 rw [← HSV.out] at hsu hse hSVl hSV1
 have hEl : ((sealL k SI).map (Value.int .u8)).length = 64 := by rw [List.length_map, sealL_length]
 have hE1 := ints_one .u8 (sealL k SI)
 obtain ⟨EV, HEV⟩ := hidE ((sealL k SI).map (Value.int .u8))
 rw [← HEV.out] at hse hEl hE1 ⊢
 obtain ⟨KV, HKV⟩ := hidE (k.map (Value.int .u8))
 rw [← HKV.out] at hKl hse ⊢
 have hz := hid zeroSeal
 have hZl : slZ.length = 64 := by simp [slZ]
 obtain ⟨Z, HZ⟩ := hidE slZ
 rw [← HZ.out] at hz hZl
 have hzs := hid zeroSumZ
 have hZSl : zSum.length = 32 := rfl
 obtain ⟨ZS, HZS⟩ := hidE zSum
 rw [← HZS.out] at hzs hZSl
 have hal2 : Tryz.prog.arrayLen 39 = 32 := by kernel_rfl
 have hiK : (Tryz.prog.info? 23).map (·.size) = some KV.length := by rw [hKl]; exact aggKey32.2
 obtain ⟨B, hsz⟩ := szE w
 rw [hsz]
 clear hk ok ht0 ht1 hS oS hRt oR hSIl hSIo
 go_enter Tryz.func41, Tryz.ntmps41
 go_wp2_with (first
  | (refine wl_storeV rfl 39 _ _ rfl 39 X rfl SV rfl 32 aggSumT hSVl ZS hX6 hZSl hSV1 ?_; intro w7 hX7 hb7 hs7; have hK7 := hK6.below hb7 (by omega); have hT7 := hT6.below hb7 (by omega); have bb7 : Below B w w7 := bb6.trans (hb7.mono (by omega)))
  | (obtain ⟨X, HX⟩ := hidE w5.heap.size; have hXB : B + 3 ≤ X := (by rw [HX.out]; exact hT5.lt); refine wl_allocV rfl 39 rfl ZS hzs.out X HX.out.symm ?_; intro w6 hX6 hb6 hs6; have hK6 := hK5.below hb6 (by omega); have hT6 := hT5.below hb6 (by omega); have bb6 : Below B w w6 := bb5.trans (hb6.mono (by omega)))
  | (go_at_call 100; refine (hsu w4 a4 c4 (mine_pt hM4 hHl.symm (by decide) hHo.out).1).out.mono ?_; rintro e w5 ⟨rfl, hb5⟩; have hK5 := hK4.below hb5 hK4.lt; have hT5 := hT4.below hb5 hT4.lt; have bb5 : Below B w w5 := bb4.trans (hb5.mono (by have := hT4.lt; omega)))
  | (go_at_call 99; refine (hph w3).out.mono ?_; rintro e w4 ⟨a4, c4, rfl, hM4, hb4⟩; have hK4 := hK3.below hb4 hK3.lt; have hT4 := hT3.below hb4 hT3.lt; have bb4 : Below B w w4 := bb3.trans (hb4.mono (by have := hT3.lt; omega)))
  | (refine wl_loadG (by rfl) 52 _ rfl ⟨B + 1, 0, none⟩ rfl 66 CS hCl aggHead hC3.at0 ?_)
  | (refine wl_allocV rfl 54 rfl Z hz.out (B + 2) (by omega) ?_; intro w3 hT3 hb3 hs3; have hK3 := hK2.below hb3 (by omega); have hC3 := hC2.below hb3 (by omega); have bb3 : Below B w w3 := bb2.trans (hb3.mono (by omega)))
  | (refine wl_boxV rfl 52 _ rfl CS rfl (B + 1) (by omega) ?_; intro w2 hC2 hb2 hs2; have hK2 := hK1.below hb2 (by omega); have bb2 : Below B w w2 := bb1.trans (hb2.mono (by omega)))
  | (refine wl_boxV rfl 23 _ rfl KV rfl B hsz ?_; intro w1 hK1 bb1 hs1))
 refine wp_region_held_drew (S := fun w' => w'.rangeAt B 0 KV) (by kernel_rfl) (at_range (w := w7.drew) hK7.at0) (fun hHeld => ?_)
 obtain ⟨x0, HX0⟩ := hidE w7.drew
 rw [← HX0.out] at hHeld ⊢
 have hK0 : BlkV 23 x0 B KV := by rw [HX0.out]; exact hK7
 have hT0 : BlkV 54 x0 (B + 2) Z := by rw [HX0.out]; exact hT7
 have hX0 : BlkV 39 x0 X SV := by rw [HX0.out]; exact hX7
 have bb0 : Below B w x0 := by rw [HX0.out]; exact bb7.drew
 clear hK1 hK2 hK3 hK4 hK5 hK6 hK7 hT3 hT4 hT5 hT6 hT7 hC2 hC3 hX6 hX7 bb1 bb2 bb3 bb4 bb5 bb6 bb7 hM4
 refine tk 0 rfl (yieldsIf_load_mid (by rfl) 23 _ rfl B 0 rfl KV _ (fun w hS => hS) Tryz.underlying23 rfl hiK) ?_
 refine tq 1 rfl ?_
 refine e1 2 rfl fun K' hK' => ?_
 rw [if_pos (by rfl)]
 go_simp
 go_at_call 101
 refine (hse x0 X hX0).out.mono ?_
 rintro e x1 ⟨rfl, hb1⟩
 have hK1 := hK0.below hb1 hK0.lt
 have hT1 := hT0.below hb1 hT0.lt
 have bb1 : Below B w x1 := bb0.trans (hb1.mono (by have := hT0.lt; omega))
 refine ko hK' (at_range hK1.at0) fun hHeld => ?_
 clear hK' K'
 refine tq 3 rfl ?_
 refine tq 4 rfl ?_
 refine e1 5 rfl fun K' hK' => ?_
 refine step_storeV rfl 54 _ _ rfl 54 (B + 2) rfl EV rfl 64 aggSeal hEl Z hT1 hZl hE1 ?_
 intro x2 hT2 hb2 hs2
 have hK2 := hK1.below hb2 (by omega)
 have bb2 : Below B w x2 := bb1.trans (hb2.mono (by omega))
 refine ko hK' (at_range hK2.at0) fun hHeld => ?_
 clear hK' K'
 refine tq 6 rfl ?_
 refine wpAnyH_done (by kernel_rfl) ?_ _
 clear hHeld
 go_wp2_with fail
 (try simp only [Exit.inBlock, Exit.then]); refine bodyPost_ret (results_cell2 rfl _ _ _ _ rfl EV (by rw [hEl]; exact aggSeal) hT2.at0) rfl ?_
 exact ⟨rfl, bb2⟩
theorem LHead_ok (L B0 : Nat) (t : Int) (E S : List Int) (hS : S.length = 32) (w : World) (hL : LedOk w L B0 t E S) :
  Calls Tryz.prog 52 #[.pointer (some ⟨L, 0, none⟩)] w fun e w' => e = .returned (.agg (hdC 1 t (S.map (Value.int .u8)) ((sumL 1 E).map (Value.int .u8))).toArray) ∧ Below w.heap.size w w' := by
 obtain ⟨oa, oc, ea, ec, la, lc, hB, hP, hno, hre, hrl, _⟩ := hL.rows
 have hSl : (S.map (Value.int .u8)).length = 32 := by rw [List.length_map, hS]
 have hRl : ((sumL 1 E).map (Value.int .u8)).length = 32 := by rw [List.length_map, sumL_length]
 obtain ⟨b, off, rfl, hbw, hAt⟩ : ∃ b off, la = some ⟨b, off, none⟩ ∧ b < w.heap.size ∧ At w ⟨b, off, none⟩ ((sumL 1 E).map (Value.int .u8)) := by
  rcases hrl with q | ⟨b, off, h1, h2, h3⟩
  ·rw [q] at hRl; cases hRl
  ·exact ⟨b, off, h1, h2, fun j u hu => by rw [addr_add]; exact h3 j u hu⟩
 have hR1 := ints_one .u8 (sumL 1 E)
 have hS1 := ints_one .u8 S
 have hbh := hid (builtHead hSl hRl 1 t)
 have hCl := hdC_len (n := 1) (t := t) hSl hRl
 have hC1 := hdC_one (n := 1) (t := t) hS1 hR1
 obtain ⟨Rv, HRv⟩ := hidE ((sumL 1 E).map (Value.int .u8))
 rw [← HRv.out] at hRl hR1 hAt hbh hCl hC1 ⊢
 obtain ⟨SV, HSV⟩ := hidE (S.map (Value.int .u8))
 rw [← HSV.out] at hSl hbh hB hCl hC1 ⊢
 obtain ⟨CS, HCS⟩ := hidE (hdC 1 t SV Rv)
 rw [← HCS.out] at hbh hCl hC1 ⊢
 have hroot := fun (w' : World) (hb : Below w.heap.size w w') => hid (Root_one b off lc Rv hRl hR1 w' (Nat.lt_of_lt_of_le hbw hb.size) (fun j u hu => (hb.cell (p := (⟨b, off, none⟩ : Addr).add j) (by rw [addr_add]; exact hbw)).trans (hAt j u hu)))
 have hlc := fun (w' : World) (h : BlkV 162 w' L (ledC (.slice oa E.length oc) (.slice ea 1 ec) t SV (.slice (some ⟨b, off, none⟩) 1 lc))) => hid (led_cells hSl h)
 have hll := fun (w' : World) (h : BlkV 162 w' L (ledC (.slice oa E.length oc) (.slice ea 1 ec) t SV (.slice (some ⟨b, off, none⟩) 1 lc))) => hid (led_lastAt h)
 obtain ⟨LC, HLC⟩ := hidE (ledC (.slice oa E.length oc) (.slice ea 1 ec) t SV (.slice (some ⟨b, off, none⟩) 1 lc))
 rw [← HLC.out] at hB hlc hll
 have hLw := hB.lt
 have hzs := hid zeroSumZ
 have hZSl : zSum.length = 32 := rfl
 obtain ⟨ZS, HZS⟩ := hidE zSum
 rw [← HZS.out] at hzs hZSl
 have hzh := hid zeroHead
 have hZHl : hdZ.length = 66 := rfl
 obtain ⟨ZH, HZH⟩ := hidE hdZ
 rw [← HZH.out] at hzh hZHl
 have hiS : (Tryz.prog.info? 39).map (·.size) = some SV.length := by rw [hSl]; exact aggSumT.2
 have hiR : (Tryz.prog.info? 39).map (·.size) = some Rv.length := by rw [hRl]; exact aggSumT.2
 obtain ⟨B, hsz⟩ := szE w
 rw [hsz] at hroot hLw ⊢
 clear hL hP hno hre hAt
 go_enter Tryz.func52, Tryz.ntmps52
 go_wp2_with (first
  | (refine wl_storeV rfl 39 _ _ rfl 39 X rfl Rv rfl 32 aggSumT hRl ZS hX3 hZSl hR1 ?_; intro w4 hX4 hb4 hs4; have hT4 := hT3.below hb4 (by omega); have bb4 : Below B w w4 := bb3.trans (hb4.mono (by omega)))
  | (obtain ⟨X, HX⟩ := hidE w2.heap.size; have hXB : B < X := (by rw [HX.out]; exact hT2.lt); refine wl_allocV rfl 39 rfl ZS hzs.out X HX.out.symm ?_; intro w3 hX3 hb3 hs3; have hT3 := hT2.below hb3 (by omega); have bb3 : Below B w w3 := bb2.trans (hb3.mono (by omega)))
  | (go_at_call 111; refine (hroot w1 bb1).out.mono ?_; rintro e w2 ⟨rfl, hb2⟩; have hT2 := hT1.below hb2 hT1.lt; have bb2 : Below B w w2 := bb1.trans (hb2.mono (by omega)))
  | (refine wl_allocV rfl 52 rfl ZH hzh.out B hsz ?_; intro w1 hT1 bb1 hs1; have c35 := ((hlc _ (hB.below bb1 hLw)).out).2.2.2))
 have hSS : ∀ w', Below B w w' → BlkV 39 w' X Rv → (w'.cell? ⟨L, 1, none⟩ = some (.slice ea 1 ec) ∧ w'.cell? ⟨L, 2, none⟩ = some (.int .i64 t) ∧ w'.rangeAt L 3 SV ∧ w'.rangeAt X 0 Rv) := fun w' h1 h2 => by
  have h := hB.below h1 hLw
  exact ⟨((hlc _ h).out).2.1, ((hlc _ h).out).2.2.1, at_range (hll _ h).out, at_range h2.at0⟩
 refine wp_region_held_drew (S := fun w' => w'.cell? ⟨L, 1, none⟩ = some (.slice ea 1 ec) ∧ w'.cell? ⟨L, 2, none⟩ = some (.int .i64 t) ∧ w'.rangeAt L 3 SV ∧ w'.rangeAt X 0 Rv) (by kernel_rfl) (hSS w4.drew bb4.drew hX4) (fun hHeld => ?_)
 obtain ⟨x0, HX0⟩ := hidE w4.drew
 rw [← HX0.out] at hHeld ⊢
 have hT0 : BlkV 52 x0 B ZH := by rw [HX0.out]; exact hT4
 have hX0 : BlkV 39 x0 X Rv := by rw [HX0.out]; exact hX4
 have bb0 : Below B w x0 := by rw [HX0.out]; exact bb4.drew
 clear hT1 hT2 hT3 hT4 hX3 hX4 bb1 bb2 bb3 bb4 c35
 refine tq 0 rfl ?_
 refine tq 1 rfl ?_
 refine tq 2 rfl ?_
 refine tq 3 rfl ?_
 refine tq 4 rfl ?_
 refine tq 5 rfl ?_
 refine tq 6 rfl ?_
 refine tq 7 rfl ?_
 refine tq 8 rfl ?_
 refine tq 9 rfl ?_
 refine tq 10 rfl ?_
 refine tq 11 rfl ?_
 refine tk 12 rfl (yieldsIf_load_mid (by rfl) 39 _ rfl L 3 rfl SV _ (fun w hS => hS.2.2.1) Tryz.underlying39 rfl hiS) ?_
 refine tk 13 rfl (yieldsIf_load_mid (by rfl) 39 _ rfl X 0 rfl Rv _ (fun w hS => hS.2.2.2) Tryz.underlying39 rfl hiR) ?_
 refine tk 14 rfl (yieldsIf_build (by rfl) 52 _ rfl [(0, .int .i64 1), (1, .int .i64 t), (2, .agg SV.toArray), (3, .agg Rv.toArray)] rfl CS hbh.out) ?_
 refine e1 15 rfl fun K' hK' => ?_
 refine step_storeP rfl 52 _ _ rfl 52 B 0 rfl CS rfl 66 aggHead hCl ZH hT0 (by rw [hZHl]; decide) hC1 CS (by rw [List.drop_eq_nil_of_le (by omega)]; simp) ?_
 intro x1 hT1 hb1 hg1 hs1
 have hX1 := hX0.grown hg1 (by intro e; injection e with e; omega)
 have bb1 : Below B w x1 := bb0.trans hb1
 refine ko hK' (hSS _ bb1 hX1) fun hHeld => ?_
 clear hK' K'
 refine wpAnyH_done (by kernel_rfl) ?_ _
 clear hHeld
 go_wp2_with fail
 (try simp only [Exit.inBlock, Exit.then]); refine bodyPost_ret (results_cell rfl _ _ _ _ rfl CS (by rw [hCl]; exact aggHead) hT1.at0) rfl ?_
 exact ⟨rfl, bb1⟩
end Go.Proofs.YtdhipjoplkpgmaaGreatDoor.hf
namespace Go.Proofs.YtdhipjoplkpgmaaGreatDoor.hf
open Go.RowKit st hs wr shr sh lk
theorem run_rangeK {w : World} {b : Nat} {D : Mp Value} (h : MapD w b D) (t kt et : TypeId) (ht : Tryz.prog.underlying t = some (.map kt et)) :
  ∃ w' cnt, (Instr.range t (.map (some b))).run Tryz.prog w = .ok (.pointer (some ⟨w.heap.size, 0, none⟩)) w' ∧ IterD w' b w.heap.size D (fun k => (D k).isSome = true) cnt ∧ Below w.heap.size w w' ∧ w'.heap.size = w.heap.size + 1 := by
 have hlt := h.lt
 obtain ⟨es, clock, hb, hE⟩ := h
 refine ⟨_, _, run_range_map w t kt et b es clock ht hb, ⟨es, clock, clock, #[], clock, ((MapKept.heap_alloc w _).2 b hlt).trans hb, hE, (MapKept.heap_alloc w _).1, hE.old, Nat.le_refl _, Nat.le_refl _, rfl, fun k => ?_⟩, (Below.refl _ _).alloc (Nat.le_refl _) _, by simp⟩
 dsimp only
 constructor
 ·intro hk
  cases hd : D k with
  | none => rw [hd] at hk; cases hk
  | some v =>
   obtain ⟨e, he, h1⟩ := hE.all k v hd
   exact ⟨e, he, h1, by simp⟩
 ·rintro ⟨e, he, h1, _⟩
  obtain ⟨j, _, h2, h3⟩ := hE.key e he
  rw [idV_inj (h1.symm.trans h2), h3]
  rfl
theorem wi_rangeK {F : Fence} {n : Nat} {w : World} {ops : Array Oper} {rest : List Oper} {o : Oper} {a : Act} {Q : Exit → Act → World → Prop} (hgd : o.guard = none) (t kt et : TypeId) (m : Operand) (ho : o.op = .range t m) (ht : Tryz.prog.underlying t = some (.map kt et)) (b : Nat) (D : Mp Value) (h : MapD w b D) (hmv : a.eval m = .map (some b)) (N : Nat) (hN : w.heap.size = N)
  (hK : ∀ w' cnt, IterD w' b N D (fun k => (D k).isSome = true) cnt → Below N w w' → w'.heap.size = N + 1 → wpListIn F n Tryz.prog ops Q rest (a.put o.dst (.pointer (some ⟨N, 0, none⟩))) w') : wpListIn F n Tryz.prog ops Q (o :: rest) a w := by
 subst hN
 obtain ⟨w', cnt, hrun, h1, h2, h3⟩ := run_rangeK h t kt et ht
 refine wpListIn_plain hgd fun K' hK' => ?_
 unfold Oper.wpIn
 refine ⟨by simp [Oper.about, ho], ?_⟩
 rw [Oper.semAt_plain F _ _ (by rw [ho]; intro c hc'; cases hc')]
 simp [execOp, ho, hmv, hrun, Result.andThen]
 exact hK' _ _ (hK w' cnt h1 h2 h3)
theorem keys1_S (n : Nat) (hn : 1 ≤ n) (l Bm b : Nat) (J Jx : List Empty → World → Prop)
  (W : World) (hJ : AbidesFrom W.heap.size J) (hm : W.cell? ⟨Bm, 0, none⟩ = some (.map (some b))) (hM : MapD W b (fun _ => none)) (h0 : J [] W) :
  CallsIn Fence.wide n Tryz.prog 199 #[.func (.yield l) #[] #[], .pointer (some ⟨Bm, 0, none⟩)] W fun e W' => (∃ v, e = .returned v) ∧
   ((∃ ss : List Empty, True ∧ J ss W') ∨ (∃ pre : List Empty, True ∧ Jx pre W')) := by
 obtain ⟨r, hsz⟩ := szE W
 refine callsIn_of_wp Tryz.func199 rfl trivial ?_ rfl
 simp only [Tryz.ntmps199, List.size_toArray, List.length_cons, List.length_nil, Nat.reduceAdd, Nat.reduceSub, Array.replicate_succ, Array.replicate_zero, List.push_toArray, List.append_toArray, List.nil_append, List.cons_append]
 gi_wp2_with (first
  | (gi_at_range; refine wi_rangeK rfl 158 39 203 _ rfl Tryz.underlying158 b _ hM rfl r hsz ?_; intro w0 cnt0 hI0 hb0 hs0)
  | gi_in)
 go_frame
 gi_loopw [3] (fun _ wr => ∃ (left : lk.Id → Prop) (cnt : Nat), IterD wr b r (fun _ => none) left cnt ∧ J [] wr ∧ r < wr.heap.size)
  (fun _ wr => wr.rangeLeft b r)
 case atStart =>
  exact ⟨_, _, hI0, hJ [] W w0 none h0 (grown_none (by rw [hsz]; exact hb0)) (fun r e => by cases e), by omega⟩
 case round =>
  clear hI0 hb0 hs0 h0 hM hm
  obtain ⟨left, cnt, hIt, hJs, hrl⟩ := hrel
  gi_wp2_with (first
   | (gi_at_next; refine wi_nextD rfl _ rfl b r _ left cnt rfl hIt ?_ ?_)
   | gi_in)
  intro hc0 hl0
  gi_wp2
  go_end0
  exact ⟨⟨_, rfl⟩, .inl ⟨[], trivial, hJs⟩⟩
theorem keysS_S (n : Nat) (hn : 1 ≤ n) (Bm b : Nat) (w : World) (hBm : Bm < w.heap.size) (hm : w.cell? ⟨Bm, 0, none⟩ = some (.map (some b))) (hM : MapD w b (fun _ => none)) :
  SeqStopsK Fence.wide n Tryz.prog 199 #[.pointer (some ⟨Bm, 0, none⟩)] (fun x : Empty => #[x.elim]) KeepsWalks (fun _ => True) (fun _ => True) 400 w := fun l J Jx W hW hJ _ hY h0 =>
 keys1_S n hn l Bm b J Jx W hJ ((hW.cell (p := ⟨Bm, 0, none⟩) hBm).trans hm) (hM.below hW hM.lt) h0
def NilS (w : World) (e : Ending) (W' : World) : Prop := e = .returned (.slice none 0 0) ∧ Below w.heap.size w W'
theorem appendSeqS (n : Nat) (hn : 3 ≤ n) (G : Nat) (hG : ∀ args w, (callFunc G args).run Tryz.prog w = .ok (.enter G args) w) (Bm : Nat) (w : World) (hBm : Bm < w.heap.size)
  (hst : ∀ w0, Below w.heap.size w w0 → SeqStopsK Fence.wide (n - 1) Tryz.prog G #[.pointer (some ⟨Bm, 0, none⟩)] (fun x : Empty => #[x.elim]) KeepsWalks (fun _ => True) (fun _ => True) 400 w0) :
  CallsIn Fence.wide n Tryz.prog 304 #[.slice none 0 0, .func (.func G) #[] #[.pointer (some ⟨Bm, 0, none⟩)]] w (NilS w) := by
 have h1 : 1 ≤ n := by omega
 refine callsIn_of_wp_marks Tryz.func304 rfl trivial ?_ rfl
 simp only [Tryz.ntmps304, List.size_toArray, List.length_cons, List.length_nil, Nat.reduceAdd, Nat.reduceSub, Array.replicate_succ, Array.replicate_zero, List.push_toArray, List.append_toArray, List.nil_append, List.cons_append]
 gi_wp2
 have bO := Boxed.new w 106 (.slice none 0 0)
 have hB0 : Below w.heap.size w (w.alloc (.cells #[.slice none 0 0] 106)) := (Below.refl _ w).alloc (Nat.le_refl _) _
 refine wpIn_rangeFunc_ownH rfl h1 (gf := G) (lb := #[.pointer (some ⟨Bm, 0, none⟩)]) rfl trivial hG
  (hst _ hB0) walksK_t walksK_b (Below.refl _ _) (fun _ => rfl)
  (fun pre W => (∃ v, Boxed W w.heap.size 106 v ∧ W.ownsRow w.heap.size 39 32 v 0 [] ∧ v = .slice none 0 0) ∧ Below w.heap.size w W)
  (fun _ _ _ => False)
  (OwnFrom.and (Own.from (holdsRow_own w.heap.size w.heap.size 106 39 32 (fun _ => 0) (fun _ => []) (fun _ v => v = .slice none 0 0)) _) (ownFrom_below (Nat.le_refl _) (by simp)))
  (fun _ _ _ _ _ hs _ _ => hs)
  ⟨⟨_, bO, World.ownsRow_nil _ _ _ _, rfl⟩, hB0⟩
  (fun x a' W => False) ?hAx ?assign ?body ?done ?stop
 case hAx => rintro x; exact x.elim
 case assign => rintro l pre x; exact x.elim
 case body => rintro l pre x; exact x.elim
 case done =>
  rintro D ys W hD hps ⟨⟨v, hv, hrow, rfl⟩, hB⟩ hK
  have hc := hv.cell
  gi_wp2
  refine ⟨by simp, .inl ⟨_, _, rfl, run_takeDeferred hK, ?_⟩⟩
  exact ⟨_, results_tmp rfl _ _ _, rfl, hB.trans (belowK_b (w := w) (Nat.le_refl _) W D _ _ (by simp at hD; omega) hK rfl rfl)⟩
 case stop =>
  rintro D c pre W _ _ h _
  exact h.elim
theorem SortedS (G : Nat) (hG : ∀ args w, (callFunc G args).run Tryz.prog w = .ok (.enter G args) w) (Bm : Nat) (w : World) (hBm : Bm < w.heap.size)
  (hst : ∀ w0, Below w.heap.size w w0 → SeqStopsK Fence.wide 2 Tryz.prog G #[.pointer (some ⟨Bm, 0, none⟩)] (fun x : Empty => #[x.elim]) KeepsWalks (fun _ => True) (fun _ => True) 400 w0) (cm : Value) :
  Calls Tryz.prog 117 #[.func (.func G) #[] #[.pointer (some ⟨Bm, 0, none⟩)], cm] w (NilS w) := by
 have hc := hid (callsIn_wide.1 (appendSeqS 3 (Nat.le_refl _) G hG Bm w hBm hst))
 clear hst
 have hco : Hid (Calls Tryz.prog 197 #[.func (.func G) #[] #[.pointer (some ⟨Bm, 0, none⟩)]] w (NilS w)) := hid (by
  go_enter Tryz.func197, Tryz.ntmps197
  go_wp2_with (go_at_call 304; refine hc.out.mono ?_; rintro e w1 ⟨rfl, hp⟩)
  go_ret
  exact ⟨rfl, hp⟩)
 clear hc
 go_enter Tryz.func117, Tryz.ntmps117
 go_wp2_with (first
  | (go_at_call 198; refine (SortFuncS none 0 0 cm w2 (by decide)).mono ?_; rintro e w3 ⟨rfl, rfl⟩)
  | (go_at_call 197; refine hco.out.mono ?_; rintro e w2 ⟨rfl, hb2⟩))
 go_ret
 exact ⟨rfl, hb2⟩
theorem VotesKeys_ok (b : Nat) (w : World) : Calls Tryz.prog 118 #[.map (some b)] w fun e w' => e = .returned (.func (.func 199) #[] #[.pointer (some ⟨w.heap.size, 0, none⟩)]) ∧ w'.cell? ⟨w.heap.size, 0, none⟩ = some (.map (some b)) ∧ Below w.heap.size w w' ∧ w'.heap.size = w.heap.size + 1 := by
 obtain ⟨N, HN⟩ := hidE w.heap.size
 have hsz : w.heap.size = N := HN.out.symm
 go_enter Tryz.func118, Tryz.ntmps118
 go_wp2
 go_ret
 exact ⟨by rw [hsz]; rfl, by simp, (Below.refl _ w).alloc (Nat.le_refl _) _, by simp⟩
theorem VotesSorted_ok (N b : Nat) (w : World) (h1 : N < w.heap.size) (h2 : w.cell? ⟨N, 0, none⟩ = some (.map (some b))) (hM : MapD w b (fun _ => none)) (cm : Value) :
  Calls Tryz.prog 117 #[.func (.func 199) #[] #[.pointer (some ⟨N, 0, none⟩)], cm] w (NilS w) :=
 SortedS _ (enters_of Tryz.func199 (by kernel_rfl) rfl) N w h1 (fun w0 hb0 => keysS_S 2 (by decide) N b w0 (Nat.lt_of_lt_of_le h1 hb0.size) ((hb0.cell (p := ⟨N, 0, none⟩) h1).trans h2) (hM.below hb0 hM.lt)) cm
end Go.Proofs.YtdhipjoplkpgmaaGreatDoor.hf
