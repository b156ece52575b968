/-
  Contract of wrap.contextOf; facts of an envelope that was read; what the opening of an envelope answers; arrays held to be unlike. Conditions: as stated. Maps keyed by IDs, all values true: reading and writing one. Conditions: IDs of 16 octets. Maps keyed by IDs, with any values: reading, writing, deleting, ranging. Conditions: IDs of 16 octets.
-/
import Derived.Test.YtbjmadcbhkeenaaGreatCWsD
import Derived.Test.YtbjmadcbhkeenaaGreatCWrM
import Derived.Test.YtbjmadcbhkeenaaGreatCWrN
import Derived.Test.YtbjmadcbhkeenaaGreatCShG
import Derived.Test.YtbjmadcbhkeenaaGreatCEqA
import Derived.Test.YtbjmadcbhkeenaaGreatCWrL
import Derived.Test.YtbjmadcbhkeenaaGreatCMem
import Derived.WideKeyRuns
import Derived.Maps.RangeWalk
set_option maxRecDepth 100000
set_option linter.unusedSimpArgs false
set_option linter.unusedVariables false
namespace Go.Proofs.YtbjmadcbhkeenaaGreat.wr
open Go.RowKit st hs shr sh
theorem yieldsIf_neM {P : Program} {ops : Array Oper} {S : World → Prop} {op : Oper} {a : Act} (hw : Region.wanted op (yielded ops a.tmps) = true) (ty ty2 : TypeId) (x y : Operand) (ho : op.op = .binOp .neq ty x y ty2)
  (A B : Array Value) (hx : a.eval x = .agg A) (hy : a.eval y = .agg B) (b : Bool) (he : ∀ w, (Op.equalIn 10000 ty (.agg A) (.agg B)).run P w = .ok b w) (hm : P.eqGuardType P.depth ty = false) : YieldsIf P ops S op (.bool !b) a :=
 .inl ⟨hw, fun w hw' => by
  unfold execOp
  simp [ho, hx, hy, run_eqGuard_agg, run_neq_struct, hm, he w, Result.andThen]⟩
theorem run_eq_tag (w : World) (s t : List Int) (hs : s.length = 16) (ht : t.length = 16) : (Op.equalIn 10000 55 (.agg (s.map (Value.int .u8)).toArray) (.agg (t.map (Value.int .u8)).toArray)).run Tryz.prog w = .ok (s == t) w :=
 run_equalIn_ints w 9998 55 5 16 .u8 Tryz.underlying55 Tryz.underlying5 size5' s t hs ht
theorem run_eq_sum' (w : World) (s t : List Int) (hs : s.length = 32) (ht : t.length = 32) : (Op.equalIn 10000 54 (.agg (s.map (Value.int .u8)).toArray) (.agg (t.map (Value.int .u8)).toArray)).run Tryz.prog w = .ok (s == t) w :=
 run_equalIn_ints w 9998 54 5 32 .u8 Tryz.underlying54 Tryz.underlying5 size5' s t hs ht
theorem readX_v {l : List Int} : (readX l).v = 1 ∨ (readX l).v = 2 := by
 unfold readX
 split
 ·exact Or.inr rfl
 ·exact Or.inl rfl
theorem readX_e {l : List Int} (ho : Octs l) : 0 ≤ (readX l).e ∧ (readX l).e ≤ 4294967295 := by
 unfold readX
 split <;> exact numL4_b ho 4
theorem readX_err {l : List Int} (ho : Octs l) : errV (readX l) = 0 := by
 unfold errV
 rw [if_neg (fun h => h readX_v), if_neg (fun h => h (readX_e ho)), if_neg ?_]
 intro h
 apply h.2
 have h1 := h.1
 unfold readX at h1 ⊢
 split at h1
 ·cases h1
 ·rename_i hn
  rw [if_neg hn]
  exact ⟨rfl, rfl⟩
def secretX (k : List Int) (x : Env) : List Int := wrapL k x.e x.n x.g
def openE (k : List Int) (x : Env) (c : List Int) : Int := if nameL k ≠ x.b then 6 else if x.v = 2 ∧ sumL 0 c ≠ x.c then 17 else if tagX k x c ≠ x.t then 13 else if x.v = 2 ∧ nameL (secretX k x) ≠ x.o then 13 else 0
def openV (k : List Int) (x : Env) (c : List Int) : Value := .tuple #[.agg ((if openE k x c = 0 then secretX k x else List.replicate 32 0).map (Value.int .u8)).toArray, .int .i64 (openE k x c)]
theorem secretX_length {k : List Int} {x : Env} (h : x.Ok) : (secretX k x).length = 32 := by unfold secretX; rw [wrapL_length, h.gl]
theorem secretX_octs {k : List Int} {x : Env} (h : x.Ok) : Octs (secretX k x) := coverL_octs _ _ h.go
set_option maxHeartbeats 2000000 in
theorem contextOf_any (ao : Option Addr) (cap n : Nat) (l : List Int) (w : World) (hn : n = l.length) (HP : Pt.Ok w ⟨ao, cap, l⟩) (hm : n ≤ 1048576) :
  Calls Tryz.prog 43 #[.slice ao n cap] w fun e w' => e = .returned (.agg ((sumL 0 l).map (Value.int .u8)).toArray) ∧ Below w.heap.size w w' := by
 obtain ⟨B, HB⟩ : ∃ B, Hid (B = w.heap.size) := ⟨_, rfl⟩
 have hsz : w.heap.size = B := HB.out.symm
 obtain ⟨Z, HZ⟩ : ∃ Z, Hid (Z = zSum) := ⟨_, rfl⟩
 have hz32 := hid zeroSumZ
 rw [← HZ.out] at hz32
 have hZl : Z.length = 32 := by rw [HZ.out]; simp [zSum]
 obtain ⟨S, HS⟩ : ∃ S : List Value, Hid (S = (sumL 0 l).map (Value.int .u8)) := ⟨_, rfl⟩
 have hSl : S.length = 32 := by rw [HS.out, List.length_map, sumL_length]
 have hS1 : ∀ u ∈ S, u.oneCell' = true := by rw [HS.out]; exact ints_one _ _
 have HN := hid hn
 have hsum := fun (y : World) (hb : Below B w y) => hid (sumOf_in 0 ⟨by decide, by decide⟩ ao cap n l y HN.out (HP.below (hsz ▸ hb)) hm)
 rw [← HS.out] at hsum ⊢
 clear hn HP
 go_enter Tryz.func43, Tryz.ntmps43
 go_wp2_with (first | (refine wl_storeV rfl 54 _ _ rfl 54 B rfl S rfl 32 aggSumT hSl Z hR4 hZl hS1 ?_; intro w5 hR5 hb5 hs5; have bb5 := bb4.trans (hb5.mono (Nat.le_refl _)); clear hR4 bb4 hb5) | (refine wl_load rfl 54 _ rfl ⟨g, 0, none⟩ rfl S (by rw [hSl]; exact aggSumT) hE4.at0 ?_) | (refine wl_storeV rfl 54 _ _ rfl 54 g rfl S rfl 32 aggSumT hSl Z hE3 hZl hS1 ?_; intro w4 hE4 hb4 hs4; have hR4 := hR3.below hb4 (by omega); have bb4 := bb3.trans (hb4.mono (by omega : B ≤ _)); clear hR3 bb3 hb4 hE3) | (refine wl_allocV rfl 54 rfl Z hz32.out w2.heap.size rfl ?_; intro w3 hE3 hb3 hs3; obtain ⟨g, HG⟩ : ∃ g, Hid (g = w2.heap.size) := ⟨_, rfl⟩; rw [← HG.out] at hE3 hb3 hs3; rw [← HG.out]; have hgB : B < g := (by rw [HG.out]; exact hR2.lt); have hR3 := hR2.below hb3 hgB; have bb3 := bb2.trans (hb3.mono (by omega : B ≤ _)); clear hR2 bb2 hb3) | (go_at_call 68; refine (hsum w1 hb1).out.mono ?_; rintro e w2 ⟨rfl, hb2⟩; have hR2 := hR1.below hb2 (by omega); have bb2 := hb1.trans (hb2.mono (by omega : B ≤ _)); clear hR1 hb1 hb2) | (refine wl_allocV rfl 54 rfl Z hz32.out B hsz ?_; intro w1 hR1 hb1 hs1))
 (try simp only [Exit.inBlock, Exit.then]); refine bodyPost_ret (results_cell rfl _ _ _ _ rfl S (by rw [hSl]; exact aggSumT) hR5.at0) rfl ?_
 exact ⟨rfl, by rw [← HB.out]; exact bb5⟩
end Go.Proofs.YtbjmadcbhkeenaaGreat.wr
namespace Go.Proofs.YtbjmadcbhkeenaaGreat.wr
open Go.RowKit st hs shr sh
def idV (l : List Int) : Value := .agg (l.map (Value.int .u8)).toArray
theorem run_equal_id (w : World) (s t : List Int) (hs : s.length = 16) (ht : t.length = 16) : (Op.equal 27 (idV s) (idV t)).run Tryz.prog w = .ok (s == t) w := run_eq_id w s t hs ht
theorem check_id (w : World) (b : Bool) (l : List Int) (hll : l.length = 16) : (Instr.checkKey b 10000 27 (idV l)).run Tryz.prog w = .ok () w := by
 obtain ⟨a0, a1, a2, a3, a4, a5, a6, a7, a8, a9, a10, a11, a12, a13, a14, a15, rfl⟩ : ∃ a0 a1 a2 a3 a4 a5 a6 a7 a8 a9 a10 a11 a12 a13 a14 a15, l = [a0, a1, a2, a3, a4, a5, a6, a7, a8, a9, a10, a11, a12, a13, a14, a15] := by
  refine ⟨l[0], l[1], l[2], l[3], l[4], l[5], l[6], l[7], l[8], l[9], l[10], l[11], l[12], l[13], l[14], l[15], List.ext_getElem (by simp [hll]) fun i h1 h2 => ?_⟩
  have : i < 16 := by omega
  match i, this with
  | 0, _ => rfl
  | 1, _ => rfl
  | 2, _ => rfl
  | 3, _ => rfl
  | 4, _ => rfl
  | 5, _ => rfl
  | 6, _ => rfl
  | 7, _ => rfl
  | 8, _ => rfl
  | 9, _ => rfl
  | 10, _ => rfl
  | 11, _ => rfl
  | 12, _ => rfl
  | 13, _ => rfl
  | 14, _ => rfl
  | 15, _ => rfl
  | i + 16, h => exact absurd h (by omega)
 kernel_rfl
end Go.Proofs.YtbjmadcbhkeenaaGreat.wr
namespace Go.Proofs.YtbjmadcbhkeenaaGreat.lk
open Go.RowKit wr Go.ChangeMaps
theorem ints_inj : ∀ {a b : List Int}, a.map (Value.int .u8) = b.map (Value.int .u8) → a = b
 | [], [], _ => rfl
 | [], _ :: _, h => by simp at h
 | _ :: _, [], h => by simp at h
 | x :: a, y :: b, h => by
  simp only [List.map_cons, List.cons.injEq, Value.int.injEq, true_and] at h
  rw [h.1, ints_inj h.2]
theorem idV_inj {a b : List Int} (h : idV a = idV b) : a = b := by
 unfold idV at h
 have h2 : (a.map (Value.int .u8)).toArray = (b.map (Value.int .u8)).toArray := by injection h
 exact ints_inj (by simpa using congrArg Array.toList h2)
structure Ents (es : List MapEntry) (clock : Nat) (D : Mp Value) : Prop where
 key : ∀ e ∈ es, ∃ k : Id, k.length = 16 ∧ e.key = idV k ∧ D k = some e.val
 all : ∀ k v, D k = some v → ∃ e ∈ es, e.key = idV k
 apart : es.Pairwise fun x y => x.key ≠ y.key
 born : (es.map (·.born)).Nodup
 old : ∀ e ∈ es, e.born < clock
theorem Ents.nil : Ents [] 0 (fun _ => none) := ⟨(fun e h => by cases h), (fun k v h => by cases h), List.Pairwise.nil, List.Pairwise.nil, (fun e h => by cases h)⟩
theorem Ents.len {es : List MapEntry} {clock : Nat} {D : Mp Value} (h : Ents es clock D) {k : Id} {v : Value} (hk : D k = some v) : k.length = 16 := by
 obtain ⟨e, he, h1⟩ := h.all k v hk
 obtain ⟨k', h2, h3, _⟩ := h.key e he
 rw [← idV_inj (h3.symm.trans h1)]; exact h2
theorem Ents.push {es : List MapEntry} {clock : Nat} {D : Mp Value} (h : Ents es clock D) {k : Id} (hk : k.length = 16) (v : Value) (hn : D k = none) : Ents (es ++ [⟨idV k, v, clock⟩]) (clock + 1) (upd D k v) := by
 refine ⟨fun e he => ?_, fun j u hj => ?_, ?_, ?_, fun e he => ?_⟩
 ·rcases List.mem_append.1 he with he | he
  ·obtain ⟨j, h1, h2, h3⟩ := h.key e he
   refine ⟨j, h1, h2, ?_⟩
   rw [upd_other]
   ·exact h3
   ·intro e; rw [e, hn] at h3; cases h3
  ·rw [List.mem_singleton.1 he]
   exact ⟨k, hk, rfl, upd_same ..⟩
 ·by_cases hjk : j = k
  ·exact ⟨_, List.mem_append_right _ (List.mem_singleton_self _), by rw [hjk]⟩
  ·rw [upd_other _ _ hjk] at hj
   obtain ⟨e, he, h1⟩ := h.all j u hj
   exact ⟨e, List.mem_append_left _ he, h1⟩
 ·refine List.pairwise_append.2 ⟨h.apart, List.pairwise_singleton _ _, fun x hx y hy => ?_⟩
  rw [List.mem_singleton.1 hy]
  obtain ⟨j, _, h2, h3⟩ := h.key x hx
  intro e
  rw [idV_inj (h2.symm.trans e), hn] at h3
  cases h3
 ·rw [List.map_append, List.map_cons, List.map_nil]
  refine List.nodup_append.2 ⟨h.born, by simp, fun x hx y hy => ?_⟩
  rw [List.mem_singleton.1 hy]
  obtain ⟨e, he, rfl⟩ := List.mem_map.1 hx
  have := h.old e he
  show e.born ≠ clock
  omega
 ·rcases List.mem_append.1 he with he | he
  ·have := h.old e he; omega
  ·rw [List.mem_singleton.1 he]; exact Nat.lt_succ_self _
theorem Ents.others {l1 l2 : List MapEntry} {e : MapEntry} {clock : Nat} {D : Mp Value} (h : Ents (l1 ++ e :: l2) clock D) : (∀ x ∈ l1, x.key ≠ e.key) ∧ ∀ x ∈ l2, x.key ≠ e.key := by
 obtain ⟨h1, h2, h3⟩ := List.pairwise_append.1 h.apart
 exact ⟨fun x hx => h3 x hx e (List.mem_cons_self ..), fun x hx g => (List.pairwise_cons.1 h2).1 x hx g.symm⟩
theorem Ents.put {l1 l2 : List MapEntry} {e : MapEntry} {clock : Nat} {D : Mp Value} (h : Ents (l1 ++ e :: l2) clock D) {k : Id} (hk : e.key = idV k) (v : Value) : Ents (l1 ++ ⟨idV k, v, e.born⟩ :: l2) clock (upd D k v) := by
 obtain ⟨o1, o2⟩ := h.others
 have hmem : ∀ x ∈ l1 ++ ⟨idV k, v, e.born⟩ :: l2, (x = ⟨idV k, v, e.born⟩) ∨ (x ∈ l1 ++ e :: l2 ∧ x.key ≠ e.key) := fun x hx => by
  rcases List.mem_append.1 hx with hx | hx
  ·exact Or.inr ⟨List.mem_append_left _ hx, o1 x hx⟩
  ·rcases List.mem_cons.1 hx with hx | hx
   ·exact Or.inl hx
   ·exact Or.inr ⟨List.mem_append_right _ (List.mem_cons_of_mem _ hx), o2 x hx⟩
 have hmap : ∀ {β : Type} (f : MapEntry → β), f ⟨idV k, v, e.born⟩ = f e → (l1 ++ ⟨idV k, v, e.born⟩ :: l2).map f = (l1 ++ e :: l2).map f := fun f hf => by simp [hf]
 have hk16 : k.length = 16 := by
  obtain ⟨j, h1, h2, _⟩ := h.key e (by simp)
  rw [idV_inj (hk.symm.trans h2)]; exact h1
 refine ⟨fun x hx => ?_, fun j u hj => ?_, ?_, ?_, fun x hx => ?_⟩
 ·rcases hmem x hx with rfl | ⟨hx, hne⟩
  ·exact ⟨k, hk16, rfl, upd_same ..⟩
  ·obtain ⟨j, h1, h2, h3⟩ := h.key x hx
   refine ⟨j, h1, h2, ?_⟩
   rw [upd_other]
   ·exact h3
   ·intro g; exact hne (by rw [h2, hk, g])
 ·by_cases hjk : j = k
  ·exact ⟨⟨idV k, v, e.born⟩, by simp, by rw [hjk]⟩
  ·rw [upd_other _ _ hjk] at hj
   obtain ⟨x, hx, h1⟩ := h.all j u hj
   have hxe : x ≠ e := fun g => hjk (idV_inj (by rw [← h1, g, hk]))
   refine ⟨x, ?_, h1⟩
   rcases List.mem_append.1 hx with hx | hx
   ·exact List.mem_append_left _ hx
   ·rcases List.mem_cons.1 hx with hx | hx
    ·exact absurd hx hxe
    ·exact List.mem_append_right _ (List.mem_cons_of_mem _ hx)
 ·have := (List.pairwise_map (f := fun x : MapEntry => x.key) (R := fun x y => x ≠ y)).2 h.apart
  rw [← hmap (fun x => x.key) hk.symm] at this
  exact List.pairwise_map.1 this
 ·have := h.born
  rwa [← hmap (fun x => x.born) rfl] at this
 ·rcases hmem x hx with rfl | ⟨hx, _⟩
  ·exact h.old e (by simp)
  ·exact h.old x hx
def dele {β : Type} (D : Mp β) (k : Id) : Mp β := fun j => if j = k then none else D j
theorem Ents.drop {l1 l2 : List MapEntry} {e : MapEntry} {clock : Nat} {D : Mp Value} (h : Ents (l1 ++ e :: l2) clock D) {k : Id} (hk : e.key = idV k) : Ents (l1 ++ l2) clock (dele D k) := by
 obtain ⟨o1, o2⟩ := h.others
 have hsub : (l1 ++ l2).Sublist (l1 ++ e :: l2) := List.Sublist.append_left (List.sublist_cons_self ..) l1
 have hmem : ∀ x ∈ l1 ++ l2, x ∈ l1 ++ e :: l2 ∧ x.key ≠ e.key := fun x hx => ⟨hsub.subset hx, by
  rcases List.mem_append.1 hx with hx | hx
  ·exact o1 x hx
  ·exact o2 x hx⟩
 refine ⟨fun x hx => ?_, fun j u hj => ?_, h.apart.sublist hsub, h.born.sublist (hsub.map _), fun x hx => h.old x (hmem x hx).1⟩
 ·obtain ⟨h0, hne⟩ := hmem x hx
  obtain ⟨j, h1, h2, h3⟩ := h.key x h0
  refine ⟨j, h1, h2, ?_⟩
  unfold dele
  rw [if_neg (fun g => hne (by rw [h2, hk, g]))]
  exact h3
 ·unfold dele at hj
  split at hj
  ·cases hj
  ·rename_i hjk
   obtain ⟨x, hx, h1⟩ := h.all j u hj
   have hxe : x ≠ e := fun g => hjk (idV_inj (by rw [← h1, g, hk]))
   refine ⟨x, ?_, h1⟩
   rcases List.mem_append.1 hx with hx | hx
   ·exact List.mem_append_left _ hx
   ·rcases List.mem_cons.1 hx with hx | hx
    ·exact absurd hx hxe
    ·exact List.mem_append_right _ hx
def MapD (w : World) (b : Nat) (D : Mp Value) : Prop := ∃ es clock, w.heap[b]? = some (.map es clock) ∧ Ents es.toList clock D
theorem MapD.new {w : World} {b : Nat} (h : w.heap[b]? = some (.map #[] 0)) : MapD w b (fun _ => none) := ⟨#[], 0, h, Ents.nil⟩
theorem MapD.lt {w : World} {b : Nat} {D : Mp Value} (h : MapD w b D) : b < w.heap.size := by
 obtain ⟨es, c, h, _⟩ := h
 exact (Array.getElem?_eq_some_iff.1 h).1
theorem MapD.len {w : World} {b : Nat} {D : Mp Value} (h : MapD w b D) {k : Id} {v : Value} (hk : D k = some v) : k.length = 16 := by
 obtain ⟨es, c, _, h⟩ := h
 exact h.len hk
theorem MapD.of_block {w w' : World} {b : Nat} {D : Mp Value} (h : MapD w b D) (hb : w'.heap[b]? = w.heap[b]?) : MapD w' b D := by
 obtain ⟨es, c, h1, h2⟩ := h
 exact ⟨es, c, hb.trans h1, h2⟩
theorem MapD.below {w w' : World} {b B : Nat} {D : Mp Value} (h : MapD w b D) (hb : Below B w w') (hB : b < B) : MapD w' b D := h.of_block (hb.block b hB)
theorem MapD.grown {w w' : World} {b : Nat} {D : Mp Value} {row : Option Nat} (h : MapD w b D) (hg : w.grownBy w' row) (hr : row ≠ some b) : MapD w' b D := h.of_block (hg.block b h.lt (fun e => hr e.symm))
theorem MapD.iff {w : World} {b : Nat} {D D' : Mp Value} (h : MapD w b D) (e : ∀ k, D k = D' k) : MapD w b D' := by
 have : D = D' := funext e
 rw [← this]; exact h
theorem asks (w : World) (l : Id) (hl : l.length = 16) : ∀ (es : List MapEntry) (i : Nat), (∀ e ∈ es, ∃ k : Id, k.length = 16 ∧ e.key = idV k) →
  ((∀ e ∈ es, e.key ≠ idV l) ∧ (Instr.findAsking 27 (idV l) es i).run Tryz.prog w = .ok none w) ∨ ∃ l1 e l2, es = l1 ++ e :: l2 ∧ e.key = idV l ∧ (Instr.findAsking 27 (idV l) es i).run Tryz.prog w = .ok (some (i + l1.length, e.val)) w
 | [], i, _ => Or.inl ⟨(fun e h => by cases h), rfl⟩
 | e :: es, i, h => by
  obtain ⟨s, hs, hse⟩ := h e (List.mem_cons_self ..)
  have hq := run_equal_id w l s hl hs
  rw [← hse] at hq
  have hstep : Instr.findAsking 27 (idV l) (e :: es) i = (do if ← Op.equal 27 (idV l) e.key then pure (some (i, e.val)) else Instr.findAsking 27 (idV l) es (i + 1)) := rfl
  by_cases hls : l = s
  ·right
   refine ⟨[], e, es, rfl, by rw [hse, hls], ?_⟩
   rw [show (l == s) = true by simp [hls]] at hq
   rw [hstep]
   simp [Sem.run_bind, hq, Result.andThen]
  ·rw [show (l == s) = false by simp [hls]] at hq
   have hne : e.key ≠ idV l := fun g => hls (idV_inj (by rw [← g, hse]))
   rcases asks w l hl es (i + 1) (fun x hx => h x (List.mem_cons_of_mem _ hx)) with ⟨h1, h2⟩ | ⟨l1, x, l2, h1, h2, h3⟩
   ·left
    refine ⟨fun x hx => ?_, ?_⟩
    ·rcases List.mem_cons.1 hx with rfl | hx
     ·exact hne
     ·exact h1 x hx
    ·rw [hstep]; simp [Sem.run_bind, hq, Result.andThen, h2]
   ·right
    refine ⟨e :: l1, x, l2, by rw [h1]; rfl, h2, ?_⟩
    rw [hstep]
    simp only [Sem.run_bind, hq, Result.andThen]
    rw [if_neg (by simp), h3, List.length_cons, show i + 1 + l1.length = i + (l1.length + 1) by omega]
theorem finds {w : World} {es : List MapEntry} {clock : Nat} {D : Mp Value} (h : Ents es clock D) (l : Id) (hl : l.length = 16) :
  (D l = none ∧ (Instr.findKey 27 (idV l) es).run Tryz.prog w = .ok none w) ∨ ∃ l1 e l2, es = l1 ++ e :: l2 ∧ e.key = idV l ∧ D l = some e.val ∧ (Instr.findKey 27 (idV l) es).run Tryz.prog w = .ok (some (l1.length, e.val)) w := by
 rw [run_findKey_eq w (by kernel_rfl)]
 rcases asks w l hl es 0 (fun e he => by obtain ⟨k, h1, h2, _⟩ := h.key e he; exact ⟨k, h1, h2⟩) with ⟨h1, h2⟩ | ⟨l1, e, l2, h1, h2, h3⟩
 ·left
  refine ⟨?_, h2⟩
  cases hd : D l with
  | none => rfl
  | some v =>
   obtain ⟨e, he, h3⟩ := h.all l v hd
   exact absurd h3 (h1 e he)
 ·right
  obtain ⟨k, _, k2, k3⟩ := h.key e (by rw [h1]; simp)
  have : l = k := idV_inj (h2.symm.trans k2)
  rw [Nat.zero_add] at h3
  exact ⟨l1, e, l2, h1, h2, by rw [this]; exact k3, h3⟩
theorem run_lookD {w : World} {b : Nat} {D : Mp Value} (h : MapD w b D) (t et : TypeId) (ht : Tryz.prog.underlying t = some (.map 27 et)) (z : Value) (hz : (zeroValue et).run Tryz.prog w = .ok z w) (l : Id) (hl : l.length = 16) (ok : Bool) :
  (Instr.lookup t (.map (some b)) (idV l) ok).run Tryz.prog w = .ok (if ok then .tuple #[(D l).getD z, .bool (D l).isSome] else (D l).getD z) w := by
 obtain ⟨es, clock, hb, hE⟩ := h
 rcases finds (w := w) hE l hl with ⟨h1, h2⟩ | ⟨l1, e, l2, h1, h2, h3, h4⟩
 ·simp [Instr.lookup, run_underlying ht, MapKept.run_getObj_map hb, check_id, hl, h2, hz, Result.andThen, h1]
 ·simp [Instr.lookup, run_underlying ht, MapKept.run_getObj_map hb, check_id, hl, h4, Result.andThen, h3]
theorem wl_lookD {w : World} {ops : Array Oper} {rest : List Oper} {o : Oper} {a : Act} {Q : Exit → Act → World → Prop} (hgd : Region.wanted o (yielded ops a.tmps) = true) (t et : TypeId) (m x : Operand) (ok : Bool) (ho : o.op = .lookup t m x ok)
  (ht : Tryz.prog.underlying t = some (.map 27 et)) (z : Value) (hz : (zeroValue et).run Tryz.prog w = .ok z w) (b : Nat) (D : Mp Value) (h : MapD w b D) (l : Id) (hl : l.length = 16) (hmv : a.eval m = .map (some b)) (hx : a.eval x = idV l)
  (v : Value) (hv : (if ok then .tuple #[(D l).getD z, .bool (D l).isSome] else (D l).getD z) = v) (hK : wpList Tryz.prog ops Q rest (a.put o.dst v) w) : wpList Tryz.prog ops Q (o :: rest) a w := by
 subst hv
 have hrun := run_lookD h t et ht z hz l hl ok
 refine wpList_step fun K hK' => ?_
 rw [if_pos hgd]
 unfold Oper.wp
 simp only [execOp, ho, hmv, hx, hrun, Sem.run_bind, Result.andThen_ok, Sem.run_pure]
 exact hK' _ _ hK
theorem sameBits_id (n : Nat) (l : Id) : Instr.sameBits (n + 1) (idV l) (idV l) = true := by
 unfold idV
 have hz : ∀ l : List Int, ((l.map (Value.int .u8)).zip (l.map (Value.int .u8))).all (fun (x, y) => Instr.sameBits n x y) = true := fun l => by
  induction l with
  | nil => rfl
  | cons a r ih =>
   rw [List.map_cons, List.zip_cons_cons, List.all_cons, ih]
   cases n <;> simp [Instr.sameBits]
 simp only [Instr.sameBits, List.size_toArray, beq_self_eq_true, Bool.true_and]
 simpa using hz l
theorem modify_mid (l1 l2 : List MapEntry) (e : MapEntry) (f : MapEntry → MapEntry) (es : Array MapEntry) (h : es.toList = l1 ++ e :: l2) : (es.modify l1.length f).toList = l1 ++ f e :: l2 := by
 rw [Array.toList_modify, h]
 clear h
 induction l1 with
 | nil => rfl
 | cons a l ih => simp [ih]
theorem erase_mid (l1 l2 : List MapEntry) (e : MapEntry) (es : Array MapEntry) (h : es.toList = l1 ++ e :: l2) : (es.eraseIdxIfInBounds l1.length).toList = l1 ++ l2 := by
 have hlt : l1.length < es.size := by
  have := congrArg List.length h
  simp at this
  omega
 unfold Array.eraseIdxIfInBounds
 rw [dif_pos hlt, Array.toList_eraseIdx, h]
 clear h hlt
 induction l1 with
 | nil => rfl
 | cons a l ih => simp [ih]
theorem run_updD {w : World} {b : Nat} {D : Mp Value} (h : MapD w b D) (t et : TypeId) (ht : Tryz.prog.underlying t = some (.map 27 et)) (l : Id) (hl : l.length = 16) (v : Value) :
  ∃ w', (Instr.mapUpdate t (.map (some b)) (idV l) v).run Tryz.prog w = .ok () w' ∧ MapD w' b (upd D l v) ∧ Below b w w' ∧ w'.heap.size = w.heap.size ∧ w.grownBy w' (some b) := by
 obtain ⟨es, clock, hb, hE⟩ := h
 rcases finds (w := w) hE l hl with ⟨h1, h2⟩ | ⟨l1, e, l2, h1, h2, h3, h4⟩
 ·obtain ⟨s1, s2⟩ := MapKept.heap_set (o' := .map (es.push ⟨idV l, v, clock⟩) (clock + 1)) hb
  refine ⟨{ w with heap := w.heap.setIfInBounds b (.map (es.push ⟨idV l, v, clock⟩) (clock + 1)) }, ?_, ⟨_, _, s1, by rw [Array.toList_push]; exact hE.push hl v h1⟩, ⟨rfl, rfl, rfl, by simp, fun j hj => s2 j (by omega)⟩, by simp, ⟨rfl, rfl, rfl, by simp, fun j _ hj => s2 j (fun e => hj (by rw [e]))⟩⟩
  simp [Instr.mapUpdate, run_underlying ht, MapKept.run_getObj_map hb, check_id, hl, h2, MapKept.run_setObj_map _ hb, Result.andThen]
 ·obtain ⟨s1, s2⟩ := MapKept.heap_set (o' := .map (es.modify l1.length fun e => { e with key := idV l, val := v }) clock) hb
  have hk : (es[l1.length]?).map (·.key) = some (idV l) := by
   rw [← Array.getElem?_toList, h1]
   simp [h2]
  have hstay : (Instr.keyThatStays (((es[l1.length]?).map (·.key)).getD (idV l)) (idV l)).run Tryz.prog w = .ok (idV l) w := by
   rw [hk]
   unfold Instr.keyThatStays
   rw [Option.getD_some, if_pos (sameBits_id 9999 l)]
   rfl
  refine ⟨{ w with heap := w.heap.setIfInBounds b (.map (es.modify l1.length fun e => { e with key := idV l, val := v }) clock) }, ?_, ⟨_, _, s1, by rw [modify_mid l1 l2 e _ es h1]; rw [h1] at hE; exact hE.put h2 v⟩, ⟨rfl, rfl, rfl, by simp, fun j hj => s2 j (by omega)⟩, by simp, ⟨rfl, rfl, rfl, by simp, fun j _ hj => s2 j (fun e => hj (by rw [e]))⟩⟩
  simp only [Instr.mapUpdate, Sem.run_bind, run_underlying ht, MapKept.run_getObj_map hb, check_id w false l hl, h4, hstay, MapKept.run_setObj_map _ hb, Result.andThen]
theorem wl_updD {w : World} {ops : Array Oper} {rest : List Oper} {o : Oper} {a : Act} {Q : Exit → Act → World → Prop} (hgd : o.guard = none) (t et : TypeId) (m x y : Operand) (ho : o.op = .mapUpdate t m x y)
  (ht : Tryz.prog.underlying t = some (.map 27 et)) (b : Nat) (D : Mp Value) (h : MapD w b D) (l : Id) (hl : l.length = 16) (hmv : a.eval m = .map (some b)) (hx : a.eval x = idV l) (v : Value) (hv : a.eval y = v)
  (hK : ∀ w', MapD w' b (upd D l v) → Below b w w' → w'.heap.size = w.heap.size → w.grownBy w' (some b) → wpList Tryz.prog ops Q rest (a.put o.dst undef) w') : wpList Tryz.prog ops Q (o :: rest) a w := by
 obtain ⟨w', hrun, h1, h2, h3, h4⟩ := run_updD h t et ht l hl v
 refine wpList_plain hgd fun K hK' => ?_
 unfold Oper.wp
 simp only [execOp, ho, hmv, hx, hv, hrun, Sem.run_bind, Result.andThen_ok, Sem.run_pure]
 exact hK' _ _ (hK w' h1 h2 h3 h4)
theorem wl_insD {w : World} {ops : Array Oper} {rest : List Oper} {o : Oper} {a : Act} {Q : Exit → Act → World → Prop} (hgd : o.guard = none) (t et : TypeId) (m x y : Operand) (ho : o.op = .insert t m x y)
  (ht : Tryz.prog.underlying t = some (.map 27 et)) (b : Nat) (D : Mp Value) (h : MapD w b D) (l : Id) (hl : l.length = 16) (hmv : a.eval m = .map (some b)) (hx : a.eval x = idV l) (v : Value) (hv : a.eval y = v)
  (hK : ∀ w', MapD w' b (upd D l v) → Below b w w' → w'.heap.size = w.heap.size → w.grownBy w' (some b) → wpList Tryz.prog ops Q rest (a.put o.dst undef) w') : wpList Tryz.prog ops Q (o :: rest) a w := by
 obtain ⟨w', hrun, h1, h2, h3, h4⟩ := run_updD h t et ht l hl v
 refine wpList_plain hgd fun K hK' => ?_
 unfold Oper.wp
 simp only [execOp, ho, hmv, hx, hv, hrun, Sem.run_bind, Result.andThen_ok, Sem.run_pure]
 exact hK' _ _ (hK w' h1 h2 h3 h4)
def IterD (w : World) (b r : Nat) (D : Mp Value) (left : Id → Prop) (cnt : Nat) : Prop :=
 ∃ es clock since seen c0, w.heap[b]? = some (.map es clock) ∧ Ents es.toList clock D ∧ w.heap[r]? = some (.mapIter (some b) since seen c0) ∧ (∀ x ∈ es.toList, x.born < since) ∧ since ≤ c0 ∧ since ≤ clock ∧ (leftOf es seen).size = cnt ∧
  (∀ k, left k ↔ ∃ x ∈ es.toList, x.key = idV k ∧ seen.contains x.born = false)
theorem IterD.map {w : World} {b r : Nat} {D : Mp Value} {left : Id → Prop} {cnt : Nat} (h : IterD w b r D left cnt) : MapD w b D := by
 obtain ⟨es, clock, _, _, _, h1, h2, _⟩ := h
 exact ⟨es, clock, h1, h2⟩
theorem IterD.left_eq {w : World} {b r : Nat} {D : Mp Value} {left : Id → Prop} {cnt : Nat} (h : IterD w b r D left cnt) : w.rangeLeft b r = cnt := by
 obtain ⟨es, clock, since, seen, c0, hb, _, hr, _, _, _, hc, _⟩ := h
 simp only [World.rangeLeft, hb, hr]
 exact hc
theorem IterD.ne {w : World} {b r : Nat} {D : Mp Value} {left : Id → Prop} {cnt : Nat} (h : IterD w b r D left cnt) : r ≠ b := by
 obtain ⟨es, clock, since, seen, c0, hb, _, hr, _⟩ := h
 intro e
 rw [e, hb] at hr
 cases hr
theorem IterD.lt {w : World} {b r : Nat} {D : Mp Value} {left : Id → Prop} {cnt : Nat} (h : IterD w b r D left cnt) : r < w.heap.size := by
 obtain ⟨es, clock, since, seen, c0, _, _, hr, _⟩ := h
 exact (Array.getElem?_eq_some_iff.1 hr).1
theorem IterD.keep {w w' : World} {b r : Nat} {D : Mp Value} {left : Id → Prop} {cnt : Nat} (h : IterD w b r D left cnt) (h1 : w'.heap[b]? = w.heap[b]?) (h2 : w'.heap[r]? = w.heap[r]?) : IterD w' b r D left cnt := by
 obtain ⟨es, clock, since, seen, c0, hb, hE, hr, rest⟩ := h
 exact ⟨es, clock, since, seen, c0, h1.trans hb, hE, h2.trans hr, rest⟩
theorem IterD.below {w w' : World} {b r B : Nat} {D : Mp Value} {left : Id → Prop} {cnt : Nat} (h : IterD w b r D left cnt) (hb : Below B w w') (h1 : b < B) (h2 : r < B) : IterD w' b r D left cnt := h.keep (hb.block b h1) (hb.block r h2)
theorem IterD.grown {w w' : World} {b r : Nat} {D : Mp Value} {left : Id → Prop} {cnt : Nat} {row : Option Nat} (h : IterD w b r D left cnt) (hg : w.grownBy w' row) (h1 : row ≠ some b) (h2 : row ≠ some r) : IterD w' b r D left cnt :=
 h.keep (hg.block b h.map.lt (fun e => h1 e.symm)) (hg.block r h.lt (fun e => h2 e.symm))
theorem run_rangeD {w : World} {b : Nat} {D : Mp Value} (h : MapD w b D) (t et : TypeId) (ht : Tryz.prog.underlying t = some (.map 27 et)) :
  ∃ w' cnt, (Instr.range t (.map (some b))).run Tryz.prog w = .ok (.pointer (some ⟨w.heap.size, 0, none⟩)) w' ∧ IterD w' b w.heap.size D (fun k => (D k).isSome = true) cnt ∧ Below w.heap.size w w' ∧ w'.heap.size = w.heap.size + 1 := by
 have hlt := h.lt
 obtain ⟨es, clock, hb, hE⟩ := h
 refine ⟨_, _, run_range_map w t 27 et b es clock ht hb, ⟨es, clock, clock, #[], clock, ((MapKept.heap_alloc w _).2 b hlt).trans hb, hE, (MapKept.heap_alloc w _).1, hE.old, Nat.le_refl _, Nat.le_refl _, rfl, fun k => ?_⟩, (Below.refl _ _).alloc (Nat.le_refl _) _, by simp⟩
 dsimp only
 constructor
 ·intro hk
  cases hd : D k with
  | none => rw [hd] at hk; cases hk
  | some v =>
   obtain ⟨e, he, h1⟩ := hE.all k v hd
   exact ⟨e, he, h1, by simp⟩
 ·rintro ⟨e, he, h1, _⟩
  obtain ⟨j, _, h2, h3⟩ := hE.key e he
  rw [idV_inj (h1.symm.trans h2), h3]
  rfl
theorem born_key {es : List MapEntry} {clock : Nat} {D : Mp Value} (h : Ents es clock D) {x e : MapEntry} (hx : x ∈ es) (he : e ∈ es) : x.born = e.born ↔ x.key = e.key := by
 constructor
 ·intro hb
  rw [born_inj h.born hx he hb]
 ·intro hk
  rw [entry_eq_of_key h.apart hx he hk]
theorem IterD.step {w : World} {b r : Nat} {D : Mp Value} {left : Id → Prop} {cnt : Nat} (h : IterD w b r D left cnt) (ty : TypeId) :
  (cnt = 0 ∧ (∀ k, ¬ left k) ∧ (Instr.next (.pointer (some ⟨r, 0, none⟩)) false ty).run Tryz.prog w = .ok (.tuple #[.bool false]) w) ∨
  ∃ k v w' cnt', left k ∧ D k = some v ∧ (Instr.next (.pointer (some ⟨r, 0, none⟩)) false ty).run Tryz.prog w = .ok (.tuple #[.bool true, idV k, v]) w' ∧
   IterD w' b r D (fun j => left j ∧ j ≠ k) cnt' ∧ cnt' < cnt ∧ w.grownBy w' (some r) ∧ w'.heap.size = w.heap.size ∧ (Instr.entry (.pointer (some ⟨r, 0, none⟩))).run Tryz.prog w' = .ok (.tuple #[idV k, v]) w' := by
 have hne := h.ne
 obtain ⟨es, clock, since, seen, c0, hb, hE, hr, hold, hsc, hsk, rfl, hl⟩ := h
 rcases run_next_at (P := Tryz.prog) w ty r b since c0 seen es clock hr hb hold hsc with ⟨h0, hrun⟩ | ⟨e, he, w1, hal, hrun⟩
 ·refine Or.inl ⟨h0, fun k hk => ?_, hrun⟩
  obtain ⟨x, hx, _, h2⟩ := (hl k).1 hk
  rw [all_seen es seen h0 x hx] at h2
  cases h2
 ·obtain ⟨hem, hes⟩ := mem_left he
  obtain ⟨k, hk16, hk, hkv⟩ := hE.key e hem
  have hr1 : w1.heap[r]? = some (.mapIter (some b) since seen c0) := by rcases hal with rfl | rfl <;> exact hr
  have hb1 : w1.heap[b]? = some (.map es clock) := by rcases hal with rfl | rfl <;> exact hb
  have hset := MapKept.heap_set (o' := .mapIter (some b) since (seen.push e.born) clock) hr1
  have hb' : (setBlock w1 r (.mapIter (some b) since (seen.push e.born) clock)).heap[b]? = some (.map es clock) := (hset.2 b (fun e1 => hne e1.symm)).trans hb1
  rw [hk] at hrun
  refine Or.inr ⟨k, e.val, _, _, (hl k).2 ⟨e, hem, hk, hes⟩, hkv, hrun, ⟨es, clock, since, seen.push e.born, clock, hb', hE, hset.1, hold, hsk, hsk, rfl, fun j => ?_⟩, left_shrinks es seen e he, ?_, ?_, ?_⟩
  ·constructor
   ·rintro ⟨h1, h2⟩
    obtain ⟨x, hx, hxk, hxs⟩ := (hl j).1 h1
    refine ⟨x, hx, hxk, ?_⟩
    rw [contains_push, hxs]
    have : ¬ x.born = e.born := fun g => h2 (idV_inj (by rw [← hxk, (born_key hE hx hem).1 g, hk]))
    simp [this]
   ·rintro ⟨x, hx, hxk, hxs⟩
    rw [contains_push, Bool.or_eq_false_iff] at hxs
    refine ⟨(hl j).2 ⟨x, hx, hxk, by simpa using hxs.1⟩, fun g => ?_⟩
    have hx2 := hxs.2
    rw [(born_key hE hx hem).2 (by rw [hxk, hk, g])] at hx2
    simp at hx2
  ·rcases hal with rfl | rfl <;> exact ⟨rfl, rfl, rfl, by simp [setBlock], fun i _ hi => hset.2 i (fun e1 => hi (by rw [e1]))⟩
  ·rcases hal with rfl | rfl <;> simp [setBlock]
  ·rw [← hk]
   exact run_entry_at _ r b since seen es clock e hset.1 hb' hem hE.born
theorem IterD.drop {w : World} {b r : Nat} {D : Mp Value} {left : Id → Prop} {cnt : Nat} (h : IterD w b r D left cnt) (t et : TypeId) (ht : Tryz.prog.underlying t = some (.map 27 et)) (l : Id) (hl : l.length = 16) (ty : TypeId) :
  ∃ w' cnt', (Builtin.delete_ #[t, 27] ty #[.map (some b), idV l]).run Tryz.prog w = .ok (.tuple #[]) w' ∧ IterD w' b r (dele D l) (fun j => left j ∧ j ≠ l) cnt' ∧ cnt' ≤ cnt ∧ w.grownBy w' (some b) ∧ Below b w w' ∧ w'.heap.size = w.heap.size := by
 have hne := h.ne
 obtain ⟨es, clock, since, seen, c0, hb, hE, hr, hold, hsc, hsk, rfl, hlf⟩ := h
 rcases finds (w := w) hE l hl with ⟨h1, h2⟩ | ⟨l1, e, l2, h1, h2, h3, h4⟩
 ·obtain ⟨s1, s2⟩ := MapKept.heap_set (o' := .map es clock) hb
  refine ⟨{ w with heap := w.heap.setIfInBounds b (.map es clock) }, _, ?_, ⟨es, clock, since, seen, c0, s1, ?_, (s2 r (fun e => hne e)).trans hr, hold, hsc, hsk, rfl, fun j => ?_⟩, Nat.le_refl _, ⟨rfl, rfl, rfl, by simp, fun j _ hj => s2 j (fun e => hj (by rw [e]))⟩, ⟨rfl, rfl, rfl, by simp, fun j hj => s2 j (by omega)⟩, by simp⟩
  ·simp [Builtin.delete_, run_underlying ht, MapKept.run_getObj_map hb, check_id, hl, h2, MapKept.run_setObj_map _ hb, Result.andThen]
  ·have : D = dele D l := funext fun j => by
    unfold dele
    split
    ·rename_i g; rw [g, h1]
    ·rfl
   rw [← this]; exact hE
  ·dsimp only
   rw [hlf j]
   constructor
   ·exact fun h => h.1
   ·rintro ⟨x, hx, hxk, hxs⟩
    refine ⟨⟨x, hx, hxk, hxs⟩, fun g => ?_⟩
    obtain ⟨i, _, g2, g3⟩ := hE.key x hx
    rw [idV_inj (g2.symm.trans hxk), g, h1] at g3
    cases g3
 ·obtain ⟨s1, s2⟩ := MapKept.heap_set (o' := .map (es.eraseIdxIfInBounds l1.length) clock) hb
  have hl' := erase_mid l1 l2 e es h1
  have hsub : (l1 ++ l2).Sublist es.toList := by rw [h1]; exact List.Sublist.append_left (List.sublist_cons_self ..) l1
  have hE2 : Ents (es.eraseIdxIfInBounds l1.length).toList clock (dele D l) := by rw [hl']; rw [h1] at hE; exact hE.drop h2
  refine ⟨{ w with heap := w.heap.setIfInBounds b (.map (es.eraseIdxIfInBounds l1.length) clock) }, _, ?_, ⟨_, clock, since, seen, c0, s1, hE2, (s2 r (fun e => hne e)).trans hr, fun x hx => hold x (by rw [hl'] at hx; exact hsub.subset hx), hsc, hsk, rfl, fun j => ?_⟩, ?_, ⟨rfl, rfl, rfl, by simp, fun j _ hj => s2 j (fun e => hj (by rw [e]))⟩, ⟨rfl, rfl, rfl, by simp, fun j hj => s2 j (by omega)⟩, by simp⟩
  ·simp [Builtin.delete_, run_underlying ht, MapKept.run_getObj_map hb, check_id, hl, h4, MapKept.run_setObj_map _ hb, Result.andThen]
  ·rw [hl']
   constructor
   ·rintro ⟨g1, g2⟩
    obtain ⟨x, hx, hxk, hxs⟩ := (hlf j).1 g1
    refine ⟨x, ?_, hxk, hxs⟩
    rw [h1] at hx
    rcases List.mem_append.1 hx with hx | hx
    ·exact List.mem_append_left _ hx
    ·rcases List.mem_cons.1 hx with rfl | hx
     ·exact absurd (idV_inj (hxk.symm.trans h2)) g2
     ·exact List.mem_append_right _ hx
   ·rintro ⟨x, hx, hxk, hxs⟩
    refine ⟨(hlf j).2 ⟨x, hsub.subset hx, hxk, hxs⟩, fun g => ?_⟩
    rw [h1] at hE
    obtain ⟨o1, o2⟩ := hE.others
    have e1 : x.key = e.key := by rw [hxk, h2, g]
    rcases List.mem_append.1 hx with hx | hx
    ·exact o1 x hx e1
    ·exact o2 x hx e1
  ·unfold leftOf
   have e1 : ∀ a : Array MapEntry, (a.filter fun e => !seen.contains e.born).size = (a.toList.filter fun e => !seen.contains e.born).length := fun a => by rw [← Array.length_toList, Array.toList_filter]
   rw [e1, e1, hl']
   exact (hsub.filter _).length_le
section
variable {w : World} {ops : Array Oper} {rest : List Oper} {o : Oper} {a : Act} {Q : Exit → Act → World → Prop}
theorem wl_rangeD (hgd : o.guard = none) (t et : TypeId) (m : Operand) (ho : o.op = .range t m) (ht : Tryz.prog.underlying t = some (.map 27 et)) (b : Nat) (D : Mp Value) (h : MapD w b D) (hmv : a.eval m = .map (some b)) (N : Nat) (hN : w.heap.size = N)
  (hK : ∀ w' cnt, IterD w' b N D (fun k => (D k).isSome = true) cnt → Below N w w' → w'.heap.size = N + 1 → wpList Tryz.prog ops Q rest (a.put o.dst (.pointer (some ⟨N, 0, none⟩))) w') : wpList Tryz.prog ops Q (o :: rest) a w := by
 subst hN
 obtain ⟨w', cnt, hrun, h1, h2, h3⟩ := run_rangeD h t et ht
 refine wpList_plain hgd fun K hK' => ?_
 unfold Oper.wp
 simp [execOp, ho, hmv, hrun, Result.andThen]
 exact hK' _ _ (hK w' cnt h1 h2 h3)
theorem wl_nextD (hgd : o.guard = none) (it : Operand) (ho : o.op = .next it false) (b r : Nat) (D : Mp Value) (left : Id → Prop) (cnt : Nat) (hit : a.eval it = .pointer (some ⟨r, 0, none⟩)) (h : IterD w b r D left cnt)
  (hDone : cnt = 0 → (∀ k, ¬ left k) → wpList Tryz.prog ops Q rest (a.put o.dst (.tuple #[.bool false])) w)
  (hMore : ∀ k v w' cnt', left k → D k = some v → IterD w' b r D (fun j => left j ∧ j ≠ k) cnt' → cnt' < cnt → w.grownBy w' (some r) → w'.heap.size = w.heap.size → (Instr.entry (.pointer (some ⟨r, 0, none⟩))).run Tryz.prog w' = .ok (.tuple #[idV k, v]) w' →
   wpList Tryz.prog ops Q rest (a.put o.dst (.tuple #[.bool true, idV k, v])) w') : wpList Tryz.prog ops Q (o :: rest) a w := by
 refine wpList_plain hgd fun K hK' => ?_
 unfold Oper.wp
 rcases h.step o.type with ⟨h0, hl, hrun⟩ | ⟨k, v, w', cnt', h1, h2, hrun, h3, h4, h5, h6, h7⟩
 ·simp [execOp, ho, hit, hrun, Result.andThen]
  exact hK' _ _ (hDone h0 hl)
 ·simp [execOp, ho, hit, hrun, Result.andThen]
  exact hK' _ _ (hMore k v w' cnt' h1 h2 h3 h4 h5 h6 h7)
theorem wl_deleteD (hgd : o.guard = none) (m x : Operand) (t et : TypeId) (ho : o.op = .call { callee := .builtin .delete, args := #[m, x], argTypes := #[t, 27] }) (ht : Tryz.prog.underlying t = some (.map 27 et)) (b r : Nat) (D : Mp Value) (left : Id → Prop) (cnt : Nat)
  (h : IterD w b r D left cnt) (l : Id) (hl : l.length = 16) (hmv : a.eval m = .map (some b)) (hx : a.eval x = idV l)
  (hK : ∀ w' cnt', IterD w' b r (dele D l) (fun j => left j ∧ j ≠ l) cnt' → cnt' ≤ cnt → w.grownBy w' (some b) → Below b w w' → w'.heap.size = w.heap.size → wpList Tryz.prog ops Q rest (a.put o.dst (.tuple #[])) w') : wpList Tryz.prog ops Q (o :: rest) a w := by
 obtain ⟨w', cnt', hrun, h1, h2, h3, h4, h5⟩ := h.drop t et ht l hl o.type
 refine wpList_plain hgd fun K hK' => ?_
 unfold Oper.wp
 simp [execOp, ho, resolve, invoke, builtin, hmv, hx, hrun, Result.andThen]
 exact hK' _ _ (hK w' cnt' h1 h2 h3 h4 h5)
end
end Go.Proofs.YtbjmadcbhkeenaaGreat.lk
