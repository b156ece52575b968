/-
  mix.PutNumber; laws for conversions of constants and appends in regions that draw their order. Conditions: as each theorem says. Contract of keyref2.Envelope. Conditions: an envelope of the type's form. Contract of wrap.Read. Conditions: a slice of octets that lies in memory. Contracts of mix.Cover, wrap.cover and wrap.tag. Conditions: keys, nonces and texts of octets, texts of at most 2^20 octets. Contract of wrap.Wrap at version 1; keylaw2.wraps says yes. Conditions: keys and nonces of octets, an epoch in its bounds, a context of at most 4096 octets.
-/
import Derived.Test.YtdhipjoplkpgmaaGreatDoorHWrF
import Derived.Test.YtdhipjoplkpgmaaGreatDoorHSlInt
import Derived.Test.YtdhipjoplkpgmaaGreatDoorHHld
import Derived.Test.YtdhipjoplkpgmaaGreatDoorHMkY
import Derived.Test.YtdhipjoplkpgmaaGreatDoorHSmA
import Derived.Lib.UnsafeStr
import Derived.Great.BuildSlice
set_option maxRecDepth 100000
set_option linter.unusedSimpArgs false
set_option linter.unusedVariables false
set_option maxHeartbeats 2000000
namespace Go.Proofs.YtdhipjoplkpgmaaGreatDoor.wr
open Go.RowKit st hs shr sh
theorem freeze_blk {t : TypeId} {w : World} {g : Nat} {C : List Value} (h : BlkV t w g C) (k : Nat) : (w.freeze ⟨g, k, none⟩ 1).heap[g]? = some (.cells C.toArray t (k, k + 1)) := by
 unfold BlkV at h
 unfold World.freeze
 rw [if_neg (by decide)]
 show (w.heap.modify g _)[g]? = _
 rw [Array.getElem?_modify]
 simp [h]
theorem freeze_other {w : World} {g : Nat} (k j : Nat) (hj : j ≠ g) : (w.freeze ⟨g, k, none⟩ 1).heap[j]? = w.heap[j]? := by
 unfold World.freeze
 rw [if_neg (by decide)]
 show (w.heap.modify g _)[j]? = _
 rw [Array.getElem?_modify, if_neg (fun e => hj e.symm)]
theorem freeze_size (w : World) (g k : Nat) : (w.freeze ⟨g, k, none⟩ 1).heap.size = w.heap.size := by
 unfold World.freeze
 rw [if_neg (by decide)]
 simp
theorem run_convC {w : World} {g : Nat} {C : List Value} (h : BlkV 5 w g C) (n c : Nat) : (convert 61 61 (.slice (some ⟨g, 0, none⟩) n c)).run Tryz.prog w = .ok (.slice (some ⟨g, 0, none⟩) n c) (w.freeze ⟨g, C.length, none⟩ 1) := by
 have hsh : w.shape? g = some (5, C.length) := by
  unfold World.shape?
  unfold BlkV at h
  rw [h]
  simp
 simp [convert, run_underlying Tryz.underlying61, run_underlying Tryz.underlying5, markStringish, hsh]
theorem conv_facts {w : World} {g : Nat} {C : List Value} (h : BlkV 5 w g C) : At (w.freeze ⟨g, C.length, none⟩ 1) ⟨g, 0, none⟩ C ∧ w.grownBy (w.freeze ⟨g, C.length, none⟩ 1) (some g) ∧ Below g w (w.freeze ⟨g, C.length, none⟩ 1) ∧ (w.freeze ⟨g, C.length, none⟩ 1).heap.size = w.heap.size := by
 refine ⟨fun j u hu => ?_, ⟨rfl, rfl, rfl, by rw [freeze_size]; exact Nat.le_refl _, fun k hk hr => freeze_other _ _ (fun e => hr (by rw [e]))⟩, Lib.below_freeze (p := ⟨g, C.length, none⟩) (Below.refl g w) (Nat.le_refl g) 1, freeze_size _ _ _⟩
 rw [addr_add, Nat.zero_add, cell_of_row _ g j C.toArray 5 _ (freeze_blk h _)]
 simpa using hu
theorem step_convC {ops : Array Oper} {o : Oper} {a : Act} {w : World} {K : Act → World → Prop} {Q : Exit → Act → World → Prop} {E : Prop} (hgd : o.guard = none) (x : Operand) (ho : o.op = .convert 61 61 x) (g n c : Nat) (C : List Value)
  (hx : a.eval x = .slice (some ⟨g, 0, none⟩) n c) (hB : BlkV 5 w g C)
  (h : ∀ w', At w' ⟨g, 0, none⟩ C → w.grownBy w' (some g) → Below g w w' → w'.heap.size = w.heap.size → K (a.put o.dst (.slice (some ⟨g, 0, none⟩) n c)) w') : if Region.wanted o (yielded ops a.tmps) = true then Oper.wp Tryz.prog o a w K Q else E := by
 have hw : Region.wanted o (yielded ops a.tmps) = true := by simp [Region.wanted, hgd]
 rw [if_pos hw]
 unfold Oper.wp
 simp only [execOp, ho, hx, run_convC hB, Sem.run_bind, Result.andThen_ok, Sem.run_pure]
 obtain ⟨h1, h2, h3, h4⟩ := conv_facts hB
 exact h _ h1 h2 h3 h4
theorem step_appendS {P : Program} {ops : Array Oper} {o : Oper} {a : Act} {w : World} {K : Act → World → Prop} {Q : Exit → Act → World → Prop} {E : Prop} (hgd : o.guard = none) (s x : Operand) (t : TypeId)
  (ho : o.op = .call { callee := .builtin .append, args := #[s, x], argTypes := #[t, t] }) (e : TypeId) (z : Value) (size bytes : Nat) (ht : P.underlying t = some (.slice e)) (hi : Info P e z size bytes) (hzs : z.cells.size = size) (hsz : 0 < size)
  (base : Nat) (v : Value) (n : Nat) (xs : List Value) (hs : a.eval s = v) (hown : Mine w base e size v n xs) (ao : Option Addr) (m c : Nat) (hx : a.eval x = .slice ao m c) (hno : ao = none → c = 0) (news : List Value) (hl : news.length = m * size) (hrow : RowV w ao news) (h1 : ∀ u ∈ news, u.oneCell' = true)
  (b1 : n + m ≤ maxLen) (b2 : (n + m) * bytes ≤ 140737488355328) (hbase : base ≤ w.heap.size) (N : Nat) (hN : N = n + m)
  (hK : ∀ ao' cap' w' row, N ≤ cap' → Mine w' base e size (.slice ao' N cap') N (xs ++ news) → RowV w' ao' (xs ++ news) → w.grownBy w' row → (∀ k, row = some k → base ≤ k ∧ v.ownBlock = some k) → K (a.put o.dst (.slice ao' N cap')) w') : if Region.wanted o (yielded ops a.tmps) = true then Oper.wp P o a w K Q else E := by
 have hw : Region.wanted o (yielded ops a.tmps) = true := by simp [Region.wanted, hgd]
 rw [if_pos hw]
 subst hN
 obtain ⟨v', w', row, hrun, r1, r2, r3⟩ := run_append_mine (P := P) w t o.type e z size bytes ht hi hzs hsz base v n xs hown ao m c hno news hl hrow h1 b1 b2 hbase
 obtain ⟨ao', cap', rfl, h2, h3⟩ := r1.row
 unfold Oper.wp
 simp [execOp, ho, resolve, invoke, builtin, hs, hx, hrun, Result.andThen]
 exact hK ao' cap' w' row h2 r1 h3 r2 r3
theorem at_range {w : World} {p off : Nat} {cs : List Value} (h : At w ⟨p, off, none⟩ cs) : w.rangeAt p off cs := fun j u hu => by
 have h1 := h j u hu
 rwa [addr_add] at h1
theorem step_lit {P : Program} {ops : Array Oper} {o : Oper} {a : Act} {w : World} {K : Act → World → Prop} {Q : Exit → Act → World → Prop} {E : Prop} (hgd : o.guard = none) (t e : TypeId) (len : Nat) (parts : Array (Nat × Operand)) (ho : o.op = .buildSlice t len parts)
  (hu : P.underlying t = some (.slice e)) (z : Value) (size bytes : Nat) (hi : Info P e z size bytes) (hsmall : len * size ≤ 2 ^ 24) (hpos : 0 < len * size) (cs : List Value)
  (hf : Instr.fill (fun i => some (i * size, size)) ((Array.range (len * size)).map (z.cells[· % z.cells.size]!)) (parts.map fun (i, x) => (i, a.eval x)).toList = some cs.toArray) (N : Nat) (hN : w.heap.size = N)
  (h : ∀ w', BlkV e w' N cs → Below N w w' → w'.heap.size = N + 1 → K (a.put o.dst (.slice (some ⟨N, 0, none⟩) len len)) w') : if Region.wanted o (yielded ops a.tmps) = true then Oper.wp P o a w K Q else E := by
 have hw : Region.wanted o (yielded ops a.tmps) = true := by simp [Region.wanted, hgd]
 rw [if_pos hw]
 subst hN
 obtain ⟨i, hi1, hz, hsi, hby⟩ := hi.parts
 subst hsi
 exact wp_buildSlice t e len parts ho cs.toArray i z hu hi1 hz (by omega) (by omega) hf (h _ (BlkV.new e w cs rfl) ((Below.refl _ _).alloc (Nat.le_refl _) _) (by simp))
theorem wl_lit {P : Program} {w : World} {ops : Array Oper} {rest : List Oper} {o : Oper} {a : Act} {Q : Exit → Act → World → Prop} (hgd : o.guard = none) (t e : TypeId) (len : Nat) (parts : Array (Nat × Operand)) (ho : o.op = .buildSlice t len parts)
  (hu : P.underlying t = some (.slice e)) (z : Value) (size bytes : Nat) (hi : Info P e z size bytes) (hsmall : len * size ≤ 2 ^ 24) (hpos : 0 < len * size) (cs : List Value)
  (hf : Instr.fill (fun i => some (i * size, size)) ((Array.range (len * size)).map (z.cells[· % z.cells.size]!)) (parts.map fun (i, x) => (i, a.eval x)).toList = some cs.toArray) (N : Nat) (hN : w.heap.size = N)
  (h : ∀ w', BlkV e w' N cs → Below N w w' → w'.heap.size = N + 1 → wpList P ops Q rest (a.put o.dst (.slice (some ⟨N, 0, none⟩) len len)) w') : wpList P ops Q (o :: rest) a w := by
 subst hN
 obtain ⟨i, hi1, hz, hsi, hby⟩ := hi.parts
 subst hsi
 refine wpList_plain hgd fun K hK' => ?_
 exact wp_buildSlice t e len parts ho cs.toArray i z hu hi1 hz (by omega) (by omega) hf (hK' _ _ (h _ (BlkV.new e w cs rfl) ((Below.refl _ _).alloc (Nat.le_refl _) _) (by simp)))
theorem aggA4 : Agg Tryz.prog 334 4 := Agg.arr Tryz.underlying334 (by kernel_rfl)
theorem PutNumber_any (ao : Option Addr) (n cap : Nat) (l : List Int) (v : Int) (w : World) (hn : n = l.length) (HR : RowI .u8 w ao l) (hlt : ∀ b, ao = some b → b.block < w.heap.size) (hno : ao = none → cap = 0) (hm : n ≤ 1048576) :
  Calls Tryz.prog 142 #[.slice ao n cap, .int .u32 v] w fun e w' => ∃ ao' c', e = .returned (.slice ao' (n + 4) c') ∧ Mine w' w.heap.size 5 1 (.slice ao' (n + 4) c') (n + 4) ((l ++ o4 v).map (Value.int .u8)) ∧ Below w.heap.size w w' := by
 obtain ⟨B, HB⟩ := hidE w.heap.size
 have hsz : w.heap.size = B := HB.out.symm
 obtain ⟨O, HO⟩ := hidE ((o4 v).map (Value.int .u8))
 have hOl : O.length = 4 := by rw [HO.out]; rfl
 have hO1 : ∀ u ∈ O, u.oneCell' = true := by rw [HO.out]; exact ints_one _ _
 obtain ⟨Z, HZ⟩ := hidE ((List.replicate 4 (0 : Int)).map (Value.int .u8))
 have hz4 := hid zeroA4
 rw [← HZ.out] at hz4
 have hZl : Z.length = 4 := by rw [HZ.out]; rfl
 have ho4 := fun w => hid (octets4 v w)
 rw [← HO.out] at ho4
 have hal : Tryz.prog.arrayLen 334 = 4 := by kernel_rfl
 have HN := hid hn
 have hLN : Hid ((l.map (Value.int .u8)).length = n * 1) := by show _ = _; rw [List.length_map, hn, Nat.mul_one]
 have hEQ : Hid ((l ++ o4 v).map (Value.int .u8) = l.map (Value.int .u8) ++ O) := by show _ = _; rw [List.map_append, HO.out]
 clear hn
 rw [← HB.out]
 go_enter Tryz.func142, Tryz.ntmps142
 go_wp2_with (first | (go_at_call 251; refine (ho4 w).out.mono ?_; rintro e w1 ⟨rfl, hb1⟩; have hR1 := HR.below hb1; have hs1 := hb1.size) | (refine wl_allocV rfl 334 rfl Z hz4.out w1.heap.size rfl ?_; intro w2 hO2 hb2 hs2) | (refine wl_storeV rfl 334 _ _ rfl 334 w1.heap.size rfl O rfl 4 aggA4 hOl Z hO2 hZl hO1 ?_; intro w3 hO3 hb3 hs3; have hb13 := hb2.trans hb3; have hR3 := hR1.below hb13; have bb3 : Below B w w3 := (hsz ▸ hb1).trans (hb13.mono (by omega)); have hs3' : B ≤ w3.heap.size := (by omega); clear hO2 hb2 hb3 hb13 hR1))
 have hnew : ∀ o, (w3.alloc o).heap[w1.heap.size + 1]? = some o := fun o => by have h := heap_alloc_new w3 o; rwa [show w3.heap.size = w1.heap.size + 1 by omega] at h
 refine (slB.Concat_two ⟨ao, n, cap, l.map (Value.int .u8)⟩ ⟨some ⟨w1.heap.size, 0, none⟩, 4, 4, O⟩ (w1.heap.size + 1) _ (hnew _) ⟨hR3.v.alloc _, hLN.out, ints_one _ _, hno⟩ ⟨(at_row hO3.lt hO3.at0).alloc _, hOl, hO1, fun h => by cases h⟩ (by simp only; omega)).mono ?_
 rintro e w4 ⟨v4, rfl, hM4, hb4⟩
 obtain ⟨ao4, c4, rfl, hc4, _⟩ := hM4.row
 go_wp2_with fail
 go_ret
 refine ⟨_, _, rfl, ?_, (bb3.alloc hs3' _).trans (hb4.mono (by simp; omega))⟩
 rw [hEQ.out]
 exact hM4.mono (by simp; omega)
end Go.Proofs.YtdhipjoplkpgmaaGreatDoor.wr
namespace Go.Proofs.YtdhipjoplkpgmaaGreatDoor.wr
open Go.RowKit st hs shr sh
theorem hal32 : Tryz.prog.arrayLen 39 = 32 := by kernel_rfl
end Go.Proofs.YtdhipjoplkpgmaaGreatDoor.wr
namespace Go.Proofs.YtdhipjoplkpgmaaGreatDoor.wr
open Go.RowKit st hs shr sh
structure Env.Len (x : Env) : Prop where
 bl : x.b.length = 16
 ol : x.o.length = 16
 nl : x.n.length = 16
 cl : x.c.length = 32
 gl : x.g.length = 32
 tl : x.t.length = 16
end Go.Proofs.YtdhipjoplkpgmaaGreatDoor.wr
namespace Go.Proofs.YtdhipjoplkpgmaaGreatDoor.wr
open Go.RowKit st hs shr sh
theorem blk_own {w : World} {base m c g : Nat} {e : TypeId} {cur xs : List Value} (hg : base ≤ g) (h : BlkV e w g cur) (h1 : m ≤ c) (h2 : c ≤ maxLen) (h3 : cur.length = c) (h4 : cur.take m = xs) : w.ownsRow base e 1 (.slice (some ⟨g, 0, none⟩) m c) m xs := by
 refine ⟨by rw [← h4, List.length_take]; omega, Or.inr ⟨g, c, cur.toArray, rfl, hg, h, h1, h2, by simpa using h3, by simpa using h4⟩⟩
end Go.Proofs.YtdhipjoplkpgmaaGreatDoor.wr
namespace Go.Proofs.YtdhipjoplkpgmaaGreatDoor.wr
open Go.RowKit st hs shr sh
theorem wl_build1 {P : Program} {w : World} {ops : Array Oper} {rest : List Oper} {o : Oper} {a : Act} {Q : Exit → Act → World → Prop} (hgd : o.guard = none) (t : TypeId) (i : Nat) (x : Operand) (ho : o.op = .build t #[(i, x)])
  (u : Value) (hx : a.eval x = u) (cs : List Value) (hb : P.built t [(i, u)] = some cs.toArray) (h : wpList P ops Q rest (a.put o.dst (.agg cs.toArray)) w) : wpList P ops Q (o :: rest) a w :=
 wl_build hgd t #[(i, x)] ho cs (by simpa [hx] using hb) h
end Go.Proofs.YtdhipjoplkpgmaaGreatDoor.wr
