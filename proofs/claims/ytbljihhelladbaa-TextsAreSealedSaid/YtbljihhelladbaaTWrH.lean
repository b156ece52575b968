/-
  mix.PutNumber; laws for conversions of constants and appends in regions that draw their order. Conditions: as each theorem says.
-/
import Derived.Test.YtbljihhelladbaaTWrE
import Derived.Test.YtbljihhelladbaaTMkX
import Derived.Lib.UnsafeStr
import Derived.Great.BuildSlice
namespace Go.Proofs.Ytbljihhelladbaa.wr
open Go.RowKit Go.Proofs.Ytbljihhelladbaa.st Go.Proofs.Ytbljihhelladbaa.hs Go.Proofs.Ytbljihhelladbaa.shr Go.Proofs.Ytbljihhelladbaa.sh
set_option linter.unusedSimpArgs false
set_option linter.unusedVariables false
set_option pp.maxSteps 6000
theorem freeze_blk {t : TypeId} {w : World} {g : Nat} {C : List Value} (h : BlkV t w g C) (k : Nat) : (w.freeze ⟨g, k, none⟩ 1).heap[g]? = some (.cells C.toArray t (k, k + 1)) := by
  unfold BlkV at h
  unfold World.freeze
  rw [if_neg (by decide)]
  show (w.heap.modify g _)[g]? = _
  rw [Array.getElem?_modify]
  simp [h]
theorem freeze_other {w : World} {g : Nat} (k j : Nat) (hj : j ≠ g) : (w.freeze ⟨g, k, none⟩ 1).heap[j]? = w.heap[j]? := by
  unfold World.freeze
  rw [if_neg (by decide)]
  show (w.heap.modify g _)[j]? = _
  rw [Array.getElem?_modify, if_neg (fun e => hj e.symm)]
theorem freeze_size (w : World) (g k : Nat) : (w.freeze ⟨g, k, none⟩ 1).heap.size = w.heap.size := by
  unfold World.freeze
  rw [if_neg (by decide)]
  simp
theorem run_convC {w : World} {g : Nat} {C : List Value} (h : BlkV 5 w g C) (n c : Nat) : (convert 69 69 (.slice (some ⟨g, 0, none⟩) n c)).run Try.prog w = .ok (.slice (some ⟨g, 0, none⟩) n c) (w.freeze ⟨g, C.length, none⟩ 1) := by
  have hsh : w.shape? g = some (5, C.length) := by
    unfold World.shape?
    unfold BlkV at h
    rw [h]
    simp
  simp [convert, run_underlying Try.underlying69, run_underlying Try.underlying5, markStringish, hsh]
theorem conv_facts {w : World} {g : Nat} {C : List Value} (h : BlkV 5 w g C) : At (w.freeze ⟨g, C.length, none⟩ 1) ⟨g, 0, none⟩ C ∧ w.grownBy (w.freeze ⟨g, C.length, none⟩ 1) (some g) ∧ Below g w (w.freeze ⟨g, C.length, none⟩ 1) ∧ (w.freeze ⟨g, C.length, none⟩ 1).heap.size = w.heap.size := by
  refine ⟨fun j u hu => ?_, ⟨rfl, rfl, rfl, by rw [freeze_size]; exact Nat.le_refl _, fun k hk hr => freeze_other _ _ (fun e => hr (by rw [e]))⟩, Lib.below_freeze (p := ⟨g, C.length, none⟩) (Below.refl g w) (Nat.le_refl g) 1, freeze_size _ _ _⟩
  rw [addr_add, Nat.zero_add, cell_of_row _ g j C.toArray 5 _ (freeze_blk h _)]
  simpa using hu
/-- a conversion of a constant's octets in a region that draws its order -/
theorem step_convC {ops : Array Oper} {o : Oper} {a : Act} {w : World} {K : Act → World → Prop} {Q : Exit → Act → World → Prop} {E : Prop} (hgd : o.guard = none) (x : Operand) (ho : o.op = .convert 69 69 x) (g n c : Nat) (C : List Value)
    (hx : a.eval x = .slice (some ⟨g, 0, none⟩) n c) (hB : BlkV 5 w g C)
    (h : ∀ w', At w' ⟨g, 0, none⟩ C → w.grownBy w' (some g) → Below g w w' → w'.heap.size = w.heap.size → K (a.put o.dst (.slice (some ⟨g, 0, none⟩) n c)) w') : if Region.wanted o (yielded ops a.tmps) = true then Oper.wp Try.prog o a w K Q else E := by
  have hw : Region.wanted o (yielded ops a.tmps) = true := by simp [Region.wanted, hgd]
  rw [if_pos hw]
  unfold Oper.wp
  simp only [execOp, ho, hx, run_convC hB, Sem.run_bind, Result.andThen_ok, Sem.run_pure]
  obtain ⟨h1, h2, h3, h4⟩ := conv_facts hB
  exact h _ h1 h2 h3 h4
/-- append to a slice without room, likewise -/
theorem step_appendArg {ops : Array Oper} {o : Oper} {a : Act} {w : World} {K : Act → World → Prop} {Q : Exit → Act → World → Prop} {E : Prop} (hgd : o.guard = none) (s x : Operand)
    (ho : o.op = .call { callee := .builtin .append, args := #[s, x], argTypes := #[69, 69] }) (b : Addr) (n cap : Nat) (hs : a.eval s = .slice (some b) n cap) (olds : List Value) (hlo : olds.length = n * 1) (hat : At w b olds)
    (ad : Addr) (m c : Nat) (hx : a.eval x = .slice (some ad) m c) (news : List Value) (hl : news.length = m * 1) (hnews : At w ad news) (hg : cap < n + m) (hb : n + m ≤ 1099511627776) (base : Nat) (hbase : base ≤ w.heap.size) (N : Nat) (hN : N = n + m)
    (hK : ∀ ao' cap' w', N ≤ cap' → Mine w' base 5 1 (.slice ao' N cap') N (olds ++ news) → w.grownBy w' none → K (a.put o.dst (.slice ao' N cap')) w') : if Region.wanted o (yielded ops a.tmps) = true then Oper.wp Try.prog o a w K Q else E := by
  have hw : Region.wanted o (yielded ops a.tmps) = true := by simp [Region.wanted, hgd]
  rw [if_pos hw]
  subst hN
  obtain ⟨i, hi, hz, hsi, hby⟩ := (info8 : Info Try.prog 5 (.int .u8 0) 1 1).parts
  obtain ⟨v', w', hrun, r1, r2⟩ := run_append_arg_grows (P := Try.prog) w 69 o.type 5 i (.int .u8 0) 1 1 Try.underlying69 hi hz hsi hby rfl (by decide) b n cap olds hlo hat ad m c news hl hnews hg (by unfold maxLen; omega) (by omega)
  have hM := Mine.mono (Or.inl r1) hbase
  obtain ⟨ao', cap', rfl, h2, h3⟩ := hM.row
  unfold Oper.wp
  simp [execOp, ho, resolve, invoke, builtin, hs, hx, hrun, Result.andThen]
  exact hK ao' cap' w' h2 hM r2
/-- append to a row of one's own, likewise -/
theorem step_appendS {P : Program} {ops : Array Oper} {o : Oper} {a : Act} {w : World} {K : Act → World → Prop} {Q : Exit → Act → World → Prop} {E : Prop} (hgd : o.guard = none) (s x : Operand) (t : TypeId)
    (ho : o.op = .call { callee := .builtin .append, args := #[s, x], argTypes := #[t, t] }) (e : TypeId) (z : Value) (size bytes : Nat) (ht : P.underlying t = some (.slice e)) (hi : Info P e z size bytes) (hzs : z.cells.size = size) (hsz : 0 < size)
    (base : Nat) (v : Value) (n : Nat) (xs : List Value) (hs : a.eval s = v) (hown : Mine w base e size v n xs) (ao : Option Addr) (m c : Nat) (hx : a.eval x = .slice ao m c) (hno : ao = none → c = 0) (news : List Value) (hl : news.length = m * size) (hrow : RowV w ao news) (h1 : ∀ u ∈ news, u.oneCell' = true)
    (b1 : n + m ≤ maxLen) (b2 : (n + m) * bytes ≤ 140737488355328) (hbase : base ≤ w.heap.size) (N : Nat) (hN : N = n + m)
    (hK : ∀ ao' cap' w' row, N ≤ cap' → Mine w' base e size (.slice ao' N cap') N (xs ++ news) → RowV w' ao' (xs ++ news) → w.grownBy w' row → (∀ k, row = some k → base ≤ k ∧ v.ownBlock = some k) → K (a.put o.dst (.slice ao' N cap')) w') : if Region.wanted o (yielded ops a.tmps) = true then Oper.wp P o a w K Q else E := by
  have hw : Region.wanted o (yielded ops a.tmps) = true := by simp [Region.wanted, hgd]
  rw [if_pos hw]
  subst hN
  obtain ⟨v', w', row, hrun, r1, r2, r3⟩ := run_append_mine (P := P) w t o.type e z size bytes ht hi hzs hsz base v n xs hown ao m c hno news hl hrow h1 b1 b2 hbase
  obtain ⟨ao', cap', rfl, h2, h3⟩ := r1.row
  unfold Oper.wp
  simp [execOp, ho, resolve, invoke, builtin, hs, hx, hrun, Result.andThen]
  exact hK ao' cap' w' row h2 r1 h3 r2 r3
theorem at_below {w w' : World} {B p off : Nat} {cs : List Value} (h : At w ⟨p, off, none⟩ cs) (hb : Below B w w') (hp : p < B) : At w' ⟨p, off, none⟩ cs := fun j u hu => by
  have h1 := h j u hu
  rw [addr_add] at h1 ⊢
  rw [hb.cell (p := ⟨p, off + j, none⟩) hp]; exact h1
theorem at_range {w : World} {p off : Nat} {cs : List Value} (h : At w ⟨p, off, none⟩ cs) : w.rangeAt p off cs := fun j u hu => by
  have h1 := h j u hu
  rwa [addr_add] at h1
/-- a slice literal, the world behind it a letter -/
theorem step_lit {P : Program} {ops : Array Oper} {o : Oper} {a : Act} {w : World} {K : Act → World → Prop} {Q : Exit → Act → World → Prop} {E : Prop} (hgd : o.guard = none) (t e : TypeId) (len : Nat) (parts : Array (Nat × Operand)) (ho : o.op = .buildSlice t len parts)
    (hu : P.underlying t = some (.slice e)) (z : Value) (size bytes : Nat) (hi : Info P e z size bytes) (hsmall : len * size ≤ 2 ^ 24) (hpos : 0 < len * size) (cs : List Value)
    (hf : Instr.fill (fun i => some (i * size, size)) ((Array.range (len * size)).map (z.cells[· % z.cells.size]!)) (parts.map fun (i, x) => (i, a.eval x)).toList = some cs.toArray) (N : Nat) (hN : w.heap.size = N)
    (h : ∀ w', BlkV e w' N cs → Below N w w' → w'.heap.size = N + 1 → K (a.put o.dst (.slice (some ⟨N, 0, none⟩) len len)) w') : if Region.wanted o (yielded ops a.tmps) = true then Oper.wp P o a w K Q else E := by
  have hw : Region.wanted o (yielded ops a.tmps) = true := by simp [Region.wanted, hgd]
  rw [if_pos hw]
  subst hN
  obtain ⟨i, hi1, hz, hsi, hby⟩ := hi.parts
  subst hsi
  exact wp_buildSlice t e len parts ho cs.toArray i z hu hi1 hz (by omega) (by omega) hf (h _ (BlkV.new e w cs rfl) ((Below.refl _ _).alloc (Nat.le_refl _) _) (by simp))
theorem wl_lit {P : Program} {w : World} {ops : Array Oper} {rest : List Oper} {o : Oper} {a : Act} {Q : Exit → Act → World → Prop} (hgd : o.guard = none) (t e : TypeId) (len : Nat) (parts : Array (Nat × Operand)) (ho : o.op = .buildSlice t len parts)
    (hu : P.underlying t = some (.slice e)) (z : Value) (size bytes : Nat) (hi : Info P e z size bytes) (hsmall : len * size ≤ 2 ^ 24) (hpos : 0 < len * size) (cs : List Value)
    (hf : Instr.fill (fun i => some (i * size, size)) ((Array.range (len * size)).map (z.cells[· % z.cells.size]!)) (parts.map fun (i, x) => (i, a.eval x)).toList = some cs.toArray) (N : Nat) (hN : w.heap.size = N)
    (h : ∀ w', BlkV e w' N cs → Below N w w' → w'.heap.size = N + 1 → wpList P ops Q rest (a.put o.dst (.slice (some ⟨N, 0, none⟩) len len)) w') : wpList P ops Q (o :: rest) a w := by
  subst hN
  obtain ⟨i, hi1, hz, hsi, hby⟩ := hi.parts
  subst hsi
  refine wpList_plain hgd fun K hK' => ?_
  exact wp_buildSlice t e len parts ho cs.toArray i z hu hi1 hz (by omega) (by omega) hf (hK' _ _ (h _ (BlkV.new e w cs rfl) ((Below.refl _ _).alloc (Nat.le_refl _) _) (by simp)))
theorem aggA4 : Agg Try.prog 204 4 := Agg.arr Try.underlying204 (by kernel_rfl)
set_option maxRecDepth 100000 in
set_option maxHeartbeats 2000000 in
theorem PutNumber_any (ao : Option Addr) (n cap : Nat) (l : List Int) (v : Int) (w : World) (hn : n = l.length) (HR : RowI .u8 w ao l) (hlt : ∀ b, ao = some b → b.block < w.heap.size) (hno : ao = none → cap = 0) (hm : n ≤ 1048576) :
    Calls Try.prog 133 #[.slice ao n cap, .int .u32 v] w fun e w' => ∃ ao' c', e = .returned (.slice ao' (n + 4) c') ∧ Mine w' w.heap.size 5 1 (.slice ao' (n + 4) c') (n + 4) ((l ++ o4 v).map (Value.int .u8)) ∧ Below w.heap.size w w' := by
  obtain ⟨B, HB⟩ : ∃ B, Hid (B = w.heap.size) := ⟨_, rfl⟩
  have hsz : w.heap.size = B := HB.out.symm
  obtain ⟨O, HO⟩ : ∃ O, Hid (O = (o4 v).map (Value.int .u8)) := ⟨_, rfl⟩
  have hOl : O.length = 4 := by rw [HO.out]; rfl
  have hO1 : ∀ u ∈ O, u.oneCell' = true := by rw [HO.out]; exact ints_one _ _
  obtain ⟨Z, HZ⟩ : ∃ Z, Hid (Z = (List.replicate 4 (0 : Int)).map (Value.int .u8)) := ⟨_, rfl⟩
  have hz4 := hid zeroA4
  rw [← HZ.out] at hz4
  have hZl : Z.length = 4 := by rw [HZ.out]; rfl
  have ho4 := fun w => hid (octets4 v w)
  rw [← HO.out] at ho4
  have hal : Try.prog.arrayLen 204 = 4 := by kernel_rfl
  have HN := hid hn
  have hLN : Hid ((l.map (Value.int .u8)).length = n * 1) := by show _ = _; rw [List.length_map, hn, Nat.mul_one]
  have hEQ : Hid ((l ++ o4 v).map (Value.int .u8) = l.map (Value.int .u8) ++ O) := by show _ = _; rw [List.map_append, HO.out]
  clear hn
  rw [← HB.out]
  go_enter Try.func133, Try.ntmps133
  go_wp2_with (first | (go_at_call 165; refine (ho4 w).out.mono ?_; rintro e w1 ⟨rfl, hb1⟩; have hR1 := HR.below hb1; have hs1 := hb1.size) | (refine wl_allocV rfl 204 rfl Z hz4.out w1.heap.size rfl ?_; intro w2 hO2 hb2 hs2) | (refine wl_storeV rfl 204 _ _ rfl 204 w1.heap.size rfl O rfl 4 aggA4 hOl Z hO2 hZl hO1 ?_; intro w3 hO3 hb3 hs3; have hb13 := hb2.trans hb3; have hR3 := hR1.below hb13; have bb3 : Below B w w3 := (hsz ▸ hb1).trans (hb13.mono (by omega)); have hs3' : B ≤ w3.heap.size := (by omega); clear hO2 hb2 hb3 hb13 hR1))
  have hnew : ∀ o, (w3.alloc o).heap[w1.heap.size + 1]? = some o := fun o => by have h := heap_alloc_new w3 o; rwa [show w3.heap.size = w1.heap.size + 1 by omega] at h
  refine (slB.Concat_two ⟨ao, n, cap, l.map (Value.int .u8)⟩ ⟨some ⟨w1.heap.size, 0, none⟩, 4, 4, O⟩ (w1.heap.size + 1) _ (hnew _) ⟨hR3.v.alloc _, hLN.out, ints_one _ _, hno⟩ ⟨(at_row hO3.lt hO3.at0).alloc _, hOl, hO1, fun h => by cases h⟩ (by simp only; omega)).mono ?_
  rintro e w4 ⟨v4, rfl, hM4, hb4⟩
  obtain ⟨ao4, c4, rfl, hc4, _⟩ := hM4.row
  go_wp2_with fail
  go_ret
  refine ⟨_, _, rfl, ?_, (bb3.alloc hs3' _).trans (hb4.mono (by simp; omega))⟩
  rw [hEQ.out]
  exact hM4.mono (by simp; omega)
end Go.Proofs.Ytbljihhelladbaa.wr
