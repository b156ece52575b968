/-
  mix.PutNumber; laws for conversions of constants and appends in regions that draw their order. Conditions: as each theorem says. Contract of keyref2.Envelope. Conditions: an envelope of the type's form. Envelopes read: the plain form; contracts of mix.room and mix.Number. Conditions: a slice of octets that lies in memory. Contracts of share.said and share.lies at any polynomials. Conditions: rows of n numbers from 0 to 256, n at most 64.
-/
import Derived.Test.YtbjmadcbhkeenaaGreatCWrD
import Derived.Test.YtbjmadcbhkeenaaGreatCSlInt
import Derived.Test.YtbjmadcbhkeenaaGreatCHld
import Derived.Test.YtbjmadcbhkeenaaGreatCMkY
import Derived.Test.YtbjmadcbhkeenaaGreatCShUW
import Derived.Test.YtbjmadcbhkeenaaGreatCBsl
import Derived.Test.YtbjmadcbhkeenaaGreatCShJ
import Derived.Lib.UnsafeStr
import Derived.Great.BuildSlice
set_option maxRecDepth 100000
set_option linter.unusedSimpArgs false
set_option linter.unusedVariables false
namespace Go.Proofs.YtbjmadcbhkeenaaGreat.wr
open Go.RowKit st hs shr sh
theorem freeze_blk {t : TypeId} {w : World} {g : Nat} {C : List Value} (h : BlkV t w g C) (k : Nat) : (w.freeze ⟨g, k, none⟩ 1).heap[g]? = some (.cells C.toArray t (k, k + 1)) := by
 unfold BlkV at h
 unfold World.freeze
 rw [if_neg (by decide)]
 show (w.heap.modify g _)[g]? = _
 rw [Array.getElem?_modify]
 simp [h]
theorem freeze_other {w : World} {g : Nat} (k j : Nat) (hj : j ≠ g) : (w.freeze ⟨g, k, none⟩ 1).heap[j]? = w.heap[j]? := by
 unfold World.freeze
 rw [if_neg (by decide)]
 show (w.heap.modify g _)[j]? = _
 rw [Array.getElem?_modify, if_neg (fun e => hj e.symm)]
theorem freeze_size (w : World) (g k : Nat) : (w.freeze ⟨g, k, none⟩ 1).heap.size = w.heap.size := by
 unfold World.freeze
 rw [if_neg (by decide)]
 simp
theorem run_convC {w : World} {g : Nat} {C : List Value} (h : BlkV 5 w g C) (n c : Nat) : (convert 25 25 (.slice (some ⟨g, 0, none⟩) n c)).run Tryz.prog w = .ok (.slice (some ⟨g, 0, none⟩) n c) (w.freeze ⟨g, C.length, none⟩ 1) := by
 have hsh : w.shape? g = some (5, C.length) := by
  unfold World.shape?
  unfold BlkV at h
  rw [h]
  simp
 simp [convert, run_underlying Tryz.underlying25, run_underlying Tryz.underlying5, markStringish, hsh]
theorem conv_facts {w : World} {g : Nat} {C : List Value} (h : BlkV 5 w g C) : At (w.freeze ⟨g, C.length, none⟩ 1) ⟨g, 0, none⟩ C ∧ w.grownBy (w.freeze ⟨g, C.length, none⟩ 1) (some g) ∧ Below g w (w.freeze ⟨g, C.length, none⟩ 1) ∧ (w.freeze ⟨g, C.length, none⟩ 1).heap.size = w.heap.size := by
 refine ⟨fun j u hu => ?_, ⟨rfl, rfl, rfl, by rw [freeze_size]; exact Nat.le_refl _, fun k hk hr => freeze_other _ _ (fun e => hr (by rw [e]))⟩, Lib.below_freeze (p := ⟨g, C.length, none⟩) (Below.refl g w) (Nat.le_refl g) 1, freeze_size _ _ _⟩
 rw [addr_add, Nat.zero_add, cell_of_row _ g j C.toArray 5 _ (freeze_blk h _)]
 simpa using hu
theorem step_convC {ops : Array Oper} {o : Oper} {a : Act} {w : World} {K : Act → World → Prop} {Q : Exit → Act → World → Prop} {E : Prop} (hgd : o.guard = none) (x : Operand) (ho : o.op = .convert 25 25 x) (g n c : Nat) (C : List Value)
  (hx : a.eval x = .slice (some ⟨g, 0, none⟩) n c) (hB : BlkV 5 w g C)
  (h : ∀ w', At w' ⟨g, 0, none⟩ C → w.grownBy w' (some g) → Below g w w' → w'.heap.size = w.heap.size → K (a.put o.dst (.slice (some ⟨g, 0, none⟩) n c)) w') : if Region.wanted o (yielded ops a.tmps) = true then Oper.wp Tryz.prog o a w K Q else E := by
 have hw : Region.wanted o (yielded ops a.tmps) = true := by simp [Region.wanted, hgd]
 rw [if_pos hw]
 unfold Oper.wp
 simp only [execOp, ho, hx, run_convC hB, Sem.run_bind, Result.andThen_ok, Sem.run_pure]
 obtain ⟨h1, h2, h3, h4⟩ := conv_facts hB
 exact h _ h1 h2 h3 h4
theorem step_appendArg {ops : Array Oper} {o : Oper} {a : Act} {w : World} {K : Act → World → Prop} {Q : Exit → Act → World → Prop} {E : Prop} (hgd : o.guard = none) (s x : Operand)
  (ho : o.op = .call { callee := .builtin .append, args := #[s, x], argTypes := #[25, 25] }) (b : Addr) (n cap : Nat) (hs : a.eval s = .slice (some b) n cap) (olds : List Value) (hlo : olds.length = n * 1) (hat : At w b olds)
  (ad : Addr) (m c : Nat) (hx : a.eval x = .slice (some ad) m c) (news : List Value) (hl : news.length = m * 1) (hnews : At w ad news) (hg : cap < n + m) (hb : n + m ≤ 1099511627776) (base : Nat) (hbase : base ≤ w.heap.size) (N : Nat) (hN : N = n + m)
  (hK : ∀ ao' cap' w', N ≤ cap' → Mine w' base 5 1 (.slice ao' N cap') N (olds ++ news) → w.grownBy w' none → K (a.put o.dst (.slice ao' N cap')) w') : if Region.wanted o (yielded ops a.tmps) = true then Oper.wp Tryz.prog o a w K Q else E := by
 have hw : Region.wanted o (yielded ops a.tmps) = true := by simp [Region.wanted, hgd]
 rw [if_pos hw]
 subst hN
 obtain ⟨i, hi, hz, hsi, hby⟩ := (info8 : Info Tryz.prog 5 (.int .u8 0) 1 1).parts
 obtain ⟨v', w', hrun, r1, r2⟩ := run_append_arg_grows (P := Tryz.prog) w 25 o.type 5 i (.int .u8 0) 1 1 Tryz.underlying25 hi hz hsi hby rfl (by decide) b n cap olds hlo hat ad m c news hl hnews hg (by unfold maxLen; omega) (by omega)
 have hM := Mine.mono (Or.inl r1) hbase
 obtain ⟨ao', cap', rfl, h2, h3⟩ := hM.row
 unfold Oper.wp
 simp [execOp, ho, resolve, invoke, builtin, hs, hx, hrun, Result.andThen]
 exact hK ao' cap' w' h2 hM r2
theorem step_appendS {P : Program} {ops : Array Oper} {o : Oper} {a : Act} {w : World} {K : Act → World → Prop} {Q : Exit → Act → World → Prop} {E : Prop} (hgd : o.guard = none) (s x : Operand) (t : TypeId)
  (ho : o.op = .call { callee := .builtin .append, args := #[s, x], argTypes := #[t, t] }) (e : TypeId) (z : Value) (size bytes : Nat) (ht : P.underlying t = some (.slice e)) (hi : Info P e z size bytes) (hzs : z.cells.size = size) (hsz : 0 < size)
  (base : Nat) (v : Value) (n : Nat) (xs : List Value) (hs : a.eval s = v) (hown : Mine w base e size v n xs) (ao : Option Addr) (m c : Nat) (hx : a.eval x = .slice ao m c) (hno : ao = none → c = 0) (news : List Value) (hl : news.length = m * size) (hrow : RowV w ao news) (h1 : ∀ u ∈ news, u.oneCell' = true)
  (b1 : n + m ≤ maxLen) (b2 : (n + m) * bytes ≤ 140737488355328) (hbase : base ≤ w.heap.size) (N : Nat) (hN : N = n + m)
  (hK : ∀ ao' cap' w' row, N ≤ cap' → Mine w' base e size (.slice ao' N cap') N (xs ++ news) → RowV w' ao' (xs ++ news) → w.grownBy w' row → (∀ k, row = some k → base ≤ k ∧ v.ownBlock = some k) → K (a.put o.dst (.slice ao' N cap')) w') : if Region.wanted o (yielded ops a.tmps) = true then Oper.wp P o a w K Q else E := by
 have hw : Region.wanted o (yielded ops a.tmps) = true := by simp [Region.wanted, hgd]
 rw [if_pos hw]
 subst hN
 obtain ⟨v', w', row, hrun, r1, r2, r3⟩ := run_append_mine (P := P) w t o.type e z size bytes ht hi hzs hsz base v n xs hown ao m c hno news hl hrow h1 b1 b2 hbase
 obtain ⟨ao', cap', rfl, h2, h3⟩ := r1.row
 unfold Oper.wp
 simp [execOp, ho, resolve, invoke, builtin, hs, hx, hrun, Result.andThen]
 exact hK ao' cap' w' row h2 r1 h3 r2 r3
theorem at_below {w w' : World} {B p off : Nat} {cs : List Value} (h : At w ⟨p, off, none⟩ cs) (hb : Below B w w') (hp : p < B) : At w' ⟨p, off, none⟩ cs := fun j u hu => by
 have h1 := h j u hu
 rw [addr_add] at h1 ⊢
 rw [hb.cell (p := ⟨p, off + j, none⟩) hp]; exact h1
theorem at_range {w : World} {p off : Nat} {cs : List Value} (h : At w ⟨p, off, none⟩ cs) : w.rangeAt p off cs := fun j u hu => by
 have h1 := h j u hu
 rwa [addr_add] at h1
theorem range_at {w : World} {p off : Nat} {cs : List Value} (h : w.rangeAt p off cs) : At w ⟨p, off, none⟩ cs := fun j u hu => by
 rw [addr_add]; exact h j u hu
theorem step_lit {P : Program} {ops : Array Oper} {o : Oper} {a : Act} {w : World} {K : Act → World → Prop} {Q : Exit → Act → World → Prop} {E : Prop} (hgd : o.guard = none) (t e : TypeId) (len : Nat) (parts : Array (Nat × Operand)) (ho : o.op = .buildSlice t len parts)
  (hu : P.underlying t = some (.slice e)) (z : Value) (size bytes : Nat) (hi : Info P e z size bytes) (hsmall : len * size ≤ 2 ^ 24) (hpos : 0 < len * size) (cs : List Value)
  (hf : Instr.fill (fun i => some (i * size, size)) ((Array.range (len * size)).map (z.cells[· % z.cells.size]!)) (parts.map fun (i, x) => (i, a.eval x)).toList = some cs.toArray) (N : Nat) (hN : w.heap.size = N)
  (h : ∀ w', BlkV e w' N cs → Below N w w' → w'.heap.size = N + 1 → K (a.put o.dst (.slice (some ⟨N, 0, none⟩) len len)) w') : if Region.wanted o (yielded ops a.tmps) = true then Oper.wp P o a w K Q else E := by
 have hw : Region.wanted o (yielded ops a.tmps) = true := by simp [Region.wanted, hgd]
 rw [if_pos hw]
 subst hN
 obtain ⟨i, hi1, hz, hsi, hby⟩ := hi.parts
 subst hsi
 exact wp_buildSlice t e len parts ho cs.toArray i z hu hi1 hz (by omega) (by omega) hf (h _ (BlkV.new e w cs rfl) ((Below.refl _ _).alloc (Nat.le_refl _) _) (by simp))
theorem wl_lit {P : Program} {w : World} {ops : Array Oper} {rest : List Oper} {o : Oper} {a : Act} {Q : Exit → Act → World → Prop} (hgd : o.guard = none) (t e : TypeId) (len : Nat) (parts : Array (Nat × Operand)) (ho : o.op = .buildSlice t len parts)
  (hu : P.underlying t = some (.slice e)) (z : Value) (size bytes : Nat) (hi : Info P e z size bytes) (hsmall : len * size ≤ 2 ^ 24) (hpos : 0 < len * size) (cs : List Value)
  (hf : Instr.fill (fun i => some (i * size, size)) ((Array.range (len * size)).map (z.cells[· % z.cells.size]!)) (parts.map fun (i, x) => (i, a.eval x)).toList = some cs.toArray) (N : Nat) (hN : w.heap.size = N)
  (h : ∀ w', BlkV e w' N cs → Below N w w' → w'.heap.size = N + 1 → wpList P ops Q rest (a.put o.dst (.slice (some ⟨N, 0, none⟩) len len)) w') : wpList P ops Q (o :: rest) a w := by
 subst hN
 obtain ⟨i, hi1, hz, hsi, hby⟩ := hi.parts
 subst hsi
 refine wpList_plain hgd fun K hK' => ?_
 exact wp_buildSlice t e len parts ho cs.toArray i z hu hi1 hz (by omega) (by omega) hf (hK' _ _ (h _ (BlkV.new e w cs rfl) ((Below.refl _ _).alloc (Nat.le_refl _) _) (by simp)))
theorem aggA4 : Agg Tryz.prog 141 4 := Agg.arr Tryz.underlying141 (by kernel_rfl)
set_option maxHeartbeats 2000000 in
theorem PutNumber_any (ao : Option Addr) (n cap : Nat) (l : List Int) (v : Int) (w : World) (hn : n = l.length) (HR : RowI .u8 w ao l) (hlt : ∀ b, ao = some b → b.block < w.heap.size) (hno : ao = none → cap = 0) (hm : n ≤ 1048576) :
  Calls Tryz.prog 99 #[.slice ao n cap, .int .u32 v] w fun e w' => ∃ ao' c', e = .returned (.slice ao' (n + 4) c') ∧ Mine w' w.heap.size 5 1 (.slice ao' (n + 4) c') (n + 4) ((l ++ o4 v).map (Value.int .u8)) ∧ Below w.heap.size w w' := by
 obtain ⟨B, HB⟩ : ∃ B, Hid (B = w.heap.size) := ⟨_, rfl⟩
 have hsz : w.heap.size = B := HB.out.symm
 obtain ⟨O, HO⟩ : ∃ O, Hid (O = (o4 v).map (Value.int .u8)) := ⟨_, rfl⟩
 have hOl : O.length = 4 := by rw [HO.out]; rfl
 have hO1 : ∀ u ∈ O, u.oneCell' = true := by rw [HO.out]; exact ints_one _ _
 obtain ⟨Z, HZ⟩ : ∃ Z, Hid (Z = (List.replicate 4 (0 : Int)).map (Value.int .u8)) := ⟨_, rfl⟩
 have hz4 := hid zeroA4
 rw [← HZ.out] at hz4
 have hZl : Z.length = 4 := by rw [HZ.out]; rfl
 have ho4 := fun w => hid (octets4 v w)
 rw [← HO.out] at ho4
 have hal : Tryz.prog.arrayLen 141 = 4 := by kernel_rfl
 have HN := hid hn
 have hLN : Hid ((l.map (Value.int .u8)).length = n * 1) := by show _ = _; rw [List.length_map, hn, Nat.mul_one]
 have hEQ : Hid ((l ++ o4 v).map (Value.int .u8) = l.map (Value.int .u8) ++ O) := by show _ = _; rw [List.map_append, HO.out]
 clear hn
 rw [← HB.out]
 go_enter Tryz.func99, Tryz.ntmps99
 go_wp2_with (first | (go_at_call 112; refine (ho4 w).out.mono ?_; rintro e w1 ⟨rfl, hb1⟩; have hR1 := HR.below hb1; have hs1 := hb1.size) | (refine wl_allocV rfl 141 rfl Z hz4.out w1.heap.size rfl ?_; intro w2 hO2 hb2 hs2) | (refine wl_storeV rfl 141 _ _ rfl 141 w1.heap.size rfl O rfl 4 aggA4 hOl Z hO2 hZl hO1 ?_; intro w3 hO3 hb3 hs3; have hb13 := hb2.trans hb3; have hR3 := hR1.below hb13; have bb3 : Below B w w3 := (hsz ▸ hb1).trans (hb13.mono (by omega)); have hs3' : B ≤ w3.heap.size := (by omega); clear hO2 hb2 hb3 hb13 hR1))
 have hnew : ∀ o, (w3.alloc o).heap[w1.heap.size + 1]? = some o := fun o => by have h := heap_alloc_new w3 o; rwa [show w3.heap.size = w1.heap.size + 1 by omega] at h
 refine (slB.Concat_two ⟨ao, n, cap, l.map (Value.int .u8)⟩ ⟨some ⟨w1.heap.size, 0, none⟩, 4, 4, O⟩ (w1.heap.size + 1) _ (hnew _) ⟨hR3.v.alloc _, hLN.out, ints_one _ _, hno⟩ ⟨(at_row hO3.lt hO3.at0).alloc _, hOl, hO1, fun h => by cases h⟩ (by simp only; omega)).mono ?_
 rintro e w4 ⟨v4, rfl, hM4, hb4⟩
 obtain ⟨ao4, c4, rfl, hc4, _⟩ := hM4.row
 go_wp2_with fail
 go_ret
 refine ⟨_, _, rfl, ?_, (bb3.alloc hs3' _).trans (hb4.mono (by simp; omega))⟩
 rw [hEQ.out]
 exact hM4.mono (by simp; omega)
end Go.Proofs.YtbjmadcbhkeenaaGreat.wr
namespace Go.Proofs.YtbjmadcbhkeenaaGreat.wr
open Go.RowKit st hs shr sh
def EnvPost (x : Env) (w : World) (e : Ending) (w' : World) : Prop :=
 Below w.heap.size w w' ∧ if errV x = 0 then ∃ ao c, e = .returned (.tuple #[.slice ao (sizeV x) c, .int .i64 0]) ∧ Mine w' w.heap.size 5 1 (.slice ao (sizeV x) c) (sizeV x) ((envL x).map (Value.int .u8)) else e = .returned (.tuple #[.slice none 0 0, .int .i64 (errV x)])
theorem hal16 : Tryz.prog.arrayLen 27 = 16 := by kernel_rfl
theorem hal25 : Tryz.prog.arrayLen 53 = 16 := by kernel_rfl
theorem hal32 : Tryz.prog.arrayLen 54 = 32 := by kernel_rfl
theorem hal22 : Tryz.prog.arrayLen 22 = 32 := by kernel_rfl
theorem halTag : Tryz.prog.arrayLen 55 = 16 := by kernel_rfl
set_option maxHeartbeats 8000000 in
theorem Envelope_A (x : Env) (hx : x.Ok) (w : World) (hv : ¬ (x.v = 1 ∨ x.v = 2)) :
  Calls Tryz.prog 59 #[.agg x.cs.toArray] w (EnvPost x w) := by
 obtain ⟨B, HB⟩ : ∃ B, Hid (B = w.heap.size) := ⟨_, rfl⟩
 have hsz : w.heap.size = B := HB.out.symm
 have hin := fun w => hid (In_b x.e 0 4294967295 w)
 have hal1 := hal16
 have hal2 := hal25
 have hal3 := hal32
 have hal4 := hal22
 have hal5 := halTag
 have HXO := hid hx
 have haI := fun w' (h : BlkV 57 w' B x.cs) => hid (env_o hx h)
 have haS := fun w' (h : BlkV 57 w' B x.cs) => hid (env_c hx h)
 have hlo := hid hx.ol
 have hlc := hid hx.cl
 have HE : Hid (errV x = 19) := hid (by unfold errV; rw [if_pos hv])
 have hcv := hid x.cv
 have hce := hid x.ce
 obtain ⟨V, HV⟩ : ∃ V, Hid (V = x.v) := ⟨_, rfl⟩
 rw [← HV.out] at hcv hv
 have hv1 : ¬ V = 1 := fun h => hv (Or.inl h)
 have hv2 : ¬ V = 2 := fun h => hv (Or.inr h)
 have hn1 : (V != 1) = true := by simpa using hv1
 have hn2 : (V != 2) = true := by simpa using hv2
 clear hv hx
 obtain ⟨CS, HCS⟩ : ∃ C, Hid (C = x.cs) := ⟨_, rfl⟩
 rw [← HCS.out] at haI haS hcv hce ⊢
 go_enter Tryz.func59, Tryz.ntmps59
 go_wp2_with (first | (refine wl_boxV rfl 57 _ rfl CS rfl B hsz ?_; intro w0 hB0 hb0 hs0; have c00 := (hB0.cell 0).trans hcv.out; have c01 := (hB0.cell 1).trans hce.out; have hsz0 : B + 1 ≤ w0.heap.size := (by omega); clear hs0))
 go_ret2
 have he : errV x = 19 := HE.out
 unfold EnvPost
 rw [he, ← HB.out, if_neg (by decide)]
 exact ⟨hb0, rfl⟩
set_option maxHeartbeats 8000000 in
theorem Envelope_B (x : Env) (hx : x.Ok) (w : World) (hv : x.v = 1 ∨ x.v = 2) (he : ¬ (0 ≤ x.e ∧ x.e ≤ 4294967295)) :
  Calls Tryz.prog 59 #[.agg x.cs.toArray] w (EnvPost x w) := by
 obtain ⟨B, HB⟩ : ∃ B, Hid (B = w.heap.size) := ⟨_, rfl⟩
 have hsz : w.heap.size = B := HB.out.symm
 have hin := fun w => hid (In_b x.e 0 4294967295 w)
 have hal1 := hal16
 have hal2 := hal25
 have hal3 := hal32
 have hal4 := hal22
 have hal5 := halTag
 have HXO := hid hx
 have haI := fun w' (h : BlkV 57 w' B x.cs) => hid (env_o hx h)
 have haS := fun w' (h : BlkV 57 w' B x.cs) => hid (env_c hx h)
 have hlo := hid hx.ol
 have hlc := hid hx.cl
 have HE : Hid (errV x = 4) := hid (by unfold errV; rw [if_neg (fun h => h hv), if_pos he])
 have hi : inB x.e 0 4294967295 = false := by unfold inB; simp; omega
 rw [hi] at hin
 have hcv := hid x.cv
 have hce := hid x.ce
 obtain ⟨V, HV⟩ : ∃ V, Hid (V = x.v) := ⟨_, rfl⟩
 rw [← HV.out] at hcv hv
 clear hi hx
 obtain ⟨CS, HCS⟩ : ∃ C, Hid (C = x.cs) := ⟨_, rfl⟩
 rw [← HCS.out] at haI haS hcv hce ⊢
 rcases hv with rfl | rfl
 ·skip
  go_enter Tryz.func59, Tryz.ntmps59
  go_wp2_with (first | (refine wl_boxV rfl 57 _ rfl CS rfl B hsz ?_; intro w0 hB0 hb0 hs0; have c00 := (hB0.cell 0).trans hcv.out; have c01 := (hB0.cell 1).trans hce.out; have hsz0 : B + 1 ≤ w0.heap.size := (by omega); clear hs0) | (go_at_call 80; refine (hin _).out.mono ?_; rintro e w1 ⟨rfl, rfl⟩))
  go_ret2
  have he : errV x = 4 := HE.out
  unfold EnvPost
  rw [he, ← HB.out, if_neg (by decide)]
  exact ⟨hb0, rfl⟩
 ·skip
  go_enter Tryz.func59, Tryz.ntmps59
  go_wp2_with (first | (refine wl_boxV rfl 57 _ rfl CS rfl B hsz ?_; intro w0 hB0 hb0 hs0; have c00 := (hB0.cell 0).trans hcv.out; have c01 := (hB0.cell 1).trans hce.out; have hsz0 : B + 1 ≤ w0.heap.size := (by omega); clear hs0) | (go_at_call 80; refine (hin _).out.mono ?_; rintro e w1 ⟨rfl, rfl⟩))
  go_ret2
  have he : errV x = 4 := HE.out
  unfold EnvPost
  rw [he, ← HB.out, if_neg (by decide)]
  exact ⟨hb0, rfl⟩
set_option maxHeartbeats 8000000 in
theorem Envelope_C1 (x : Env) (hx : x.Ok) (w : World) (hv : x.v = 1) (he : 0 ≤ x.e ∧ x.e ≤ 4294967295) (ho : ¬ x.o = List.replicate 16 0) :
  Calls Tryz.prog 59 #[.agg x.cs.toArray] w (EnvPost x w) := by
 obtain ⟨B, HB⟩ : ∃ B, Hid (B = w.heap.size) := ⟨_, rfl⟩
 have hsz : w.heap.size = B := HB.out.symm
 have hin := fun w => hid (In_b x.e 0 4294967295 w)
 have hal1 := hal16
 have hal2 := hal25
 have hal3 := hal32
 have hal4 := hal22
 have hal5 := halTag
 have HXO := hid hx
 have haI := fun w' (h : BlkV 57 w' B x.cs) => hid (env_o hx h)
 have haS := fun w' (h : BlkV 57 w' B x.cs) => hid (env_c hx h)
 have hlo := hid hx.ol
 have hlc := hid hx.cl
 have HE : Hid (errV x = 2) := hid (by unfold errV; rw [if_neg (fun h => h (Or.inl hv)), if_neg (fun h => h he), if_pos ⟨hv, fun h => by first | exact ho h.1 | exact hc h.2⟩])
 have hi : inB x.e 0 4294967295 = true := by unfold inB; simp; omega
 rw [hi] at hin
 have hcv : Hid (x.cs[0]? = some (.int .i64 1)) := hid (by rw [← hv]; exact x.cv)
 have hce := hid x.ce
 obtain ⟨OV, HOV⟩ : ∃ O, Hid (O = x.o.map (Value.int .u8)) := ⟨_, rfl⟩
 obtain ⟨CV, HCV⟩ : ∃ O, Hid (O = x.c.map (Value.int .u8)) := ⟨_, rfl⟩
 obtain ⟨Z16, HZ16⟩ : ∃ O, Hid (O = (List.replicate 16 (0 : Int)).map (Value.int .u8)) := ⟨_, rfl⟩
 obtain ⟨Z32, HZ32⟩ : ∃ O, Hid (O = (List.replicate 32 (0 : Int)).map (Value.int .u8)) := ⟨_, rfl⟩
 have hOl : OV.length = 16 := by rw [HOV.out, List.length_map]; exact hlo.out
 have hCl : CV.length = 32 := by rw [HCV.out, List.length_map]; exact hlc.out
 have hb16 := built_id0
 have hb32 := built_sum0
 have hneo := fun w => hid (run_eq_id w x.o (List.replicate 16 0) hlo.out rfl)
 have hnec := fun w => hid (run_eq_sum w x.c (List.replicate 32 0) hlc.out rfl)
 rw [← HOV.out] at haI hneo
 rw [← HCV.out] at haS hnec
 rw [← HZ16.out] at hneo hb16
 rw [← HZ32.out] at hnec hb32
 have e1 : (x.o == List.replicate 16 0) = false := by simpa using ho
 rw [e1] at hneo
 clear hx
 obtain ⟨CS, HCS⟩ : ∃ C, Hid (C = x.cs) := ⟨_, rfl⟩
 rw [← HCS.out] at haI haS hcv hce ⊢
 go_enter Tryz.func59, Tryz.ntmps59
 go_wp2_with (first | (refine wl_boxV rfl 57 _ rfl CS rfl B hsz ?_; intro w0 hB0 hb0 hs0; have c00 := (hB0.cell 0).trans hcv.out; have c01 := (hB0.cell 1).trans hce.out; have hsz0 : B + 1 ≤ w0.heap.size := (by omega); clear hs0) | (go_at_call 80; refine (hin _).out.mono ?_; rintro e w1 ⟨rfl, rfl⟩) | (refine wl_loadD 22 rfl (by rfl) 27 _ rfl ⟨B, 18, none⟩ rfl 16 OV hOl aggID (haI _ hB0).out ?_) | (refine wl_build0G (by rfl) 27 rfl Z16 hb16 ?_) | (refine wl_neM 24 rfl (by rfl) 27 _ _ _ rfl OV.toArray Z16.toArray rfl rfl false (hneo _).out (by kernel_rfl) ?_))
 go_ret2
 have he : errV x = 2 := HE.out
 unfold EnvPost
 rw [he, ← HB.out, if_neg (by decide)]
 exact ⟨hb0, rfl⟩
set_option maxHeartbeats 8000000 in
theorem Envelope_C2 (x : Env) (hx : x.Ok) (w : World) (hv : x.v = 1) (he : 0 ≤ x.e ∧ x.e ≤ 4294967295) (ho : x.o = List.replicate 16 0) (hc : ¬ x.c = List.replicate 32 0) :
  Calls Tryz.prog 59 #[.agg x.cs.toArray] w (EnvPost x w) := by
 obtain ⟨B, HB⟩ : ∃ B, Hid (B = w.heap.size) := ⟨_, rfl⟩
 have hsz : w.heap.size = B := HB.out.symm
 have hin := fun w => hid (In_b x.e 0 4294967295 w)
 have hal1 := hal16
 have hal2 := hal25
 have hal3 := hal32
 have hal4 := hal22
 have hal5 := halTag
 have HXO := hid hx
 have haI := fun w' (h : BlkV 57 w' B x.cs) => hid (env_o hx h)
 have haS := fun w' (h : BlkV 57 w' B x.cs) => hid (env_c hx h)
 have hlo := hid hx.ol
 have hlc := hid hx.cl
 have HE : Hid (errV x = 2) := hid (by unfold errV; rw [if_neg (fun h => h (Or.inl hv)), if_neg (fun h => h he), if_pos ⟨hv, fun h => by first | exact ho h.1 | exact hc h.2⟩])
 have hi : inB x.e 0 4294967295 = true := by unfold inB; simp; omega
 rw [hi] at hin
 have hcv : Hid (x.cs[0]? = some (.int .i64 1)) := hid (by rw [← hv]; exact x.cv)
 have hce := hid x.ce
 obtain ⟨OV, HOV⟩ : ∃ O, Hid (O = x.o.map (Value.int .u8)) := ⟨_, rfl⟩
 obtain ⟨CV, HCV⟩ : ∃ O, Hid (O = x.c.map (Value.int .u8)) := ⟨_, rfl⟩
 obtain ⟨Z16, HZ16⟩ : ∃ O, Hid (O = (List.replicate 16 (0 : Int)).map (Value.int .u8)) := ⟨_, rfl⟩
 obtain ⟨Z32, HZ32⟩ : ∃ O, Hid (O = (List.replicate 32 (0 : Int)).map (Value.int .u8)) := ⟨_, rfl⟩
 have hOl : OV.length = 16 := by rw [HOV.out, List.length_map]; exact hlo.out
 have hCl : CV.length = 32 := by rw [HCV.out, List.length_map]; exact hlc.out
 have hb16 := built_id0
 have hb32 := built_sum0
 have hneo := fun w => hid (run_eq_id w x.o (List.replicate 16 0) hlo.out rfl)
 have hnec := fun w => hid (run_eq_sum w x.c (List.replicate 32 0) hlc.out rfl)
 rw [← HOV.out] at haI hneo
 rw [← HCV.out] at haS hnec
 rw [← HZ16.out] at hneo hb16
 rw [← HZ32.out] at hnec hb32
 have e1 : (x.o == List.replicate 16 0) = true := by simpa using ho
 have e2 : (x.c == List.replicate 32 0) = false := by simpa using hc
 rw [e1] at hneo
 rw [e2] at hnec
 clear hx
 obtain ⟨CS, HCS⟩ : ∃ C, Hid (C = x.cs) := ⟨_, rfl⟩
 rw [← HCS.out] at haI haS hcv hce ⊢
 go_enter Tryz.func59, Tryz.ntmps59
 go_wp2_with (first | (refine wl_boxV rfl 57 _ rfl CS rfl B hsz ?_; intro w0 hB0 hb0 hs0; have c00 := (hB0.cell 0).trans hcv.out; have c01 := (hB0.cell 1).trans hce.out; have hsz0 : B + 1 ≤ w0.heap.size := (by omega); clear hs0) | (go_at_call 80; refine (hin _).out.mono ?_; rintro e w1 ⟨rfl, rfl⟩) | (refine wl_loadD 22 rfl (by rfl) 27 _ rfl ⟨B, 18, none⟩ rfl 16 OV hOl aggID (haI _ hB0).out ?_) | (refine wl_build0G (by rfl) 27 rfl Z16 hb16 ?_) | (refine wl_neM 24 rfl (by rfl) 27 _ _ _ rfl OV.toArray Z16.toArray rfl rfl true (hneo _).out (by kernel_rfl) ?_) | (refine wl_loadD 27 rfl (by rfl) 54 _ rfl ⟨B, 50, none⟩ rfl 32 CV hCl aggSumT (haS _ hB0).out ?_) | (refine wl_build0G (by rfl) 54 rfl Z32 hb32 ?_) | (refine wl_neM 29 rfl (by rfl) 54 _ _ _ rfl CV.toArray Z32.toArray rfl rfl false (hnec _).out (by kernel_rfl) ?_))
 go_ret2
 have he : errV x = 2 := HE.out
 unfold EnvPost
 rw [he, ← HB.out, if_neg (by decide)]
 exact ⟨hb0, rfl⟩
set_option maxHeartbeats 8000000 in
theorem Envelope_D (x : Env) (hx : x.Ok) (w : World) (hv : x.v = 1) (he : 0 ≤ x.e ∧ x.e ≤ 4294967295) (ho : x.o = List.replicate 16 0) (hc : x.c = List.replicate 32 0) :
  Calls Tryz.prog 59 #[.agg x.cs.toArray] w (EnvPost x w) := by
 obtain ⟨B, HB⟩ : ∃ B, Hid (B = w.heap.size) := ⟨_, rfl⟩
 have hsz : w.heap.size = B := HB.out.symm
 have hin := fun w => hid (In_b x.e 0 4294967295 w)
 have hal1 := hal16
 have hal2 := hal25
 have hal3 := hal32
 have hal4 := hal22
 have hal5 := halTag
 have HXO := hid hx
 have haI := fun w' (h : BlkV 57 w' B x.cs) => hid (env_o hx h)
 have haS := fun w' (h : BlkV 57 w' B x.cs) => hid (env_c hx h)
 have hlo := hid hx.ol
 have hlc := hid hx.cl
 have HE : Hid (errV x = 0) := hid (by unfold errV; rw [if_neg (by simp [hv]), if_neg (fun h => h he), if_neg (fun h => h.2 ⟨ho, hc⟩)])
 have hi : inB x.e 0 4294967295 = true := by unfold inB; simp; omega
 rw [hi] at hin
 have hcv : Hid (x.cs[0]? = some (.int .i64 1)) := hid (by rw [← hv]; exact x.cv)
 have hce := hid x.ce
 obtain ⟨OV, HOV⟩ : ∃ O, Hid (O = x.o.map (Value.int .u8)) := ⟨_, rfl⟩
 obtain ⟨CV, HCV⟩ : ∃ O, Hid (O = x.c.map (Value.int .u8)) := ⟨_, rfl⟩
 obtain ⟨Z16, HZ16⟩ : ∃ O, Hid (O = (List.replicate 16 (0 : Int)).map (Value.int .u8)) := ⟨_, rfl⟩
 obtain ⟨Z32, HZ32⟩ : ∃ O, Hid (O = (List.replicate 32 (0 : Int)).map (Value.int .u8)) := ⟨_, rfl⟩
 have hOl : OV.length = 16 := by rw [HOV.out, List.length_map]; exact hlo.out
 have hCl : CV.length = 32 := by rw [HCV.out, List.length_map]; exact hlc.out
 have hb16 := built_id0
 have hb32 := built_sum0
 have hneo := fun w => hid (run_eq_id w x.o (List.replicate 16 0) hlo.out rfl)
 have hnec := fun w => hid (run_eq_sum w x.c (List.replicate 32 0) hlc.out rfl)
 rw [← HOV.out] at haI hneo
 rw [← HCV.out] at haS hnec
 rw [← HZ16.out] at hneo hb16
 rw [← HZ32.out] at hnec hb32
 have e1 : (x.o == List.replicate 16 0) = true := by simpa using ho
 have e2 : (x.c == List.replicate 32 0) = true := by simpa using hc
 rw [e1] at hneo
 rw [e2] at hnec
 have hlb : Hid ((x.b.map (Value.int .u8)).length = 16 * 1) := hid (by rw [List.length_map, hx.bl])
 have hlo : Hid ((x.o.map (Value.int .u8)).length = 16 * 1) := hid (by rw [List.length_map, hx.ol])
 have hln : Hid ((x.n.map (Value.int .u8)).length = 16 * 1) := hid (by rw [List.length_map, hx.nl])
 have hlc : Hid ((x.c.map (Value.int .u8)).length = 32 * 1) := hid (by rw [List.length_map, hx.cl])
 have hlt : Hid ((x.t.map (Value.int .u8)).length = 16 * 1) := hid (by rw [List.length_map, hx.tl])
 have hlg : Hid ((x.g.map (Value.int .u8)).length = 32 * 1) := hid (by rw [List.length_map, hx.gl])
 have hab := fun w' (h : BlkV 57 w' B x.cs) => hid (env_b h)
 have hao := fun w' (h : BlkV 57 w' B x.cs) => hid (env_o hx h)
 have han := fun w' (h : BlkV 57 w' B x.cs) => hid (env_n hx h)
 have hac := fun w' (h : BlkV 57 w' B x.cs) => hid (env_c hx h)
 have hat := fun w' (h : BlkV 57 w' B x.cs) => hid (env_t hx h)
 have hag := fun w' (h : BlkV 57 w' B x.cs) => hid (env_g hx h)
 clear hx
 obtain ⟨CS, HCS⟩ : ∃ C, Hid (C = x.cs) := ⟨_, rfl⟩
 rw [← HCS.out] at haI haS hab hao han hac hag hat hcv hce ⊢
 have hEQ : Hid ((envL x).map (Value.int .u8) = (((((([.int .u8 75, .int .u8 87, .int .u8 87] ++ [.int .u8 1]) ++ (o4 x.e).map (Value.int .u8)) ++ x.b.map (Value.int .u8)) ++ x.n.map (Value.int .u8)) ++ x.g.map (Value.int .u8)) ++ x.t.map (Value.int .u8))) := hid (by unfold envL aheadL twoL; rw [hv]; simp [o4])
 have hSZ : Hid (sizeV x = 88) := hid (by unfold sizeV; rw [hv]; rfl)
 have hoct := fun w => hid (Octets_any x.e 4 w (by omega))
 simp only [octN_four] at hoct
 go_enter Tryz.func59, Tryz.ntmps59
 go_wp2_with (first | (refine wl_boxV rfl 57 _ rfl CS rfl B hsz ?_; intro w0 hB0 hb0 hs0; have c00 := (hB0.cell 0).trans hcv.out; have c01 := (hB0.cell 1).trans hce.out; have hsz0 : B + 1 ≤ w0.heap.size := (by omega); clear hs0) | (go_at_call 80; refine (hin _).out.mono ?_; rintro e w1 ⟨rfl, rfl⟩) | (refine wl_loadD 22 rfl (by rfl) 27 _ rfl ⟨B, 18, none⟩ rfl 16 OV hOl aggID (haI _ hB0).out ?_) | (refine wl_build0G (by rfl) 27 rfl Z16 hb16 ?_) | (refine wl_neM 24 rfl (by rfl) 27 _ _ _ rfl OV.toArray Z16.toArray rfl rfl true (hneo _).out (by kernel_rfl) ?_) | (refine wl_loadD 27 rfl (by rfl) 54 _ rfl ⟨B, 50, none⟩ rfl 32 CV hCl aggSumT (haS _ hB0).out ?_) | (refine wl_build0G (by rfl) 54 rfl Z32 hb32 ?_) | (refine wl_neM 29 rfl (by rfl) 54 _ _ _ rfl CV.toArray Z32.toArray rfl rfl true (hnec _).out (by kernel_rfl) ?_) | (at_builtin; refine wl_appendS rfl _ _ 25 rfl 5 (.int .u8 0) 1 1 Tryz.underlying25 info8 rfl (by decide) (B + 1) _ 72 _ rfl hM6 (some ⟨B, 114, none⟩) 16 16 rfl (fun h => by cases h) (x.t.map (Value.int .u8)) hlt.out (at_row (by omega) (hat _ hB6).out) (ints_one _ _) (by decide) (by decide) (by omega) 88 rfl ?_; intro ao7 cap7 w7 row7 hc7 hM7 hv7 hg7 hrow7; have hB7 := blk_grown hB6 hg7 (fun k hk => (hrow7 k hk).1) (by omega); have bb7 := bb6.grown hg7 (by omega) (fun k hk => by have := (hrow7 k hk).1; omega); have hsz7 : B + 1 ≤ w7.heap.size := (by have := hg7.size; omega); have c70 := (hB7.cell 0).trans hcv.out; clear hB6 bb6 hM6 hg7 hrow7 hv7 c60) | (at_builtin; refine wl_appendS rfl _ _ 25 rfl 5 (.int .u8 0) 1 1 Tryz.underlying25 info8 rfl (by decide) (B + 1) _ 40 _ rfl hM5 (some ⟨B, 82, none⟩) 32 32 rfl (fun h => by cases h) (x.g.map (Value.int .u8)) hlg.out (at_row (by omega) (hag _ hB5).out) (ints_one _ _) (by decide) (by decide) (by omega) 72 rfl ?_; intro ao6 cap6 w6 row6 hc6 hM6 hv6 hg6 hrow6; have hB6 := blk_grown hB5 hg6 (fun k hk => (hrow6 k hk).1) (by omega); have bb6 := bb5.grown hg6 (by omega) (fun k hk => by have := (hrow6 k hk).1; omega); have hsz6 : B + 1 ≤ w6.heap.size := (by have := hg6.size; omega); have c60 := (hB6.cell 0).trans hcv.out; clear hB5 bb5 hM5 hg6 hrow6 hv6 c50) | (at_builtin; refine wl_appendS rfl _ _ 25 rfl 5 (.int .u8 0) 1 1 Tryz.underlying25 info8 rfl (by decide) (B + 1) _ 24 _ rfl hM4 (some ⟨B, 34, none⟩) 16 16 rfl (fun h => by cases h) (x.n.map (Value.int .u8)) hln.out (at_row (by omega) (han _ hB4).out) (ints_one _ _) (by decide) (by decide) (by omega) 40 rfl ?_; intro ao5 cap5 w5 row5 hc5 hM5 hv5 hg5 hrow5; have hB5 := blk_grown hB4 hg5 (fun k hk => (hrow5 k hk).1) (by omega); have bb5 := bb4.grown hg5 (by omega) (fun k hk => by have := (hrow5 k hk).1; omega); have hsz5 : B + 1 ≤ w5.heap.size := (by have := hg5.size; omega); have c50 := (hB5.cell 0).trans hcv.out; clear hB4 bb4 hM4 hg5 hrow5 hv5 c40) | (at_builtin; refine wl_appendS rfl _ _ 25 rfl 5 (.int .u8 0) 1 1 Tryz.underlying25 info8 rfl (by decide) (B + 1) _ 8 _ rfl hM3 (some ⟨B, 2, none⟩) 16 16 rfl (fun h => by cases h) (x.b.map (Value.int .u8)) hlb.out (at_row (by omega) (hab _ hB3).out) (ints_one _ _) (by decide) (by decide) (by omega) 24 rfl ?_; intro ao4 cap4 w4 row4 hc4 hM4 hv4 hg4 hrow4; have hB4 := blk_grown hB3 hg4 (fun k hk => (hrow4 k hk).1) (by omega); have bb4 := bb3.grown hg4 (by omega) (fun k hk => by have := (hrow4 k hk).1; omega); have hsz4 : B + 1 ≤ w4.heap.size := (by have := hg4.size; omega); have c40 := (hB4.cell 0).trans hcv.out; clear hB3 bb3 hM3 hg4 hrow4 hv4 c30) | (at_builtin; refine wl_appendS rfl _ _ 25 rfl 5 (.int .u8 0) 1 1 Tryz.underlying25 info8 rfl (by decide) (B + 1) _ 4 _ rfl hM2 (some ⟨w1.heap.size, 0, none⟩) 4 4 rfl (fun h => by cases h) ((o4 x.e).map (Value.int .u8)) rfl (rowV_of hO2.v) (ints_one _ _) (by decide) (by decide) (by omega) 8 rfl ?_; intro ao3 cap3 w3 row3 hc3 hM3 hv3 hg3 hrow3; have hB3 := blk_grown hB2 hg3 (fun k hk => (hrow3 k hk).1) (by omega); have bb3 := bb2.grown hg3 (by omega) (fun k hk => by have := (hrow3 k hk).1; omega); have hsz3 : B + 1 ≤ w3.heap.size := (by have := hg3.size; omega); have c30 := (hB3.cell 0).trans hcv.out; clear hB2 bb2 hM2 hg3 hrow3 hv3 c20) | (go_at_call 81; refine (hoct w1).out.mono ?_; rintro e w2 ⟨rfl, hO2, hb2⟩; have hM2 := hM1.belowAll hb2; have hB2 := hB1.below hb2 (by omega); have bb2 := bb1.trans (hb2.mono (by omega : B ≤ _)); have hsz2 : B + 1 ≤ w2.heap.size := (by have := hb2.size; omega); have c20 := (hB2.cell 0).trans hcv.out; clear hM1 hB1 bb1 hb2 c11) | (at_builtin; refine wl_appendArg rfl _ _ rfl ⟨w0.heap.size, 0, none⟩ 3 3 rfl [.int .u8 75, .int .u8 87, .int .u8 87] rfl hAd ⟨wc.heap.size, 0, none⟩ 1 1 rfl [.int .u8 1] rfl hDd.at0 (by decide) (by decide) (B + 1) (by omega) 4 rfl ?_; intro ao1 cap1 w1 hc1 hM1 hg1; have hB1 := hBd.grown hg1 (by intro e; cases e); have bb1 := bbd.grown hg1 (by omega) (fun k hk => by cases hk); have c11 := (hB1.cell 1).trans hce.out; have hsz1 : B + 1 ≤ w1.heap.size := (by have := hg1.size; omega); clear hBd bbd hg1 cd0 hAd hDd hsd) | (refine wl_lit rfl 25 5 1 _ rfl Tryz.underlying25 (.int .u8 0) 1 1 info8 (by decide) (by decide) [.int .u8 1] (by kernel_rfl) wc.heap.size rfl ?_; intro wd hDd hbd hsd; have hAd := at_below hAc hbd hoc; have hBd := hBc.below hbd (by omega); have bbd := bbc.trans (hbd.mono (by omega : B ≤ _)); have hszd : B + 1 ≤ wd.heap.size := (by omega); have cd0 := (hBd.cell 0).trans hcv.out; clear hAc hBc bbc hbd hoc cc0) | (refine wl_convC rfl _ rfl [.int .u8 75, .int .u8 87, .int .u8 87] 3 3 rfl w0.heap.size rfl ?_; intro wc hAc hbc hsc; have hBc := hB0.below hbc (by omega); have bbc := hb0.trans (hbc.mono (by omega : B ≤ _)); have cc0 := (hBc.cell 0).trans hcv.out; have hszc : B + 1 ≤ wc.heap.size := (by omega); have hoc : w0.heap.size < wc.heap.size := (by omega); clear hB0 hb0 hbc hsc c00 c01))
 go_ret2
 unfold EnvPost
 rw [if_pos HE.out, hSZ.out, hEQ.out, ← HB.out]
 exact ⟨bb7, _, _, rfl, hM7.mono (by omega)⟩
set_option maxHeartbeats 8000000 in
theorem Envelope_E (x : Env) (hx : x.Ok) (w : World) (hv : x.v = 2) (he : 0 ≤ x.e ∧ x.e ≤ 4294967295) :
  Calls Tryz.prog 59 #[.agg x.cs.toArray] w (EnvPost x w) := by
 obtain ⟨B, HB⟩ : ∃ B, Hid (B = w.heap.size) := ⟨_, rfl⟩
 have hsz : w.heap.size = B := HB.out.symm
 have hin := fun w => hid (In_b x.e 0 4294967295 w)
 have hal1 := hal16
 have hal2 := hal25
 have hal3 := hal32
 have hal4 := hal22
 have hal5 := halTag
 have HXO := hid hx
 have haI := fun w' (h : BlkV 57 w' B x.cs) => hid (env_o hx h)
 have haS := fun w' (h : BlkV 57 w' B x.cs) => hid (env_c hx h)
 have hlo := hid hx.ol
 have hlc := hid hx.cl
 have HE : Hid (errV x = 0) := hid (by unfold errV; rw [if_neg (by simp [hv]), if_neg (fun h => h he), if_neg (fun h => by have := h.1; omega)])
 have hi : inB x.e 0 4294967295 = true := by unfold inB; simp; omega
 rw [hi] at hin
 have hcv : Hid (x.cs[0]? = some (.int .i64 2)) := hid (by rw [← hv]; exact x.cv)
 have hce := hid x.ce
 obtain ⟨OV, HOV⟩ : ∃ O, Hid (O = x.o.map (Value.int .u8)) := ⟨_, rfl⟩
 obtain ⟨CV, HCV⟩ : ∃ O, Hid (O = x.c.map (Value.int .u8)) := ⟨_, rfl⟩
 obtain ⟨Z16, HZ16⟩ : ∃ O, Hid (O = (List.replicate 16 (0 : Int)).map (Value.int .u8)) := ⟨_, rfl⟩
 obtain ⟨Z32, HZ32⟩ : ∃ O, Hid (O = (List.replicate 32 (0 : Int)).map (Value.int .u8)) := ⟨_, rfl⟩
 have hOl : OV.length = 16 := by rw [HOV.out, List.length_map]; exact hlo.out
 have hCl : CV.length = 32 := by rw [HCV.out, List.length_map]; exact hlc.out
 have hb16 := built_id0
 have hb32 := built_sum0
 have hneo := fun w => hid (run_eq_id w x.o (List.replicate 16 0) hlo.out rfl)
 have hnec := fun w => hid (run_eq_sum w x.c (List.replicate 32 0) hlc.out rfl)
 rw [← HOV.out] at haI hneo
 rw [← HCV.out] at haS hnec
 rw [← HZ16.out] at hneo hb16
 rw [← HZ32.out] at hnec hb32
 have hlb : Hid ((x.b.map (Value.int .u8)).length = 16 * 1) := hid (by rw [List.length_map, hx.bl])
 have hlo : Hid ((x.o.map (Value.int .u8)).length = 16 * 1) := hid (by rw [List.length_map, hx.ol])
 have hln : Hid ((x.n.map (Value.int .u8)).length = 16 * 1) := hid (by rw [List.length_map, hx.nl])
 have hlc : Hid ((x.c.map (Value.int .u8)).length = 32 * 1) := hid (by rw [List.length_map, hx.cl])
 have hlt : Hid ((x.t.map (Value.int .u8)).length = 16 * 1) := hid (by rw [List.length_map, hx.tl])
 have hlg : Hid ((x.g.map (Value.int .u8)).length = 32 * 1) := hid (by rw [List.length_map, hx.gl])
 have hab := fun w' (h : BlkV 57 w' B x.cs) => hid (env_b h)
 have hao := fun w' (h : BlkV 57 w' B x.cs) => hid (env_o hx h)
 have han := fun w' (h : BlkV 57 w' B x.cs) => hid (env_n hx h)
 have hac := fun w' (h : BlkV 57 w' B x.cs) => hid (env_c hx h)
 have hat := fun w' (h : BlkV 57 w' B x.cs) => hid (env_t hx h)
 have hag := fun w' (h : BlkV 57 w' B x.cs) => hid (env_g hx h)
 clear hx
 obtain ⟨CS, HCS⟩ : ∃ C, Hid (C = x.cs) := ⟨_, rfl⟩
 rw [← HCS.out] at haI haS hab hao han hac hag hat hcv hce ⊢
 have hEQ : Hid ((envL x).map (Value.int .u8) = (((((((([.int .u8 75, .int .u8 87, .int .u8 87] ++ [.int .u8 2]) ++ (o4 x.e).map (Value.int .u8)) ++ x.b.map (Value.int .u8)) ++ x.o.map (Value.int .u8)) ++ x.n.map (Value.int .u8)) ++ x.c.map (Value.int .u8)) ++ x.g.map (Value.int .u8)) ++ x.t.map (Value.int .u8))) := hid (by unfold envL aheadL twoL; rw [hv]; simp [o4])
 have hSZ : Hid (sizeV x = 136) := hid (by unfold sizeV; rw [hv]; rfl)
 have hoct := fun w => hid (Octets_any x.e 4 w (by omega))
 simp only [octN_four] at hoct
 go_enter Tryz.func59, Tryz.ntmps59
 go_wp2_with (first | (with_reducible refine @wl_skip _ _ _ _ _ _ _ 21 ?_ ?_ ?_; with_reducible rfl; kernel_rfl; go_frame) | (with_reducible refine @wl_skip _ _ _ _ _ _ _ 22 ?_ ?_ ?_; with_reducible rfl; kernel_rfl; go_frame) | (with_reducible refine @wl_skip _ _ _ _ _ _ _ 23 ?_ ?_ ?_; with_reducible rfl; kernel_rfl; go_frame) | (with_reducible refine @wl_skip _ _ _ _ _ _ _ 24 ?_ ?_ ?_; with_reducible rfl; kernel_rfl; go_frame) | (with_reducible refine @wl_skip _ _ _ _ _ _ _ 25 ?_ ?_ ?_; with_reducible rfl; kernel_rfl; go_frame) | (with_reducible refine @wl_skip _ _ _ _ _ _ _ 26 ?_ ?_ ?_; with_reducible rfl; kernel_rfl; go_frame) | (with_reducible refine @wl_skip _ _ _ _ _ _ _ 27 ?_ ?_ ?_; with_reducible rfl; kernel_rfl; go_frame) | (with_reducible refine @wl_skip _ _ _ _ _ _ _ 28 ?_ ?_ ?_; with_reducible rfl; kernel_rfl; go_frame) | (with_reducible refine @wl_skip _ _ _ _ _ _ _ 29 ?_ ?_ ?_; with_reducible rfl; kernel_rfl; go_frame) | (with_reducible refine @wl_skip _ _ _ _ _ _ _ 30 ?_ ?_ ?_; with_reducible rfl; kernel_rfl; go_frame) | (refine wl_boxV rfl 57 _ rfl CS rfl B hsz ?_; intro w0 hB0 hb0 hs0; have c00 := (hB0.cell 0).trans hcv.out; have c01 := (hB0.cell 1).trans hce.out; have hsz0 : B + 1 ≤ w0.heap.size := (by omega); clear hs0) | (go_at_call 80; refine (hin _).out.mono ?_; rintro e w1 ⟨rfl, rfl⟩) | (at_builtin; refine wl_appendS rfl _ _ 25 rfl 5 (.int .u8 0) 1 1 Tryz.underlying25 info8 rfl (by decide) (B + 1) _ 120 _ rfl hM8 (some ⟨B, 114, none⟩) 16 16 rfl (fun h => by cases h) (x.t.map (Value.int .u8)) hlt.out (at_row (by omega) (hat _ hB8).out) (ints_one _ _) (by decide) (by decide) (by omega) 136 rfl ?_; intro ao9 cap9 w9 row9 hc9 hM9 hv9 hg9 hrow9; have hB9 := blk_grown hB8 hg9 (fun k hk => (hrow9 k hk).1) (by omega); have bb9 := bb8.grown hg9 (by omega) (fun k hk => by have := (hrow9 k hk).1; omega); have hsz9 : B + 1 ≤ w9.heap.size := (by have := hg9.size; omega); have c90 := (hB9.cell 0).trans hcv.out; clear hB8 bb8 hM8 hg9 hrow9 hv9 c80) | (at_builtin; refine wl_appendS rfl _ _ 25 rfl 5 (.int .u8 0) 1 1 Tryz.underlying25 info8 rfl (by decide) (B + 1) _ 88 _ rfl hM7 (some ⟨B, 82, none⟩) 32 32 rfl (fun h => by cases h) (x.g.map (Value.int .u8)) hlg.out (at_row (by omega) (hag _ hB7).out) (ints_one _ _) (by decide) (by decide) (by omega) 120 rfl ?_; intro ao8 cap8 w8 row8 hc8 hM8 hv8 hg8 hrow8; have hB8 := blk_grown hB7 hg8 (fun k hk => (hrow8 k hk).1) (by omega); have bb8 := bb7.grown hg8 (by omega) (fun k hk => by have := (hrow8 k hk).1; omega); have hsz8 : B + 1 ≤ w8.heap.size := (by have := hg8.size; omega); have c80 := (hB8.cell 0).trans hcv.out; clear hB7 bb7 hM7 hg8 hrow8 hv8 c70) | (at_builtin; refine wl_appendS rfl _ _ 25 rfl 5 (.int .u8 0) 1 1 Tryz.underlying25 info8 rfl (by decide) (B + 1) _ 56 _ rfl hM6 (some ⟨B, 50, none⟩) 32 32 rfl (fun h => by cases h) (x.c.map (Value.int .u8)) hlc.out (at_row (by omega) (hac _ hB6).out) (ints_one _ _) (by decide) (by decide) (by omega) 88 rfl ?_; intro ao7 cap7 w7 row7 hc7 hM7 hv7 hg7 hrow7; have hB7 := blk_grown hB6 hg7 (fun k hk => (hrow7 k hk).1) (by omega); have bb7 := bb6.grown hg7 (by omega) (fun k hk => by have := (hrow7 k hk).1; omega); have hsz7 : B + 1 ≤ w7.heap.size := (by have := hg7.size; omega); have c70 := (hB7.cell 0).trans hcv.out; clear hB6 bb6 hM6 hg7 hrow7 hv7 c60) | (at_builtin; refine wl_appendS rfl _ _ 25 rfl 5 (.int .u8 0) 1 1 Tryz.underlying25 info8 rfl (by decide) (B + 1) _ 40 _ rfl hM5 (some ⟨B, 34, none⟩) 16 16 rfl (fun h => by cases h) (x.n.map (Value.int .u8)) hln.out (at_row (by omega) (han _ hB5).out) (ints_one _ _) (by decide) (by decide) (by omega) 56 rfl ?_; intro ao6 cap6 w6 row6 hc6 hM6 hv6 hg6 hrow6; have hB6 := blk_grown hB5 hg6 (fun k hk => (hrow6 k hk).1) (by omega); have bb6 := bb5.grown hg6 (by omega) (fun k hk => by have := (hrow6 k hk).1; omega); have hsz6 : B + 1 ≤ w6.heap.size := (by have := hg6.size; omega); have c60 := (hB6.cell 0).trans hcv.out; clear hB5 bb5 hM5 hg6 hrow6 hv6 c50) | (at_builtin; refine wl_appendS rfl _ _ 25 rfl 5 (.int .u8 0) 1 1 Tryz.underlying25 info8 rfl (by decide) (B + 1) _ 24 _ rfl hM4 (some ⟨B, 18, none⟩) 16 16 rfl (fun h => by cases h) (x.o.map (Value.int .u8)) hlo.out (at_row (by omega) (hao _ hB4).out) (ints_one _ _) (by decide) (by decide) (by omega) 40 rfl ?_; intro ao5 cap5 w5 row5 hc5 hM5 hv5 hg5 hrow5; have hB5 := blk_grown hB4 hg5 (fun k hk => (hrow5 k hk).1) (by omega); have bb5 := bb4.grown hg5 (by omega) (fun k hk => by have := (hrow5 k hk).1; omega); have hsz5 : B + 1 ≤ w5.heap.size := (by have := hg5.size; omega); have c50 := (hB5.cell 0).trans hcv.out; clear hB4 bb4 hM4 hg5 hrow5 hv5 c40) | (at_builtin; refine wl_appendS rfl _ _ 25 rfl 5 (.int .u8 0) 1 1 Tryz.underlying25 info8 rfl (by decide) (B + 1) _ 8 _ rfl hM3 (some ⟨B, 2, none⟩) 16 16 rfl (fun h => by cases h) (x.b.map (Value.int .u8)) hlb.out (at_row (by omega) (hab _ hB3).out) (ints_one _ _) (by decide) (by decide) (by omega) 24 rfl ?_; intro ao4 cap4 w4 row4 hc4 hM4 hv4 hg4 hrow4; have hB4 := blk_grown hB3 hg4 (fun k hk => (hrow4 k hk).1) (by omega); have bb4 := bb3.grown hg4 (by omega) (fun k hk => by have := (hrow4 k hk).1; omega); have hsz4 : B + 1 ≤ w4.heap.size := (by have := hg4.size; omega); have c40 := (hB4.cell 0).trans hcv.out; clear hB3 bb3 hM3 hg4 hrow4 hv4 c30) | (at_builtin; refine wl_appendS rfl _ _ 25 rfl 5 (.int .u8 0) 1 1 Tryz.underlying25 info8 rfl (by decide) (B + 1) _ 4 _ rfl hM2 (some ⟨w1.heap.size, 0, none⟩) 4 4 rfl (fun h => by cases h) ((o4 x.e).map (Value.int .u8)) rfl (rowV_of hO2.v) (ints_one _ _) (by decide) (by decide) (by omega) 8 rfl ?_; intro ao3 cap3 w3 row3 hc3 hM3 hv3 hg3 hrow3; have hB3 := blk_grown hB2 hg3 (fun k hk => (hrow3 k hk).1) (by omega); have bb3 := bb2.grown hg3 (by omega) (fun k hk => by have := (hrow3 k hk).1; omega); have hsz3 : B + 1 ≤ w3.heap.size := (by have := hg3.size; omega); have c30 := (hB3.cell 0).trans hcv.out; clear hB2 bb2 hM2 hg3 hrow3 hv3 c20) | (go_at_call 81; refine (hoct w1).out.mono ?_; rintro e w2 ⟨rfl, hO2, hb2⟩; have hM2 := hM1.belowAll hb2; have hB2 := hB1.below hb2 (by omega); have bb2 := bb1.trans (hb2.mono (by omega : B ≤ _)); have hsz2 : B + 1 ≤ w2.heap.size := (by have := hb2.size; omega); have c20 := (hB2.cell 0).trans hcv.out; clear hM1 hB1 bb1 hb2 c11) | (at_builtin; refine wl_appendArg rfl _ _ rfl ⟨w0.heap.size, 0, none⟩ 3 3 rfl [.int .u8 75, .int .u8 87, .int .u8 87] rfl hAd ⟨wc.heap.size, 0, none⟩ 1 1 rfl [.int .u8 2] rfl hDd.at0 (by decide) (by decide) (B + 1) (by omega) 4 rfl ?_; intro ao1 cap1 w1 hc1 hM1 hg1; have hB1 := hBd.grown hg1 (by intro e; cases e); have bb1 := bbd.grown hg1 (by omega) (fun k hk => by cases hk); have c11 := (hB1.cell 1).trans hce.out; have hsz1 : B + 1 ≤ w1.heap.size := (by have := hg1.size; omega); clear hBd bbd hg1 cd0 hAd hDd hsd) | (refine wl_lit rfl 25 5 1 _ rfl Tryz.underlying25 (.int .u8 0) 1 1 info8 (by decide) (by decide) [.int .u8 2] (by kernel_rfl) wc.heap.size rfl ?_; intro wd hDd hbd hsd; have hAd := at_below hAc hbd hoc; have hBd := hBc.below hbd (by omega); have bbd := bbc.trans (hbd.mono (by omega : B ≤ _)); have hszd : B + 1 ≤ wd.heap.size := (by omega); have cd0 := (hBd.cell 0).trans hcv.out; clear hAc hBc bbc hbd hoc cc0) | (refine wl_convC rfl _ rfl [.int .u8 75, .int .u8 87, .int .u8 87] 3 3 rfl w0.heap.size rfl ?_; intro wc hAc hbc hsc; have hBc := hB0.below hbc (by omega); have bbc := hb0.trans (hbc.mono (by omega : B ≤ _)); have cc0 := (hBc.cell 0).trans hcv.out; have hszc : B + 1 ≤ wc.heap.size := (by omega); have hoc : w0.heap.size < wc.heap.size := (by omega); clear hB0 hb0 hbc hsc c00 c01))
 go_ret2
 unfold EnvPost
 rw [if_pos HE.out, hSZ.out, hEQ.out, ← HB.out]
 exact ⟨bb9, _, _, rfl, hM9.mono (by omega)⟩
theorem Envelope_any (x : Env) (hx : x.Ok) (w : World) : Calls Tryz.prog 59 #[.agg x.cs.toArray] w (EnvPost x w) := by
 by_cases hv : x.v = 1 ∨ x.v = 2
 ·by_cases he : 0 ≤ x.e ∧ x.e ≤ 4294967295
  ·by_cases h1 : x.v = 1
   ·by_cases ho : x.o = List.replicate 16 0
    ·by_cases hc : x.c = List.replicate 32 0
     ·exact Envelope_D x hx w h1 he ho hc
     ·exact Envelope_C2 x hx w h1 he ho hc
    ·exact Envelope_C1 x hx w h1 he ho
   ·exact Envelope_E x hx w (hv.resolve_left h1) he
  ·exact Envelope_B x hx w hv he
 ·exact Envelope_A x hx w hv
end Go.Proofs.YtbjmadcbhkeenaaGreat.wr
namespace Go.Proofs.YtbjmadcbhkeenaaGreat.wr
open Go.RowKit st hs shr sh
def seg (l : List Int) (k n : Nat) : List Int := (l.drop k).take n
theorem seg_length {l : List Int} {k n : Nat} (h : k + n ≤ l.length) : (seg l k n).length = n := by unfold seg; rw [List.length_take, List.length_drop]; omega
theorem seg_octs {l : List Int} (h : Octs l) (k n : Nat) : Octs (seg l k n) := fun c hc => h c (List.mem_of_mem_drop (List.mem_of_mem_take hc))
theorem seg_get? (l : List Int) (k n i : Nat) (h : i < n) : (seg l k n)[i]? = l[k + i]? := by unfold seg; rw [List.getElem?_take, if_pos h, List.getElem?_drop]
theorem seg_four {l : List Int} {k : Nat} (h : k + 4 ≤ l.length) : seg l k 4 = [l.getD k 0, l.getD (k + 1) 0, l.getD (k + 2) 0, l.getD (k + 3) 0] := by
 apply List.ext_getElem?
 intro i
 by_cases hi : i < 4
 ·rw [seg_get? l k 4 i hi, List.getElem?_eq_getElem (by omega)]
  have : i = 0 ∨ i = 1 ∨ i = 2 ∨ i = 3 := by omega
  rcases this with rfl | rfl | rfl | rfl <;> simp [List.getD_eq_getElem?_getD, List.getElem?_eq_getElem (show k + 0 < l.length by omega), List.getElem?_eq_getElem (show k < l.length by omega), List.getElem?_eq_getElem (show k + 1 < l.length by omega), List.getElem?_eq_getElem (show k + 2 < l.length by omega), List.getElem?_eq_getElem (show k + 3 < l.length by omega)]
 ·rw [List.getElem?_eq_none (by rw [seg_length h]; omega), List.getElem?_eq_none (by simp; omega)]
theorem seg_at {w : World} {b off : Nat} {l : List Int} (hc : ∀ i, i < l.length → w.cell? ⟨b, off + i, none⟩ = some (.int .u8 (l.getD i 0))) {k n : Nat} (h : k + n ≤ l.length) : At w ⟨b, off + k, none⟩ ((seg l k n).map (Value.int .u8)) := fun j u hu => by
 have hj : j < n := by have := (List.getElem?_eq_some_iff.1 hu).1; rw [List.length_map, seg_length h] at this; exact this
 rw [addr_add, Nat.add_assoc, hc (k + j) (by omega), ← hu, List.getElem?_map, seg_get? l k n j hj, List.getElem?_eq_getElem (by omega), getD_lt' l 0 (by omega)]
 rfl
def kww : List Int := [75, 87, 87]
theorem kww_octs : Octs kww := by
 intro c hc
 unfold kww at hc
 simp only [List.mem_cons, List.not_mem_nil, or_false] at hc
 rcases hc with rfl | rfl | rfl <;> exact ⟨by decide, by decide⟩
def szR (l : List Int) : Nat := if l.getD 3 0 = 2 then 136 else 88
def readE (l : List Int) : Int := if l.length < 4 then 1 else if ¬ l.take 3 = kww then 2 else if ¬ (l.getD 3 0 = 1 ∨ l.getD 3 0 = 2) then 19 else if l.length < szR l then 1 else if szR l < l.length then 2 else 0
def readX (l : List Int) : Env := if l.getD 3 0 = 2 then ⟨2, numL (seg l 4 4), seg l 8 16, seg l 24 16, seg l 40 16, seg l 56 32, seg l 88 32, seg l 120 16⟩ else ⟨1, numL (seg l 4 4), seg l 8 16, List.replicate 16 0, seg l 24 16, List.replicate 32 0, seg l 40 32, seg l 72 16⟩
def readX0 (l : List Int) : Env := if readE l = 0 then readX l else env0
def readV (l : List Int) : Value := .tuple #[.agg (readX0 l).cs.toArray, .int .i64 (readE l)]
theorem readV_err {l : List Int} {e : Int} (h : readE l = e) (h0 : e ≠ 0) : readV l = .tuple #[.agg env0.cs.toArray, .int .i64 e] := by
 unfold readV readX0
 rw [h, if_neg h0]
theorem readV_ok {l : List Int} (h : readE l = 0) : readV l = .tuple #[.agg (readX l).cs.toArray, .int .i64 0] := by
 unfold readV readX0
 rw [h, if_pos rfl]
theorem readE_zero {l : List Int} (h : readE l = 0) : 4 ≤ l.length ∧ l.take 3 = kww ∧ ((l.getD 3 0 = 1 ∧ l.length = 88) ∨ (l.getD 3 0 = 2 ∧ l.length = 136)) := by
 unfold readE at h
 split at h
 ·cases h
 split at h
 ·cases h
 split at h
 ·cases h
 split at h
 ·cases h
 split at h
 ·cases h
 rename_i h1 h2 h3 h4 h5
 refine ⟨by omega, Decidable.not_not.1 h2, ?_⟩
 unfold szR at h4 h5
 rcases Decidable.not_not.1 h3 with h6 | h6
 ·rw [if_neg (by omega)] at h4 h5; exact Or.inl ⟨h6, Nat.le_antisymm (Nat.le_of_not_lt h5) (Nat.le_of_not_lt h4)⟩
 ·rw [if_pos h6] at h4 h5; exact Or.inr ⟨h6, Nat.le_antisymm (Nat.le_of_not_lt h5) (Nat.le_of_not_lt h4)⟩
theorem numL4_b {l : List Int} (h : Octs l) (k : Nat) : 0 ≤ numL (seg l k 4) ∧ numL (seg l k 4) ≤ 4294967295 := by
 have hs := seg_octs h k 4
 have hl : (seg l k 4).length ≤ 4 := by unfold seg; rw [List.length_take]; omega
 generalize seg l k 4 = s at hs hl
 have hb : ∀ i, i < s.length → 0 ≤ s.getD i 0 ∧ s.getD i 0 ≤ 255 := fun i hi => by have := hs.getD i; unfold Oct at this; omega
 match s, hl, hb with
 | [], _, _ => exact ⟨by decide, by decide⟩
 | [a], _, hb => have := hb 0 (by simp); simp at this; show 0 ≤ 256 * 0 + a ∧ 256 * 0 + a ≤ 4294967295; omega
 | [a, b], _, hb => have h0 := hb 0 (by simp); have h1 := hb 1 (by simp); simp at h0 h1; simp [numL]; omega
 | [a, b, c], _, hb => have h0 := hb 0 (by simp); have h1 := hb 1 (by simp); have h2 := hb 2 (by simp); simp at h0 h1 h2; simp [numL]; omega
 | [a, b, c, d], _, hb => have h0 := hb 0 (by simp); have h1 := hb 1 (by simp); have h2 := hb 2 (by simp); have h3 := hb 3 (by simp); simp at h0 h1 h2 h3; simp [numL]; omega
 | _ :: _ :: _ :: _ :: _ :: _, hl, _ => simp only [List.length_cons] at hl; omega
theorem readX_ok {l : List Int} (ho : Octs l) (h : readE l = 0) : (readX l).Ok := by
 obtain ⟨_, _, h1 | h1⟩ := readE_zero h
 ·have hn := numL4_b ho 4
  unfold readX
  rw [if_neg (by omega)]
  exact ⟨⟨by show (-9223372036854775808 : Int) ≤ 1; decide, by show 1 ≤ (9223372036854775807 : Int); decide⟩, ⟨by simp only; omega, by simp only; omega⟩, seg_length (by omega), rfl, seg_length (by omega), rfl, seg_length (by omega), seg_length (by omega), seg_octs ho _ _, zeros_octs 16, seg_octs ho _ _, zeros_octs 32, seg_octs ho _ _, seg_octs ho _ _⟩
 ·have hn := numL4_b ho 4
  unfold readX
  rw [if_pos h1.1]
  exact ⟨⟨by show (-9223372036854775808 : Int) ≤ 2; decide, by show 2 ≤ (9223372036854775807 : Int); decide⟩, ⟨by simp only; omega, by simp only; omega⟩, seg_length (by omega), seg_length (by omega), seg_length (by omega), seg_length (by omega), seg_length (by omega), seg_length (by omega), seg_octs ho _ _, seg_octs ho _ _, seg_octs ho _ _, seg_octs ho _ _, seg_octs ho _ _, seg_octs ho _ _⟩
theorem room_ok (ao : Option Addr) (n cap k m : Nat) (w : World) (h : k + m ≤ n) (hn : n ≤ maxLen) : Calls Tryz.prog 92 #[.slice ao n cap, .int .i64 k, .int .i64 m] w fun e w' => e = .returned (.int .i64 0) ∧ w = w' := by
 unfold maxLen at hn
 have h1 : ¬ (k : Int) < 0 := by omega
 have h2 : ¬ (n : Int) < (m : Int) := by omega
 obtain ⟨d, hd⟩ : ∃ d : Nat, Hid (d = n - m) := ⟨_, rfl⟩
 have h3 : (n : Int) - (m : Int) = (d : Int) := by rw [hd.out]; omega
 have h4 : ¬ (d : Int) < (k : Int) := by rw [hd.out]; omega
 have hw : IntKind.i64.wrap (d : Int) = (d : Int) := IntWalk.i64_in _ (by rw [hd.out]; omega)
 go_enter Tryz.func92, Tryz.ntmps92
 go_wp2
 go_ret
 exact ⟨rfl, rfl⟩
set_option maxHeartbeats 1000000 in
theorem Number_ok (b off cap n k : Nat) (l : List Int) (w : World) (hn : n = l.length) (HP : Pt.Ok w ⟨some ⟨b, off, none⟩, cap, l⟩) (hk : k + 4 ≤ n) :
  Calls Tryz.prog 64 #[.slice (some ⟨b, off, none⟩) n cap, .int .i64 k] w fun e w' => e = .returned (.tuple #[.int .u32 (numL (seg l k 4)), .int .i64 0]) ∧ Below w.heap.size w w' := by
 have hcap : n ≤ cap := by rw [hn]; exact HP.len
 have hmax : cap ≤ maxLen := HP.cap
 unfold maxLen at hmax
 have hro := hid (room_ok (some ⟨b, off, none⟩) n cap k 4 w (by omega) (by unfold maxLen; omega))
 have h4 := hid (seg_four (l := l) (k := k) (by omega))
 obtain ⟨b', off', hao, hb, hc⟩ := HP.row.at (i := 0) (by show 0 < l.length; omega)
 cases hao
 have hat := seg_at (l := l) hc (k := k) (n := 4) (by omega)
 rw [h4.out] at hat ⊢
 have hob := HP.oct
 obtain ⟨a0, H0⟩ : ∃ a, Hid (a = l.getD k 0) := ⟨_, rfl⟩
 obtain ⟨a1, H1⟩ : ∃ a, Hid (a = l.getD (k + 1) 0) := ⟨_, rfl⟩
 obtain ⟨a2, H2⟩ : ∃ a, Hid (a = l.getD (k + 2) 0) := ⟨_, rfl⟩
 obtain ⟨a3, H3⟩ : ∃ a, Hid (a = l.getD (k + 3) 0) := ⟨_, rfl⟩
 have o0 : Oct a0 := by rw [H0.out]; exact hob.getD _
 have o1 : Oct a1 := by rw [H1.out]; exact hob.getD _
 have o2 : Oct a2 := by rw [H2.out]; exact hob.getD _
 have o3 : Oct a3 := by rw [H3.out]; exact hob.getD _
 rw [← H0.out, ← H1.out, ← H2.out, ← H3.out] at hat ⊢
 have hW : Hid (numL [a0, a1, a2, a3] = w4 a0 a1 a2 a3) := by show _ = _; unfold w4; simp [numL]; omega
 have hAA := run_arrayAt4
 have hb1 : (0 : Int) ≤ (k : Int) := by omega
 have hb2 : (k : Int) ≤ (k : Int) + 4 := by omega
 have hb3 : (k : Int) + 4 ≤ (cap : Int) := by omega
 have hwr : IntKind.i64.wrap ((k : Int) + 4) = (k : Int) + 4 := IntWalk.i64_in _ (by omega)
 clear hn HP hc hob h4
 go_enter Tryz.func64, Tryz.ntmps64
 go_wp2_with (first | (go_at_call 92; refine hro.out.mono ?_; rintro e w1 ⟨rfl, rfl⟩) | (refine wl_load rfl 141 _ rfl ⟨b, off + k, none⟩ rfl ([a0, a1, a2, a3].map (Value.int .u8)) aggA4 hat ?_) | (go_at_call 93; refine (word a0 a1 a2 a3 w o0 o1 o2 o3).mono ?_; rintro e w2 ⟨rfl, hb2⟩))
 go_ret2
 exact ⟨by rw [hW.out]; rfl, hb2⟩
set_option maxHeartbeats 2000000 in
theorem Read_short (ao : Option Addr) (cap n : Nat) (l : List Int) (w : World) (hn : n = l.length) (hl : n < 4) :
  Calls Tryz.prog 39 #[.slice ao n cap] w fun e w' => e = .returned (readV l) ∧ Below w.heap.size w w' := by
 obtain ⟨B, HB⟩ : ∃ B, Hid (B = w.heap.size) := ⟨_, rfl⟩
 have hsz : w.heap.size = B := HB.out.symm
 have hz := hid zeroEnv
 have hbt := hid built_env0
 obtain ⟨Z, HZ⟩ : ∃ Z, Hid (Z = env0.cs) := ⟨_, rfl⟩
 have hZl : Z.length = 130 := by rw [HZ.out]; exact env0_ok.csl
 have hZ1 : ∀ u ∈ Z, u.oneCell' = true := by rw [HZ.out]; exact env0.cs_one
 rw [← HZ.out] at hz hbt
 have HN := hid hn
 have HV : Hid (readV l = .tuple #[.agg Z.toArray, .int .i64 1]) := by
  show _ = _
  rw [HZ.out]
  exact readV_err (by unfold readE; rw [if_pos (by omega)]) (by decide)
 rw [HV.out]
 have hI : (n : Int) < 4 := by omega
 clear hn
 go_enter Tryz.func39, Tryz.ntmps39
 go_wp2_with (first | (refine wl_allocV rfl 57 rfl Z hz.out B hsz ?_; intro w1 hR1 hb1 hs1) | (refine wl_build0 rfl 57 rfl Z hbt.out ?_) | (refine wl_storeV rfl 57 _ _ rfl 57 B rfl Z rfl 130 aggEnv hZl Z hR1 hZl hZ1 ?_; intro w2 hR2 hb2 hs2))
 (try simp only [Exit.inBlock, Exit.then]); refine bodyPost_ret (results_cell2 rfl _ _ _ _ rfl Z (by rw [hZl]; exact aggEnv) hR2.at0) rfl ?_
 exact ⟨rfl, by first | exact hb1.trans hb2 | (rw [hsz]; exact hb1.trans hb2)⟩
set_option maxHeartbeats 2000000 in
theorem Read_form (ao : Option Addr) (cap n : Nat) (l : List Int) (w : World) (hn : n = l.length) (hP : Pt.Ok w ⟨ao, cap, l⟩) (hl : 4 ≤ n) (hf : ¬ l.take 3 = kww) :
  Calls Tryz.prog 39 #[.slice ao n cap] w fun e w' => e = .returned (readV l) ∧ Below w.heap.size w w' := by
 obtain ⟨B, HB⟩ : ∃ B, Hid (B = w.heap.size) := ⟨_, rfl⟩
 have hsz : w.heap.size = B := HB.out.symm
 have hz := hid zeroEnv
 have hbt := hid built_env0
 obtain ⟨Z, HZ⟩ : ∃ Z, Hid (Z = env0.cs) := ⟨_, rfl⟩
 have hZl : Z.length = 130 := by rw [HZ.out]; exact env0_ok.csl
 have hZ1 : ∀ u ∈ Z, u.oneCell' = true := by rw [HZ.out]; exact env0.cs_one
 rw [← HZ.out] at hz hbt
 have HN := hid hn
 have HV : Hid (readV l = .tuple #[.agg Z.toArray, .int .i64 2]) := by
  show _ = _
  rw [HZ.out]
  exact readV_err (by unfold readE; rw [if_neg (by omega), if_pos hf]) (by decide)
 rw [HV.out]
 obtain ⟨b, off, rfl, hb, hc⟩ := hP.row.at (i := 0) (by show 0 < l.length; omega)
 have hI : ¬ (n : Int) < 4 := by omega
 have hcap : n ≤ cap := by rw [hn]; exact hP.len
 have h3c : 3 ≤ cap := by omega
 have h3I : (3 : Int) ≤ (cap : Int) := by omega
 have h3n : (3 : Int) < (n : Int) := by omega
 obtain ⟨S, HS⟩ : ∃ S, Hid (S = strOfNums (l.take 3)) := ⟨_, rfl⟩
 have ho3 : Octs (l.take 3) := fun c hc => hP.oct c (List.mem_of_mem_take hc)
 have hlen3 : 3 = (l.take 3).length := by rw [List.length_take]; omega
 have hkS := fun w1 (hb1 : Below B w w1) => hid (run_convStr w1 (some ⟨b, off, none⟩) 3 cap (l.take 3) hlen3 (RowI.takeS (hP.row.below (hsz ▸ hb1)) 3))
 rw [← HS.out] at hkS
 have hne : ¬ S = strOfNums kww := fun e => hf (str_inj ho3 kww_octs (by rw [← HS.out]; exact e))
 have hne' : ¬ S.toList = [75, 87, 87] := by
  intro e
  have h1 := str_ne hne
  rw [beq_eq_false_iff_ne] at h1
  exact h1 (e.trans (by rw [toList_eq]; rfl))
 have hne2 : (S.toList == [75, 87, 87]) = false := by simpa using hne'
 clear hne' hne hn hP hf hlen3
 go_enter Tryz.func39, Tryz.ntmps39
 go_wp2_with (first | (refine wl_allocV rfl 57 rfl Z hz.out B hsz ?_; intro w1 hR1 hb1 hs1; have kS := (hkS w1 hb1).out) | (refine wl_build0 rfl 57 rfl Z hbt.out ?_) | (refine wl_storeV rfl 57 _ _ rfl 57 B rfl Z rfl 130 aggEnv hZl Z hR1 hZl hZ1 ?_; intro w2 hR2 hb2 hs2))
 (try simp only [Exit.inBlock, Exit.then]); refine bodyPost_ret (results_cell2 rfl _ _ _ _ rfl Z (by rw [hZl]; exact aggEnv) hR2.at0) rfl ?_
 exact ⟨rfl, by first | exact hb1.trans hb2 | (rw [hsz]; exact hb1.trans hb2)⟩
set_option maxHeartbeats 2000000 in
theorem Read_version (ao : Option Addr) (cap n : Nat) (l : List Int) (w : World) (hn : n = l.length) (hP : Pt.Ok w ⟨ao, cap, l⟩) (hl : 4 ≤ n) (hf : l.take 3 = kww) (hv : ¬ (l.getD 3 0 = 1 ∨ l.getD 3 0 = 2)) :
  Calls Tryz.prog 39 #[.slice ao n cap] w fun e w' => e = .returned (readV l) ∧ Below w.heap.size w w' := by
 obtain ⟨B, HB⟩ : ∃ B, Hid (B = w.heap.size) := ⟨_, rfl⟩
 have hsz : w.heap.size = B := HB.out.symm
 have hz := hid zeroEnv
 have hbt := hid built_env0
 obtain ⟨Z, HZ⟩ : ∃ Z, Hid (Z = env0.cs) := ⟨_, rfl⟩
 have hZl : Z.length = 130 := by rw [HZ.out]; exact env0_ok.csl
 have hZ1 : ∀ u ∈ Z, u.oneCell' = true := by rw [HZ.out]; exact env0.cs_one
 rw [← HZ.out] at hz hbt
 have HN := hid hn
 have HV : Hid (readV l = .tuple #[.agg Z.toArray, .int .i64 19]) := by
  show _ = _
  rw [HZ.out]
  exact readV_err (by unfold readE; rw [if_neg (by omega), if_neg (fun h => h hf), if_pos hv]) (by decide)
 rw [HV.out]
 obtain ⟨b, off, rfl, hb, hc⟩ := hP.row.at (i := 0) (by show 0 < l.length; omega)
 have hI : ¬ (n : Int) < 4 := by omega
 have hcap : n ≤ cap := by rw [hn]; exact hP.len
 have h3c : 3 ≤ cap := by omega
 have h3I : (3 : Int) ≤ (cap : Int) := by omega
 have h3n : (3 : Int) < (n : Int) := by omega
 obtain ⟨S, HS⟩ : ∃ S, Hid (S = strOfNums (l.take 3)) := ⟨_, rfl⟩
 have ho3 : Octs (l.take 3) := fun c hc => hP.oct c (List.mem_of_mem_take hc)
 have hlen3 : 3 = (l.take 3).length := by rw [List.length_take]; omega
 have hkS := fun w1 (hb1 : Below B w w1) => hid (run_convStr w1 (some ⟨b, off, none⟩) 3 cap (l.take 3) hlen3 (RowI.takeS (hP.row.below (hsz ▸ hb1)) 3))
 rw [← HS.out] at hkS
 have ems : S = ⟨#[75, 87, 87]⟩ := by rw [HS.out, hf]; rfl
 rw [ems] at hkS
 obtain ⟨x3, H3⟩ : ∃ x, Hid (x = l.getD 3 0) := ⟨_, rfl⟩
 have hc3 : w.cell? ⟨b, off + 3, none⟩ = some (.int .u8 x3) := by rw [H3.out]; exact hc 3 (by show 3 < l.length; omega)
 have hbB : b < B := by rw [HB.out]; exact hb
 rw [← H3.out] at hv
 have hv1 : ¬ x3 = 1 := fun h => hv (Or.inl h)
 have hv2 : ¬ x3 = 2 := fun h => hv (Or.inr h)
 have hn1 : (x3 == 1) = false := by simpa using hv1
 have hn2 : (x3 == 2) = false := by simpa using hv2
 clear hn hP hf hlen3 hv ems
 go_enter Tryz.func39, Tryz.ntmps39
 go_wp2_with (first | (refine wl_allocV rfl 57 rfl Z hz.out B hsz ?_; intro w1 hR1 hb1 hs1; have kS := (hkS w1 hb1).out; have c3 := (hb1.cell (p := ⟨b, off + 3, none⟩) hbB).trans hc3) | (refine wl_build0 rfl 57 rfl Z hbt.out ?_) | (refine wl_storeV rfl 57 _ _ rfl 57 B rfl Z rfl 130 aggEnv hZl Z hR1 hZl hZ1 ?_; intro w2 hR2 hb2 hs2))
 (try simp only [Exit.inBlock, Exit.then]); refine bodyPost_ret (results_cell2 rfl _ _ _ _ rfl Z (by rw [hZl]; exact aggEnv) hR2.at0) rfl ?_
 exact ⟨rfl, by first | exact hb1.trans hb2 | (rw [hsz]; exact hb1.trans hb2)⟩
set_option maxHeartbeats 2000000 in
theorem Read_few1 (ao : Option Addr) (cap n : Nat) (l : List Int) (w : World) (hn : n = l.length) (hP : Pt.Ok w ⟨ao, cap, l⟩) (hl : 4 ≤ n) (hf : l.take 3 = kww) (hv : l.getD 3 0 = 1) (hzl : n < 88) :
  Calls Tryz.prog 39 #[.slice ao n cap] w fun e w' => e = .returned (readV l) ∧ Below w.heap.size w w' := by
 obtain ⟨B, HB⟩ : ∃ B, Hid (B = w.heap.size) := ⟨_, rfl⟩
 have hsz : w.heap.size = B := HB.out.symm
 have hz := hid zeroEnv
 have hbt := hid built_env0
 obtain ⟨Z, HZ⟩ : ∃ Z, Hid (Z = env0.cs) := ⟨_, rfl⟩
 have hZl : Z.length = 130 := by rw [HZ.out]; exact env0_ok.csl
 have hZ1 : ∀ u ∈ Z, u.oneCell' = true := by rw [HZ.out]; exact env0.cs_one
 rw [← HZ.out] at hz hbt
 have HN := hid hn
 have HV : Hid (readV l = .tuple #[.agg Z.toArray, .int .i64 1]) := by
  show _ = _
  rw [HZ.out]
  exact readV_err (by have hs : szR l = 88 := (by unfold szR; rw [if_neg (by omega)]); unfold readE; rw [if_neg (by omega), if_neg (fun h => h hf), if_neg (by omega), hs, if_pos (by omega)]) (by decide)
 rw [HV.out]
 obtain ⟨b, off, rfl, hb, hc⟩ := hP.row.at (i := 0) (by show 0 < l.length; omega)
 have hI : ¬ (n : Int) < 4 := by omega
 have hcap : n ≤ cap := by rw [hn]; exact hP.len
 have h3c : 3 ≤ cap := by omega
 have h3I : (3 : Int) ≤ (cap : Int) := by omega
 have h3n : (3 : Int) < (n : Int) := by omega
 obtain ⟨S, HS⟩ : ∃ S, Hid (S = strOfNums (l.take 3)) := ⟨_, rfl⟩
 have ho3 : Octs (l.take 3) := fun c hc => hP.oct c (List.mem_of_mem_take hc)
 have hlen3 : 3 = (l.take 3).length := by rw [List.length_take]; omega
 have hkS := fun w1 (hb1 : Below B w w1) => hid (run_convStr w1 (some ⟨b, off, none⟩) 3 cap (l.take 3) hlen3 (RowI.takeS (hP.row.below (hsz ▸ hb1)) 3))
 rw [← HS.out] at hkS
 have ems : S = ⟨#[75, 87, 87]⟩ := by rw [HS.out, hf]; rfl
 rw [ems] at hkS
 obtain ⟨x3, H3⟩ : ∃ x, Hid (x = l.getD 3 0) := ⟨_, rfl⟩
 have hc3 : w.cell? ⟨b, off + 3, none⟩ = some (.int .u8 x3) := by rw [H3.out]; exact hc 3 (by show 3 < l.length; omega)
 have hbB : b < B := by rw [HB.out]; exact hb
 rw [← H3.out] at hv
 subst hv
 have hq : (n : Int) < 88 := by omega
 clear hn hP hf hlen3 ems
 go_enter Tryz.func39, Tryz.ntmps39
 go_wp2_with (first | (refine wl_allocV rfl 57 rfl Z hz.out B hsz ?_; intro w1 hR1 hb1 hs1; have kS := (hkS w1 hb1).out; have c3 := (hb1.cell (p := ⟨b, off + 3, none⟩) hbB).trans hc3) | (refine wl_build0 rfl 57 rfl Z hbt.out ?_) | (refine wl_storeV rfl 57 _ _ rfl 57 B rfl Z rfl 130 aggEnv hZl Z hR1 hZl hZ1 ?_; intro w2 hR2 hb2 hs2))
 (try simp only [Exit.inBlock, Exit.then]); refine bodyPost_ret (results_cell2 rfl _ _ _ _ rfl Z (by rw [hZl]; exact aggEnv) hR2.at0) rfl ?_
 exact ⟨rfl, by first | exact hb1.trans hb2 | (rw [hsz]; exact hb1.trans hb2)⟩
set_option maxHeartbeats 2000000 in
theorem Read_many1 (ao : Option Addr) (cap n : Nat) (l : List Int) (w : World) (hn : n = l.length) (hP : Pt.Ok w ⟨ao, cap, l⟩) (hl : 4 ≤ n) (hf : l.take 3 = kww) (hv : l.getD 3 0 = 1) (hzl : 88 < n) :
  Calls Tryz.prog 39 #[.slice ao n cap] w fun e w' => e = .returned (readV l) ∧ Below w.heap.size w w' := by
 obtain ⟨B, HB⟩ : ∃ B, Hid (B = w.heap.size) := ⟨_, rfl⟩
 have hsz : w.heap.size = B := HB.out.symm
 have hz := hid zeroEnv
 have hbt := hid built_env0
 obtain ⟨Z, HZ⟩ : ∃ Z, Hid (Z = env0.cs) := ⟨_, rfl⟩
 have hZl : Z.length = 130 := by rw [HZ.out]; exact env0_ok.csl
 have hZ1 : ∀ u ∈ Z, u.oneCell' = true := by rw [HZ.out]; exact env0.cs_one
 rw [← HZ.out] at hz hbt
 have HN := hid hn
 have HV : Hid (readV l = .tuple #[.agg Z.toArray, .int .i64 2]) := by
  show _ = _
  rw [HZ.out]
  exact readV_err (by have hs : szR l = 88 := (by unfold szR; rw [if_neg (by omega)]); unfold readE; rw [if_neg (by omega), if_neg (fun h => h hf), if_neg (by omega), hs, if_neg (by omega), if_pos (by omega)]) (by decide)
 rw [HV.out]
 obtain ⟨b, off, rfl, hb, hc⟩ := hP.row.at (i := 0) (by show 0 < l.length; omega)
 have hI : ¬ (n : Int) < 4 := by omega
 have hcap : n ≤ cap := by rw [hn]; exact hP.len
 have h3c : 3 ≤ cap := by omega
 have h3I : (3 : Int) ≤ (cap : Int) := by omega
 have h3n : (3 : Int) < (n : Int) := by omega
 obtain ⟨S, HS⟩ : ∃ S, Hid (S = strOfNums (l.take 3)) := ⟨_, rfl⟩
 have ho3 : Octs (l.take 3) := fun c hc => hP.oct c (List.mem_of_mem_take hc)
 have hlen3 : 3 = (l.take 3).length := by rw [List.length_take]; omega
 have hkS := fun w1 (hb1 : Below B w w1) => hid (run_convStr w1 (some ⟨b, off, none⟩) 3 cap (l.take 3) hlen3 (RowI.takeS (hP.row.below (hsz ▸ hb1)) 3))
 rw [← HS.out] at hkS
 have ems : S = ⟨#[75, 87, 87]⟩ := by rw [HS.out, hf]; rfl
 rw [ems] at hkS
 obtain ⟨x3, H3⟩ : ∃ x, Hid (x = l.getD 3 0) := ⟨_, rfl⟩
 have hc3 : w.cell? ⟨b, off + 3, none⟩ = some (.int .u8 x3) := by rw [H3.out]; exact hc 3 (by show 3 < l.length; omega)
 have hbB : b < B := by rw [HB.out]; exact hb
 rw [← H3.out] at hv
 subst hv
 have hq : ¬ (n : Int) < 88 := by omega
 have hq2 : (88 : Int) < (n : Int) := by omega
 clear hn hP hf hlen3 ems
 go_enter Tryz.func39, Tryz.ntmps39
 go_wp2_with (first | (refine wl_allocV rfl 57 rfl Z hz.out B hsz ?_; intro w1 hR1 hb1 hs1; have kS := (hkS w1 hb1).out; have c3 := (hb1.cell (p := ⟨b, off + 3, none⟩) hbB).trans hc3) | (refine wl_build0 rfl 57 rfl Z hbt.out ?_) | (refine wl_storeV rfl 57 _ _ rfl 57 B rfl Z rfl 130 aggEnv hZl Z hR1 hZl hZ1 ?_; intro w2 hR2 hb2 hs2))
 (try simp only [Exit.inBlock, Exit.then]); refine bodyPost_ret (results_cell2 rfl _ _ _ _ rfl Z (by rw [hZl]; exact aggEnv) hR2.at0) rfl ?_
 exact ⟨rfl, by first | exact hb1.trans hb2 | (rw [hsz]; exact hb1.trans hb2)⟩
set_option maxHeartbeats 2000000 in
theorem Read_few2 (ao : Option Addr) (cap n : Nat) (l : List Int) (w : World) (hn : n = l.length) (hP : Pt.Ok w ⟨ao, cap, l⟩) (hl : 4 ≤ n) (hf : l.take 3 = kww) (hv : l.getD 3 0 = 2) (hzl : n < 136) :
  Calls Tryz.prog 39 #[.slice ao n cap] w fun e w' => e = .returned (readV l) ∧ Below w.heap.size w w' := by
 obtain ⟨B, HB⟩ : ∃ B, Hid (B = w.heap.size) := ⟨_, rfl⟩
 have hsz : w.heap.size = B := HB.out.symm
 have hz := hid zeroEnv
 have hbt := hid built_env0
 obtain ⟨Z, HZ⟩ : ∃ Z, Hid (Z = env0.cs) := ⟨_, rfl⟩
 have hZl : Z.length = 130 := by rw [HZ.out]; exact env0_ok.csl
 have hZ1 : ∀ u ∈ Z, u.oneCell' = true := by rw [HZ.out]; exact env0.cs_one
 rw [← HZ.out] at hz hbt
 have HN := hid hn
 have HV : Hid (readV l = .tuple #[.agg Z.toArray, .int .i64 1]) := by
  show _ = _
  rw [HZ.out]
  exact readV_err (by have hs : szR l = 136 := (by unfold szR; rw [if_pos hv]); unfold readE; rw [if_neg (by omega), if_neg (fun h => h hf), if_neg (by omega), hs, if_pos (by omega)]) (by decide)
 rw [HV.out]
 obtain ⟨b, off, rfl, hb, hc⟩ := hP.row.at (i := 0) (by show 0 < l.length; omega)
 have hI : ¬ (n : Int) < 4 := by omega
 have hcap : n ≤ cap := by rw [hn]; exact hP.len
 have h3c : 3 ≤ cap := by omega
 have h3I : (3 : Int) ≤ (cap : Int) := by omega
 have h3n : (3 : Int) < (n : Int) := by omega
 obtain ⟨S, HS⟩ : ∃ S, Hid (S = strOfNums (l.take 3)) := ⟨_, rfl⟩
 have ho3 : Octs (l.take 3) := fun c hc => hP.oct c (List.mem_of_mem_take hc)
 have hlen3 : 3 = (l.take 3).length := by rw [List.length_take]; omega
 have hkS := fun w1 (hb1 : Below B w w1) => hid (run_convStr w1 (some ⟨b, off, none⟩) 3 cap (l.take 3) hlen3 (RowI.takeS (hP.row.below (hsz ▸ hb1)) 3))
 rw [← HS.out] at hkS
 have ems : S = ⟨#[75, 87, 87]⟩ := by rw [HS.out, hf]; rfl
 rw [ems] at hkS
 obtain ⟨x3, H3⟩ : ∃ x, Hid (x = l.getD 3 0) := ⟨_, rfl⟩
 have hc3 : w.cell? ⟨b, off + 3, none⟩ = some (.int .u8 x3) := by rw [H3.out]; exact hc 3 (by show 3 < l.length; omega)
 have hbB : b < B := by rw [HB.out]; exact hb
 rw [← H3.out] at hv
 subst hv
 have hq : (n : Int) < 136 := by omega
 clear hn hP hf hlen3 ems
 go_enter Tryz.func39, Tryz.ntmps39
 go_wp2_with (first | (refine wl_allocV rfl 57 rfl Z hz.out B hsz ?_; intro w1 hR1 hb1 hs1; have kS := (hkS w1 hb1).out; have c3 := (hb1.cell (p := ⟨b, off + 3, none⟩) hbB).trans hc3) | (refine wl_build0 rfl 57 rfl Z hbt.out ?_) | (refine wl_storeV rfl 57 _ _ rfl 57 B rfl Z rfl 130 aggEnv hZl Z hR1 hZl hZ1 ?_; intro w2 hR2 hb2 hs2))
 (try simp only [Exit.inBlock, Exit.then]); refine bodyPost_ret (results_cell2 rfl _ _ _ _ rfl Z (by rw [hZl]; exact aggEnv) hR2.at0) rfl ?_
 exact ⟨rfl, by first | exact hb1.trans hb2 | (rw [hsz]; exact hb1.trans hb2)⟩
set_option maxHeartbeats 2000000 in
theorem Read_many2 (ao : Option Addr) (cap n : Nat) (l : List Int) (w : World) (hn : n = l.length) (hP : Pt.Ok w ⟨ao, cap, l⟩) (hl : 4 ≤ n) (hf : l.take 3 = kww) (hv : l.getD 3 0 = 2) (hzl : 136 < n) :
  Calls Tryz.prog 39 #[.slice ao n cap] w fun e w' => e = .returned (readV l) ∧ Below w.heap.size w w' := by
 obtain ⟨B, HB⟩ : ∃ B, Hid (B = w.heap.size) := ⟨_, rfl⟩
 have hsz : w.heap.size = B := HB.out.symm
 have hz := hid zeroEnv
 have hbt := hid built_env0
 obtain ⟨Z, HZ⟩ : ∃ Z, Hid (Z = env0.cs) := ⟨_, rfl⟩
 have hZl : Z.length = 130 := by rw [HZ.out]; exact env0_ok.csl
 have hZ1 : ∀ u ∈ Z, u.oneCell' = true := by rw [HZ.out]; exact env0.cs_one
 rw [← HZ.out] at hz hbt
 have HN := hid hn
 have HV : Hid (readV l = .tuple #[.agg Z.toArray, .int .i64 2]) := by
  show _ = _
  rw [HZ.out]
  exact readV_err (by have hs : szR l = 136 := (by unfold szR; rw [if_pos hv]); unfold readE; rw [if_neg (by omega), if_neg (fun h => h hf), if_neg (by omega), hs, if_neg (by omega), if_pos (by omega)]) (by decide)
 rw [HV.out]
 obtain ⟨b, off, rfl, hb, hc⟩ := hP.row.at (i := 0) (by show 0 < l.length; omega)
 have hI : ¬ (n : Int) < 4 := by omega
 have hcap : n ≤ cap := by rw [hn]; exact hP.len
 have h3c : 3 ≤ cap := by omega
 have h3I : (3 : Int) ≤ (cap : Int) := by omega
 have h3n : (3 : Int) < (n : Int) := by omega
 obtain ⟨S, HS⟩ : ∃ S, Hid (S = strOfNums (l.take 3)) := ⟨_, rfl⟩
 have ho3 : Octs (l.take 3) := fun c hc => hP.oct c (List.mem_of_mem_take hc)
 have hlen3 : 3 = (l.take 3).length := by rw [List.length_take]; omega
 have hkS := fun w1 (hb1 : Below B w w1) => hid (run_convStr w1 (some ⟨b, off, none⟩) 3 cap (l.take 3) hlen3 (RowI.takeS (hP.row.below (hsz ▸ hb1)) 3))
 rw [← HS.out] at hkS
 have ems : S = ⟨#[75, 87, 87]⟩ := by rw [HS.out, hf]; rfl
 rw [ems] at hkS
 obtain ⟨x3, H3⟩ : ∃ x, Hid (x = l.getD 3 0) := ⟨_, rfl⟩
 have hc3 : w.cell? ⟨b, off + 3, none⟩ = some (.int .u8 x3) := by rw [H3.out]; exact hc 3 (by show 3 < l.length; omega)
 have hbB : b < B := by rw [HB.out]; exact hb
 rw [← H3.out] at hv
 subst hv
 have hq : ¬ (n : Int) < 136 := by omega
 have hq2 : (136 : Int) < (n : Int) := by omega
 clear hn hP hf hlen3 ems
 go_enter Tryz.func39, Tryz.ntmps39
 go_wp2_with (first | (refine wl_allocV rfl 57 rfl Z hz.out B hsz ?_; intro w1 hR1 hb1 hs1; have kS := (hkS w1 hb1).out; have c3 := (hb1.cell (p := ⟨b, off + 3, none⟩) hbB).trans hc3) | (refine wl_build0 rfl 57 rfl Z hbt.out ?_) | (refine wl_storeV rfl 57 _ _ rfl 57 B rfl Z rfl 130 aggEnv hZl Z hR1 hZl hZ1 ?_; intro w2 hR2 hb2 hs2))
 (try simp only [Exit.inBlock, Exit.then]); refine bodyPost_ret (results_cell2 rfl _ _ _ _ rfl Z (by rw [hZl]; exact aggEnv) hR2.at0) rfl ?_
 exact ⟨rfl, by first | exact hb1.trans hb2 | (rw [hsz]; exact hb1.trans hb2)⟩
end Go.Proofs.YtbjmadcbhkeenaaGreat.wr
namespace Go.Proofs.YtbjmadcbhkeenaaGreat.gs
open Go.RowKit Fld sh shr slInt
def vF (F : Nat → List Int) (o : Nat) (t : Int) : Int := ev (F o) t % 257
end Go.Proofs.YtbjmadcbhkeenaaGreat.gs
