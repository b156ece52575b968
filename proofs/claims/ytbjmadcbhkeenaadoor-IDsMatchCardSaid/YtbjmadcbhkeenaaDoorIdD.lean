/-
  IDsMatch: keylaw2.desks, and the law. Conditions: a word that lies in memory.
-/
import Derived.Test.YtbjmadcbhkeenaaDoorIdC
import Derived.Test.YtbjmadcbhkeenaaDoorEqA
namespace Go.Proofs.YtbjmadcbhkeenaaDoor.idm
open Go.RowKit Go.Lib
set_option linter.unusedSimpArgs false
set_option linter.unusedVariables false
set_option pp.maxSteps 6000

theorem wl_eqX {P : Program} {w : World} {ops : Array Oper} {rest : List Oper} {o : Oper} {a : Act} {Q : Exit → Act → World → Prop} (d : Nat) (hd : o.dst = some d) (hgd : Region.wanted o (yielded ops a.tmps) = true) (ty ty2 : TypeId) (x y : Operand) (ho : o.op = .binOp .eql ty x y ty2)
    (A B : Array Value) (hx : a.eval x = .agg A) (hy : a.eval y = .agg B) (b : Bool) (he : (Op.equalIn 10000 ty (.agg A) (.agg B)).run P w = .ok b w) (hm : P.eqGuardType P.depth ty = false) (h : wpList P ops Q rest (a.put o.dst (.bool b)) w) : wpList P ops Q (o :: rest) a w := by
  refine wpList_step fun K hK' => ?_
  rw [if_pos hgd]
  unfold Oper.wp
  simp [execOp, ho, hx, hy, run_eqGuard_agg, run_eql_struct, hm, he, Result.andThen]
  exact hK' _ _ h
theorem wl_bG {P : Program} {w : World} {ops : Array Oper} {rest : List Oper} {o : Oper} {a : Act} {Q : Exit → Act → World → Prop} (d : Nat) (hd : o.dst = some d) (hgd : Region.wanted o (yielded ops a.tmps) = true) (t : TypeId) (parts : Array (Nat × Operand)) (ho : o.op = .build t parts)
    (cs : List Value) (hb : P.built t (parts.map fun (i, x) => (i, a.eval x)).toList = some cs.toArray) (h : wpList P ops Q rest (a.put o.dst (.agg cs.toArray)) w) : wpList P ops Q (o :: rest) a w := by
  refine wpList_step fun K hK' => ?_
  rw [if_pos hgd]
  refine wp_build (P := P) t parts ho (by rw [hb]; rfl) ?_
  rw [hb]
  exact hK' _ _ h

theorem ints_of (s : ByteArray) : ∃ l : List Int, resV s = l.map (Value.int .u8) ∧ l.length = 16 := by
  unfold resV
  split
  · rename_i h
    have h16 : s.size ≤ 16 := by
      unfold fine at h
      simp at h
      exact h.2.2
    refine ⟨(s.data.toList.map fun b => (b.toNat : Int)) ++ List.replicate (16 - s.size) 0, ?_, ?_⟩
    · unfold idC byteCells
      rw [List.map_append, List.map_map, List.map_replicate]
      rfl
    · rw [List.length_append, List.length_map, List.length_replicate, ← size_eq]; omega
  · exact ⟨List.replicate 16 0, by rfl, by simp⟩
theorem eq_same (s : ByteArray) (w : World) : (Op.equalIn 10000 23 (.agg (resV s).toArray) (.agg (resV s).toArray)).run Tryd.prog w = .ok true w := by
  obtain ⟨l, e, hl⟩ := ints_of s
  have := run_equalIn_ints (P := Tryd.prog) w 9998 23 5 16 .u8 Tryd.underlying23 Tryd.underlying5 (fun w => by kernel_rfl) l l hl hl
  rw [e, this, beq_self_eq_true]
theorem resV_len (s : ByteArray) : (resV s).length = 16 := by obtain ⟨l, e, hl⟩ := ints_of s; rw [e, List.length_map]; exact hl
theorem resV_one (s : ByteArray) : ∀ u ∈ resV s, u.oneCell' = true := by
  obtain ⟨l, e, hl⟩ := ints_of s
  rw [e]
  intro u hu
  obtain ⟨c, _, rfl⟩ := List.mem_map.1 hu
  rfl

set_option maxRecDepth 100000 in
theorem desks_any (w : World) : Calls Tryd.prog 6 #[] w fun e w' => e = .returned (.bool true) ∧ Below w.heap.size w w' := by
  obtain ⟨B, HB⟩ : ∃ B, Hid (B = w.heap.size) := ⟨_, rfl⟩
  have hsz : w.heap.size = B := HB.out.symm
  obtain ⟨Z, HZ⟩ : ∃ Z, Hid (Z = zid) := ⟨_, rfl⟩
  have HZ0 := hid zeroID
  rw [← HZ.out] at HZ0
  have hZl : Z.length = 16 := by rw [HZ.out]; exact zid_len
  have hE : resE ⟨#[97, 98]⟩ = 0 := by decide
  have HI := hid (IDOf_any ⟨#[97, 98]⟩ w (by decide))
  obtain ⟨R, HR⟩ : ∃ R, Hid (R = resV ⟨#[97, 98]⟩) := ⟨_, rfl⟩
  have hRl : R.length = 16 := by rw [HR.out]; exact resV_len _
  have hR1 : ∀ u ∈ R, u.oneCell' = true := by rw [HR.out]; exact resV_one _
  have HEQ := fun w => hid (eq_same ⟨#[97, 98]⟩ w)
  have HBU : Hid (Tryd.prog.built 23 [(0, .int .u8 97), (1, .int .u8 98)] = some R.toArray) := hid (by rw [HR.out]; kernel_rfl)
  rw [← HR.out, hE] at HI
  simp only [← HR.out] at HEQ
  have he : R.toArray = (#[.int .u8 97, .int .u8 98, .int .u8 0, .int .u8 0, .int .u8 0, .int .u8 0, .int .u8 0, .int .u8 0, .int .u8 0, .int .u8 0, .int .u8 0, .int .u8 0, .int .u8 0, .int .u8 0, .int .u8 0, .int .u8 0] : Array Value) := by rw [HR.out]; kernel_rfl
  have HE2 : ∀ w, (Op.equalIn 10000 23 (.agg R.toArray) (.agg #[.int .u8 97, .int .u8 98, .int .u8 0, .int .u8 0, .int .u8 0, .int .u8 0, .int .u8 0, .int .u8 0, .int .u8 0, .int .u8 0, .int .u8 0, .int .u8 0, .int .u8 0, .int .u8 0, .int .u8 0, .int .u8 0])).run Tryd.prog w = .ok true w := fun w => by
    have h := (HEQ w).out
    rw [he] at h ⊢
    exact h
  clear hE he
  go_enter Tryd.func6, Tryd.ntmps6
  go_wp2_with (first | (refine wl_loadG (by kernel_rfl) 23 _ rfl ⟨w1.heap.size, 0, none⟩ rfl 16 R hRl aggID aT3 ?_) | (refine wl_storeV rfl 23 _ _ rfl 23 w1.heap.size rfl R rfl 16 aggID hRl Z hT2 hZl hR1 ?_; intro w3 hT3 hb3 hs3; have bb3 := bb2.trans (hb3.mono hB1); have aT3 := hT3.at0) | (refine wl_allocV rfl 23 rfl Z HZ0.out w1.heap.size rfl ?_; intro w2 hT2 hb2 hs2; have hB1 : B ≤ w1.heap.size := (by have := hb1.size; omega); have bb2 : Below B w w2 := (by rw [← hsz]; exact hb1.trans (hb2.mono hb1.size))) | (go_at_call 4; refine HI.out.mono ?_; rintro e w1 ⟨rfl, hb1⟩))
  go_ret
  exact ⟨rfl, by first | exact bb3 | (rw [hsz]; exact bb3)⟩

set_option maxRecDepth 100000 in
theorem ids_law (s : ByteArray) (w : World) (hs : s.size ≤ 9223372036854775807) : Calls Tryd.prog 3 #[.string s] w fun e w' => e = .returned (.bool true) ∧ Below w.heap.size w w' := by
  obtain ⟨B, HB⟩ : ∃ B, Hid (B = w.heap.size) := ⟨_, rfl⟩
  have hsz : w.heap.size = B := HB.out.symm
  obtain ⟨Z, HZ⟩ : ∃ Z, Hid (Z = zid) := ⟨_, rfl⟩
  have HZ0 := hid zeroID
  rw [← HZ.out] at HZ0
  have hZl : Z.length = 16 := by rw [HZ.out]; exact zid_len
  have HI := fun w => hid (IDOf_any s w hs)
  have HJ := fun w => hid (idOf_any s w hs)
  obtain ⟨R, HR⟩ : ∃ R, Hid (R = resV s) := ⟨_, rfl⟩
  obtain ⟨E, HE⟩ : ∃ E, Hid (E = resE s) := ⟨_, rfl⟩
  have hRl : R.length = 16 := by rw [HR.out]; exact resV_len _
  have hR1 : ∀ u ∈ R, u.oneCell' = true := by rw [HR.out]; exact resV_one _
  have HEQ := fun w => hid (eq_same s w)
  simp only [← HR.out, ← HE.out] at HI HJ HEQ
  go_enter Tryd.func3, Tryd.ntmps3
  go_wp2_with (first | (refine wl_eqX 21 rfl (by kernel_rfl) 23 _ _ _ rfl R.toArray R.toArray rfl rfl true (HEQ _).out (by kernel_rfl) ?_) | (refine wl_loadG (by kernel_rfl) 23 _ rfl ⟨w1.heap.size, 0, none⟩ rfl 16 R hRl aggID aT7 ?_) | (refine wl_loadG (by kernel_rfl) 23 _ rfl ⟨w4.heap.size, 0, none⟩ rfl 16 R hRl aggID aU7 ?_) | (go_at_call 6; refine (desks_any w6).mono ?_; rintro e w7 ⟨rfl, hb7⟩; have aT7 := (hT6.below hb7 hT6.lt).at0; have aU7 := (hU6.below hb7 hU6.lt).at0; have bb7 := bb6.trans (hb7.mono (by have := bb6.size; omega))) | (refine wl_storeV rfl 23 _ _ rfl 23 w4.heap.size rfl R rfl 16 aggID hRl Z hU5 hZl hR1 ?_; intro w6 hU6 hb6 hs6; have hT6 := hT5.below hb6 hT4.lt; have bb6 := bb5.trans (hb6.mono hB4)) | (refine wl_allocV rfl 23 rfl Z HZ0.out w4.heap.size rfl ?_; intro w5 hU5 hb5 hs5; have hT5 := hT4.below hb5 hT4.lt; have bb5 := bb4.trans (hb5.mono hB4)) | (go_at_call 5; refine (HJ w3).out.mono ?_; rintro e w4 ⟨rfl, hb4⟩; have hT4 := hT3.below hb4 hT3.lt; have bb4 := bb3.trans (hb4.mono (by have := bb3.size; omega)); have hB4 : B ≤ w4.heap.size := (by have := bb4.size; omega)) | (refine wl_storeV rfl 23 _ _ rfl 23 w1.heap.size rfl R rfl 16 aggID hRl Z hT2 hZl hR1 ?_; intro w3 hT3 hb3 hs3; have bb3 := bb2.trans (hb3.mono hB1)) | (refine wl_allocV rfl 23 rfl Z HZ0.out w1.heap.size rfl ?_; intro w2 hT2 hb2 hs2; have hB1 : B ≤ w1.heap.size := (by have := hb1.size; omega); have bb2 : Below B w w2 := (by rw [← hsz]; exact hb1.trans (hb2.mono hb1.size))) | (go_at_call 4; refine (HI w).out.mono ?_; rintro e w1 ⟨rfl, hb1⟩))
  go_ret
  exact ⟨rfl, by first | exact bb7 | (rw [hsz]; exact bb7)⟩
end Go.Proofs.YtbjmadcbhkeenaaDoor.idm
