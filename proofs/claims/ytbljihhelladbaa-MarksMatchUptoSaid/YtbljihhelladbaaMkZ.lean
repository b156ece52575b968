/-
  Sums in slices, Check, Marks, plain facts. Conditions: as each theorem says.
-/
import Derived.Test.YtbljihhelladbaaMkY
import Derived.Test.YtbljihhelladbaaEqA
import Derived.Test.YtbljihhelladbaaOpn
import Derived.StillTailTactics
import Derived.Test.YtbljihhelladbaaSmA
import Derived.Test.YtbljihhelladbaaHld
/- Slices of sums: what lies there, the argument opened; contracts of slices.Index at sums and share.Check. Conditions: sums of 32 octets; a share of the type's form. -/
namespace Go.Proofs.Ytbljihhelladbaa.shr
open Go.RowKit Go.Proofs.Ytbljihhelladbaa.sh Go.Proofs.Ytbljihhelladbaa.st Go.Proofs.Ytbljihhelladbaa.hs Go.ChangeShapes Go.WideShapes Go.ChangeAt
set_option linter.unusedSimpArgs false
set_option linter.unusedVariables false
set_option pp.maxSteps 6000

def SumLOk (h : List Int) : Prop := h.length = 32 ∧ ∀ c ∈ h, 0 ≤ c ∧ c ≤ 255
/-- behind the address lie these sums -/
def RowM (w : World) (ao : Option Addr) (l : List (List Int)) : Prop :=
  l = [] ∨ ∃ b off, ao = some ⟨b, off, none⟩ ∧ b < w.heap.size ∧ ∀ i, i < l.length → At w ⟨b, off + i * 32, none⟩ ((l.getD i []).map (Value.int .u8))
theorem RowM.at {w : World} {ao : Option Addr} {l : List (List Int)} (h : RowM w ao l) (hl : l ≠ []) : ∃ b off, ao = some ⟨b, off, none⟩ ∧ b < w.heap.size ∧ ∀ i, i < l.length → At w ⟨b, off + i * 32, none⟩ ((l.getD i []).map (Value.int .u8)) := by
  rcases h with h | h
  · exact absurd h hl
  · exact h
theorem RowM.below {w w' : World} {ao : Option Addr} {l : List (List Int)} (h : RowM w ao l) (hb : Below w.heap.size w w') : RowM w' ao l := by
  rcases h with h | ⟨b, off, h1, h2, h3⟩
  · exact Or.inl h
  · exact Or.inr ⟨b, off, h1, Nat.lt_of_lt_of_le h2 hb.size, fun i hi => At.below (h3 i hi) hb h2⟩

structure SumsAt {H : Type} (W : World) (v : Value) (d : DataW H) (l : List (List Int)) (ao : Option Addr) (cap : Nat) : Prop where
  val : v = .slice ao l.length cap
  le : l.length ≤ cap
  row : RowM W ao l
  none : ao = none → cap = 0 ∧ l.length = 0
  ok : ∀ s ∈ l, SumLOk s
  len : cap ≤ maxLen

set_option maxRecDepth 100000 in
theorem sumsArg {H : Type} {enc : TypeId × Value → H} {W : World} {base : Nat} {held : Bool} {r : Reach} {b0 : Nat} {v : Value} {d : DataW H} {ps : List MemPlace}
    (hval : Value.okWide Try.prog W r b0 70 v) (hd : DataW.Trod enc Try.prog W base (fun _ => true) held 70 v d ps) :
    ∃ l ao cap, SumsAt W v d l ao cap := by
  obtain ⟨a, len, cap, rfl⟩ := okWide_slice Try.underlying70 hval
  obtain ⟨fuel, hf⟩ := hd
  rcases Go.Deep.open_slice Try.underlying70 hf with ⟨h1, h2⟩ | ⟨ad, ln, cp, m, n, D, Pl, h1, h3, h4, h5, h6, h7, h8⟩
  · simp [Value.cells] at h1
    obtain ⟨rfl, rfl, rfl⟩ := h1
    exact ⟨[], none, 0, ⟨rfl, Nat.le_refl _, Or.inl rfl, fun _ => ⟨rfl, rfl⟩, (fun s hs => by cases hs), by decide⟩⟩
  · simp [Value.cells] at h1
    obtain ⟨rfl, rfl, rfl⟩ := h1
    simp only [if_true] at h6
    subst h6
    rw [show Try.prog.cellsOf 73 = 32 by kernel_rfl] at h8
    have hs : ∀ i, i < m → ∃ s : List Int, SumLOk s ∧ At W (ad.add (i * 32)) (s.map (Value.int .u8)) := by
      intro i hi
      obtain ⟨cs', hc, ht⟩ := h8 i hi
      obtain ⟨s, rfl, hsl, hw⟩ := arr_of_trod Try.underlying73 Try.underlying5 (by kernel_rfl) (by kernel_rfl) ht
      obtain ⟨_, hcl, hat⟩ := World.cells?_some hc
      refine ⟨s, ⟨hsl, fun c hc => bounds_u8 (hw c hc)⟩, fun j u hu => ?_⟩
      have hj : j < 32 := by rw [← hcl]; exact (List.getElem?_eq_some_iff.1 hu).1
      rw [hat j hj, hu]
    have hs' : ∃ f : Nat → List Int, ∀ i, i < m → SumLOk (f i) ∧ At W (ad.add (i * 32)) ((f i).map (Value.int .u8)) := by
      refine ⟨fun i => if h : i < m then Classical.choose (hs i h) else [], fun i hi => ?_⟩
      simp only [dif_pos hi]
      exact Classical.choose_spec (hs i hi)
    obtain ⟨f, hf2⟩ := hs'
    have hlen : ((List.range len).map f).length = len := by simp
    refine ⟨(List.range len).map f, some ad, m, ⟨by rw [hlen], by rw [hlen]; exact h4, ?_, (fun h => by cases h), ?_, h5⟩⟩
    · by_cases hl : len = 0
      · exact Or.inl (by subst hl; rfl)
      · have c0 := (hf2 0 (by omega)).2
        have hl0 : 0 < ((f 0).map (Value.int .u8)).length := by rw [List.length_map, (hf2 0 (by omega)).1.1]; decide
        have hcs : ((f 0).map (Value.int .u8))[0]? = some (((f 0).map (Value.int .u8))[0]'hl0) := List.getElem?_eq_getElem _
        have c1 := c0 0 _ hcs
        obtain ⟨b, off, spot⟩ := ad
        have hspot : spot = none := by simpa [Addr.add] using World.cell?_spot c1
        subst hspot
        have c2 : W.cell? ⟨b, off, none⟩ = some (((f 0).map (Value.int .u8))[0]'hl0) := by simpa [Addr.add] using c1
        refine Or.inr ⟨b, off, rfl, opn.lt_of_cell' c2, fun i hi => ?_⟩
        rw [hlen] at hi
        have e : ((List.range len).map f).getD i [] = f i := by simp [List.getD_eq_getElem?_getD, hi]
        rw [e]
        have := (hf2 i (by omega)).2
        rwa [show (⟨b, off, none⟩ : Addr).add (i * 32) = ⟨b, off + i * 32, none⟩ by unfold Addr.add; split <;> simp_all] at this
    · intro s hs
      obtain ⟨i, hi, rfl⟩ := List.mem_map.1 hs
      exact (hf2 i (by have := List.mem_range.1 hi; omega)).1

theorem wl_eqM {P : Program} {w : World} {ops : Array Oper} {rest : List Oper} {o : Oper} {a : Act} {Q : Exit → Act → World → Prop} (d : Nat) (hd : o.dst = some d) (hgd : Region.wanted o (yielded ops a.tmps) = true) (ty ty2 : TypeId) (x y : Operand) (ho : o.op = .binOp .eql ty x y ty2)
    (A B : Array Value) (hx : a.eval x = .agg A) (hy : a.eval y = .agg B) (b : Bool) (he : (Op.equalIn 10000 ty (.agg A) (.agg B)).run P w = .ok b w) (hm : P.eqGuardType P.depth ty = false) (h : wpList P ops Q rest (a.put o.dst (.bool b)) w) : wpList P ops Q (o :: rest) a w := by
  refine wpList_step fun K hK' => ?_
  rw [if_pos hgd]
  unfold Oper.wp
  simp [execOp, ho, hx, hy, run_eqGuard_agg, run_eql_struct, hm, he, Result.andThen]
  exact hK' _ _ h
theorem size5' : ∀ w, (sizeOf 5).run Try.prog w = .ok 1 w := fun w => by kernel_rfl
theorem run_eq_sum (w : World) (s t : List Int) (hs : s.length = 32) (ht : t.length = 32) : (Op.equalIn 10000 73 (.agg (s.map (Value.int .u8)).toArray) (.agg (t.map (Value.int .u8)).toArray)).run Try.prog w = .ok (s == t) w :=
  run_equalIn_ints w 9998 73 5 32 .u8 Try.underlying73 Try.underlying5 size5' s t hs ht
theorem getD_memL (l : List (List Int)) (k : Nat) (h : k < l.length) : l.getD k [] ∈ l := by rw [getD_lt' l [] h]; exact List.getElem_mem h

set_option maxRecDepth 100000 in
set_option maxHeartbeats 1000000 in
theorem Index_sum (ao : Option Addr) (cap : Nat) (l : List (List Int)) (s : List Int) (w : World) (hr : RowM w ao l) (hok : ∀ s ∈ l, SumLOk s) (hs : s.length = 32) (hn : l.length ≤ 4611686018427387904) :
    Calls Try.prog 48 #[.slice ao l.length cap, .agg (s.map (Value.int .u8)).toArray] w fun e w' => e = .returned (.int .i64 (slInt.findI (fun y => s == y) l 0)) ∧ Below w.heap.size w w' := by
  have HOK := hid hok
  obtain ⟨S, HS⟩ : ∃ S, Hid (S = s.map (Value.int .u8)) := ⟨_, rfl⟩
  have HSL : Hid (S.length = 32) := by show _ = _; rw [HS.out, List.length_map, hs]
  rw [← HS.out]
  clear hok
  have hb0 : Below w.heap.size w (w.alloc (.cells S.toArray 73)) := (Below.refl _ _).alloc (Nat.le_refl _) _
  have hS0 : BlkV 73 (w.alloc (.cells S.toArray 73)) w.heap.size S := BlkV.new _ _ _ rfl
  go_enter Try.func48, Try.ntmps48
  go_wp2
  go_loopw [8] (fun i wr => ∃ k : Nat, k ≤ l.length ∧ i = .int .i64 k ∧ Hid (slInt.findI (fun y => s == y) (l.drop k) k = slInt.findI (fun y => s == y) l 0) ∧ BlkV 73 wr w.heap.size S ∧ Below w.heap.size w wr) (fun i _ => l.length - (intOf i).toNat)
  case atStart => exact ⟨0, Nat.zero_le _, rfl, rfl, hS0, hb0⟩
  case round =>
    clear hS0 hb0
    obtain ⟨k, hk, rfl, HA, hB, hbl⟩ := hrel
    by_cases h0 : k < l.length
    · have hkI : (k : Int) < (l.length : Int) := by omega
      have hkI0 : (0 : Int) ≤ (k : Int) := by omega
      obtain ⟨b, off, rfl, hb, hat0⟩ := (hr.below hbl).at (by intro e; rw [e] at h0; simp at h0)
      have hat := hat0 k h0
      have ht : SumLOk (l.getD k []) := HOK.out _ (getD_memL l k h0)
      obtain ⟨t, HT⟩ : ∃ t, Hid (t = l.getD k []) := ⟨_, rfl⟩
      rw [← HT.out] at hat ht
      have HD := slInt.findI_drop (fun y => s == y) l [] k h0
      rw [← HT.out, HA.out] at HD
      replace HD := hid HD
      obtain ⟨TV, HTV⟩ : ∃ S, Hid (S = t.map (Value.int .u8)) := ⟨_, rfl⟩
      have HTL : Hid (TV.length = 32) := by show _ = _; rw [HTV.out, List.length_map, ht.1]
      rw [← HTV.out] at hat
      obtain ⟨c, Hc⟩ : ∃ c, Hid (c = (s == t)) := ⟨_, rfl⟩
      have heq : Hid (∀ w, (Op.equalIn 10000 73 (.agg S.toArray) (.agg TV.toArray)).run Try.prog w = .ok c w) := fun w => by rw [HS.out, HTV.out, Hc.out]; exact run_eq_sum w s t hs ht.1
      have a1 : At wr.drew ⟨w.heap.size, 0, none⟩ S := hB.at0
      have a2 : At wr.drew ⟨b, off + k * 32, none⟩ TV := hat
      clear hat hat0
      cases c
      · have HN : Hid ((s == t) = false) := Hc.out.symm
        go_wp2_with fail
        refine wp_region_still_tail 5 (by kernel_rfl) (by kernel_rfl) ?_
        simp only [List.take_succ_cons, List.take_zero, List.drop_succ_cons, List.drop_zero]
        change wpStill _ _ wr.drew (fun a' => wpList _ _ _ _ a' wr.drew) _ _
        refine still_load (by kernel_rfl) 73 _ rfl ⟨w.heap.size, 0, none⟩ rfl 32 S HSL.out aggSumT a1 ?_
        iterate 3 still_step
        refine still_load (by kernel_rfl) 73 _ rfl ⟨b, off + k * 32, none⟩ rfl 32 TV HTL.out aggSumT a2 ?_
        refine wpStill_nil ?_
        go_wp2_with (refine wl_eqM 16 rfl (by kernel_rfl) 73 _ _ _ rfl S.toArray TV.toArray rfl rfl false (heq.out _) (by kernel_rfl) ?_)
        go_roundw
        case rel => exact ⟨k + 1, by omega, by go_num, by show _ = _; rw [HD.out, if_neg (by rw [HN.out]; simp)], hB.drew, hbl.drew⟩
        case measure => simp [intOf] <;> omega
      · have HN : Hid ((s == t) = true) := Hc.out.symm
        go_wp2_with fail
        refine wp_region_still_tail 5 (by kernel_rfl) (by kernel_rfl) ?_
        simp only [List.take_succ_cons, List.take_zero, List.drop_succ_cons, List.drop_zero]
        change wpStill _ _ wr.drew (fun a' => wpList _ _ _ _ a' wr.drew) _ _
        refine still_load (by kernel_rfl) 73 _ rfl ⟨w.heap.size, 0, none⟩ rfl 32 S HSL.out aggSumT a1 ?_
        iterate 3 still_step
        refine still_load (by kernel_rfl) 73 _ rfl ⟨b, off + k * 32, none⟩ rfl 32 TV HTL.out aggSumT a2 ?_
        refine wpStill_nil ?_
        go_wp2_with (refine wl_eqM 16 rfl (by kernel_rfl) 73 _ _ _ rfl S.toArray TV.toArray rfl rfl true (heq.out _) (by kernel_rfl) ?_)
        go_ret
        exact ⟨rv (ri (by rw [HD.out, if_pos HN.out])), hbl.drew⟩
    · go_wp2
      go_ret
      exact ⟨rv (ri (by rw [← HA.out, List.drop_eq_nil_of_le (by omega)]; rfl)), hbl⟩

/-- where a sum lies; what Check gives of a right share -/
def posL (l : List (List Int)) (s : List Int) : Int := slInt.findI (fun y => s == y) l 0
def checkV (s : Sh) (l : List (List Int)) : Value := if posL l (markL s) < 0 then .tuple #[.int .i64 0, .int .i64 7] else .tuple #[.int .i64 (posL l (markL s)), .int .i64 0]

set_option maxRecDepth 100000 in
set_option maxHeartbeats 1000000 in
theorem Check_ok (s : Sh) (hs : s.Ok) (ao : Option Addr) (cap : Nat) (l : List (List Int)) (w : World) (hr : RowM w ao l) (hok : ∀ s ∈ l, SumLOk s) (hn : l.length ≤ 4611686018427387904) (hg : goodS s = true) :
    Calls Try.prog 47 #[.agg s.cs.toArray, .slice ao l.length cap] w fun e w' => e = .returned (checkV s l) ∧ Below w.heap.size w w' := by
  obtain ⟨Y, HY⟩ : ∃ Z, Hid (Z = zSum) := ⟨_, rfl⟩
  have hz32 := hid zeroSumZ
  rw [← HY.out] at hz32
  have hYl : Y.length = 32 := by rw [HY.out]; simp [zSum]
  obtain ⟨B, HB⟩ : ∃ B, Hid (B = w.heap.size) := ⟨_, rfl⟩
  have hsz : w.heap.size = B := HB.out.symm
  obtain ⟨S, HS⟩ : ∃ S : List Value, Hid (S = (markL s).map (Value.int .u8)) := ⟨_, rfl⟩
  have hS1 : ∀ u ∈ S, u.oneCell' = true := by rw [HS.out]; exact ints_one _ _
  have hSm : S.length = 32 := by rw [HS.out, List.length_map, markL_length]
  have HMV : Hid (markV s = .tuple #[.agg S.toArray, .int .i64 0]) := by show _ = _; unfold markV; rw [hg, HS.out]; rfl
  have hmk := fun w => hid (Mark_any s hs w)
  have hix := fun w' (hb : Below B w w') => hid (Index_sum ao cap l (markL s) w' (hr.below (hsz ▸ hb)) hok (markL_length s) hn)
  obtain ⟨F, HF⟩ : ∃ F : Int, Hid (F = posL l (markL s)) := ⟨_, rfl⟩
  change ∀ w', Below B w w' → Hid (Calls _ _ _ _ fun e w'' => e = .returned (.int .i64 (posL l (markL s))) ∧ _) at hix
  rw [← HF.out, ← HS.out] at hix
  have HCV : Hid (checkV s l = if F < 0 then .tuple #[.int .i64 0, .int .i64 7] else .tuple #[.int .i64 F, .int .i64 0]) := by show _ = _; rw [HF.out]; rfl
  obtain ⟨CS, HCS⟩ : ∃ C, Hid (C = s.cs) := ⟨_, rfl⟩
  have hCSl : CS.length = 49 := by rw [HCS.out]; exact hs.csl
  rw [HMV.out] at hmk
  rw [← HCS.out] at hmk ⊢
  rw [HCV.out]
  clear hok hg
  by_cases hneg : F < 0
  · rw [if_pos hneg]
    go_enter Try.func47, Try.ntmps47
    go_wp2_with (first | (refine wl_boxV rfl 61 _ rfl CS rfl B hsz ?_; intro w0 hB0 hb0 hs0) | (refine wl_load rfl 61 _ rfl ⟨B, 0, none⟩ rfl CS (by rw [hCSl]; exact aggS) hB0.at0 ?_) | (go_at_call 43; refine (hmk w0).out.mono ?_; rintro e w1 ⟨rfl, hb1⟩; have bb1 := hb0.trans (hb1.mono (by omega : B ≤ _)); have hsz1 := hb1.size; clear hb0 hb1) | (refine wl_allocV rfl 73 rfl Y hz32.out w1.heap.size rfl ?_; intro w2 hM2 hb2 hs2; have bb2 := bb1.trans (hb2.mono (by omega : B ≤ _)); clear bb1 hb2) | (refine wl_storeV rfl 73 _ _ rfl 73 w1.heap.size rfl S rfl 32 aggSumT hSm Y hM2 hYl hS1 ?_; intro w3 hM3 hb3 hs3; have bb3 := bb2.trans (hb3.mono (by omega : B ≤ _)); clear bb2 hb3) | (refine wl_load rfl 73 _ rfl ⟨w1.heap.size, 0, none⟩ rfl S (by rw [hSm]; exact aggSumT) hM3.at0 ?_) | (go_at_call 48; refine (hix w3 bb3).out.mono ?_; rintro e w4 ⟨rfl, hb4⟩; have bb4 := bb3.trans (hb4.mono (by omega : B ≤ _))))
    go_ret2
    exact ⟨rfl, by rw [← HB.out]; exact bb4⟩
  · rw [if_neg hneg]
    have hp : 0 ≤ F := by omega
    go_enter Try.func47, Try.ntmps47
    go_wp2_with (first | (refine wl_boxV rfl 61 _ rfl CS rfl B hsz ?_; intro w0 hB0 hb0 hs0) | (refine wl_load rfl 61 _ rfl ⟨B, 0, none⟩ rfl CS (by rw [hCSl]; exact aggS) hB0.at0 ?_) | (go_at_call 43; refine (hmk w0).out.mono ?_; rintro e w1 ⟨rfl, hb1⟩; have bb1 := hb0.trans (hb1.mono (by omega : B ≤ _)); have hsz1 := hb1.size; clear hb0 hb1) | (refine wl_allocV rfl 73 rfl Y hz32.out w1.heap.size rfl ?_; intro w2 hM2 hb2 hs2; have bb2 := bb1.trans (hb2.mono (by omega : B ≤ _)); clear bb1 hb2) | (refine wl_storeV rfl 73 _ _ rfl 73 w1.heap.size rfl S rfl 32 aggSumT hSm Y hM2 hYl hS1 ?_; intro w3 hM3 hb3 hs3; have bb3 := bb2.trans (hb3.mono (by omega : B ≤ _)); clear bb2 hb3) | (refine wl_load rfl 73 _ rfl ⟨w1.heap.size, 0, none⟩ rfl S (by rw [hSm]; exact aggSumT) hM3.at0 ?_) | (go_at_call 48; refine (hix w3 bb3).out.mono ?_; rintro e w4 ⟨rfl, hb4⟩; have bb4 := bb3.trans (hb4.mono (by omega : B ≤ _))))
    go_ret2
    exact ⟨rfl, by rw [← HB.out]; exact bb4⟩
end Go.Proofs.Ytbljihhelladbaa.shr

/- How much a slice is at least; slices of sums as parts; contract of share.Marks. Conditions: shares of the type's form. -/
namespace Go.Proofs.Ytbljihhelladbaa.shr
open Go.RowKit Go.Proofs.Ytbljihhelladbaa.sh Go.Proofs.Ytbljihhelladbaa.st Go.Proofs.Ytbljihhelladbaa.hs Go.ChangeShapes Go.WideShapes Go.ChangeAt
set_option linter.unusedSimpArgs false
set_option linter.unusedVariables false
set_option pp.maxSteps 6000

theorem bulk_pos {H : Type} (d : DataW H) : 1 ≤ Rows.uptoBulk d := by
  cases d with
  | lit l => cases l <;> simp [Rows.uptoBulk]
  | _ => simp [Rows.uptoBulk]
theorem bulkAll_ge {H : Type} : ∀ l : List (DataW H), l.length ≤ Rows.uptoBulkAll l
  | [] => Nat.zero_le _
  | d :: l => by
    have h1 := bulk_pos d
    have h2 := bulkAll_ge l
    simp only [Rows.uptoBulkAll, List.length_cons]; omega
theorem slice_bulk {H : Type} {enc : TypeId × Value → H} {P : Program} {W : World} {base : Nat} {held : Bool} {t e : TypeId} {ao : Option Addr} {len cap : Nat} {d : DataW H} {ps : List MemPlace}
    (ht : P.underlying t = some (.slice e)) (hd : DataW.Trod enc P W base (fun _ => true) held t (.slice ao len cap) d ps) : len ≤ Rows.uptoBulk d := by
  obtain ⟨fuel, hf⟩ := hd
  rcases Go.Deep.open_slice ht hf with ⟨h1, h2⟩ | ⟨ad, ln, cp, m, n, D, Pl, h1, h3, h4, h5, h6, h7, h8⟩
  · simp [Value.cells] at h1
    rw [h1.2.1]; exact Nat.zero_le _
  · simp [Value.cells] at h1
    obtain ⟨_, rfl, _⟩ := h1
    have hx : d = .slice ((List.range len).map D) ((List.range (m - len)).map fun j => D (len + j)) := congrArg Prod.fst h7
    have h9 := bulkAll_ge ((List.range len).map D)
    rw [hx]
    simp only [Rows.uptoBulk]
    simp only [List.length_map, List.length_range] at h9
    omega

theorem infoB : Info Try.prog 69 (.slice none 0 0) 1 24 := by unfold Info; kernel_rfl
theorem ptGrown {w w' : World} {x : Pt} {row : Option Nat} (h : x.Ok w) (hg : w.grownBy w' row) (hne : ∀ b, x.a = some b → row ≠ some b.block) : x.Ok w' :=
  ⟨(RowV.kept h.row.v hg hne).i, h.len, h.cap, h.oct, fun b e => Nat.lt_of_lt_of_le (h.lt b e) hg.size⟩

/-- a slice that holds parts, each a block of 32 octets -/
structure PartsAt (w : World) (base : Nat) (v : Value) (ps : List Pt) : Prop where
  own : w.ownsRow base 69 1 v ps.length (ps.map Pt.v)
  ok : ∀ x ∈ ps, x.Ok w ∧ ∃ g, x.a = some ⟨g, 0, none⟩ ∧ v.ownBlock ≠ some g
theorem PartsAt.nil (w : World) (base : Nat) : PartsAt w base (.slice none 0 0) [] := ⟨World.ownsRow_nil w base 69 1, fun x hx => by cases hx⟩
theorem owns_up {w w' : World} {base : Nat} {e : TypeId} {size n : Nat} {v : Value} {xs : List Value} (h : w.ownsRow base e size v n xs) (hb : Below w.heap.size w w') : w'.ownsRow base e size v n xs :=
  h.kept (grown_below hb : w.grownBy w' none) (by by_cases e : v.ownBlock = none; exact Or.inl e; exact Or.inr e)
theorem PartsAt.push {w w5 w6 w7 : World} {base g : Nat} {v v' : Value} {ps : List Pt} {m : List Int} {T T2 : TypeId} (h : PartsAt w base v ps) (hb : Below w.heap.size w w5) (hblk : BlkI .u8 T w5 g m) (hg : w.heap.size ≤ g) (hm : m.length = 32) (ho : Octs m)
    (hw6 : w6 = w5.alloc (.cells #[.slice (some ⟨g, 0, none⟩) 32 32] T2)) (hgr : w6.grownBy w7 v.ownBlock) (hv' : v'.ownBlock = v.ownBlock ∨ v'.ownBlock = some w6.heap.size)
    (hown : w7.ownsRow base 69 1 v' (ps.length + 1) (ps.map Pt.v ++ [.slice (some ⟨g, 0, none⟩) 32 32])) : PartsAt w7 base v' (ps ++ [⟨some ⟨g, 0, none⟩, 32, m⟩]) := by
  have hb6 : Below w.heap.size w w6 := by rw [hw6]; exact hb.alloc hb.size _
  have hvw : ∀ k, v.ownBlock = some k → k < w.heap.size := fun k hk => (h.own.lt k hk).2
  have hg5 : g < w5.heap.size := hblk.lt
  have hg6 : g < w6.heap.size := by rw [hw6]; simp; omega
  have hblk6 : BlkI .u8 T w6 g m := by rw [hw6]; exact hblk.alloc _
  refine ⟨?_, fun x hx => ?_⟩
  · rw [List.length_append, List.map_append]
    have e : [(⟨some ⟨g, 0, none⟩, 32, m⟩ : Pt)].map Pt.v = [.slice (some ⟨g, 0, none⟩) 32 32] := by
      show [Value.slice (some ⟨g, 0, none⟩) m.length 32] = _
      rw [hm]
    rw [e]; exact hown
  · rcases List.mem_append.1 hx with hx | hx
    · obtain ⟨h1, gx, h2, h3⟩ := h.ok x hx
      have hgx : gx < w.heap.size := h1.lt _ h2
      refine ⟨ptGrown (h1.below hb6) hgr (fun b e => ?_), gx, h2, ?_⟩
      · rw [h2] at e; cases e; exact h3
      · rcases hv' with e | e
        · rw [e]; exact h3
        · rw [e]; intro h; have := Option.some.inj h; have := hb6.size; omega
    · rw [List.mem_singleton] at hx
      subst hx
      have hvg : v.ownBlock ≠ some g := by intro e; have := hvw g e; omega
      refine ⟨ptGrown (w := w6) ⟨hblk6.row, by show m.length ≤ 32; omega, by show 32 ≤ maxLen; decide, ho, fun b e => by cases e; exact hg6⟩ hgr (fun b e => by cases e; exact hvg), g, rfl, ?_⟩
      rcases hv' with e | e
      · rw [e]; exact hvg
      · rw [e]; intro h; have := Option.some.inj h; omega
theorem PartsAt.up {w w' : World} {base : Nat} {v : Value} {ps : List Pt} (h : PartsAt w base v ps) (hb : Below w.heap.size w w') : PartsAt w' base v ps :=
  ⟨owns_up h.own hb, fun x hx => ⟨(h.ok x hx).1.below hb, (h.ok x hx).2⟩⟩

theorem rowV_of_owns' {w : World} {base n c N : Nat} {e : TypeId} {size : Nat} {ao : Option Addr} {xs : List Value} (h : w.ownsRow base e size (.slice ao n c) N xs) : RowV w ao xs := by
  obtain ⟨ao', cap', hv, _, hr⟩ := Mine.row (Or.inl h)
  injection hv with e1 e2 e3
  rw [e1]; exact hr
/-- the marks of shares, framed; what Marks gives -/
def frL (l : List Sh) : List Int := (l.map fun s => o4 32 ++ markL s).flatten
def badM (l : List Sh) : Bool := l.any fun s => !goodS s
def wantM (l : List Sh) : Int := if 32 < l.length then 5 else if badM l = true then 4 else 0
def marksV (l : List Sh) : Value := if wantM l = 0 then .tuple #[.agg ((sumL 7 (frL l)).map (Value.int .u8)).toArray, .int .i64 0] else .tuple #[.agg zSum.toArray, .int .i64 (wantM l)]
theorem frL_length (l : List Sh) : (frL l).length = 36 * l.length := by
  induction l with
  | nil => rfl
  | cons s l ih =>
    unfold frL at *
    rw [List.map_cons, List.flatten_cons, List.length_append, ih, List.length_append, markL_length, List.length_cons]
    show 4 + 32 + _ = _; omega
theorem framed_marks (ps : List Pt) (l : List Sh) (h : ps.map Pt.l = l.map markL) : framed ps = frL l := by
  have key : ∀ (ps : List Pt) (l : List Sh), ps.map Pt.l = l.map markL → framed ps = frL l := by
    intro ps
    induction ps with
    | nil => intro l h; cases l with
      | nil => rfl
      | cons s l => cases h
    | cons x ps ih =>
      intro l h
      cases l with
      | nil => cases h
      | cons s l =>
        rw [List.map_cons, List.map_cons] at h
        injection h with h1 h2
        have := ih l h2
        unfold framed frL at *
        rw [List.map_cons, List.flatten_cons, List.map_cons, List.flatten_cons, this, h1, markL_length]; rfl
  exact key ps l h
theorem badM_mem {l : List Sh} (k : Nat) (h : k < l.length) (hg : goodS (l.getD k nil) = false) : badM l = true := by
  unfold badM
  rw [List.any_eq_true]
  exact ⟨_, getD_mem l k h, by rw [hg]; rfl⟩
theorem badM_false {l : List Sh} (h : ∀ j, j < l.length → goodS (l.getD j nil) = true) : badM l = false := by
  unfold badM
  rw [List.any_eq_false]
  intro s hs
  obtain ⟨j, hj, rfl⟩ := List.getElem_of_mem hs
  have := h j hj
  rw [getD_lt' l nil hj] at this
  rw [this]; simp
theorem marks_snoc (l : List Sh) (k : Nat) (h : k < l.length) : (l.take (k + 1)).map markL = (l.take k).map markL ++ [markL (l.getD k nil)] := by
  rw [List.take_succ_eq_append_getElem h, List.map_append, getD_lt' l nil h]; rfl

set_option maxRecDepth 100000 in
set_option maxHeartbeats 1000000 in
theorem Marks_large (ao : Option Addr) (cap : Nat) (l : List Sh) (w : World) (hl : 32 < l.length) :
    Calls Try.prog 50 #[.slice ao l.length cap] w fun e w' => e = .returned (marksV l) ∧ Below w.heap.size w w' := by
  obtain ⟨Y, HY⟩ : ∃ Z, Hid (Z = zSum) := ⟨_, rfl⟩
  have hz32 := hid zeroSumZ
  have hbt := hid built0
  rw [← HY.out] at hz32 hbt
  have hYl : Y.length = 32 := by rw [HY.out]; simp [zSum]
  have hY1 : ∀ u ∈ Y, u.oneCell' = true := by rw [HY.out]; exact ints_one _ _
  obtain ⟨B, HB⟩ : ∃ B, Hid (B = w.heap.size) := ⟨_, rfl⟩
  have hsz : w.heap.size = B := HB.out.symm
  have HV : Hid (marksV l = .tuple #[.agg Y.toArray, .int .i64 5]) := by
    show _ = _
    have e : wantM l = 5 := by unfold wantM; rw [if_pos hl]
    unfold marksV; rw [e, HY.out]; rfl
  rw [HV.out]
  have hI : (32 : Int) < (l.length : Int) := by omega
  go_enter Try.func50, Try.ntmps50
  go_wp2_with (first | (refine wl_allocV rfl 73 rfl Y hz32.out B hsz ?_; intro w1 hR1 hb1 hs1; clear hz32) | (refine wl_build0 rfl 73 rfl Y hbt.out ?_) | (refine wl_storeV rfl 73 _ _ rfl 73 B rfl Y rfl 32 aggSumT hYl Y hR1 hYl hY1 ?_; intro w4 hR4 hb4 hs4))
  (try simp only [Exit.inBlock, Exit.then]); refine bodyPost_ret (results_cell2 rfl _ _ _ _ rfl Y (by rw [hYl]; exact aggSumT) hR4.at0) rfl ?_
  exact ⟨rfl, by first | exact hb1.trans hb4 | (rw [hsz]; exact hb1.trans hb4)⟩

set_option maxRecDepth 100000 in
set_option maxHeartbeats 1000000 in
theorem Marks_small (ao : Option Addr) (cap : Nat) (l : List Sh) (w : World) (hr : RowS w ao l) (hok : ∀ s ∈ l, s.Ok) (hl : l.length ≤ 32) :
    Calls Try.prog 50 #[.slice ao l.length cap] w fun e w' => e = .returned (marksV l) ∧ Below w.heap.size w w' := by
  obtain ⟨Y, HY⟩ : ∃ Z, Hid (Z = zSum) := ⟨_, rfl⟩
  have hz32 := hid zeroSumZ
  have hbt := hid built0
  rw [← HY.out] at hz32 hbt
  have hYl : Y.length = 32 := by rw [HY.out]; simp [zSum]
  have hY1 : ∀ u ∈ Y, u.oneCell' = true := by rw [HY.out]; exact ints_one _ _
  obtain ⟨B, HB⟩ : ∃ B, Hid (B = w.heap.size) := ⟨_, rfl⟩
  have hsz : w.heap.size = B := HB.out.symm
  have HOK := hid hok
  have HR := hid hr
  have hI : ¬ (32 : Int) < (l.length : Int) := by omega
  obtain ⟨n, HN⟩ : ∃ n, Hid (n = l.length) := ⟨_, rfl⟩
  rw [← HN.out] at hl hI ⊢
  clear hok hr
  go_enter Try.func50, Try.ntmps50
  go_wp2_with (first | (refine wl_allocV rfl 73 rfl Y hz32.out B hsz ?_; intro w1 hR1 hb1 hs1))
  go_loopw [4, 15] (fun v i wr => ∃ (k : Nat) (ps : List Pt) (ao' : Option Addr) (c' : Nat), k ≤ n ∧ i = .int .i64 k ∧ v = .slice ao' k c' ∧ ps.length = k ∧ PartsAt wr (B + 1) v ps ∧ ps.map Pt.l = (l.take k).map markL ∧ (∀ j, j < k → goodS (l.getD j nil) = true) ∧ BlkV 73 wr B Y ∧ Below B w wr ∧ B + 1 ≤ wr.heap.size) (fun _ i _ => n - (intOf i).toNat)
  case atStart => exact ⟨0, [], none, 0, by omega, rfl, rfl, rfl, PartsAt.nil _ _, rfl, fun j h => absurd h (Nat.not_lt_zero _), hR1, hb1, by omega⟩
  case round =>
    clear hR1 hb1
    obtain ⟨k, ps, ao', c', hk, rfl, rfl, hpk, hP, hpm, hgood, hR, hb, hsB⟩ := hrel
    by_cases h0 : k < n
    · have hkI : (k : Int) < (n : Int) := by omega
      have hkI0 : (0 : Int) ≤ (k : Int) := by omega
      have hkl : k < l.length := by rw [← HN.out]; exact h0
      obtain ⟨b, off, s, rfl, hbs, HSs, hat⟩ := (HR.out.below (hsz ▸ hb)).elem (i := k) hkl
      have hs : s.Ok := by rw [HSs.out]; exact HOK.out _ (getD_mem l k hkl)
      have hmk := fun w => hid (Mark_any s hs w)
      obtain ⟨CS, HCS⟩ : ∃ C, Hid (C = s.cs) := ⟨_, rfl⟩
      have hCSl : CS.length = 49 := by rw [HCS.out]; exact hs.csl
      have hCS1 : ∀ u ∈ CS, u.oneCell' = true := by rw [HCS.out]; exact cs_one s
      rw [← HCS.out] at hmk hat
      cases hg : goodS s
      · have HMV : Hid (markV s = .tuple #[.agg Y.toArray, .int .i64 4]) := by show _ = _; unfold markV; rw [hg, HY.out]; rfl
        rw [HMV.out] at hmk
        have HV : Hid (marksV l = .tuple #[.agg Y.toArray, .int .i64 4]) := by
          show _ = _
          have e : wantM l = 4 := by unfold wantM; rw [if_neg (by rw [← HN.out]; omega), if_pos (badM_mem k hkl (by rw [← HSs.out]; exact hg))]
          unfold marksV; rw [e, HY.out]; rfl
        clear hg
        go_wp2_with (first | (refine wl_load rfl 61 _ rfl ⟨b, off + k * 49, none⟩ rfl CS (by rw [hCSl]; exact aggS) hat ?_; clear hat) | (refine wl_allocV rfl 61 rfl sh0.cs sh0_zero wr.heap.size rfl ?_; intro wA hA hbA hsA; have hRA := hR.below hbA (by omega); have bbA := hb.trans (hbA.mono (by omega : B ≤ _)); clear hR hb hbA) | (refine wl_storeV rfl 61 _ _ rfl 61 wr.heap.size rfl CS rfl 49 aggS hCSl sh0.cs hA sh0_len hCS1 ?_; intro wC hC hbC hsC; have hRC := hRA.below hbC (by omega); have bbC := bbA.trans (hbC.mono (by omega : B ≤ _)); clear hRA bbA hbC hA) | (refine wl_load rfl 61 _ rfl ⟨wr.heap.size, 0, none⟩ rfl CS (by rw [hCSl]; exact aggS) hC.at0 ?_) | (go_at_call 43; refine (hmk wC).out.mono ?_; rintro e wD ⟨rfl, hbD⟩; have hRD := hRC.below hbD (by omega); have bbD := bbC.trans (hbD.mono (by omega : B ≤ _)); have hsD := hbD.size; clear hRC bbC hbD hC) | (refine wl_allocV rfl 73 rfl Y hz32.out wD.heap.size rfl ?_; intro wE hE hbE hsE; have hRE := hRD.below hbE (by omega); have bbE := bbD.trans (hbE.mono (by omega : B ≤ _)); clear hRD bbD hbE) | (refine wl_storeV rfl 73 _ _ rfl 73 wD.heap.size rfl Y rfl 32 aggSumT hYl Y hE hYl hY1 ?_; intro wF hF hbF hsF; have hRF := hRE.below hbF (by omega); have bbF := bbE.trans (hbF.mono (by omega : B ≤ _)); clear hRE bbE hbF hE) | (refine wl_build0 rfl 73 rfl Y hbt.out ?_) | (refine wl_storeV rfl 73 _ _ rfl 73 B rfl Y rfl 32 aggSumT hYl Y hRF hYl hY1 ?_; intro wG hG hbG hsG))
        (try simp only [Exit.inBlock, Exit.then]); refine bodyPost_ret (results_cell2 rfl _ _ _ _ rfl Y (by rw [hYl]; exact aggSumT) hG.at0) rfl ?_
        exact ⟨by rw [HV.out]; rfl, by first | exact bbF.trans hbG | (rw [hsz]; exact bbF.trans hbG)⟩
      · obtain ⟨M, HM⟩ : ∃ M, Hid (M = (markL s).map (Value.int .u8)) := ⟨_, rfl⟩
        have hMl : M.length = 32 := by rw [HM.out, List.length_map, markL_length]
        have hM1 : ∀ u ∈ M, u.oneCell' = true := by rw [HM.out]; exact ints_one _ _
        have HMV : Hid (markV s = .tuple #[.agg M.toArray, .int .i64 0]) := by show _ = _; unfold markV; rw [hg, HM.out]; rfl
        rw [HMV.out] at hmk
        have HG := hid hg
        have HGD := hid hgood
        have hal : Try.prog.arrayLen 73 = 32 := by kernel_rfl
        have HPM := hid hpm
        have HPK := hid hpk
        clear hg hgood hpm hpk
        have hO0 := hP.own
        rw [HPK.out] at hO0
        have HSNOC := hid (marks_snoc l k hkl)
        rw [← HPM.out, ← HSs.out] at HSNOC
        have hmo := sumL_octs 7 (pO s)
        go_wp2_with (first | (refine wl_load rfl 61 _ rfl ⟨b, off + k * 49, none⟩ rfl CS (by rw [hCSl]; exact aggS) hat ?_; clear hat) | (refine wl_allocV rfl 61 rfl sh0.cs sh0_zero wr.heap.size rfl ?_; intro wA hA hbA hsA; have hRA := hR.below hbA (by omega); clear hR) | (refine wl_storeV rfl 61 _ _ rfl 61 wr.heap.size rfl CS rfl 49 aggS hCSl sh0.cs hA sh0_len hCS1 ?_; intro wC hC hbC hsC; have hRC := hRA.below hbC (by omega); have bwC : Below wr.heap.size wr wC := hbA.trans hbC; clear hRA hbA hbC hA) | (refine wl_load rfl 61 _ rfl ⟨wr.heap.size, 0, none⟩ rfl CS (by rw [hCSl]; exact aggS) hC.at0 ?_) | (go_at_call 43; refine (hmk wC).out.mono ?_; rintro e wD ⟨rfl, hbD⟩; have hRD := hRC.below hbD (by omega); have bwD := bwC.trans (hbD.mono (by omega : wr.heap.size ≤ _)); have hsD := hbD.size; clear hRC bwC hbD hC) | (refine wl_allocV rfl 73 rfl Y hz32.out wD.heap.size rfl ?_; intro wE hE hbE hsE; have hRE := hRD.below hbE (by omega); have bwE := bwD.trans (hbE.mono (by omega : wr.heap.size ≤ _)); clear hRD bwD hbE) | (refine wl_storeV rfl 73 _ _ rfl 73 wD.heap.size rfl M rfl 32 aggSumT hMl Y hE hYl hM1 ?_; intro wF hF hbF hsF; have hRF := hRE.below hbF (by omega); have bwF := bwE.trans (hbF.mono (by omega : wr.heap.size ≤ _)); clear hRE bwE hbF hE) | (at_builtin; go_loud (refine wl_push rfl _ _ 82 rfl 69 (.slice none 0 0) 1 24 Try.underlying82 infoB rfl (by decide) (B + 1) _ k _ rfl (owns_up hO0 (bwF.alloc bwF.size _)) ⟨wD.heap.size + 1, 0, none⟩ 1 1 rfl [.slice (some ⟨wD.heap.size, 0, none⟩) 32 32] rfl (BlkV.at0 (BlkV.new _ _ _ (by omega))) (by intro u hu; simp at hu; subst hu; rfl) (by unfold maxLen; omega) (by omega) (by simp; omega) (k + 1) rfl ?_); intro ao9 cap9 w9 hc9 hO9 hg9 hv9))
        have bwF6 := bwF.alloc bwF.size (.cells #[.slice (some ⟨wD.heap.size, 0, none⟩) 32 32] 69)
        have hrowlt : ∀ j, (Value.slice ao' k c').ownBlock = some j → B + 1 ≤ j := fun j e => (hO0.lt j e).1
        have hMI : BlkI .u8 73 wF wD.heap.size (markL s) := by rw [HM.out] at hF; exact hF
        have hP9 := hP.push bwF hMI (by omega) (markL_length s) hmo rfl hg9 hv9 (by rw [HPK.out]; exact hO9)
        have hR9 := (hRF.alloc (.cells #[.slice (some ⟨wD.heap.size, 0, none⟩) 32 32] 69)).grown hg9 (by intro e; have := hrowlt _ e; omega)
        have bb9 : Below B w w9 := (hb.trans (bwF6.mono (by omega))).grown hg9 (by simp; omega) (fun j e => by have := hrowlt j e; omega)
        have hs9 : B + 1 ≤ w9.heap.size := by have := hg9.size; simp at this; omega
        go_roundw
        case rel =>
          refine ⟨k + 1, _, ao9, cap9, by omega, by go_num, rfl, by rw [List.length_append, HPK.out]; rfl, hP9, ?_, ?_, hR9, bb9, hs9⟩
          · rw [HSNOC.out, List.map_append]; rfl
          · intro j hj
            by_cases e : j = k
            · rw [e, ← HSs.out]; exact HG.out
            · exact HGD.out j (by omega)
        case measure => simp [intOf] <;> omega
    · obtain rfl : k = n := by omega
      have e : l.take k = l := List.take_of_length_le (by rw [← HN.out]; exact Nat.le_refl _)
      rw [e] at hpm
      have hfr := framed_marks ps l hpm
      have hcap : k ≤ c' := by
        rcases hP.own.2 with ⟨h, _⟩ | ⟨g, cap1, cur, hv, _, _, h1, _⟩
        · injection h with e1 e2 e3; omega
        · injection hv with e1 e2 e3; omega
      have hWM : wantM l = 0 := by
        unfold wantM
        rw [if_neg (by rw [← HN.out]; omega), badM_false (fun j hj => hgood j (by rw [HN.out]; exact hj))]; rfl
      obtain ⟨M, HM⟩ : ∃ M, Hid (M = (sumL 7 (frL l)).map (Value.int .u8)) := ⟨_, rfl⟩
      have hMl : M.length = 32 := by rw [HM.out, List.length_map, sumL_length]
      have hM1 : ∀ u ∈ M, u.oneCell' = true := by rw [HM.out]; exact ints_one _ _
      have HV : Hid (marksV l = .tuple #[.agg M.toArray, .int .i64 0]) := by show _ = _; unfold marksV; rw [hWM, HM.out]; rfl
      have hrv := rowV_of_owns' hP.own
      have hsum := hid (sums_in 7 oct7 ao' c' k ps wr hpk.symm (by omega) hrv (fun x hx => (hP.ok x hx).1) (by rw [hfr, frL_length, ← HN.out]; omega))
      rw [hfr, ← HM.out] at hsum
      clear hgood hWM
      go_wp2_with (first | (go_at_call 114; refine hsum.out.mono ?_; rintro e wD ⟨rfl, hbD⟩; have hRD := hR.below hbD (by omega); have bbD := hb.trans (hbD.mono (by omega : B ≤ _)); clear hR hb hbD) | (refine wl_storeV rfl 73 _ _ rfl 73 B rfl M rfl 32 aggSumT hMl Y hRD hYl hM1 ?_; intro wG hG hbG hsG))
      (try simp only [Exit.inBlock, Exit.then]); refine bodyPost_ret (results_cell2 rfl _ _ _ _ rfl M (by rw [hMl]; exact aggSumT) hG.at0) rfl ?_
      exact ⟨by rw [HV.out]; rfl, by first | exact bbD.trans hbG | (rw [hsz]; exact bbD.trans hbG)⟩
theorem Marks_any (ao : Option Addr) (cap : Nat) (l : List Sh) (w : World) (hr : RowS w ao l) (hok : ∀ s ∈ l, s.Ok) :
    Calls Try.prog 50 #[.slice ao l.length cap] w fun e w' => e = .returned (marksV l) ∧ Below w.heap.size w w' := by
  by_cases h : 32 < l.length
  · exact Marks_large ao cap l w h
  · exact Marks_small ao cap l w hr hok (by omega)
end Go.Proofs.Ytbljihhelladbaa.shr

/- Plain facts for the law MarksMatch: what is written is read; first errors. No program; a share of the type's form. -/
namespace Go.Proofs.Ytbljihhelladbaa.shr
open Go.RowKit Go.Proofs.Ytbljihhelladbaa.sh Go.Proofs.Ytbljihhelladbaa.st Go.Proofs.Ytbljihhelladbaa.hs
set_option linter.unusedSimpArgs false
set_option linter.unusedVariables false
set_option pp.maxSteps 6000

theorem getD_append_lt (l m : List Int) (i : Nat) (h : i < l.length) : (l ++ m).getD i 0 = l.getD i 0 := by rw [getD_app, if_pos h]
theorem getD_append_ge (l m : List Int) (i : Nat) (h : l.length ≤ i) : (l ++ m).getD i 0 = m.getD (i - l.length) 0 := by rw [getD_app, if_neg (by omega)]
theorem o2s_getD (l : List Int) : ∀ k, k < l.length → (o2s l).getD (2 * k) 0 = l.getD k 0 / 256 % 256 ∧ (o2s l).getD (2 * k + 1) 0 = l.getD k 0 % 256 := by
  induction l with
  | nil => intro k h; cases h
  | cons a l ih =>
    intro k hk
    have e : o2s (a :: l) = o2 a ++ o2s l := by unfold o2s; rw [List.map_cons, List.flatten_cons]
    rw [e]
    cases k with
    | zero => exact ⟨rfl, rfl⟩
    | succ k =>
      have h1 := ih k (by simp at hk; omega)
      rw [getD_append_ge _ _ _ (by rw [o2_length]; omega), getD_append_ge _ _ _ (by rw [o2_length]; omega), o2_length, show 2 * (k + 1) - 2 = 2 * k by omega, show 2 * (k + 1) + 1 - 2 = 2 * k + 1 by omega]
      exact h1
theorem shareOf_pO (s : Sh) (hs : s.Ok) (hg : goodS s = true) : shareOf (pO s) = s := by
  have hx : 1 ≤ s.x ∧ s.x ≤ 256 := by
    unfold goodS inB at hg
    simp at hg
    exact hg.1
  have hl := pO_length hs
  have hp : pO s = ([75, 87, 83, 49] ++ s.h) ++ (o2 s.x ++ o2s s.y) := by unfold pO; rw [List.append_assoc]
  have hpl : (([75, 87, 83, 49] : List Int) ++ s.h).length = 20 := by rw [List.length_append, hs.hl]; rfl
  have hh : ((pO s).drop 4).take 16 = s.h := by
    rw [hp, List.append_assoc]
    show ((s.h ++ (o2 s.x ++ o2s s.y))).take 16 = _
    rw [List.take_append_of_le_length (by rw [hs.hl]; exact Nat.le_refl _), List.take_of_length_le (by rw [hs.hl]; exact Nat.le_refl _)]
  have h20 : (pO s).getD 20 0 = s.x / 256 % 256 := by
    rw [hp, getD_append_ge _ _ _ (by rw [hpl]; exact Nat.le_refl _), hpl]; rfl
  have h21 : (pO s).getD 21 0 = s.x % 256 := by
    rw [hp, getD_append_ge _ _ _ (by rw [hpl]; decide), hpl]; rfl
  have hxx : xOf (pO s) = s.x := by unfold xOf; rw [h20, h21]; omega
  have hyy : ∀ k, k < 32 → yOf (pO s) k = s.y.getD k 0 := by
    intro k hk
    have hk' : k < s.y.length := by rw [hs.yl]; exact hk
    have h1 := o2s_getD s.y k hk'
    have hb := hs.yb (s.y.getD k 0) (by rw [getD_lt' s.y 0 hk']; exact List.getElem_mem _)
    unfold yOf
    rw [hp, getD_append_ge _ _ (22 + 2 * k) (by rw [hpl]; omega), getD_append_ge _ _ (23 + 2 * k) (by rw [hpl]; omega), hpl, getD_append_ge _ _ _ (by rw [o2_length]; omega), getD_append_ge _ _ _ (by rw [o2_length]; omega), o2_length, show 22 + 2 * k - 20 - 2 = 2 * k by omega, show 23 + 2 * k - 20 - 2 = 2 * k + 1 by omega, h1.1, h1.2]
    omega
  have hy : st.fillTo (yOf (pO s)) 32 32 = s.y := by
    apply List.ext_getElem
    · rw [st.fillTo_length _ _ _ (by omega), hs.yl]
    · intro i h1 h2
      have hi : i < 32 := by rw [hs.yl] at h2; exact h2
      have h3 := shTo_y s.h s.x (yOf (pO s)) i hi
      unfold shTo at h3
      rw [getD_lt' _ 0 h1, hyy i hi, getD_lt' _ 0 h2] at h3
      exact h3
  unfold shareOf shTo
  rw [hh, hxx, hy]
theorem parse_print (s : Sh) (hs : s.Ok) (hg : goodS s = true) : parseV (pO s) = .tuple #[.agg s.cs.toArray, .int .i64 0] := by
  have hl := pO_length hs
  have e : parseE (pO s) = 0 := by
    unfold parseE
    rw [if_neg (by omega), if_pos ⟨by unfold pO; rfl, by omega⟩, shareOf_pO s hs hg, if_pos hg]
  unfold parseV parseS
  rw [e, if_pos rfl, shareOf_pO s hs hg]

/-- the mark that MarkOf gives, zeros for a wrong share; its error -/
def mk0 (s : Sh) : List Int := if goodS s = true then markL s else List.replicate 32 0
def errS (s : Sh) : Int := if goodS s = true then 0 else 4
theorem markV_eq (s : Sh) : markV s = .tuple #[.agg ((mk0 s).map (Value.int .u8)).toArray, .int .i64 (errS s)] := by
  unfold markV mk0 errS
  cases goodS s <;> rfl
theorem mk0_length (s : Sh) : (mk0 s).length = 32 := by unfold mk0; split; exact markL_length s; simp
theorem mk0_octs (s : Sh) : Octs (mk0 s) := by unfold mk0; split; exact sumL_octs _ _; exact zeros_octs 32
def wantK (l : List Sh) (k : Nat) : Int := if 32 < l.length then 5 else if badM (l.take k) = true then 4 else 0
theorem wantK_zero (l : List Sh) : wantK l 0 = whenE (decide ((32 : Int) < (l.length : Int))) 5 := by
  unfold wantK whenE
  by_cases h : 32 < l.length
  · rw [if_pos h]; simp; omega
  · rw [if_neg h]; simp [badM]; omega
theorem badM_succ (l : List Sh) (k : Nat) (h : k < l.length) : badM (l.take (k + 1)) = (badM (l.take k) || !goodS (l.getD k nil)) := by
  unfold badM
  rw [List.take_succ_eq_append_getElem h, List.any_append, getD_lt' l nil h]; simp
theorem wantK_succ (l : List Sh) (k : Nat) (h : k < l.length) : wantK l (k + 1) = firstE2 (wantK l k) (errS (l.getD k nil)) := by
  unfold wantK firstE2 errS
  rw [badM_succ l k h]
  by_cases h1 : 32 < l.length
  · simp [h1]
  · cases badM (l.take k) <;> cases goodS (l.getD k nil) <;> simp [h1]
theorem wantK_all (l : List Sh) : wantK l l.length = wantM l := by unfold wantK wantM; rw [List.take_of_length_le (Nat.le_refl _)]
def marksA (l : List Sh) : List Value := if wantM l = 0 then (sumL 7 (frL l)).map (Value.int .u8) else zSum
theorem marksV_eq (l : List Sh) : marksV l = .tuple #[.agg (marksA l).toArray, .int .i64 (wantM l)] := by
  unfold marksV marksA
  by_cases h : wantM l = 0
  · rw [if_pos h, if_pos h, h]
  · rw [if_neg h, if_neg h]
theorem marksA_length (l : List Sh) : (marksA l).length = 32 := by unfold marksA; split; rw [List.length_map, sumL_length]; simp [zSum]
theorem marksA_one (l : List Sh) : ∀ u ∈ marksA l, u.oneCell' = true := by unfold marksA; split; exact ints_one _ _; exact ints_one _ _
theorem want_zero {l : List Sh} (h : wantM l = 0) : l.length ≤ 32 ∧ l.map mk0 = l.map markL := by
  unfold wantM at h
  by_cases h1 : 32 < l.length
  · rw [if_pos h1] at h; omega
  · rw [if_neg h1] at h
    refine ⟨by omega, List.map_congr_left fun s hs => ?_⟩
    have hb : badM l = false := by
      cases e : badM l
      · rfl
      · rw [e] at h; simp at h
    unfold badM at hb
    rw [List.any_eq_false] at hb
    have := hb s hs
    unfold mk0
    rw [if_pos (by simpa using this)]
theorem mk0_snoc (l : List Sh) (k : Nat) (h : k < l.length) : (l.take (k + 1)).map mk0 = (l.take k).map mk0 ++ [mk0 (l.getD k nil)] := by
  rw [List.take_succ_eq_append_getElem h, List.map_append, getD_lt' l nil h]; rfl
end Go.Proofs.Ytbljihhelladbaa.shr

/- Framed parts ready for a sum; an equality inside a region that draws. Conditions: parts that lie in memory. -/
namespace Go.Proofs.Ytbljihhelladbaa.shr
open Go.RowKit Go.Proofs.Ytbljihhelladbaa.sh Go.Proofs.Ytbljihhelladbaa.st Go.Proofs.Ytbljihhelladbaa.hs
set_option linter.unusedSimpArgs false
set_option linter.unusedVariables false
set_option pp.maxSteps 6000

theorem checkV_neg {s : Sh} {ml : List (List Int)} {F : Int} (h : F = posL ml (markL s)) (hn : F < 0) : checkV s ml = .tuple #[.int .i64 0, .int .i64 7] := by unfold checkV; rw [← h, if_pos hn]
theorem checkV_pos {s : Sh} {ml : List (List Int)} {F : Int} (h : F = posL ml (markL s)) (hn : ¬ F < 0) : checkV s ml = .tuple #[.int .i64 F, .int .i64 0] := by unfold checkV; rw [← h, if_neg hn]

theorem first_two' (x y : Int) (w : World) (g : Nat) (hg : w.heap.size = g) : ∀ w0, w0 = w.alloc (.cells #[.int .i64 x, .int .i64 y] 27) →
    Calls Try.prog 23 #[.slice (some ⟨g, 0, none⟩) 2 2] w0 fun e w' => e = .returned (.int .i64 (firstE2 x y)) ∧ w0 = w' := by
  intro w0 h
  subst hg
  exact First_two x y w w0 h

theorem yieldsIf_eqM {P : Program} {ops : Array Oper} {S : World → Prop} {op : Oper} {a : Act} (hw : Region.wanted op (yielded ops a.tmps) = true) (ty ty2 : TypeId) (x y : Operand) (ho : op.op = .binOp .eql ty x y ty2)
    (A B : Array Value) (hx : a.eval x = .agg A) (hy : a.eval y = .agg B) (b : Bool) (he : ∀ w, (Op.equalIn 10000 ty (.agg A) (.agg B)).run P w = .ok b w) (hm : P.eqGuardType P.depth ty = false) : YieldsIf P ops S op (.bool b) a :=
  .inl ⟨hw, fun w hw' => by
    unfold execOp
    simp [ho, hx, hy, run_eqGuard_agg, run_eql_struct, hm, he w, Result.andThen]⟩
set_option maxRecDepth 100000 in
theorem framed_nil (po : Option Addr) (cap : Nat) (w : World) : Calls Try.prog 52 #[.slice po 0 cap] w fun e w' => e = .returned (.slice none 0 0) ∧ w = w' := by
  go_enter Try.func52, Try.ntmps52
  go_wp2
  go_loop [3, 8] (fun v i => v = .slice none 0 0 ∧ i = .int .i64 0) (fun _ i => 1)
  case atStart => exact ⟨rfl, rfl⟩
  case round =>
    obtain ⟨rfl, rfl⟩ := hrel
    go_wp2
    go_ret
    exact ⟨rfl, rfl⟩
theorem framed_len_ge (ps : List Pt) : ps.length ≤ (framed ps).length := by
  induction ps with
  | nil => exact Nat.zero_le _
  | cons x ps ih =>
    unfold framed at *
    rw [List.map_cons, List.flatten_cons, List.length_append, List.length_append, st.o4_length, List.length_cons]; omega
theorem framed_ready (w : World) (N k cap : Nat) (ao : Option Addr) (ps : List Pt) (m : Nat) (hk : ps.length = k) (h : PartsAt w N (.slice ao k cap) ps) (hm : m = (framed ps).length) (hm2 : m ≤ 2097152) :
    Calls Try.prog 52 #[.slice ao k cap] w fun e w' => (∃ a1 c1, e = .returned (.slice a1 m c1) ∧ Pt.Ok w' ⟨a1, c1, framed ps⟩ ∧ (a1 = none → c1 = 0 ∧ m = 0)) ∧ Below w.heap.size w w' := by
  by_cases h0 : ps = []
  · subst h0
    have hm0 : m = 0 := hm
    obtain rfl : k = 0 := hk.symm
    subst hm0
    refine (framed_nil ao cap w).mono ?_
    rintro e w' ⟨rfl, rfl⟩
    exact ⟨⟨none, 0, rfl, ⟨RowI.nil _ _ _, Nat.le_refl _, Nat.zero_le _, (fun c hc => by cases hc), (fun b e => by cases e)⟩, fun _ => ⟨rfl, rfl⟩⟩, Below.refl _ _⟩
  · subst hk
    have ho : ∀ x ∈ ps, Octs x.l := fun x hx => (h.ok x hx).1.oct
    have hoF : Octs (framed ps) := by
      intro c hc
      unfold framed at hc
      obtain ⟨l, hl, hcl⟩ := List.mem_flatten.1 hc
      obtain ⟨x, hx, rfl⟩ := List.mem_map.1 hl
      rcases List.mem_append.1 hcl with h1 | h1
      · exact o4_octs _ c h1
      · exact ho x hx c h1
    have h0m : 0 < m := by
      rw [hm]
      cases ps with
      | nil => exact absurd rfl h0
      | cons x ps => unfold framed; rw [List.map_cons, List.flatten_cons, List.length_append, List.length_append, st.o4_length]; omega
    have hn : ps.length ≤ 4611686018427387904 := by
      have h1 := framed_len_ge ps
      omega
    refine (framedR ao cap ps.length ps w rfl hn (rowV_of_owns' h.own) (fun x hx => (h.ok x hx).1) (fun x hx e => by obtain ⟨g, hg, _⟩ := (h.ok x hx).2; rw [hg] at e; cases e) (by omega)).mono ?_
    rintro e w' ⟨a1, c1, rfl, hM, hb⟩
    rw [← hm] at hM ⊢
    obtain ⟨hp, hno⟩ := mine_pt hM hm h0m hoF
    exact ⟨⟨a1, c1, rfl, hp, hno⟩, hb⟩
end Go.Proofs.Ytbljihhelladbaa.shr
