/-
  Sums in slices, Check, Marks, plain facts. Conditions: as each theorem says. Envelopes: the form, its cells, its octets; laws of the walk for arrays held against each other. Conditions: as each theorem says. Contracts of package slices at []byte. Conditions: the bounds that append asks.
-/
import Derived.Test.YtbljihhelladbaaHMkX
import Derived.Test.YtbljihhelladbaaHShBC
import Derived.Test.YtbljihhelladbaaHMem
import Derived.StillTailTactics
import Derived.Lib.ConvBytes
import Derived.Lib.SliceRun
import Derived.Lib.AppendZeros
/- Slices of sums: what lies there, the argument opened; contracts of slices.Index at sums and share.Check. Conditions: sums of 32 octets; a share of the type's form. -/
namespace Go.Proofs.Ytbljihhelladbaa.shr
open Go.RowKit Go.Proofs.Ytbljihhelladbaa.sh Go.Proofs.Ytbljihhelladbaa.st Go.Proofs.Ytbljihhelladbaa.hs Go.ChangeShapes Go.WideShapes Go.ChangeAt
set_option linter.unusedSimpArgs false
set_option linter.unusedVariables false
set_option pp.maxSteps 6000
def SumLOk (h : List Int) : Prop := h.length = 32 ∧ ∀ c ∈ h, 0 ≤ c ∧ c ≤ 255
/-- behind the address lie these sums -/
def RowM (w : World) (ao : Option Addr) (l : List (List Int)) : Prop :=
  l = [] ∨ ∃ b off, ao = some ⟨b, off, none⟩ ∧ b < w.heap.size ∧ ∀ i, i < l.length → At w ⟨b, off + i * 32, none⟩ ((l.getD i []).map (Value.int .u8))
theorem RowM.at {w : World} {ao : Option Addr} {l : List (List Int)} (h : RowM w ao l) (hl : l ≠ []) : ∃ b off, ao = some ⟨b, off, none⟩ ∧ b < w.heap.size ∧ ∀ i, i < l.length → At w ⟨b, off + i * 32, none⟩ ((l.getD i []).map (Value.int .u8)) := by
  rcases h with h | h
  · exact absurd h hl
  · exact h
theorem RowM.below {w w' : World} {ao : Option Addr} {l : List (List Int)} (h : RowM w ao l) (hb : Below w.heap.size w w') : RowM w' ao l := by
  rcases h with h | ⟨b, off, h1, h2, h3⟩
  · exact Or.inl h
  · exact Or.inr ⟨b, off, h1, Nat.lt_of_lt_of_le h2 hb.size, fun i hi => At.below (h3 i hi) hb h2⟩
structure SumsAt {H : Type} (W : World) (v : Value) (d : DataW H) (l : List (List Int)) (ao : Option Addr) (cap : Nat) : Prop where
  val : v = .slice ao l.length cap
  le : l.length ≤ cap
  row : RowM W ao l
  none : ao = none → cap = 0 ∧ l.length = 0
  ok : ∀ s ∈ l, SumLOk s
  len : cap ≤ maxLen
theorem wl_eqM {P : Program} {w : World} {ops : Array Oper} {rest : List Oper} {o : Oper} {a : Act} {Q : Exit → Act → World → Prop} (d : Nat) (hd : o.dst = some d) (hgd : Region.wanted o (yielded ops a.tmps) = true) (ty ty2 : TypeId) (x y : Operand) (ho : o.op = .binOp .eql ty x y ty2)
    (A B : Array Value) (hx : a.eval x = .agg A) (hy : a.eval y = .agg B) (b : Bool) (he : (Op.equalIn 10000 ty (.agg A) (.agg B)).run P w = .ok b w) (hm : P.eqGuardType P.depth ty = false) (h : wpList P ops Q rest (a.put o.dst (.bool b)) w) : wpList P ops Q (o :: rest) a w := by
  refine wpList_step fun K hK' => ?_
  rw [if_pos hgd]
  unfold Oper.wp
  simp [execOp, ho, hx, hy, run_eqGuard_agg, run_eql_struct, hm, he, Result.andThen]
  exact hK' _ _ h
theorem size5' : ∀ w, (sizeOf 5).run Try.prog w = .ok 1 w := fun w => by kernel_rfl
theorem run_eq_sum (w : World) (s t : List Int) (hs : s.length = 32) (ht : t.length = 32) : (Op.equalIn 10000 73 (.agg (s.map (Value.int .u8)).toArray) (.agg (t.map (Value.int .u8)).toArray)).run Try.prog w = .ok (s == t) w :=
  run_equalIn_ints w 9998 73 5 32 .u8 Try.underlying73 Try.underlying5 size5' s t hs ht
theorem getD_memL (l : List (List Int)) (k : Nat) (h : k < l.length) : l.getD k [] ∈ l := by rw [getD_lt' l [] h]; exact List.getElem_mem h
set_option maxRecDepth 100000 in
set_option maxHeartbeats 1000000 in
theorem Index_sum (ao : Option Addr) (cap : Nat) (l : List (List Int)) (s : List Int) (w : World) (hr : RowM w ao l) (hok : ∀ s ∈ l, SumLOk s) (hs : s.length = 32) (hn : l.length ≤ 4611686018427387904) :
    Calls Try.prog 48 #[.slice ao l.length cap, .agg (s.map (Value.int .u8)).toArray] w fun e w' => e = .returned (.int .i64 (slInt.findI (fun y => s == y) l 0)) ∧ Below w.heap.size w w' := by
  have HOK := hid hok
  obtain ⟨S, HS⟩ : ∃ S, Hid (S = s.map (Value.int .u8)) := ⟨_, rfl⟩
  have HSL : Hid (S.length = 32) := by show _ = _; rw [HS.out, List.length_map, hs]
  rw [← HS.out]
  clear hok
  have hb0 : Below w.heap.size w (w.alloc (.cells S.toArray 73)) := (Below.refl _ _).alloc (Nat.le_refl _) _
  have hS0 : BlkV 73 (w.alloc (.cells S.toArray 73)) w.heap.size S := BlkV.new _ _ _ rfl
  go_enter Try.func48, Try.ntmps48
  go_wp2
  go_loopw [8] (fun i wr => ∃ k : Nat, k ≤ l.length ∧ i = .int .i64 k ∧ Hid (slInt.findI (fun y => s == y) (l.drop k) k = slInt.findI (fun y => s == y) l 0) ∧ BlkV 73 wr w.heap.size S ∧ Below w.heap.size w wr) (fun i _ => l.length - (intOf i).toNat)
  case atStart => exact ⟨0, Nat.zero_le _, rfl, rfl, hS0, hb0⟩
  case round =>
    clear hS0 hb0
    obtain ⟨k, hk, rfl, HA, hB, hbl⟩ := hrel
    by_cases h0 : k < l.length
    · have hkI : (k : Int) < (l.length : Int) := by omega
      have hkI0 : (0 : Int) ≤ (k : Int) := by omega
      obtain ⟨b, off, rfl, hb, hat0⟩ := (hr.below hbl).at (by intro e; rw [e] at h0; simp at h0)
      have hat := hat0 k h0
      have ht : SumLOk (l.getD k []) := HOK.out _ (getD_memL l k h0)
      obtain ⟨t, HT⟩ : ∃ t, Hid (t = l.getD k []) := ⟨_, rfl⟩
      rw [← HT.out] at hat ht
      have HD := slInt.findI_drop (fun y => s == y) l [] k h0
      rw [← HT.out, HA.out] at HD
      replace HD := hid HD
      obtain ⟨TV, HTV⟩ : ∃ S, Hid (S = t.map (Value.int .u8)) := ⟨_, rfl⟩
      have HTL : Hid (TV.length = 32) := by show _ = _; rw [HTV.out, List.length_map, ht.1]
      rw [← HTV.out] at hat
      obtain ⟨c, Hc⟩ : ∃ c, Hid (c = (s == t)) := ⟨_, rfl⟩
      have heq : Hid (∀ w, (Op.equalIn 10000 73 (.agg S.toArray) (.agg TV.toArray)).run Try.prog w = .ok c w) := fun w => by rw [HS.out, HTV.out, Hc.out]; exact run_eq_sum w s t hs ht.1
      have a1 : At wr.drew ⟨w.heap.size, 0, none⟩ S := hB.at0
      have a2 : At wr.drew ⟨b, off + k * 32, none⟩ TV := hat
      clear hat hat0
      cases c
      · have HN : Hid ((s == t) = false) := Hc.out.symm
        go_wp2_with fail
        refine wp_region_still_tail 5 (by kernel_rfl) (by kernel_rfl) ?_
        simp only [List.take_succ_cons, List.take_zero, List.drop_succ_cons, List.drop_zero]
        change wpStill _ _ wr.drew (fun a' => wpList _ _ _ _ a' wr.drew) _ _
        refine still_load (by kernel_rfl) 73 _ rfl ⟨w.heap.size, 0, none⟩ rfl 32 S HSL.out aggSumT a1 ?_
        iterate 3 still_step
        refine still_load (by kernel_rfl) 73 _ rfl ⟨b, off + k * 32, none⟩ rfl 32 TV HTL.out aggSumT a2 ?_
        refine wpStill_nil ?_
        go_wp2_with (refine wl_eqM 16 rfl (by kernel_rfl) 73 _ _ _ rfl S.toArray TV.toArray rfl rfl false (heq.out _) (by kernel_rfl) ?_)
        go_roundw
        case rel => exact ⟨k + 1, by omega, by go_num, by show _ = _; rw [HD.out, if_neg (by rw [HN.out]; simp)], hB.drew, hbl.drew⟩
        case measure => simp [intOf] <;> omega
      · have HN : Hid ((s == t) = true) := Hc.out.symm
        go_wp2_with fail
        refine wp_region_still_tail 5 (by kernel_rfl) (by kernel_rfl) ?_
        simp only [List.take_succ_cons, List.take_zero, List.drop_succ_cons, List.drop_zero]
        change wpStill _ _ wr.drew (fun a' => wpList _ _ _ _ a' wr.drew) _ _
        refine still_load (by kernel_rfl) 73 _ rfl ⟨w.heap.size, 0, none⟩ rfl 32 S HSL.out aggSumT a1 ?_
        iterate 3 still_step
        refine still_load (by kernel_rfl) 73 _ rfl ⟨b, off + k * 32, none⟩ rfl 32 TV HTL.out aggSumT a2 ?_
        refine wpStill_nil ?_
        go_wp2_with (refine wl_eqM 16 rfl (by kernel_rfl) 73 _ _ _ rfl S.toArray TV.toArray rfl rfl true (heq.out _) (by kernel_rfl) ?_)
        go_ret
        exact ⟨rv (ri (by rw [HD.out, if_pos HN.out])), hbl.drew⟩
    · go_wp2
      go_ret
      exact ⟨rv (ri (by rw [← HA.out, List.drop_eq_nil_of_le (by omega)]; rfl)), hbl⟩
/-- where a sum lies; what Check gives of a right share -/
def posL (l : List (List Int)) (s : List Int) : Int := slInt.findI (fun y => s == y) l 0
def checkV (s : Sh) (l : List (List Int)) : Value := if posL l (markL s) < 0 then .tuple #[.int .i64 0, .int .i64 7] else .tuple #[.int .i64 (posL l (markL s)), .int .i64 0]
set_option maxRecDepth 100000 in
set_option maxHeartbeats 1000000 in
theorem Check_ok (s : Sh) (hs : s.Ok) (ao : Option Addr) (cap : Nat) (l : List (List Int)) (w : World) (hr : RowM w ao l) (hok : ∀ s ∈ l, SumLOk s) (hn : l.length ≤ 4611686018427387904) (hg : goodS s = true) :
    Calls Try.prog 47 #[.agg s.cs.toArray, .slice ao l.length cap] w fun e w' => e = .returned (checkV s l) ∧ Below w.heap.size w w' := by
  obtain ⟨Y, HY⟩ : ∃ Z, Hid (Z = zSum) := ⟨_, rfl⟩
  have hz32 := hid zeroSumZ
  rw [← HY.out] at hz32
  have hYl : Y.length = 32 := by rw [HY.out]; simp [zSum]
  obtain ⟨B, HB⟩ : ∃ B, Hid (B = w.heap.size) := ⟨_, rfl⟩
  have hsz : w.heap.size = B := HB.out.symm
  obtain ⟨S, HS⟩ : ∃ S : List Value, Hid (S = (markL s).map (Value.int .u8)) := ⟨_, rfl⟩
  have hS1 : ∀ u ∈ S, u.oneCell' = true := by rw [HS.out]; exact ints_one _ _
  have hSm : S.length = 32 := by rw [HS.out, List.length_map, markL_length]
  have HMV : Hid (markV s = .tuple #[.agg S.toArray, .int .i64 0]) := by show _ = _; unfold markV; rw [hg, HS.out]; rfl
  have hmk := fun w => hid (Mark_any s hs w)
  have hix := fun w' (hb : Below B w w') => hid (Index_sum ao cap l (markL s) w' (hr.below (hsz ▸ hb)) hok (markL_length s) hn)
  obtain ⟨F, HF⟩ : ∃ F : Int, Hid (F = posL l (markL s)) := ⟨_, rfl⟩
  change ∀ w', Below B w w' → Hid (Calls _ _ _ _ fun e w'' => e = .returned (.int .i64 (posL l (markL s))) ∧ _) at hix
  rw [← HF.out, ← HS.out] at hix
  have HCV : Hid (checkV s l = if F < 0 then .tuple #[.int .i64 0, .int .i64 7] else .tuple #[.int .i64 F, .int .i64 0]) := by show _ = _; rw [HF.out]; rfl
  obtain ⟨CS, HCS⟩ : ∃ C, Hid (C = s.cs) := ⟨_, rfl⟩
  have hCSl : CS.length = 49 := by rw [HCS.out]; exact hs.csl
  rw [HMV.out] at hmk
  rw [← HCS.out] at hmk ⊢
  rw [HCV.out]
  clear hok hg
  by_cases hneg : F < 0
  · rw [if_pos hneg]
    go_enter Try.func47, Try.ntmps47
    go_wp2_with (first | (refine wl_boxV rfl 61 _ rfl CS rfl B hsz ?_; intro w0 hB0 hb0 hs0) | (refine wl_load rfl 61 _ rfl ⟨B, 0, none⟩ rfl CS (by rw [hCSl]; exact aggS) hB0.at0 ?_) | (go_at_call 43; refine (hmk w0).out.mono ?_; rintro e w1 ⟨rfl, hb1⟩; have bb1 := hb0.trans (hb1.mono (by omega : B ≤ _)); have hsz1 := hb1.size; clear hb0 hb1) | (refine wl_allocV rfl 73 rfl Y hz32.out w1.heap.size rfl ?_; intro w2 hM2 hb2 hs2; have bb2 := bb1.trans (hb2.mono (by omega : B ≤ _)); clear bb1 hb2) | (refine wl_storeV rfl 73 _ _ rfl 73 w1.heap.size rfl S rfl 32 aggSumT hSm Y hM2 hYl hS1 ?_; intro w3 hM3 hb3 hs3; have bb3 := bb2.trans (hb3.mono (by omega : B ≤ _)); clear bb2 hb3) | (refine wl_load rfl 73 _ rfl ⟨w1.heap.size, 0, none⟩ rfl S (by rw [hSm]; exact aggSumT) hM3.at0 ?_) | (go_at_call 48; refine (hix w3 bb3).out.mono ?_; rintro e w4 ⟨rfl, hb4⟩; have bb4 := bb3.trans (hb4.mono (by omega : B ≤ _))))
    go_ret2
    exact ⟨rfl, by rw [← HB.out]; exact bb4⟩
  · rw [if_neg hneg]
    have hp : 0 ≤ F := by omega
    go_enter Try.func47, Try.ntmps47
    go_wp2_with (first | (refine wl_boxV rfl 61 _ rfl CS rfl B hsz ?_; intro w0 hB0 hb0 hs0) | (refine wl_load rfl 61 _ rfl ⟨B, 0, none⟩ rfl CS (by rw [hCSl]; exact aggS) hB0.at0 ?_) | (go_at_call 43; refine (hmk w0).out.mono ?_; rintro e w1 ⟨rfl, hb1⟩; have bb1 := hb0.trans (hb1.mono (by omega : B ≤ _)); have hsz1 := hb1.size; clear hb0 hb1) | (refine wl_allocV rfl 73 rfl Y hz32.out w1.heap.size rfl ?_; intro w2 hM2 hb2 hs2; have bb2 := bb1.trans (hb2.mono (by omega : B ≤ _)); clear bb1 hb2) | (refine wl_storeV rfl 73 _ _ rfl 73 w1.heap.size rfl S rfl 32 aggSumT hSm Y hM2 hYl hS1 ?_; intro w3 hM3 hb3 hs3; have bb3 := bb2.trans (hb3.mono (by omega : B ≤ _)); clear bb2 hb3) | (refine wl_load rfl 73 _ rfl ⟨w1.heap.size, 0, none⟩ rfl S (by rw [hSm]; exact aggSumT) hM3.at0 ?_) | (go_at_call 48; refine (hix w3 bb3).out.mono ?_; rintro e w4 ⟨rfl, hb4⟩; have bb4 := bb3.trans (hb4.mono (by omega : B ≤ _))))
    go_ret2
    exact ⟨rfl, by rw [← HB.out]; exact bb4⟩
end Go.Proofs.Ytbljihhelladbaa.shr
/- How much a slice is at least; slices of sums as parts; contract of share.Marks. Conditions: shares of the type's form. -/
namespace Go.Proofs.Ytbljihhelladbaa.shr
open Go.RowKit Go.Proofs.Ytbljihhelladbaa.sh Go.Proofs.Ytbljihhelladbaa.st Go.Proofs.Ytbljihhelladbaa.hs Go.ChangeShapes Go.WideShapes Go.ChangeAt
set_option linter.unusedSimpArgs false
set_option linter.unusedVariables false
set_option pp.maxSteps 6000
theorem ptGrown {w w' : World} {x : Pt} {row : Option Nat} (h : x.Ok w) (hg : w.grownBy w' row) (hne : ∀ b, x.a = some b → row ≠ some b.block) : x.Ok w' :=
  ⟨(RowV.kept h.row.v hg hne).i, h.len, h.cap, h.oct, fun b e => Nat.lt_of_lt_of_le (h.lt b e) hg.size⟩
/-- a slice that holds parts, each a block of 32 octets -/
structure PartsAt (w : World) (base : Nat) (v : Value) (ps : List Pt) : Prop where
  own : w.ownsRow base 69 1 v ps.length (ps.map Pt.v)
  ok : ∀ x ∈ ps, x.Ok w ∧ ∃ g, x.a = some ⟨g, 0, none⟩ ∧ v.ownBlock ≠ some g
theorem PartsAt.nil (w : World) (base : Nat) : PartsAt w base (.slice none 0 0) [] := ⟨World.ownsRow_nil w base 69 1, fun x hx => by cases hx⟩
theorem owns_up {w w' : World} {base : Nat} {e : TypeId} {size n : Nat} {v : Value} {xs : List Value} (h : w.ownsRow base e size v n xs) (hb : Below w.heap.size w w') : w'.ownsRow base e size v n xs :=
  h.kept (grown_below hb : w.grownBy w' none) (by by_cases e : v.ownBlock = none; exact Or.inl e; exact Or.inr e)
theorem PartsAt.push {w w5 w6 w7 : World} {base g : Nat} {v v' : Value} {ps : List Pt} {m : List Int} {T T2 : TypeId} (h : PartsAt w base v ps) (hb : Below w.heap.size w w5) (hblk : BlkI .u8 T w5 g m) (hg : w.heap.size ≤ g) (hm : m.length = 32) (ho : Octs m)
    (hw6 : w6 = w5.alloc (.cells #[.slice (some ⟨g, 0, none⟩) 32 32] T2)) (hgr : w6.grownBy w7 v.ownBlock) (hv' : v'.ownBlock = v.ownBlock ∨ v'.ownBlock = some w6.heap.size)
    (hown : w7.ownsRow base 69 1 v' (ps.length + 1) (ps.map Pt.v ++ [.slice (some ⟨g, 0, none⟩) 32 32])) : PartsAt w7 base v' (ps ++ [⟨some ⟨g, 0, none⟩, 32, m⟩]) := by
  have hb6 : Below w.heap.size w w6 := by rw [hw6]; exact hb.alloc hb.size _
  have hvw : ∀ k, v.ownBlock = some k → k < w.heap.size := fun k hk => (h.own.lt k hk).2
  have hg5 : g < w5.heap.size := hblk.lt
  have hg6 : g < w6.heap.size := by rw [hw6]; simp; omega
  have hblk6 : BlkI .u8 T w6 g m := by rw [hw6]; exact hblk.alloc _
  refine ⟨?_, fun x hx => ?_⟩
  · rw [List.length_append, List.map_append]
    have e : [(⟨some ⟨g, 0, none⟩, 32, m⟩ : Pt)].map Pt.v = [.slice (some ⟨g, 0, none⟩) 32 32] := by
      show [Value.slice (some ⟨g, 0, none⟩) m.length 32] = _
      rw [hm]
    rw [e]; exact hown
  · rcases List.mem_append.1 hx with hx | hx
    · obtain ⟨h1, gx, h2, h3⟩ := h.ok x hx
      have hgx : gx < w.heap.size := h1.lt _ h2
      refine ⟨ptGrown (h1.below hb6) hgr (fun b e => ?_), gx, h2, ?_⟩
      · rw [h2] at e; cases e; exact h3
      · rcases hv' with e | e
        · rw [e]; exact h3
        · rw [e]; intro h; have := Option.some.inj h; have := hb6.size; omega
    · rw [List.mem_singleton] at hx
      subst hx
      have hvg : v.ownBlock ≠ some g := by intro e; have := hvw g e; omega
      refine ⟨ptGrown (w := w6) ⟨hblk6.row, by show m.length ≤ 32; omega, by show 32 ≤ maxLen; decide, ho, fun b e => by cases e; exact hg6⟩ hgr (fun b e => by cases e; exact hvg), g, rfl, ?_⟩
      rcases hv' with e | e
      · rw [e]; exact hvg
      · rw [e]; intro h; have := Option.some.inj h; omega
theorem rowV_of_owns' {w : World} {base n c N : Nat} {e : TypeId} {size : Nat} {ao : Option Addr} {xs : List Value} (h : w.ownsRow base e size (.slice ao n c) N xs) : RowV w ao xs := by
  obtain ⟨ao', cap', hv, _, hr⟩ := Mine.row (Or.inl h)
  injection hv with e1 e2 e3
  rw [e1]; exact hr
end Go.Proofs.Ytbljihhelladbaa.shr
/- Plain facts for the law MarksMatch: what is written is read; first errors. No program; a share of the type's form. -/
namespace Go.Proofs.Ytbljihhelladbaa.shr
open Go.RowKit Go.Proofs.Ytbljihhelladbaa.sh Go.Proofs.Ytbljihhelladbaa.st Go.Proofs.Ytbljihhelladbaa.hs
set_option linter.unusedSimpArgs false
set_option linter.unusedVariables false
set_option pp.maxSteps 6000
end Go.Proofs.Ytbljihhelladbaa.shr
/- Framed parts ready for a sum; an equality inside a region that draws. Conditions: parts that lie in memory. -/
namespace Go.Proofs.Ytbljihhelladbaa.shr
open Go.RowKit Go.Proofs.Ytbljihhelladbaa.sh Go.Proofs.Ytbljihhelladbaa.st Go.Proofs.Ytbljihhelladbaa.hs
set_option linter.unusedSimpArgs false
set_option linter.unusedVariables false
set_option pp.maxSteps 6000
end Go.Proofs.Ytbljihhelladbaa.shr
namespace Go.Proofs.Ytbljihhelladbaa.wr
open Go.RowKit Go.Proofs.Ytbljihhelladbaa.st Go.Proofs.Ytbljihhelladbaa.hs Go.Proofs.Ytbljihhelladbaa.shr Go.Proofs.Ytbljihhelladbaa.sh
set_option linter.unusedSimpArgs false
set_option linter.unusedVariables false
set_option pp.maxSteps 6000
/-- an envelope -/
structure Env where
  v : Int
  e : Int
  b : List Int
  o : List Int
  n : List Int
  c : List Int
  g : List Int
  t : List Int
structure Env.Ok (x : Env) : Prop where
  vb : -9223372036854775808 ≤ x.v ∧ x.v ≤ 9223372036854775807
  eb : -9223372036854775808 ≤ x.e ∧ x.e ≤ 9223372036854775807
  bl : x.b.length = 16
  ol : x.o.length = 16
  nl : x.n.length = 16
  cl : x.c.length = 32
  gl : x.g.length = 32
  tl : x.t.length = 16
  bo : Octs x.b
  oo : Octs x.o
  no : Octs x.n
  co : Octs x.c
  go : Octs x.g
  tt : Octs x.t
def Env.cs (x : Env) : List Value := (.int .i64 x.v :: .int .i64 x.e :: (x.b ++ x.o ++ x.n ++ x.c ++ x.g ++ x.t).map (Value.int .u8))
def Env.octs (x : Env) : List Int := x.b ++ x.o ++ x.n ++ x.c ++ x.g ++ x.t
theorem Env.cs_eq (x : Env) : x.cs = .int .i64 x.v :: .int .i64 x.e :: x.octs.map (Value.int .u8) := rfl
theorem Env.Ok.ol' {x : Env} (h : x.Ok) : x.octs.length = 128 := by
  unfold Env.octs
  simp only [List.length_append, h.bl, h.ol, h.nl, h.cl, h.gl, h.tl]
theorem Env.Ok.csl {x : Env} (h : x.Ok) : x.cs.length = 130 := by rw [Env.cs_eq]; simp [h.ol']
theorem Env.cv (x : Env) : x.cs[0]? = some (.int .i64 x.v) := rfl
theorem Env.ce (x : Env) : x.cs[1]? = some (.int .i64 x.e) := rfl
/-- a part of the cells lies where its octets lie -/
theorem env_at {x : Env} {w : World} {t : TypeId} {p : Nat} (h : BlkV t w p x.cs) (k : Nat) (ds r : List Int) (hk : x.octs.drop k = ds ++ r) : At w ⟨p, k + 2, none⟩ (ds.map (Value.int .u8)) := by
  refine h.at (k + 2) _ fun j u hu => ?_
  have hj : j < ds.length := by have := (List.getElem?_eq_some_iff.1 hu).1; simpa using this
  have e1 : x.cs[k + 2 + j]? = (x.octs.map (Value.int .u8))[k + j]? := by rw [Env.cs_eq, show k + 2 + j = (k + j) + 1 + 1 by omega]; rfl
  have e2 : x.octs[k + j]? = ds[j]? := by
    have := congrArg (fun l : List Int => l[j]?) hk
    simp only [List.getElem?_drop] at this
    rw [this, List.getElem?_append_left hj]
  rw [e1, ← hu, List.getElem?_map, List.getElem?_map, e2]
section
variable {x : Env} (hx : x.Ok) {w : World} {t : TypeId} {p : Nat} (h : BlkV t w p x.cs)
include h in
theorem env_b : At w ⟨p, 2, none⟩ (x.b.map (Value.int .u8)) := env_at h 0 x.b (x.o ++ x.n ++ x.c ++ x.g ++ x.t) (by simp [Env.octs])
include hx h
theorem env_o : At w ⟨p, 18, none⟩ (x.o.map (Value.int .u8)) := env_at h 16 x.o (x.n ++ x.c ++ x.g ++ x.t) (by unfold Env.octs; simp only [List.append_assoc]; rw [List.drop_append_of_le_length (by rw [hx.bl]; omega), List.drop_of_length_le (by rw [hx.bl]; omega), List.nil_append])
theorem env_n : At w ⟨p, 34, none⟩ (x.n.map (Value.int .u8)) := env_at h 32 x.n (x.c ++ x.g ++ x.t) (by
  have e : x.octs = (x.b ++ x.o) ++ (x.n ++ (x.c ++ x.g ++ x.t)) := by unfold Env.octs; simp
  rw [e, List.drop_append_of_le_length (by simp [hx.bl, hx.ol]), List.drop_of_length_le (by simp [hx.bl, hx.ol]), List.nil_append])
theorem env_c : At w ⟨p, 50, none⟩ (x.c.map (Value.int .u8)) := env_at h 48 x.c (x.g ++ x.t) (by
  have e : x.octs = (x.b ++ x.o ++ x.n) ++ (x.c ++ (x.g ++ x.t)) := by unfold Env.octs; simp
  rw [e, List.drop_append_of_le_length (by simp [hx.bl, hx.ol, hx.nl]), List.drop_of_length_le (by simp [hx.bl, hx.ol, hx.nl]), List.nil_append])
theorem env_g : At w ⟨p, 82, none⟩ (x.g.map (Value.int .u8)) := env_at h 80 x.g x.t (by
  have e : x.octs = (x.b ++ x.o ++ x.n ++ x.c) ++ (x.g ++ x.t) := by unfold Env.octs; simp
  rw [e, List.drop_append_of_le_length (by simp [hx.bl, hx.ol, hx.nl, hx.cl]), List.drop_of_length_le (by simp [hx.bl, hx.ol, hx.nl, hx.cl]), List.nil_append])
theorem env_t : At w ⟨p, 114, none⟩ (x.t.map (Value.int .u8)) := env_at h 112 x.t [] (by
  have e : x.octs = (x.b ++ x.o ++ x.n ++ x.c ++ x.g) ++ (x.t ++ []) := by unfold Env.octs; simp
  rw [e, List.drop_append_of_le_length (by simp [hx.bl, hx.ol, hx.nl, hx.cl, hx.gl]), List.drop_of_length_le (by simp [hx.bl, hx.ol, hx.nl, hx.cl, hx.gl]), List.nil_append])
end
/-- a part that lies in a block is a row -/
theorem at_row {w : World} {p off : Nat} {cs : List Value} (hl : p < w.heap.size) (h : At w ⟨p, off, none⟩ cs) : RowV w (some ⟨p, off, none⟩) cs :=
  Or.inr ⟨p, off, rfl, hl, fun j u hu => by
    have := h j u hu
    rwa [addr_add] at this⟩
/-- the octets of an envelope -/
def twoL (x : Env) (l : List Int) : List Int := if x.v = 2 then l else []
def aheadL (x : Env) : List Int := [75, 87, 87] ++ [x.v] ++ o4 x.e ++ x.b ++ twoL x x.o ++ x.n ++ twoL x x.c ++ x.g
def envL (x : Env) : List Int := aheadL x ++ x.t
def errV (x : Env) : Int := if ¬ (x.v = 1 ∨ x.v = 2) then 19 else if ¬ (0 ≤ x.e ∧ x.e ≤ 4294967295) then 4 else if x.v = 1 ∧ ¬ (x.o = List.replicate 16 0 ∧ x.c = List.replicate 32 0) then 2 else 0
def sizeV (x : Env) : Nat := if x.v = 2 then 136 else 88
theorem o4_length (n : Int) : (o4 n).length = 4 := rfl
theorem o4_octs (n : Int) : Octs (o4 n) := by
  intro c hc
  simp only [o4, List.mem_cons, List.not_mem_nil, or_false] at hc
  rcases hc with rfl | rfl | rfl | rfl <;> exact ⟨by omega, by omega⟩
theorem octs_app {l m : List Int} (h : Octs l) (h2 : Octs m) : Octs (l ++ m) := fun c hc => by
  rcases List.mem_append.1 hc with hc | hc
  · exact h c hc
  · exact h2 c hc
/-- arrays held to be unlike, in a guarded step -/
theorem wl_neM {P : Program} {w : World} {ops : Array Oper} {rest : List Oper} {o : Oper} {a : Act} {Q : Exit → Act → World → Prop} (d : Nat) (hd : o.dst = some d) (hgd : Region.wanted o (yielded ops a.tmps) = true) (ty ty2 : TypeId) (x y : Operand) (ho : o.op = .binOp .neq ty x y ty2)
    (A B : Array Value) (hx : a.eval x = .agg A) (hy : a.eval y = .agg B) (b : Bool) (he : (Op.equalIn 10000 ty (.agg A) (.agg B)).run P w = .ok b w) (hm : P.eqGuardType P.depth ty = false) (h : wpList P ops Q rest (a.put o.dst (.bool !b)) w) : wpList P ops Q (o :: rest) a w := by
  refine wpList_step fun K hK' => ?_
  rw [if_pos hgd]
  unfold Oper.wp
  simp [execOp, ho, hx, hy, run_eqGuard_agg, run_neq_struct, hm, he, Result.andThen]
  exact hK' _ _ h
theorem run_eq_id (w : World) (s t : List Int) (hs : s.length = 16) (ht : t.length = 16) : (Op.equalIn 10000 57 (.agg (s.map (Value.int .u8)).toArray) (.agg (t.map (Value.int .u8)).toArray)).run Try.prog w = .ok (s == t) w :=
  run_equalIn_ints w 9998 57 5 16 .u8 Try.underlying57 Try.underlying5 size5' s t hs ht
theorem aggEnv : Agg Try.prog 107 130 := Agg.str Try.underlying107 (by kernel_rfl)
theorem built_id0 : Try.prog.built 57 [] = some ((List.replicate 16 (0 : Int)).map (Value.int .u8)).toArray := by kernel_rfl
theorem built_sum0 : Try.prog.built 73 [] = some ((List.replicate 32 (0 : Int)).map (Value.int .u8)).toArray := by kernel_rfl
end Go.Proofs.Ytbljihhelladbaa.wr
namespace Go.Proofs.Ytbljihhelladbaa.slB
open Go.RowKit
set_option linter.unusedSimpArgs false
set_option linter.unusedVariables false
theorem info : Info Try.prog 5 (.int .u8 0) 1 1 := by unfold Info; kernel_rfl
theorem bel2 {w w1 w2 : World} {row : Option Nat} (h : Below w.heap.size w w1) (hg : w1.grownBy w2 row) (hr : ∀ k, row = some k → w.heap.size ≤ k) : Below w.heap.size w w2 := h.grown hg h.size hr
set_option maxRecDepth 100000 in
theorem Grow_nil (n : Nat) (w : World) (hn : n * 1 ≤ 140737488355328) :
    Calls Try.prog 212 #[.slice none 0 0, .int .i64 n] w fun e w' => ∃ v, e = .returned v ∧ Mine w' w.heap.size 5 1 v 0 [] ∧ Below w.heap.size w w' := by
  obtain ⟨i, hi, hz, hs, hb⟩ := info.parts
  by_cases h0 : 0 < n
  · have happ := fun w => Lib.run_append_nil_zeros (P := Try.prog) w 69 3 69 5 i (.int .u8 0) .i64 .i64 Try.underlying69 Try.underlying3 hi hz n h0 (by rw [hs]; decide) (by omega) (by rw [hb]; omega)
    have hge := grownCap_ge w n 0 5
    have hle := grownCap_le_maxLen w n 0 5 (by unfold maxLen; omega)
    obtain ⟨C, HC⟩ : ∃ C, Hid (C = grownCap w n 0 5) := ⟨_, rfl⟩
    have happ0 := happ w
    rw [← HC.out] at happ0 hge hle
    have HLE := hid hle
    have HAPP := hid happ0
    clear happ hle happ0 hi hz hs hb
    go_enter Try.func212, Try.ntmps212
    go_wp2_with (at_builtin; refine Lib.wpList_append_run _ rfl _ _ _ _ rfl _ _ rfl rfl _ _ HAPP.out ?_)
    go_ret
    refine ⟨_, rfl, Or.inl ⟨by simp, Or.inr ⟨w.heap.size, C, _, rfl, Nat.le_refl _, heap_alloc_new w.drew _, Nat.zero_le _, HLE.out, ?_, by simp⟩⟩, ((Below.refl _ _).drew).alloc (by simp) _⟩
    simp [Builtin.zeroCells, Value.cells]
    omega
  · obtain rfl : n = 0 := by omega
    go_enter Try.func212, Try.ntmps212
    go_wp2
    go_ret
    exact ⟨_, rfl, Mine.nil _ _ _ _, Below.refl _ _⟩
/-- a part of Concat: a slice and its cells -/
structure Part where
  ao : Option Addr
  n : Nat
  cap : Nat
  cells : List Value
def Part.val (p : Part) : Value := .slice p.ao p.n p.cap
def Part.ok (w : World) (p : Part) : Prop := RowV w p.ao p.cells ∧ p.cells.length = p.n * 1 ∧ (∀ u ∈ p.cells, u.oneCell' = true) ∧ (p.ao = none → p.cap = 0)
def noPart : Part := ⟨none, 0, 0, []⟩
def sumN : List Part → Nat
  | [] => 0
  | p :: l => p.n + sumN l
def flat : List Part → List Value
  | [] => []
  | p :: l => p.cells ++ flat l
theorem sumN_append (l m : List Part) : sumN (l ++ m) = sumN l + sumN m := by
  induction l with
  | nil => simp [sumN]
  | cons p l ih => simp [sumN, ih]; omega
theorem flat_append (l m : List Part) : flat (l ++ m) = flat l ++ flat m := by
  induction l with
  | nil => rfl
  | cons p l ih => simp [flat, ih]
theorem sumN_take (l : List Part) (k : Nat) (hk : k < l.length) : sumN (l.take (k + 1)) = sumN (l.take k) + (l.getD k noPart).n := by
  rw [List.take_succ_eq_append_getElem hk, sumN_append, getD_lt' l noPart hk]; simp [sumN]
theorem flat_take (l : List Part) (k : Nat) (hk : k < l.length) : flat (l.take (k + 1)) = flat (l.take k) ++ (l.getD k noPart).cells := by
  rw [List.take_succ_eq_append_getElem hk, flat_append, getD_lt' l noPart hk]; simp [flat]
theorem sumN_le (l : List Part) (k : Nat) : sumN (l.take k) ≤ sumN l := by
  conv => rhs; rw [← List.take_append_drop k l]
  rw [sumN_append]; omega
/-- where the parts lie -/
def Parts (w : World) (ps : List Part) (po : Addr) : Prop := po.spot = none ∧ po.block < w.heap.size ∧ ∀ k, k < ps.length → w.cell? ⟨po.block, po.off + k, none⟩ = some (ps.getD k noPart).val
theorem Parts.below {w w' : World} {ps : List Part} {po : Addr} (h : Parts w ps po) (hb : Below w.heap.size w w') : Parts w' ps po :=
  ⟨h.1, Nat.lt_of_lt_of_le h.2.1 hb.size, fun k hk => by rw [hb.cell (p := ⟨po.block, po.off + k, none⟩) h.2.1]; exact h.2.2 k hk⟩
set_option maxHeartbeats 1000000 in
theorem Concat_any (ps : List Part) (pb po pc : Nat) (w : World) (hp : Parts w ps ⟨pb, po, none⟩) (hok : ∀ p ∈ ps, p.ok w) (hb : sumN ps * 1 ≤ 140737488355328) (hn : ps.length ≤ 1000000) :
    Calls Try.prog 181 #[.slice (some ⟨pb, po, none⟩) ps.length pc] w fun e w' => ∃ v, e = .returned v ∧ Mine w' w.heap.size 5 1 v (sumN ps) (flat ps) ∧ Below w.heap.size w w' := by
  go_enter Try.func181, Try.ntmps181
  go_wp2
  go_loop [3, 11] (fun s i => ∃ k z : Nat, k ≤ ps.length ∧ i = .int .i64 k ∧ s = .int .i64 z ∧ Hid (z = sumN (ps.take k))) (fun _ i => ps.length - (intOf i).toNat)
  case atStart => exact ⟨0, 0, Nat.zero_le _, rfl, rfl, rfl⟩
  case round =>
    obtain ⟨k, z, hk, rfl, rfl, HZ⟩ := hrel
    have hz := sumN_le ps k
    rw [← HZ.out] at hz
    by_cases h0 : k < ps.length
    · obtain ⟨p, HP⟩ : ∃ p, Hid (p = ps.getD k noPart) := ⟨_, rfl⟩
      have hc := hp.2.2 k h0
      rw [← HP.out] at hc
      unfold Part.val at hc
      have hz1 := sumN_le ps (k + 1)
      rw [sumN_take ps k h0, ← HP.out, ← HZ.out] at hz1
      go_wp2
      go_round
      case rel => exact ⟨k + 1, z + p.n, by omega, by go_num, by go_num, by show z + p.n = _; rw [sumN_take ps k h0, ← HP.out, HZ.out]⟩
      case measure => simp [intOf] <;> omega
    · have HE : Hid (sumN ps = z) := by show sumN ps = z; rw [HZ.out, List.take_of_length_le (by omega)]
      go_wp2_with fail
      refine (Grow_nil z w (by omega)).mono ?_
      rintro e w1 ⟨v, rfl, hM, hbl⟩
      go_wp2_with fail
      go_loopw [6, 27] (fun s i wr => ∃ k : Nat, k ≤ ps.length ∧ i = .int .i64 k ∧ Mine wr w.heap.size 5 1 s (sumN (ps.take k)) (flat (ps.take k)) ∧ Below w.heap.size w wr) (fun _ i _ => ps.length - (intOf i).toNat)
      case atStart => exact ⟨0, Nat.zero_le _, rfl, hM, hbl⟩
      case round =>
        rename_i sv _
        obtain ⟨j, hj, rfl, hMj, hbj⟩ := hrel
        by_cases h1 : j < ps.length
        · obtain ⟨p, HP⟩ : ∃ p, Hid (p = ps.getD j noPart) := ⟨_, rfl⟩
          have hc := (hp.below hbj).2.2 j h1
          rw [← HP.out] at hc
          unfold Part.val at hc
          have hpo := hok p (by rw [HP.out, getD_lt' ps noPart h1]; exact List.getElem_mem h1)
          obtain ⟨q1, q2, q3, q4⟩ := hpo
          have Q2 := hid q2
          have hz1 := sumN_le ps (j + 1)
          rw [sumN_take ps j h1, ← HP.out] at hz1
          have hrow := q1.below hbj
          have HT : Hid (sumN (ps.take (j + 1)) = sumN (ps.take j) + p.n ∧ flat (ps.take (j + 1)) = flat (ps.take j) ++ p.cells) := ⟨by rw [sumN_take ps j h1, HP.out], by rw [flat_take ps j h1, HP.out]⟩
          obtain ⟨sn, SN⟩ : ∃ sn, Hid (sn = sumN (ps.take j)) := ⟨_, rfl⟩
          rw [← SN.out] at hMj hz1 HT
          have hsz := hbj.size
          clear q1 q2
          go_wp2_with (at_builtin; refine wl_append rfl _ _ 69 rfl 5 (.int .u8 0) 1 1 Try.underlying69 info rfl (by decide) w.heap.size _ sn _ rfl hMj p.ao p.n p.cap rfl q4 p.cells Q2.out hrow q3 (by unfold maxLen; omega) (by omega) hsz ?_; intro v' w' row hM' hg' hrow')
          go_roundw
          case rel => exact ⟨j + 1, by omega, by go_num, by rw [HT.out.1, HT.out.2]; exact hM', bel2 hbj hg' fun k hk => (hrow' k hk).1⟩
          case measure => simp [intOf] <;> omega
        · have HE2 : Hid (ps.take j = ps) := List.take_of_length_le (by omega)
          go_wp2
          go_ret
          rw [HE2.out] at hMj
          exact ⟨_, rfl, hMj, hbj⟩
/-- two parts -/
theorem Concat_two (p q : Part) (g : Nat) (w : World) (hg : w.heap[g]? = some (.cells #[p.val, q.val] 69 (0, 0))) (hp : p.ok w) (hq : q.ok w) (hb : (p.n + q.n) * 1 ≤ 140737488355328) :
    Calls Try.prog 181 #[.slice (some ⟨g, 0, none⟩) 2 2] w fun e w' => ∃ v, e = .returned v ∧ Mine w' w.heap.size 5 1 v (p.n + q.n) (p.cells ++ q.cells) ∧ Below w.heap.size w w' := by
  have h := Concat_any [p, q] g 0 2 w ⟨rfl, lt_of_block hg, fun k hk => ?_⟩ ?_ ?_ (by simp)
  · simpa [sumN, flat] using h
  · simp only [List.length_cons, List.length_nil] at hk
    rw [Nat.zero_add, cell_of_row w g k _ _ _ hg]
    match k, hk with
    | 0, _ => rfl
    | 1, _ => rfl
  · intro r hr
    simp at hr
    rcases hr with rfl | rfl
    · exact hp
    · exact hq
  · simpa [sumN] using hb
end Go.Proofs.Ytbljihhelladbaa.slB
