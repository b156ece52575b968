/-
  TopShares: rows of IDs; slices.Contains at IDs. Conditions: IDs of small numbers. TopShares: keytop.landed, mix.Hex at one octet. No condition. The law SharesAreMade for shares that are not right; its closure; slices.Equal at shares. Conditions: shares of the type's form. Contracts of tree.steps and tree.lead. Conditions: sizes of at most 65536; a path of as many sums as there are steps. Contracts of tree.RootBy, tree.Proved and vault.CheckChunk: what a proof says. Conditions: sums of 32 octets, a proof of the type's form. Contracts of mix.Cover, wrap.cover and wrap.tag. Conditions: keys, nonces and texts of octets, texts of at most 2^20 octets. Contracts of mix.PutLong, wrap.Commit and keyref2.CommitOf. Conditions: a key of octets; a string of at most maxLen octets. Contract of keyref2.ReadEnvelope. Conditions: a slice of octets that lies in memory. Contract of wrap.Wrap at version 1; keylaw2.wraps says yes. Conditions: keys and nonces of octets, an epoch in its bounds, a context of at most 4096 octets. Maps keyed by IDs, all values true: reading and writing one. Conditions: IDs of 16 octets. Contract of keyref2.PackError: packE. Conditions: parts of octets that lie in memory. Contracts of wrap.Pack and keyref2.Packed: a pack's octets. Conditions: parts of octets that lie in memory and have no fault. Contracts of wrap.Unpack and keyref2.Unpacked. Conditions: a text of at most 2^40 octets that lies in memory. Contracts of vault.chunks, leaves, tree.rootOf, Root, vault.RootOf at 1025 octets; keylaw2.vaults says yes. Conditions: as stated.
-/
import Derived.Test.YtbjmadcbhkeenaaSToA
import Derived.Test.YtbjmadcbhkeenaaSSpB
import Derived.Test.YtbjmadcbhkeenaaSMkX
import Derived.Test.YtbjmadcbhkeenaaSAdd
import Derived.Test.YtbjmadcbhkeenaaSShF
import Derived.Test.YtbjmadcbhkeenaaSEqA
import Derived.Test.YtbjmadcbhkeenaaSMem
import Derived.Test.YtbjmadcbhkeenaaSHld
import Derived.Test.YtbjmadcbhkeenaaSGsK
import Derived.Test.YtbjmadcbhkeenaaSShM
import Derived.Laws.Slices
import Derived.Lib.Strings
import Derived.Lib.Slices
import Derived.Lib.Small
import Derived.Lib.Walk
import Derived.Lib.BitFns
import Derived.Deep.LoopGhost
import Derived.WalkMore
import Derived.Lib.OthersKept
import Derived.Lib.TrimU
import Derived.Lib.Bytealg
import Derived.Laws.RangeString
import Derived.Laws.Runes
import Derived.WideMake
import Derived.WideKeyRuns
import Derived.Lib.AppendStr
import Derived.RangeFuncNested
import Derived.RangeFuncBound
import Derived.RangeFuncCalls
import Derived.RangeFuncLeaves
import Derived.RangeFuncBox
import Derived.Shelf.Abstract
import Derived.Shelf.RegionOpen
import Derived.WalkKit
import Derived.OwnWalkIn
import Derived.TacticsInMore
import Derived.LoopNIn
import Derived.LoopIn
import Derived.Maps.AppendAt
import Derived.Sort.QuietIn
import Derived.Test.YtbjmadcbhkeenaaChecked
namespace Go.Proofs.Ytbjmadcbhkeenaa.gs
open Go.RowKit Go.Proofs.Ytbjmadcbhkeenaa.Fld Go.Proofs.Ytbjmadcbhkeenaa.sh Go.Proofs.Ytbjmadcbhkeenaa.shr Go.Proofs.Ytbjmadcbhkeenaa.cm
set_option linter.unusedSimpArgs false
set_option linter.unusedVariables false
set_option pp.maxSteps 6000
theorem rowN_at {w : World} {ao : Option Addr} {L : List Nat} (h : RowV w ao (flatN L)) {k : Nat} (hk : k < L.length) : ∃ b off, ao = some ⟨b, off, none⟩ ∧ b < w.heap.size ∧ At w ⟨b, off + k * 16, none⟩ ((idN (L.getD k 0)).map (Value.int .u8)) := by
  rcases h with h | ⟨g, o, h1, h2, h3⟩
  · have := congrArg List.length h
    rw [flatN_length] at this
    simp at this
    omega
  · refine ⟨g, o, h1, h2, fun j u hu => ?_⟩
    have hj : j < 16 := by have := (List.getElem?_eq_some_iff.1 hu).1; rwa [List.length_map, idN_length] at this
    have := h3 (k * 16 + j) u (by rw [flatN_get L k j hk hj]; exact hu)
    rw [addr_add, Nat.add_assoc]; exact this
theorem map_idN (L : List Nat) {i : Nat} (hi : i < L.length) : (L.map idN).getD i [] = idN (L.getD i 0) := by simp [List.getD_eq_getElem?_getD, hi]
theorem rowN_H {w : World} {ao : Option Addr} {L : List Nat} (h : RowV w ao (flatN L)) : RowH w ao (L.map idN) := by
  by_cases hl : L.length = 0
  · exact Or.inl (by rw [List.eq_nil_of_length_eq_zero hl]; rfl)
  · obtain ⟨b, off, h1, h2, _⟩ := rowN_at h (k := 0) (by omega)
    refine Or.inr ⟨b, off, h1, h2, fun i hi => ?_⟩
    rw [List.length_map] at hi
    obtain ⟨b', off', h1', _, h3⟩ := rowN_at h hi
    rw [h1] at h1'
    cases h1'
    rw [map_idN L hi]; exact h3
theorem beq_idN (a b : Nat) : (idN a == idN b) = decide (a = b) := by
  by_cases h : a = b
  · subst h; simp
  · rw [decide_eq_false h, beq_eq_false_iff_ne]; exact fun e => h (idN_inj e)
theorem any_contains (L : List Nat) (k : Nat) : L.any (fun t => idN k == idN t) = L.contains k := by
  induction L with
  | nil => rfl
  | cons a L ih => rw [List.any_cons, ih, List.contains_cons, beq_idN]; rfl
set_option maxRecDepth 100000 in
theorem Contains_id (ao : Option Addr) (cap n : Nat) (l : List Nat) (s : Nat) (w : World) (hn' : n = l.length) (hr : RowV w ao (flatN l)) (hn : n ≤ 4611686018427387904) (S : List Value) (HS : Hid (S = (idN s).map (Value.int .u8))) (r : Bool) (Hr : Hid (r = l.contains s)) :
    Calls Try.prog 11 #[.slice ao n cap, .agg S.toArray] w fun e w' => e = .returned (.bool r) ∧ Below w.heap.size w w' := by
  subst hn'
  have HSL : Hid (S.length = 16) := by show _ = _; rw [HS.out, List.length_map]; exact idN_length s
  have HIX : Hid (∀ w, RowV w ao (flatN l) → Calls Try.prog 29 #[.slice ao l.length cap, .agg S.toArray] w fun e w' => e = .returned (.int .i64 (slInt.findI (fun t => idN s == idN t) l 0)) ∧ Below w.heap.size w w') := fun w hr => by
    have hb0 : Below w.heap.size w (w.alloc (.cells S.toArray 28)) := (Below.refl _ _).alloc (Nat.le_refl _) _
    have hS0 : BlkV 28 (w.alloc (.cells S.toArray 28)) w.heap.size S := BlkV.new _ _ _ rfl
    go_enter Try.func29, Try.ntmps29
    go_wp2
    go_loopw [8] (fun i wr => ∃ k : Nat, k ≤ l.length ∧ i = .int .i64 k ∧ Hid (slInt.findI (fun t => idN s == idN t) (l.drop k) k = slInt.findI (fun t => idN s == idN t) l 0) ∧ BlkV 28 wr w.heap.size S ∧ Below w.heap.size w wr) (fun i _ => l.length - (intOf i).toNat)
    case atStart => exact ⟨0, Nat.zero_le _, rfl, rfl, hS0, hb0⟩
    case round =>
      clear hS0 hb0
      obtain ⟨k, hk, rfl, HA, hB, hbl⟩ := hrel
      by_cases h0 : k < l.length
      · have hkI : (k : Int) < (l.length : Int) := by omega
        have hkI0 : (0 : Int) ≤ (k : Int) := by omega
        obtain ⟨b, off, rfl, hb, hat⟩ := rowN_at (h := hr.below hbl) (k := k) h0
        have HD := slInt.findI_drop (fun t => idN s == idN t) l 0 k h0
        rw [HA.out] at HD
        replace HD := hid HD
        obtain ⟨T, HT⟩ : ∃ T, Hid (T = (idN (l.getD k 0)).map (Value.int .u8)) := ⟨_, rfl⟩
        have HTL : Hid (T.length = 16) := hid (by rw [HT.out, List.length_map]; exact idN_length _)
        rw [← HT.out] at hat
        obtain ⟨c, Hc⟩ : ∃ c, Hid (c = (idN s == idN (l.getD k 0))) := ⟨_, rfl⟩
        have heq : Hid (∀ w, (Op.equalIn 10000 28 (.agg S.toArray) (.agg T.toArray)).run Try.prog w = .ok c w) := hid (fun w => by
          have := run_equalIn_ints (P := Try.prog) w 9998 28 5 16 .u8 Try.underlying28 Try.underlying5 (fun w => by kernel_rfl) (idN s) (idN (l.getD k 0)) (idN_length s) (idN_length _)
          rw [← HS.out, ← HT.out, ← Hc.out] at this
          exact this)
        have a1 : At wr.drew ⟨w.heap.size, 0, none⟩ S := hB.at0
        have a2 : At wr.drew ⟨b, off + k * 16, none⟩ T := hat
        clear hat
        cases c
        · have HN : Hid ((idN s == idN (l.getD k 0)) = false) := Hc.out.symm
          go_wp2_with fail
          refine wp_region_still_tail 5 (by kernel_rfl) (by kernel_rfl) ?_
          simp only [List.take_succ_cons, List.take_zero, List.drop_succ_cons, List.drop_zero]
          change wpStill _ _ wr.drew (fun a' => wpList _ _ _ _ a' wr.drew) _ _
          refine still_load (by kernel_rfl) 28 _ rfl ⟨w.heap.size, 0, none⟩ rfl 16 S HSL.out aggI a1 ?_
          iterate 3 still_step
          refine still_load (by kernel_rfl) 28 _ rfl ⟨b, off + k * 16, none⟩ rfl 16 T HTL.out aggI a2 ?_
          refine wpStill_nil ?_
          go_wp2_with (refine wl_eqE 16 rfl (by kernel_rfl) 28 _ _ _ rfl S.toArray T.toArray rfl rfl false (heq.out _) (by kernel_rfl) ?_)
          go_roundw
          case rel => exact ⟨k + 1, by omega, by go_num, by show _ = _; rw [HD.out, if_neg (by rw [HN.out]; simp)], hB.drew, hbl.drew⟩
          case measure => simp [intOf] <;> omega
        · have HN : Hid ((idN s == idN (l.getD k 0)) = true) := Hc.out.symm
          go_wp2_with fail
          refine wp_region_still_tail 5 (by kernel_rfl) (by kernel_rfl) ?_
          simp only [List.take_succ_cons, List.take_zero, List.drop_succ_cons, List.drop_zero]
          change wpStill _ _ wr.drew (fun a' => wpList _ _ _ _ a' wr.drew) _ _
          refine still_load (by kernel_rfl) 28 _ rfl ⟨w.heap.size, 0, none⟩ rfl 16 S HSL.out aggI a1 ?_
          iterate 3 still_step
          refine still_load (by kernel_rfl) 28 _ rfl ⟨b, off + k * 16, none⟩ rfl 16 T HTL.out aggI a2 ?_
          refine wpStill_nil ?_
          go_wp2_with (refine wl_eqE 16 rfl (by kernel_rfl) 28 _ _ _ rfl S.toArray T.toArray rfl rfl true (heq.out _) (by kernel_rfl) ?_)
          go_ret
          exact ⟨rv (ri (by rw [HD.out, if_pos HN.out])), hbl.drew⟩
      · go_wp2
        go_ret
        exact ⟨rv (ri (by rw [← HA.out, List.drop_eq_nil_of_le (by omega)]; rfl)), hbl⟩
  have HFA := hid (slInt.findI_any (fun t => idN s == idN t) l 0)
  obtain ⟨F, HF⟩ : ∃ F, Hid (F = slInt.findI (fun t => idN s == idN t) l 0) := ⟨_, rfl⟩
  have hb0 : Below w.heap.size w (w.alloc (.cells S.toArray 28)) := (Below.refl _ _).alloc (Nat.le_refl _) _
  have hS0 : BlkV 28 (w.alloc (.cells S.toArray 28)) w.heap.size S := BlkV.new _ _ _ rfl
  have aS := hS0.at0
  rw [← HF.out] at HIX HFA
  go_enter Try.func11, Try.ntmps11
  go_wp2_with (first | (refine wl_load rfl 28 _ rfl ⟨w.heap.size, 0, none⟩ rfl S (by rw [HSL.out]; exact aggI) aS ?_; clear aS) | (go_at_call 29; refine (HIX.out _ (hr.below hb0)).mono ?_; rintro e w1 ⟨rfl, hb1⟩))
  go_ret
  exact ⟨rv (rb (by rw [Hr.out, ← any_contains, ← HFA.out])), hb0.trans (hb1.mono hb0.size)⟩
end Go.Proofs.Ytbjmadcbhkeenaa.gs
namespace Go.Proofs.Ytbjmadcbhkeenaa.gs
open Go.RowKit Go.Proofs.Ytbjmadcbhkeenaa.sh Go.Proofs.Ytbjmadcbhkeenaa.shr Go.Proofs.Ytbjmadcbhkeenaa.st Go.Proofs.Ytbjmadcbhkeenaa.hs Go.Proofs.Ytbjmadcbhkeenaa.wr
set_option linter.unusedSimpArgs false
set_option linter.unusedVariables false
set_option pp.maxSteps 6000
theorem wl_makeU {w : World} {ops : Array Oper} {rest : List Oper} {o : Oper} {a : Act} {Q : Exit → Act → World → Prop} (hgd : o.guard = none) (x y : Operand) (ho : o.op = .makeSlice 51 x y)
    (n : Nat) (hn : n ≤ 1099511627776) (hx : a.eval x = .int .i64 0) (hy : a.eval y = .int .i64 n) (N : Nat) (hN : w.heap.size = N)
    (h : ∀ w', Mine w' N 5 1 (.slice (some ⟨N, 0, none⟩) 0 n) 0 [] → Below N w w' → w'.heap.size = N + 1 → wpList Try.prog ops Q rest (a.put o.dst (.slice (some ⟨N, 0, none⟩) 0 n)) w') : wpList Try.prog ops Q (o :: rest) a w := by
  subst hN
  obtain ⟨i, hi, hz, hs, hb⟩ := info8.parts
  have hrun := run_make (P := Try.prog) (w := w) 51 5 i (.int .u8 0) Try.underlying51 hi hz .i64 .i64 (0 : Int) (n : Int) (by omega) (by omega) (by rw [hb]; omega) (by omega)
  rw [Int.toNat_natCast, hs, Int.toNat_zero] at hrun
  refine wpList_plain hgd fun K hK' => ?_
  unfold Oper.wp
  simp [execOp, ho, hx, hy, hrun, Result.andThen]
  exact hK' _ _ (h _ (Or.inl ⟨rfl, Or.inr ⟨w.heap.size, n, _, rfl, Nat.le_refl _, heap_alloc_new w _, Nat.zero_le _, by unfold maxLen; omega, by simp [madeCells], by simp⟩⟩) ((Below.refl _ _).alloc (Nat.le_refl _) _) (by simp))
set_option maxRecDepth 100000 in
theorem Hex_one (g : Nat) (w : World) (hc : w.cell? ⟨g, 0, none⟩ = some (.int .u8 1)) (hg : g < w.heap.size) : Calls Try.prog 17 #[.slice (some ⟨g, 0, none⟩) 1 1] w fun e w' => e = .returned (.string (strOfNums [48, 49])) ∧ Below w.heap.size w w' := by
  obtain ⟨N, HN⟩ : ∃ N, Hid (N = w.heap.size) := ⟨_, rfl⟩
  have hsz : w.heap.size = N := HN.out.symm
  have hgN : g < N := by omega
  go_enter Try.func17, Try.ntmps17
  go_wp2_with (refine wl_makeU rfl _ _ rfl 2 (by decide) rfl (by go_num) N hsz ?_; intro w1 hM1 hb1 hs1)
  have c1 : w1.cell? ⟨g, 0, none⟩ = some (.int .u8 1) := by rw [hb1.cell (p := ⟨g, 0, none⟩) hgN]; exact hc
  go_loopw [3, 12] (fun o i wr => (i = .int .i64 0 ∧ o = .slice (some ⟨N, 0, none⟩) 0 2 ∧ Mine wr N 5 1 (.slice (some ⟨N, 0, none⟩) 0 2) 0 [] ∧ wr.cell? ⟨g, 0, none⟩ = some (.int .u8 1) ∧ Below N w wr ∧ N < wr.heap.size) ∨ (i = .int .i64 1 ∧ ∃ ao cap, o = .slice ao 2 cap ∧ RowV wr ao [.int .u8 48, .int .u8 49] ∧ Below N w wr)) (fun _ i _ => 1 - (intOf i).toNat)
  case atStart => exact Or.inl ⟨rfl, rfl, hM1, c1, hb1, by omega⟩
  case round =>
    rcases hrel with ⟨rfl, rfl, hM, hcr, hbl, hNr⟩ | ⟨rfl, ao, cap, rfl, hR, hbl⟩
    · have hbt : bits BinOp.and IntKind.u8 1 15 = 1 := by decide
      go_wp2
      refine wp_region_held_drew (S := (fun _ => True)) (by kernel_rfl) trivial (fun hHeld => ?_)
      refine take_l (i := 0) (v := ?rv1) rfl (by kernel_rfl) (by kernel_rfl) (by kernel_rfl) (fun _ _ _ h => h) (Or.inl ⟨by rfl, ?rhy1⟩) (by assumption) ?rrest1
      case rhy1 => (intro w hSw; (try dsimp only at hSw); go_simp; (try with_reducible rfl))
      try simp only [Act.put, List.setIfInBounds_toArray, List.set_cons_zero, List.set_cons_succ]
      refine take_l (i := 1) (v := ?rv2) rfl (by kernel_rfl) (by kernel_rfl) (by kernel_rfl) (fun _ _ _ h => h) (Or.inl ⟨by rfl, ?rhy2⟩) (by assumption) ?rrest2
      case rhy2 => (intro w hSw; (try dsimp only at hSw); go_simp; (try with_reducible rfl))
      try simp only [Act.put, List.setIfInBounds_toArray, List.set_cons_zero, List.set_cons_succ]
      refine take_l (i := 2) (v := ?rv3) rfl (by kernel_rfl) (by kernel_rfl) (by kernel_rfl) (fun _ _ _ h => h) (Or.inl ⟨by rfl, ?rhy3⟩) (by assumption) ?rrest3
      case rhy3 => (intro w hSw; (try dsimp only at hSw); go_simp; (try with_reducible rfl))
      try simp only [Act.put, List.setIfInBounds_toArray, List.set_cons_zero, List.set_cons_succ]
      refine take_l (i := 3) (v := ?rv4) rfl (by kernel_rfl) (by kernel_rfl) (by kernel_rfl) (fun _ _ _ h => h) (Or.inl ⟨by rfl, ?rhy4⟩) (by assumption) ?rrest4
      case rhy4 => (intro w hSw; (try dsimp only at hSw); go_simp; (try with_reducible rfl))
      try simp only [Act.put, List.setIfInBounds_toArray, List.set_cons_zero, List.set_cons_succ]
      refine take_l (i := 4) (v := ?rv5) rfl (by kernel_rfl) (by kernel_rfl) (by kernel_rfl) (fun _ _ _ h => h) (Or.inl ⟨by rfl, ?rhy5⟩) (by assumption) ?rrest5
      case rhy5 => (intro w hSw; (try dsimp only at hSw); go_simp; (try with_reducible rfl))
      try simp only [Act.put, List.setIfInBounds_toArray, List.set_cons_zero, List.set_cons_succ]
      refine take_l (i := 5) (v := ?rv6) rfl (by kernel_rfl) (by kernel_rfl) (by kernel_rfl) (fun _ _ _ h => h) (Or.inl ⟨by rfl, ?rhy6⟩) (by assumption) ?rrest6
      case rhy6 => (intro w hSw; (try dsimp only at hSw); go_simp; (try with_reducible rfl))
      try simp only [Act.put, List.setIfInBounds_toArray, List.set_cons_zero, List.set_cons_succ]
      refine take_l (i := 6) (v := ?rv7) rfl (by kernel_rfl) (by kernel_rfl) (by kernel_rfl) (fun _ _ _ h => h) (Or.inl ⟨by rfl, ?rhy7⟩) (by assumption) ?rrest7
      case rhy7 => (intro w hSw; (try dsimp only at hSw); go_simp; (try with_reducible rfl))
      try simp only [Act.put, List.setIfInBounds_toArray, List.set_cons_zero, List.set_cons_succ]
      refine wpAnyH_ready (rs := [7]) (by kernel_rfl) (by simp) (cons_l rfl (fun K' hK' => ?_) AllReadyH.nil)
      refine step_lit rfl 51 5 2 _ rfl Try.underlying51 (.int .u8 0) 1 1 info8 (by decide) (by decide) [.int .u8 48, .int .u8 49] (by kernel_rfl) wr.heap.size rfl ?_
      intro x1 hL1 hbx1 hsx1
      have hMd : Mine wr.drew N 5 1 (.slice (some ⟨N, 0, none⟩) 0 2) 0 [] := hM
      have hM1 := hMd.belowAll hbx1
      refine hK'.out _ _ trivial (fun hHeld => ?_)
      clear hK' K'
      try simp only [Act.put, List.setIfInBounds_toArray, List.set_cons_zero, List.set_cons_succ]
      refine wpAnyH_ready (rs := [8]) (by kernel_rfl) (by simp) (cons_l rfl (fun K' hK' => ?_) AllReadyH.nil)
      refine step_appendS rfl _ _ 51 rfl 5 (.int .u8 0) 1 1 Try.underlying51 info8 rfl (by decide) N _ 0 [] rfl hM1 (some ⟨wr.heap.size, 0, none⟩) 2 2 rfl (fun h => by cases h) [.int .u8 48, .int .u8 49] rfl (at_row (by omega) hL1.at0) (by intro u hu; simp at hu; rcases hu with rfl | rfl <;> rfl) (by decide) (by decide) (by omega) 2 rfl ?_
      intro ao2 cap2 x2 row2 hc2 hM2 hR2 hg2 hv2
      refine hK'.out _ _ trivial (fun hHeld => ?_)
      clear hK' K'
      try simp only [Act.put, List.setIfInBounds_toArray, List.set_cons_zero, List.set_cons_succ]
      refine take_l (i := 9) (v := ?rv8) rfl (by kernel_rfl) (by kernel_rfl) (by kernel_rfl) (fun _ _ _ h => h) (Or.inl ⟨by rfl, ?rhy8⟩) (by assumption) ?rrest8
      case rhy8 => (intro w hSw; (try dsimp only at hSw); go_simp; (try with_reducible rfl))
      try simp only [Act.put, List.setIfInBounds_toArray, List.set_cons_zero, List.set_cons_succ]
      refine wpAnyH_done (by kernel_rfl) ?_ _
      have hsx2 := hg2.size
      clear hHeld
      go_wp2
      go_roundw
      case rel => exact Or.inr ⟨by go_num, ao2, cap2, rfl, hR2, (hbl.drew.trans (hbx1.mono (by omega))).grown hg2 (by omega) (fun k hk => (hv2 k hk).1)⟩
      case measure => simp [intOf] <;> omega
    · have hcv := run_convStr wr ao 2 cap [48, 49] rfl (RowV.i (l := [48, 49]) hR)
      go_wp2
      go_ret
      exact ⟨rfl, by rw [hsz]; exact hbl⟩
set_option maxRecDepth 100000 in
theorem landed_any (w : World) : Calls Try.prog 4 #[] w fun e w' => e = .returned (.bool true) ∧ Below w.heap.size w w' := by
  have HS : strOfNums [48, 49] = ⟨#[48, 49]⟩ := by decide
  obtain ⟨N, HN⟩ : ∃ N, Hid (N = w.heap.size) := ⟨_, rfl⟩
  have hsz : w.heap.size = N := HN.out.symm
  go_enter Try.func4, Try.ntmps4
  go_wp2_with (first | (go_at_call 17; refine (Hex_one N w1 ((hL1.cell 0).trans rfl) (by omega)).mono ?_; rw [HS]; rintro e w2 ⟨rfl, hb2⟩) | (refine wl_lit rfl 51 5 1 _ rfl Try.underlying51 (.int .u8 0) 1 1 info8 (by decide) (by decide) [.int .u8 1] (by kernel_rfl) N hsz ?_; intro w1 hL1 hb1 hs1))
  go_ret
  exact ⟨rfl, by rw [hsz]; exact hb1.trans (hb2.mono (by omega))⟩
end Go.Proofs.Ytbjmadcbhkeenaa.gs
/- slices.Equal at shares that are the same; the closure of the statement SharesAreMade; operations in a drawn region. Conditions: shares of the type's form. -/
namespace Go.Proofs.Ytbjmadcbhkeenaa.shr
open Go.RowKit Go.Proofs.Ytbjmadcbhkeenaa.sh Go.Proofs.Ytbjmadcbhkeenaa.Fld
set_option linter.unusedSimpArgs false
set_option linter.unusedVariables false
set_option pp.maxSteps 6000
end Go.Proofs.Ytbjmadcbhkeenaa.shr
/- The law SharesAreMade, walked for shares that are not right. Conditions: shares of the type's form, a holder and a seed of octets. -/
namespace Go.Proofs.Ytbjmadcbhkeenaa.shr
set_option linter.unusedVariables false
open Go.RowKit Go.Proofs.Ytbjmadcbhkeenaa.sh Go.Proofs.Ytbjmadcbhkeenaa.Fld
set_option linter.unusedSimpArgs false
set_option pp.maxSteps 6000
theorem wl_eqD {P : Program} {w : World} {ops : Array Oper} {rest : List Oper} {o : Oper} {a : Act} {Q : Exit → Act → World → Prop} (d : Nat) (hd : o.dst = some d) (hgd : Region.wanted o (yielded ops a.tmps) = true) (ty ty2 : TypeId) (x y : Operand) (ho : o.op = .binOp .eql ty x y ty2)
    (A B : Array Value) (hx : a.eval x = .agg A) (hy : a.eval y = .agg B) (b : Bool) (he : (Op.equalIn 10000 ty (.agg A) (.agg B)).run P w = .ok b w) (hm : P.eqGuardType P.depth ty = false) (h : wpList P ops Q rest (a.put o.dst (.bool b)) w) : wpList P ops Q (o :: rest) a w := by
  refine wpList_step fun K hK' => ?_
  rw [if_pos hgd]
  unfold Oper.wp
  simp [execOp, ho, hx, hy, run_eqGuard_agg, run_eql_struct, hm, he, Result.andThen]
  exact hK' _ _ h
section
variable {need : Int} {ao : Option Addr} {cap : Nat} {l : List Sh} {w : World} (hr : RowS w ao l) (hok : ∀ s ∈ l, s.Ok) (hn : l.length ≤ 9223372036854775807) (hcap : l.length ≤ cap) (hmax : cap ≤ maxLen)
include hr hok hn hcap hmax
end
end Go.Proofs.Ytbjmadcbhkeenaa.shr
namespace Go.Proofs.Ytbjmadcbhkeenaa.ck
open Go.RowKit Go.Proofs.Ytbjmadcbhkeenaa.st Go.Proofs.Ytbjmadcbhkeenaa.hs Go.Proofs.Ytbjmadcbhkeenaa.shr Go.Proofs.Ytbjmadcbhkeenaa.sh Go.Proofs.Ytbjmadcbhkeenaa.wr
set_option linter.unusedSimpArgs false
set_option linter.unusedVariables false
set_option pp.maxSteps 6000
theorem yieldsIf_sliceH {P : Program} {ops : Array Oper} {S : World → Prop} {op : Oper} {a : Act} (hw : Region.wanted op (yielded ops a.tmps) = true) (t : TypeId) (x z : Operand) (ho : op.op = .slice t x none (some z) none)
    (ao : Option Addr) (n c h s : Nat) (hx : a.eval x = .slice ao n c) (hi : Int) (hz : a.eval z = .int .i64 hi) (hhi : hi = (h : Int)) (ht : P.underlying t = some (.slice (P.elem t))) (hs : ∀ w, (sizeOf (P.elem t)).run P w = .ok s w) (hh : h ≤ c) : YieldsIf P ops S op (.slice ao h c) a :=
  .inl ⟨hw, fun w _ => by
    subst hhi
    have hrun := run_slice_h (P := P) w t ao n c ht .i64 (h : Int) (by omega) (by omega)
    rw [hs] at hrun
    simp only [Result.andThen_ok, Int.toNat_natCast, sliced] at hrun
    have hao : (if c = 0 then ao else ao.map (·.add (0 * s))) = ao := by
      split
      · rfl
      · cases ao with
        | none => rfl
        | some a0 =>
          simp only [Option.map_some, Nat.zero_mul]
          unfold Addr.add
          rw [if_pos rfl]
    simp only [Nat.sub_zero, hao] at hrun
    unfold execOp
    simp only [ho, hx, Option.map_some, Option.map_none, hz, run_sliceAt_slice (P := P) w _ _ _ _ _ ht, hrun, Nat.sub_zero, Sem.run_bind, Result.andThen_ok, Sem.run_pure]⟩
end Go.Proofs.Ytbjmadcbhkeenaa.ck
namespace Go.Proofs.Ytbjmadcbhkeenaa.ck
open Go.RowKit Go.Proofs.Ytbjmadcbhkeenaa.st Go.Proofs.Ytbjmadcbhkeenaa.hs Go.Proofs.Ytbjmadcbhkeenaa.shr Go.Proofs.Ytbjmadcbhkeenaa.sh Go.Proofs.Ytbjmadcbhkeenaa.wr
set_option linter.unusedSimpArgs false
set_option linter.unusedVariables false
set_option pp.maxSteps 6000
/-- a proof: a place, a size, a path -/
structure Prf where
  i : Int
  s : Int
  p : List (List Int)
  a : Option Addr
  c : Nat
def Prf.cs (x : Prf) : List Value := [.int .i64 x.i, .int .i64 x.s, .slice x.a x.p.length x.c]
structure Prf.Ok (w : World) (x : Prf) : Prop where
  row : RowM w x.a x.p
  ok : ∀ t ∈ x.p, SumLOk t
  le : x.p.length ≤ x.c
  cap : x.c ≤ maxLen
theorem Prf.Ok.below {w w' : World} {x : Prf} (h : x.Ok w) (hb : Below w.heap.size w w') : x.Ok w' := ⟨h.row.below hb, h.ok, h.le, h.cap⟩
theorem Prf.c0 (x : Prf) : x.cs[0]? = some (.int .i64 x.i) := rfl
theorem Prf.c1 (x : Prf) : x.cs[1]? = some (.int .i64 x.s) := rfl
theorem Prf.c2 (x : Prf) : x.cs[2]? = some (.slice x.a x.p.length x.c) := rfl
end Go.Proofs.Ytbjmadcbhkeenaa.ck
namespace Go.Proofs.Ytbjmadcbhkeenaa.wr
open Go.RowKit Go.Proofs.Ytbjmadcbhkeenaa.st Go.Proofs.Ytbjmadcbhkeenaa.hs Go.Proofs.Ytbjmadcbhkeenaa.shr Go.Proofs.Ytbjmadcbhkeenaa.sh
set_option linter.unusedSimpArgs false
set_option linter.unusedVariables false
set_option pp.maxSteps 6000
/-- an own row that is not empty: its block -/
theorem own_blk {w : World} {base m c : Nat} {e : TypeId} {ao : Option Addr} {xs : List Value} (h : w.ownsRow base e 1 (.slice ao m c) m xs) (hm : 0 < m) : ∃ g cur, ao = some ⟨g, 0, none⟩ ∧ base ≤ g ∧ BlkV e w g cur ∧ m ≤ c ∧ c ≤ maxLen ∧ cur.length = c ∧ cur.take m = xs := by
  obtain ⟨_, h | ⟨g, cap, cur, hv, hg, hh, h1, h2, h3, h4⟩⟩ := h
  · simp at h; omega
  · cases hv
    refine ⟨g, cur.toList, rfl, hg, hh, h1, h2, by simpa using h3, by simpa using h4⟩
end Go.Proofs.Ytbjmadcbhkeenaa.wr
namespace Go.Proofs.Ytbjmadcbhkeenaa.wr
open Go.RowKit Go.Proofs.Ytbjmadcbhkeenaa.st Go.Proofs.Ytbjmadcbhkeenaa.hs Go.Proofs.Ytbjmadcbhkeenaa.shr Go.Proofs.Ytbjmadcbhkeenaa.sh
set_option linter.unusedSimpArgs false
set_option linter.unusedVariables false
set_option pp.maxSteps 6000
/-- the octets of a string -/
def numsOf (s : ByteArray) : List Int := s.data.toList.map fun c => (c.toNat : Int)
end Go.Proofs.Ytbjmadcbhkeenaa.wr
namespace Go.Proofs.Ytbjmadcbhkeenaa.wr
open Go.RowKit Go.Proofs.Ytbjmadcbhkeenaa.st Go.Proofs.Ytbjmadcbhkeenaa.hs Go.Proofs.Ytbjmadcbhkeenaa.shr Go.Proofs.Ytbjmadcbhkeenaa.sh
set_option linter.unusedSimpArgs false
set_option linter.unusedVariables false
set_option pp.maxSteps 6000
theorem sizeSl : (Try.prog.info? 51).map (·.size) = some 1 := by kernel_rfl
end Go.Proofs.Ytbjmadcbhkeenaa.wr
namespace Go.Proofs.Ytbjmadcbhkeenaa.wr
open Go.RowKit Go.Proofs.Ytbjmadcbhkeenaa.st Go.Proofs.Ytbjmadcbhkeenaa.hs Go.Proofs.Ytbjmadcbhkeenaa.shr Go.Proofs.Ytbjmadcbhkeenaa.sh
set_option linter.unusedSimpArgs false
set_option linter.unusedVariables false
set_option pp.maxSteps 6000
theorem wl_build1 {P : Program} {w : World} {ops : Array Oper} {rest : List Oper} {o : Oper} {a : Act} {Q : Exit → Act → World → Prop} (hgd : o.guard = none) (t : TypeId) (i : Nat) (x : Operand) (ho : o.op = .build t #[(i, x)])
    (u : Value) (hx : a.eval x = u) (cs : List Value) (hb : P.built t [(i, u)] = some cs.toArray) (h : wpList P ops Q rest (a.put o.dst (.agg cs.toArray)) w) : wpList P ops Q (o :: rest) a w :=
  wl_build hgd t #[(i, x)] ho cs (by simpa [hx] using hb) h
end Go.Proofs.Ytbjmadcbhkeenaa.wr
namespace Go.Proofs.Ytbjmadcbhkeenaa.wr
open Go.RowKit Go.Proofs.Ytbjmadcbhkeenaa.st Go.Proofs.Ytbjmadcbhkeenaa.hs Go.Proofs.Ytbjmadcbhkeenaa.shr Go.Proofs.Ytbjmadcbhkeenaa.sh
set_option linter.unusedSimpArgs false
set_option linter.unusedVariables false
set_option pp.maxSteps 6000
def idV (l : List Int) : Value := .agg (l.map (Value.int .u8)).toArray
/-- the entries of a map of IDs that are all true -/
def IdKeys (es : List MapEntry) (seen : List (List Int)) : Prop := es.map (·.key) = seen.map idV ∧ (∀ e ∈ es, e.val = .bool true) ∧ ∀ s ∈ seen, s.length = 16
theorem IdKeys.nil : IdKeys [] [] := ⟨rfl, (fun e h => by cases h), (fun s h => by cases h)⟩
theorem IdKeys.push {es : List MapEntry} {seen : List (List Int)} (h : IdKeys es seen) {l : List Int} (hl : l.length = 16) (c : Nat) : IdKeys (es ++ [⟨idV l, .bool true, c⟩]) (seen ++ [l]) := by
  refine ⟨by rw [List.map_append, List.map_append, h.1]; rfl, fun e he => ?_, fun s hs => ?_⟩
  · rcases List.mem_append.1 he with he | he
    · exact h.2.1 e he
    · rw [List.mem_singleton] at he; rw [he]
  · rcases List.mem_append.1 hs with hs | hs
    · exact h.2.2 s hs
    · rw [List.mem_singleton] at hs; rw [hs]; exact hl
end Go.Proofs.Ytbjmadcbhkeenaa.wr
namespace Go.Proofs.Ytbjmadcbhkeenaa.wr
open Go.RowKit Go.Proofs.Ytbjmadcbhkeenaa.st Go.Proofs.Ytbjmadcbhkeenaa.hs Go.Proofs.Ytbjmadcbhkeenaa.shr Go.Proofs.Ytbjmadcbhkeenaa.sh
set_option linter.unusedSimpArgs false
set_option linter.unusedVariables false
set_option pp.maxSteps 6000
/-- the keys of version 2, as PackError keeps them -/
def FirstR (B j : Nat) (w : World) (v : Value) (f : Option (List Int)) : Prop := (f = none ∧ v = .slice none 0 0) ∨ ∃ (g m cap : Nat) (o : List Int) (rest : List Value), f = some o ∧ o.length = 16 ∧ v = .slice (some ⟨g, 0, none⟩) m cap ∧ 0 < m ∧ m ≤ j ∧ w.ownsRow (B + 1) 28 16 v m (o.map (Value.int .u8) ++ rest)
theorem owns_keep {base n : Nat} {e : TypeId} {size : Nat} {w w' : World} {v : Value} {xs : List Value} (h : w.ownsRow base e size v n xs) (hb : ∀ g, base ≤ g → g < w.heap.size → w'.heap[g]? = w.heap[g]?) : w'.ownsRow base e size v n xs := by
  obtain ⟨h0, h | ⟨g, cap, cur, hv, hg, hh, r⟩⟩ := h
  · exact ⟨h0, Or.inl h⟩
  · exact ⟨h0, Or.inr ⟨g, cap, cur, hv, hg, (hb g hg (lt_of_block hh)).trans hh, r⟩⟩
theorem FirstR.keep {B j j' : Nat} {w w' : World} {v : Value} {f : Option (List Int)} (h : FirstR B j w v f) (hj : j ≤ j') (hb : ∀ g, B + 1 ≤ g → g < w.heap.size → w'.heap[g]? = w.heap[g]?) : FirstR B j' w' v f := by
  rcases h with h | ⟨g, m, cap, o, rest, a, b, c, d, e, r⟩
  · exact Or.inl h
  · exact Or.inr ⟨g, m, cap, o, rest, a, b, c, d, by omega, owns_keep r hb⟩
end Go.Proofs.Ytbjmadcbhkeenaa.wr
namespace Go.Proofs.Ytbjmadcbhkeenaa.wr
open Go.RowKit Go.Proofs.Ytbjmadcbhkeenaa.st Go.Proofs.Ytbjmadcbhkeenaa.hs Go.Proofs.Ytbjmadcbhkeenaa.shr Go.Proofs.Ytbjmadcbhkeenaa.sh
set_option linter.unusedSimpArgs false
set_option linter.unusedVariables false
set_option pp.maxSteps 6000
/-- an own row of octets that is not empty -/
def Own8 (B : Nat) (w : World) (g c m : Nat) (L : List Int) : Prop := w.ownsRow B 5 1 (.slice (some ⟨g, 0, none⟩) m c) m (L.map (Value.int .u8))
theorem Own8.of {B m c : Nat} {w : World} {ao : Option Addr} {L : List Int} (h : Mine w B 5 1 (.slice ao m c) m (L.map (Value.int .u8))) (hm : 0 < m) : ∃ g, ao = some ⟨g, 0, none⟩ ∧ B ≤ g ∧ g < w.heap.size ∧ Own8 B w g c m L := by
  have h1 := mine_own h hm
  obtain ⟨g, cur, e, hg, hb, _⟩ := own_blk h1 hm
  subst e
  exact ⟨g, rfl, hg, hb.lt, h1⟩
theorem Own8.row {B m c g : Nat} {w : World} {L : List Int} (h : Own8 B w g c m L) : RowI .u8 w (some ⟨g, 0, none⟩) L := by
  obtain ⟨ao', cap', hv, _, hr⟩ := Mine.row (Or.inl h)
  injection hv with e1 e2 e3
  rw [← e1] at hr
  exact hr.i
theorem Own8.lt {B m c g : Nat} {w : World} {L : List Int} (h : Own8 B w g c m L) : B ≤ g ∧ g < w.heap.size := World.ownsRow.lt h g rfl
end Go.Proofs.Ytbjmadcbhkeenaa.wr
namespace Go.Proofs.Ytbjmadcbhkeenaa.wr
open Go.RowKit Go.Proofs.Ytbjmadcbhkeenaa.st Go.Proofs.Ytbjmadcbhkeenaa.hs Go.Proofs.Ytbjmadcbhkeenaa.shr Go.Proofs.Ytbjmadcbhkeenaa.sh
set_option linter.unusedSimpArgs false
set_option linter.unusedVariables false
set_option pp.maxSteps 6000
/-- a slice that holds parts -/
structure PartsB (w : World) (base : Nat) (v : Value) (ps : List Pt) : Prop where
  own : w.ownsRow base 51 1 v ps.length (ps.map Pt.v)
  ok : ∀ x ∈ ps, x.Ok w ∧ ∀ b, x.a = some b → v.ownBlock ≠ some b.block
theorem PartsB.nil (w : World) (base : Nat) : PartsB w base (.slice none 0 0) [] := ⟨World.ownsRow_nil w base 51 1, fun x hx => by cases hx⟩
theorem PartsB.push {w w6 w7 : World} {base : Nat} {v v' : Value} {ps : List Pt} {y : Pt} (h : PartsB w base v ps) (hb : Below w.heap.size w w6) (hy : y.Ok w6) (hyb : ∀ b, y.a = some b → w.heap.size ≤ b.block)
    (hbase : base ≤ w.heap.size) (hgr : w6.grownBy w7 v.ownBlock) (hv' : v'.ownBlock = v.ownBlock ∨ v'.ownBlock = some w6.heap.size)
    (hown : w7.ownsRow base 51 1 v' (ps.length + 1) (ps.map Pt.v ++ [y.v])) : PartsB w7 base v' (ps ++ [y]) := by
  have hvw : ∀ k, v.ownBlock = some k → base ≤ k ∧ k < w.heap.size := fun k hk => h.own.lt k hk
  have hyv : ∀ b, y.a = some b → v.ownBlock ≠ some b.block := fun b e g => by
    have h1 := hvw _ g
    have h2 := hyb b e
    omega
  refine ⟨by rw [List.length_append, List.map_append]; exact hown, fun x hx => ?_⟩
  rcases List.mem_append.1 hx with hx | hx
  · obtain ⟨h1, h2⟩ := h.ok x hx
    refine ⟨ptGrown (h1.below hb) hgr (fun b e => h2 b e), fun b e => ?_⟩
    rcases hv' with g | g
    · rw [g]; exact h2 b e
    · rw [g]; intro g2; have g3 := Option.some.inj g2; have := h1.lt b e; have := hb.size; omega
  · rw [List.mem_singleton] at hx
    subst hx
    refine ⟨ptGrown hy hgr (fun b e => hyv b e), fun b e => ?_⟩
    rcases hv' with g | g
    · rw [g]; exact hyv b e
    · rw [g]; intro g2; have g3 := Option.some.inj g2; have := hy.lt b e; omega
theorem PartsB.below {w w' : World} {base : Nat} {v : Value} {ps : List Pt} (h : PartsB w base v ps) (hb : Below w.heap.size w w') : PartsB w' base v ps :=
  ⟨owns_up h.own hb, fun x hx => ⟨(h.ok x hx).1.below hb, (h.ok x hx).2⟩⟩
theorem PartsB.row {w : World} {base n c : Nat} {ao : Option Addr} {ps : List Pt} (h : PartsB w base (.slice ao n c) ps) : RowV w ao (ps.map Pt.v) := rowV_of_owns' h.own
end Go.Proofs.Ytbjmadcbhkeenaa.wr
namespace Go.Proofs.Ytbjmadcbhkeenaa.ck
open Go.RowKit Go.Proofs.Ytbjmadcbhkeenaa.st Go.Proofs.Ytbjmadcbhkeenaa.hs Go.Proofs.Ytbjmadcbhkeenaa.shr Go.Proofs.Ytbjmadcbhkeenaa.sh Go.Proofs.Ytbjmadcbhkeenaa.wr
set_option linter.unusedSimpArgs false
set_option linter.unusedVariables false
set_option pp.maxSteps 6000
def flatS (ls : List (List Int)) : List Value := ls.flatMap fun l => l.map (Value.int .u8)
theorem flatS_get : ∀ (ls : List (List Int)) (i j : Nat), (∀ l ∈ ls, l.length = 32) → i < ls.length → j < 32 → (flatS ls)[i * 32 + j]? = ((ls.getD i []).map (Value.int .u8))[j]?
  | [], i, j, _, hi, _ => by cases hi
  | l :: r, 0, j, h, _, hj => by
    have hl := h l (List.mem_cons_self ..)
    have e : flatS (l :: r) = l.map (Value.int .u8) ++ flatS r := by unfold flatS; rw [List.flatMap_cons]
    rw [e, Nat.zero_mul, Nat.zero_add, List.getElem?_append_left (by rw [List.length_map, hl]; exact hj)]
    rfl
  | l :: r, i + 1, j, h, hi, hj => by
    have hl := h l (List.mem_cons_self ..)
    have e : flatS (l :: r) = l.map (Value.int .u8) ++ flatS r := by unfold flatS; rw [List.flatMap_cons]
    have hm : (l.map (Value.int .u8)).length = 32 := by rw [List.length_map, hl]
    rw [e, List.getElem?_append_right (by rw [hm]; omega), hm, show (i + 1) * 32 + j - 32 = i * 32 + j by omega, flatS_get r i j (fun x hx => h x (List.mem_cons_of_mem _ hx)) (by simp at hi; omega) hj]
    rfl
end Go.Proofs.Ytbjmadcbhkeenaa.ck
