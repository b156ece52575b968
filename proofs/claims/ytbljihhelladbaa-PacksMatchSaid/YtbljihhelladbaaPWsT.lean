/-
  Contracts of slices.EqualFunc at slices of octets and of wrap.OpenPack. Conditions: slices that lie in memory; a pack of at most 2^40 octets.
-/
import Derived.Test.YtbljihhelladbaaPWsS
import Derived.Test.YtbljihhelladbaaPWsK
import Derived.Test.YtbljihhelladbaaPWsH
namespace Go.Proofs.Ytbljihhelladbaa.wr
open Go.RowKit Go.Proofs.Ytbljihhelladbaa.st Go.Proofs.Ytbljihhelladbaa.hs Go.Proofs.Ytbljihhelladbaa.shr Go.Proofs.Ytbljihhelladbaa.sh
set_option linter.unusedSimpArgs false
set_option linter.unusedVariables false
set_option pp.maxSteps 6000
theorem results_cell3 {fn : Func} {c u v : Tmp} {t : TypeId} (h : fn.results = #[.cell c t, .tmp u, .tmp v]) (tmps : Array Value) (P : Program) (w : World) (p : Addr) (hp : tmps.getD c undef = .pointer (some p)) (cs : List Value) (ha : Agg P t cs.length) (hc : At w p cs) :
    (results fn tmps).run P w = .ok (.tuple #[.agg cs.toArray, tmps.getD u undef, tmps.getD v undef]) w := by
  rw [Array.getD_eq_getD_getElem?] at hp
  simp [results, h, hp, run_load_agg w t p cs ha hc, asAddr]
def hitB (k l : List Int) : Bool := (readX l).b == nameL k
def findH (k : List Int) : List (List Int) → Nat → Option Nat
  | [], _ => none
  | l :: r, i => if hitB k l = true then some i else findH k r (i + 1)
theorem findH_drop (k : List Int) (ls : List (List Int)) (j : Nat) (hj : j < ls.length) : findH k (ls.drop j) j = if hitB k ls[j] = true then some j else findH k (ls.drop (j + 1)) (j + 1) := by
  rw [List.drop_eq_getElem_cons hj, findH]
/-- what OpenPack answers: the error, the secret, the number -/
def opE (k b c : List Int) : Int := if 4096 < c.length then 5 else if unE b ≠ 0 then unE b else match findH k (unP b) 0 with
  | none => 7
  | some i => unwrapE k ((unP b).getD i []) c
def opS (k b c : List Int) : List Int := if opE k b c = 0 then match findH k (unP b) 0 with
  | none => []
  | some i => unwrapS k ((unP b).getD i []) c
  else List.replicate 32 0
def opI (k b c : List Int) : Nat := if opE k b c = 0 then match findH k (unP b) 0 with
  | none => 0
  | some i => i
  else 0
def opV (k b c : List Int) : Value := .tuple #[.agg ((opS k b c).map (Value.int .u8)).toArray, .int .i64 (opI k b c), .int .i64 (opE k b c)]
theorem opV_bad {k b c : List Int} {e : Int} (h : opE k b c = e) (h0 : e ≠ 0) : opV k b c = .tuple #[.agg ((List.replicate 32 (0 : Int)).map (Value.int .u8)).toArray, .int .i64 0, .int .i64 e] := by
  have hn : ¬ opE k b c = 0 := by rw [h]; exact h0
  unfold opV opS opI; rw [if_neg hn, if_neg hn, h]; rfl
theorem opE_large {k b c : List Int} (h : 4096 < c.length) : opE k b c = 5 := by unfold opE; rw [if_pos h]
theorem opE_un {k b c : List Int} (h : ¬ 4096 < c.length) (h2 : unE b ≠ 0) : opE k b c = unE b := by unfold opE; rw [if_neg h, if_pos h2]
theorem opE_none {k b c : List Int} (h : ¬ 4096 < c.length) (h2 : unE b = 0) (h3 : findH k (unP b) 0 = none) : opE k b c = 7 := by unfold opE; rw [if_neg h, if_neg (fun g => g h2), h3]
theorem opE_some {k b c : List Int} {i : Nat} (h : ¬ 4096 < c.length) (h2 : unE b = 0) (h3 : findH k (unP b) 0 = some i) : opE k b c = unwrapE k ((unP b).getD i []) c := by unfold opE; rw [if_neg h, if_neg (fun g => g h2), h3]
theorem opV_some {k b c : List Int} {i : Nat} (h : ¬ 4096 < c.length) (h2 : unE b = 0) (h3 : findH k (unP b) 0 = some i) (h4 : unwrapE k ((unP b).getD i []) c = 0) : opV k b c = .tuple #[.agg ((unwrapS k ((unP b).getD i []) c).map (Value.int .u8)).toArray, .int .i64 i, .int .i64 0] := by
  have hE : opE k b c = 0 := by rw [opE_some h h2 h3, h4]
  unfold opV opS opI; rw [if_pos hE, if_pos hE, h3, hE]
/-- parts that were read without fault -/
theorem unE_parts {b : List Int} (h : unE b = 0) : packE (unP b) = 0 := by
  have h0 := h
  unfold unE at h
  split at h
  · cases h
  · split at h
    · cases h
    · unfold unP; rw [if_pos h0]
      unfold unF at h; unfold unQ
      split at h
      · cases h
      · split at h
        · cases h
        · exact h
theorem fitsB_hit {k l : List Int} (h : readE l = 0) : fitsB k l = hitB k l := by unfold fitsB hitB; rw [h]; rfl
set_option maxRecDepth 100000 in
set_option maxHeartbeats 4000000 in
theorem EqualFunc_any (po qo : Option Addr) (n m c d : Nat) (ps qs : List Pt) (w : World) (hn : n = ps.length) (hm : m = qs.length) (hnm : n ≤ 9223372036854775807) (hrp : RowV w po (ps.map Pt.v)) (hrq : RowV w qo (qs.map Pt.v)) (hp : ∀ x ∈ ps, x.Ok w) (hq : ∀ x ∈ qs, x.Ok w) :
    Calls Try.prog 83 #[.slice po n c, .slice qo m d, .func (.func 44) #[] #[]] w fun e w' => e = .returned (.bool (decide (ps.map Pt.l = qs.map Pt.l))) ∧ w = w' := by
  by_cases hl : n = m
  · have hI : (n : Int) = (m : Int) := by omega
    subst hl
    have HN := hid hn
    have HM := hid hm
    clear hn hm
    go_enter Try.func83, Try.ntmps83
    go_wp2
    go_loopw [17] (fun i wr => ∃ j : Nat, j ≤ n ∧ i = .int .i64 j ∧ wr = w ∧ Hid (∀ k, k < j → (ps.map Pt.l)[k]? = (qs.map Pt.l)[k]?)) (fun i _ => n - (intOf i).toNat)
    case atStart => exact ⟨0, by omega, rfl, rfl, fun k hk => absurd hk (Nat.not_lt_zero _)⟩
    case round =>
      obtain ⟨j, hj, rfl, rfl, HK⟩ := hrel
      by_cases hjn : j < n
      · have hjI : (j : Int) < (n : Int) := by omega
        have hjp : j < ps.length := by have := HN.out; omega
        have hjq : j < qs.length := by have := HM.out; omega
        have hjm : j < (ps.map Pt.v).length := by rw [List.length_map]; exact hjp
        have hjm2 : j < (qs.map Pt.v).length := by rw [List.length_map]; exact hjq
        obtain ⟨b1, o1, rfl, hb1, hc1⟩ := hrp.resolve_left (by intro e; rw [e] at hjm; cases hjm)
        obtain ⟨b2, o2, rfl, hb2, hc2⟩ := hrq.resolve_left (by intro e; rw [e] at hjm2; cases hjm2)
        have hx := hp ps[j] (List.getElem_mem hjp)
        have hy := hq qs[j] (List.getElem_mem hjq)
        have c1 := hc1 j _ (List.getElem?_eq_getElem hjm)
        have c2 := hc2 j _ (List.getElem?_eq_getElem hjm2)
        rw [List.getElem_map] at c1 c2
        have HPj : Hid ((ps.map Pt.l)[j]? = some ps[j].l) := hid (by rw [List.getElem?_map, List.getElem?_eq_getElem hjp]; rfl)
        have HQj : Hid ((qs.map Pt.l)[j]? = some qs[j].l) := hid (by rw [List.getElem?_map, List.getElem?_eq_getElem hjq]; rfl)
        generalize ps[j] = x at *
        generalize qs[j] = y at *
        obtain ⟨xa, xc, xl⟩ := x
        obtain ⟨ya, yc, yl⟩ := y
        have heq := hid (Equal_any xa ya xc yc xl.length yl.length xl yl wr rfl rfl hx.row hy.row hx.oct hy.oct)
        unfold Pt.v at c1 c2
        dsimp only at c1 c2 HPj HQj
        obtain ⟨mx, HMX⟩ : ∃ m, Hid (m = xl.length) := ⟨_, rfl⟩
        obtain ⟨my, HMY⟩ : ∃ m, Hid (m = yl.length) := ⟨_, rfl⟩
        rw [← HMX.out, ← HMY.out] at heq
        rw [← HMX.out] at c1
        rw [← HMY.out] at c2
        clear hc1 hc2 hx hy hjm hjm2
        by_cases he : xl = yl
        · have hd : decide (xl = yl) = true := decide_eq_true he
          rw [hd] at heq
          have HE := hid he
          clear hd he
          go_wp2_with (go_at_call 44; refine heq.out.mono ?_; rintro e w1 ⟨rfl, rfl⟩)
          go_roundw
          case rel => exact ⟨j + 1, by omega, by go_num, by trivial, fun k hk => by
            by_cases e : k = j
            · rw [e, HPj.out, HQj.out, HE.out]
            · exact HK.out k (by omega)⟩
          case measure => simp [intOf] <;> omega
        · have hd : decide (xl = yl) = false := decide_eq_false he
          rw [hd] at heq
          have HE := hid he
          clear hd he
          go_wp2_with (go_at_call 44; refine heq.out.mono ?_; rintro e w1 ⟨rfl, rfl⟩)
          go_ret
          refine ⟨rv (rb ?_), rfl⟩
          symm
          refine decide_eq_false fun e => HE.out ?_
          have h1 := HPj.out
          rw [e, HQj.out] at h1
          exact (Option.some.inj h1).symm
      · obtain rfl : j = n := by omega
        go_wp2
        go_ret
        refine ⟨rv (rb ?_), rfl⟩
        symm
        refine decide_eq_true (List.ext_getElem? fun k => ?_)
        by_cases hk : k < j
        · exact HK.out k hk
        · rw [List.getElem?_eq_none (by rw [List.length_map, ← HN.out]; omega), List.getElem?_eq_none (by rw [List.length_map, ← HM.out]; omega)]
  · have hI : ¬ (n : Int) = (m : Int) := by omega
    have HD : Hid (decide (ps.map Pt.l = qs.map Pt.l) = false) := hid (decide_eq_false fun e => hl (by have := congrArg List.length e; rw [List.length_map, List.length_map] at this; omega))
    clear hn hm hl
    go_enter Try.func83, Try.ntmps83
    go_wp2
    go_ret
    exact ⟨rv (rb HD.out.symm), rfl⟩
set_option maxRecDepth 100000 in
set_option maxHeartbeats 4000000 in
theorem OpenPack_L (k b c : List Int) (bo : Option Addr) (bc n : Nat) (ao : Option Addr) (cap mc : Nat) (w : World) (hk : k.length = 32) (ok : Octs k) (hn : n = b.length) (HL : Pt.Ok w ⟨bo, bc, b⟩) (hmc : mc = c.length) (HP : Pt.Ok w ⟨ao, cap, c⟩) (hno : ao = none → cap = 0) (hmx : n ≤ 9223372036854775807) (h1 : 4096 < c.length) :
    Calls Try.prog 147 #[.agg (k.map (Value.int .u8)).toArray, .slice bo n bc, .slice ao mc cap] w fun r w' => r = .returned (opV k b c) ∧ Below w.heap.size w w' := by
  obtain ⟨B, HB⟩ : ∃ B, Hid (B = w.heap.size) := ⟨_, rfl⟩
  have hsz : w.heap.size = B := HB.out.symm
  have hml := HP.cap
  obtain ⟨Z, HZ⟩ : ∃ Z, Hid (Z = (List.replicate 32 (0 : Int)).map (Value.int .u8)) := ⟨_, rfl⟩
  have hzK := hid zeroKey
  have HBK : Hid (Try.prog.built 23 [] = some ((List.replicate 32 (0 : Int)).map (Value.int .u8)).toArray) := hid (by kernel_rfl)
  rw [← HZ.out] at hzK HBK
  have hZl : Z.length = 32 := by rw [HZ.out]; simp
  have hZ1 : ∀ u ∈ Z, u.oneCell' = true := by rw [HZ.out]; exact ints_one _ _
  rw [opV_bad (opE_large h1) (by decide), ← HZ.out]
  obtain ⟨K, HK⟩ : ∃ K, Hid (K = k.map (Value.int .u8)) := ⟨_, rfl⟩
  have hKl : K.length = 32 := by rw [HK.out, List.length_map, hk]
  have hmI : (4096 : Int) < (mc : Int) := by omega
  rw [← HK.out] at ⊢
  clear hk hn HL hmc HP h1 hml
  go_enter Try.func147, Try.ntmps147
  go_wp2_with (first | (refine wl_storeV rfl 23 _ _ rfl 23 (B + 1) rfl Z rfl 32 aggKey hZl Z hR1 hZl hZ1 ?_; intro wF hRF hbF hsF; have bbF := bb1.trans (hbF.mono (by omega : B ≤ _)); clear hR1) | (refine wl_build0 rfl 23 rfl Z HBK.out ?_) | (refine wl_allocV rfl 23 rfl Z hzK.out (B + 1) hs0 ?_; intro w1 hR1 hb1 hs1; have hB1 := hB0.below hb1 (by omega); have bb1 := hb0.trans (hb1.mono (by omega : B ≤ _)); clear hB0 hb0) | (refine wl_boxV rfl 23 _ rfl K rfl B hsz ?_; intro w0 hB0 hb0 hs0))
  (try simp only [Exit.inBlock, Exit.then]); refine bodyPost_ret (results_cell3 rfl _ _ _ _ rfl Z (by rw [hZl]; exact aggKey) hRF.at0) rfl ?_
  exact ⟨rfl, by rw [← HB.out]; exact bbF⟩
set_option maxRecDepth 100000 in
set_option maxHeartbeats 4000000 in
theorem OpenPack_R (k b c : List Int) (bo : Option Addr) (bc n : Nat) (ao : Option Addr) (cap mc : Nat) (w : World) (hk : k.length = 32) (ok : Octs k) (hn : n = b.length) (HL : Pt.Ok w ⟨bo, bc, b⟩) (hmc : mc = c.length) (HP : Pt.Ok w ⟨ao, cap, c⟩) (hno : ao = none → cap = 0) (hmx : n ≤ 9223372036854775807) (h1 : ¬ 4096 < c.length) (h2 : unE b ≠ 0) :
    Calls Try.prog 147 #[.agg (k.map (Value.int .u8)).toArray, .slice bo n bc, .slice ao mc cap] w fun r w' => r = .returned (opV k b c) ∧ Below w.heap.size w w' := by
  obtain ⟨B, HB⟩ : ∃ B, Hid (B = w.heap.size) := ⟨_, rfl⟩
  have hsz : w.heap.size = B := HB.out.symm
  have hml := HP.cap
  obtain ⟨Z, HZ⟩ : ∃ Z, Hid (Z = (List.replicate 32 (0 : Int)).map (Value.int .u8)) := ⟨_, rfl⟩
  have hzK := hid zeroKey
  have HBK : Hid (Try.prog.built 23 [] = some ((List.replicate 32 (0 : Int)).map (Value.int .u8)).toArray) := hid (by kernel_rfl)
  rw [← HZ.out] at hzK HBK
  have hZl : Z.length = 32 := by rw [HZ.out]; simp
  have hZ1 : ∀ u ∈ Z, u.oneCell' = true := by rw [HZ.out]; exact ints_one _ _
  rw [opV_bad (opE_un h1 h2) h2, ← HZ.out]
  obtain ⟨K, HK⟩ : ∃ K, Hid (K = k.map (Value.int .u8)) := ⟨_, rfl⟩
  have hKl : K.length = 32 := by rw [HK.out, List.length_map, hk]
  have hmI : ¬ (4096 : Int) < (mc : Int) := by omega
  have hun := fun (y : World) (hb : Below B w y) => hid (Unpack_any bo bc n b y hn (HL.below (hsz ▸ hb)) hmx)
  unfold UnPost at hun
  obtain ⟨e, He⟩ : ∃ e, Hid (e = unE b) := ⟨_, rfl⟩
  rw [← He.out] at h2 ⊢
  simp only [← He.out] at hun
  rw [← HK.out] at ⊢
  clear hk hn HL hmc HP h1 hml
  go_enter Try.func147, Try.ntmps147
  go_wp2_with (first | (refine wl_storeV rfl 23 _ _ rfl 23 (B + 1) rfl Z rfl 32 aggKey hZl Z hR2 hZl hZ1 ?_; intro wF hRF hbF hsF; have bbF := bb2.trans (hbF.mono (by omega : B ≤ _)); clear hR2) | (refine wl_build0 rfl 23 rfl Z HBK.out ?_) | (go_at_call 82; refine (hun w1 bb1).out.mono ?_; rintro r w2 ⟨hb2, ps, po, np, cp, rfl, HNP, HPL, hRW, hOK⟩; have hB2 := hB1.below hb2 hB1.lt; have hR2 := hR1.below hb2 hR1.lt; have bb2 := bb1.trans (hb2.mono (by omega : B ≤ _)); have hs2 : B + 2 ≤ w2.heap.size := (by have := hb2.size; omega); clear hB1 hR1 bb1 hb2) | (refine wl_allocV rfl 23 rfl Z hzK.out (B + 1) hs0 ?_; intro w1 hR1 hb1 hs1; have hB1 := hB0.below hb1 (by omega); have bb1 := hb0.trans (hb1.mono (by omega : B ≤ _)); clear hB0 hb0) | (refine wl_boxV rfl 23 _ rfl K rfl B hsz ?_; intro w0 hB0 hb0 hs0))
  (try simp only [Exit.inBlock, Exit.then]); refine bodyPost_ret (results_cell3 rfl _ _ _ _ rfl Z (by rw [hZl]; exact aggKey) hRF.at0) rfl ?_
  exact ⟨rfl, by rw [← HB.out]; exact bbF⟩
set_option maxRecDepth 100000 in
set_option maxHeartbeats 4000000 in
theorem OpenPack_O (k b c : List Int) (bo : Option Addr) (bc n : Nat) (ao : Option Addr) (cap mc : Nat) (w : World) (hk : k.length = 32) (ok : Octs k) (hn : n = b.length) (HL : Pt.Ok w ⟨bo, bc, b⟩) (hmc : mc = c.length) (HP : Pt.Ok w ⟨ao, cap, c⟩) (hno : ao = none → cap = 0) (hmx : n ≤ 9223372036854775807) (h1 : ¬ 4096 < c.length) (h2 : unE b = 0) :
    Calls Try.prog 147 #[.agg (k.map (Value.int .u8)).toArray, .slice bo n bc, .slice ao mc cap] w fun r w' => r = .returned (opV k b c) ∧ Below w.heap.size w w' := by
  obtain ⟨B, HB⟩ : ∃ B, Hid (B = w.heap.size) := ⟨_, rfl⟩
  have hsz : w.heap.size = B := HB.out.symm
  have hml := HP.cap
  obtain ⟨Z, HZ⟩ : ∃ Z, Hid (Z = (List.replicate 32 (0 : Int)).map (Value.int .u8)) := ⟨_, rfl⟩
  have hzK := hid zeroKey
  have HBK : Hid (Try.prog.built 23 [] = some ((List.replicate 32 (0 : Int)).map (Value.int .u8)).toArray) := hid (by kernel_rfl)
  rw [← HZ.out] at hzK HBK
  have hZl : Z.length = 32 := by rw [HZ.out]; simp
  have hZ1 : ∀ u ∈ Z, u.oneCell' = true := by rw [HZ.out]; exact ints_one _ _
  obtain ⟨K, HK⟩ : ∃ K, Hid (K = k.map (Value.int .u8)) := ⟨_, rfl⟩
  have hKl : K.length = 32 := by rw [HK.out, List.length_map, hk]
  have hmI : ¬ (4096 : Int) < (mc : Int) := by omega
  have hun := fun (y : World) (hb : Below B w y) => hid (Unpack_any bo bc n b y hn (HL.below (hsz ▸ hb)) hmx)
  unfold UnPost at hun
  rw [h2] at hun
  obtain ⟨LS, HLS⟩ : ∃ LS, Hid (LS = unP b) := ⟨_, rfl⟩
  have hpz := packE_zero (unE_parts h2)
  have HR0 : Hid (∀ l ∈ unP b, readE l = 0) := hid hpz.2.2.1
  have HLN : Hid ((unP b).length ≤ 100) := hid hpz.2.1
  have HP0 := HP
  have H1 := hid h1
  have H2 := hid h2
  have HKK := hid hk
  have HMC := hid hmc
  rw [← HK.out]
  clear hk hn HL hmc HP h1 hml hpz h2
  go_enter Try.func147, Try.ntmps147
  go_wp2_with (first | (go_at_call 82; refine (hun w1 bb1).out.mono ?_; rintro r w2 ⟨hb2, ps, po, np, cp, rfl, HNP, HPL, hRW, hOK⟩; have hB2 := hB1.below hb2 hB1.lt; have hR2 := hR1.below hb2 hR1.lt; have bb2 := bb1.trans (hb2.mono (by omega : B ≤ _)); have hs2 : B + 2 ≤ w2.heap.size := (by have := hb2.size; omega); clear hB1 hR1 bb1 hb2) | (refine wl_allocV rfl 23 rfl Z hzK.out (B + 1) hs0 ?_; intro w1 hR1 hb1 hs1; have hB1 := hB0.below hb1 (by omega); have bb1 := hb0.trans (hb1.mono (by omega : B ≤ _)); clear hB0 hb0) | (refine wl_boxV rfl 23 _ rfl K rfl B hsz ?_; intro w0 hB0 hb0 hs0))
  have hnp : np ≤ 100 := by
    have h1 := congrArg List.length HPL.out
    rw [List.length_map] at h1
    have := HNP.out; have := HLN.out; omega
  have HB2s : Below B w w2 := bb2
  go_loopw [32] (fun i wr => ∃ j : Nat, j ≤ np ∧ i = .int .i64 j ∧ BlkV 23 wr B K ∧ BlkV 23 wr (B + 1) Z ∧ Below B w wr ∧ Below w2.heap.size w2 wr ∧ Hid (findH k ((unP b).drop j) j = findH k (unP b) 0)) (fun i _ => np - (intOf i).toNat)
  case atStart => exact ⟨0, by omega, rfl, hB2, hR2, bb2, Below.refl _ _, rfl⟩
  case round =>
    clear hB2 hR2 bb2
    obtain ⟨j, hj, rfl, hB, hR, hb, hb2r, HF⟩ := hrel
    by_cases hjn : j < np
    · have hjI : (j : Int) < (np : Int) := by omega
      have hjp : j < ps.length := by have := HNP.out; omega
      have hjm : j < (ps.map Pt.v).length := by rw [List.length_map]; exact hjp
      have hRWr := hRW.below hb2r
      obtain ⟨b1, o1, rfl, hb1', hc1⟩ := hRWr.resolve_left (by intro e; rw [e] at hjm; cases hjm)
      have hx := (hOK ps[j] (List.getElem_mem hjp)).below hb2r
      have c1 := hc1 j _ (List.getElem?_eq_getElem hjm)
      rw [List.getElem_map] at c1
      have hjU : j < (unP b).length := by rw [← HPL.out, List.length_map]; exact hjp
      have HPj : Hid ((unP b)[j] = ps[j].l) := hid (by
        have e : (unP b)[j]? = some ps[j].l := by rw [← HPL.out, List.getElem?_map, List.getElem?_eq_getElem hjp]; rfl
        rw [List.getElem?_eq_getElem hjU] at e; exact Option.some.inj e)
      have HFD := HF.out
      rw [findH_drop k _ j hjU, HPj.out] at HFD
      have HRE : Hid (readE ps[j].l = 0) := hid (by rw [← HPj.out]; exact HR0.out _ (List.getElem_mem hjU))
      have HGD : Hid ((unP b).getD j [] = ps[j].l) := hid (by rw [getD_lt' _ [] hjU, HPj.out])
      generalize ps[j] = x at *
      obtain ⟨xa, xc, xl⟩ := x
      dsimp only at HFD HRE HGD
      have hft := Fits_any k xl xa xc xl.length wr HKK.out ok rfl hx
      have huw := fun (y : World) (h : Below wr.heap.size wr y) => hid (Unwrap_any k xl c xa xc xl.length ao cap mc y HKK.out ok rfl (hx.below h) HMC.out (HP0.below (by rw [hsz]; exact hb.trans (h.mono (by have := hb.size; omega)))) hno)
      unfold Pt.v at c1
      dsimp only at c1
      obtain ⟨mx, HMX⟩ : ∃ m, Hid (m = xl.length) := ⟨_, rfl⟩
      rw [← HMX.out] at c1 hft huw
      unfold fitsV at hft
      rw [fitsB_hit HRE.out, HRE.out, ← HK.out] at hft
      rw [← HK.out] at huw
      unfold unwrapV at huw
      cases hh : hitB k xl
      · rw [hh, if_neg (by decide)] at HFD
        rw [hh] at hft
        have hft := hid hft
        have HFN := hid HFD
        clear HFD hh hc1 hjm HF HPj hx
        go_wp2_with (first | (go_at_call 191; refine hft.out.mono ?_; rintro r w3 ⟨rfl, hb3⟩; have hB3 := hB.below hb3 hB.lt; have hR3 := hR.below hb3 hR.lt; have bb3 := hb.trans (hb3.mono (by have := hR.lt; omega : B ≤ _))) | (refine wl_load rfl 23 _ rfl ⟨B, 0, none⟩ rfl K (by rw [hKl]; exact aggKey) hB.at0 ?_))
        go_roundw
        case rel => exact ⟨j + 1, by omega, by go_num, hB3, hR3, bb3, hb2r.trans (hb3.mono hb2r.size), HFN⟩
        case measure => simp [intOf] <;> omega
      · rw [hh, if_pos rfl] at HFD
        rw [hh] at hft
        have hft := hid hft
        by_cases hu : unwrapE k xl c = 0
        · have HV : Hid (opV k b c = .tuple #[.agg ((unwrapS k xl c).map (Value.int .u8)).toArray, .int .i64 j, .int .i64 0]) := hid (by
            rw [opV_some H1.out H2.out HFD.symm (by rw [HGD.out]; exact hu), HGD.out])
          rw [hu] at huw
          obtain ⟨S, HS⟩ : ∃ S, Hid (S = (unwrapS k xl c).map (Value.int .u8)) := ⟨_, rfl⟩
          have hSl : S.length = 32 := by rw [HS.out, List.length_map]; unfold unwrapS; rw [if_pos hu]; exact secretX_length (readX_ok hx.oct HRE.out)
          have hS1 : ∀ u ∈ S, u.oneCell' = true := by rw [HS.out]; exact ints_one _ _
          rw [← HS.out] at huw
          clear HFD hh hc1 hjm HF HPj hx hu
          go_wp2_with (first | (refine wl_storeV rfl 23 _ _ rfl 23 (B + 1) rfl S rfl 32 aggKey hSl Z hR6 hZl hS1 ?_; intro wF hRF hbF hsF; have bbF := bb6.trans (hbF.mono (by omega : B ≤ _)); clear hR6) | (refine wl_load rfl 23 _ rfl ⟨G, 0, none⟩ rfl S (by rw [hSl]; exact aggKey) hG6.at0 ?_) | (refine wl_storeV rfl 23 _ _ rfl 23 G rfl S rfl 32 aggKey hSl Z hG5 hZl hS1 ?_; intro w6 hG6 hb6 hs6; have hR6 := hR5.below hb6 (by omega); have bb6 := bb5.trans (hb6.mono (by omega : B ≤ _)); clear hR5 bb5 hb6 hG5) | (refine wl_allocV rfl 23 rfl Z hzK.out w4.heap.size rfl ?_; intro w5 hG5 hb5 hs5; obtain ⟨G, HG⟩ : ∃ g, Hid (g = w4.heap.size) := ⟨_, rfl⟩; rw [← HG.out] at hG5 hb5 hs5; rw [← HG.out]; have hGB : B + 2 ≤ G := (by rw [HG.out]; exact hs4); have hR5 := hR4.below hb5 (by omega); have bb5 := bb4.trans (hb5.mono (by omega : B ≤ _)); clear hR4 bb4 hb5) | (go_at_call 192; refine (huw w3 hb3).out.mono ?_; rintro r w4 ⟨rfl, hb4⟩; have hB4 := hB3.below hb4 hB3.lt; have hR4 := hR3.below hb4 hR3.lt; have bb4 := bb3.trans (hb4.mono (by have := hR3.lt; omega : B ≤ _)); have hs4 : B + 2 ≤ w4.heap.size := (by have := hR4.lt; omega); clear hB3 hR3 bb3) | (refine wl_load rfl 23 _ rfl ⟨B, 0, none⟩ rfl K (by rw [hKl]; exact aggKey) hB3.at0 ?_) | (go_at_call 191; refine hft.out.mono ?_; rintro r w3 ⟨rfl, hb3⟩; have hB3 := hB.below hb3 hB.lt; have hR3 := hR.below hb3 hR.lt; have bb3 := hb.trans (hb3.mono (by have := hR.lt; omega : B ≤ _))) | (refine wl_load rfl 23 _ rfl ⟨B, 0, none⟩ rfl K (by rw [hKl]; exact aggKey) hB.at0 ?_))
          (try simp only [Exit.inBlock, Exit.then]); refine bodyPost_ret (results_cell3 rfl _ _ _ _ rfl S (by rw [hSl]; exact aggKey) hRF.at0) rfl ?_
          exact ⟨by rw [HV.out, ← HS.out]; rfl, by rw [← HB.out]; exact bbF⟩
        · obtain ⟨E, HEE⟩ : ∃ E, Hid (E = unwrapE k xl c) := ⟨_, rfl⟩
          have HV : Hid (opV k b c = .tuple #[.agg Z.toArray, .int .i64 0, .int .i64 E]) := hid (by
            rw [HZ.out, HEE.out]
            exact opV_bad (by rw [opE_some H1.out H2.out HFD.symm, HGD.out]) hu)
          have hus : unwrapS k xl c = List.replicate 32 0 := by unfold unwrapS; rw [if_neg hu]
          rw [hus, ← HZ.out, ← HEE.out] at huw
          have hE0 : ¬ E = 0 := by rw [HEE.out]; exact hu
          clear HFD hh hc1 hjm HF HPj hx hu hus
          go_wp2_with (first | (refine wl_storeV rfl 23 _ _ rfl 23 (B + 1) rfl Z rfl 32 aggKey hZl Z hR6 hZl hZ1 ?_; intro wF hRF hbF hsF; have bbF := bb6.trans (hbF.mono (by omega : B ≤ _)); clear hR6) | (refine wl_build0 rfl 23 rfl Z HBK.out ?_) | (refine wl_storeV rfl 23 _ _ rfl 23 G rfl Z rfl 32 aggKey hZl Z hG5 hZl hZ1 ?_; intro w6 hG6 hb6 hs6; have hR6 := hR5.below hb6 (by omega); have bb6 := bb5.trans (hb6.mono (by omega : B ≤ _)); clear hR5 bb5 hb6 hG5) | (refine wl_allocV rfl 23 rfl Z hzK.out w4.heap.size rfl ?_; intro w5 hG5 hb5 hs5; obtain ⟨G, HG⟩ : ∃ g, Hid (g = w4.heap.size) := ⟨_, rfl⟩; rw [← HG.out] at hG5 hb5 hs5; rw [← HG.out]; have hGB : B + 2 ≤ G := (by rw [HG.out]; exact hs4); have hR5 := hR4.below hb5 (by omega); have bb5 := bb4.trans (hb5.mono (by omega : B ≤ _)); clear hR4 bb4 hb5) | (go_at_call 192; refine (huw w3 hb3).out.mono ?_; rintro r w4 ⟨rfl, hb4⟩; have hB4 := hB3.below hb4 hB3.lt; have hR4 := hR3.below hb4 hR3.lt; have bb4 := bb3.trans (hb4.mono (by have := hR3.lt; omega : B ≤ _)); have hs4 : B + 2 ≤ w4.heap.size := (by have := hR4.lt; omega); clear hB3 hR3 bb3) | (refine wl_load rfl 23 _ rfl ⟨B, 0, none⟩ rfl K (by rw [hKl]; exact aggKey) hB3.at0 ?_) | (go_at_call 191; refine hft.out.mono ?_; rintro r w3 ⟨rfl, hb3⟩; have hB3 := hB.below hb3 hB.lt; have hR3 := hR.below hb3 hR.lt; have bb3 := hb.trans (hb3.mono (by have := hR.lt; omega : B ≤ _))) | (refine wl_load rfl 23 _ rfl ⟨B, 0, none⟩ rfl K (by rw [hKl]; exact aggKey) hB.at0 ?_))
          (try simp only [Exit.inBlock, Exit.then]); refine bodyPost_ret (results_cell3 rfl _ _ _ _ rfl Z (by rw [hZl]; exact aggKey) hRF.at0) rfl ?_
          exact ⟨by rw [HV.out]; rfl, by rw [← HB.out]; exact bbF⟩
    · obtain rfl : j = np := by omega
      have hlen : (unP b).length = j := by rw [← HPL.out, List.length_map]; exact HNP.out.symm
      have HV : Hid (opV k b c = .tuple #[.agg Z.toArray, .int .i64 0, .int .i64 7]) := hid (by
        rw [HZ.out]
        exact opV_bad (opE_none H1.out H2.out (by rw [← HF.out, List.drop_of_length_le (by omega)]; rfl)) (by decide))
      clear hlen
      go_wp2_with (first | (refine wl_storeV rfl 23 _ _ rfl 23 (B + 1) rfl Z rfl 32 aggKey hZl Z hR hZl hZ1 ?_; intro wF hRF hbF hsF; have bbF := hb.trans (hbF.mono (by omega : B ≤ _)); clear hR) | (refine wl_build0 rfl 23 rfl Z HBK.out ?_))
      (try simp only [Exit.inBlock, Exit.then]); refine bodyPost_ret (results_cell3 rfl _ _ _ _ rfl Z (by rw [hZl]; exact aggKey) hRF.at0) rfl ?_
      exact ⟨by rw [HV.out]; rfl, by rw [← HB.out]; exact bbF⟩
theorem OpenPack_any (k b c : List Int) (bo : Option Addr) (bc n : Nat) (ao : Option Addr) (cap mc : Nat) (w : World) (hk : k.length = 32) (ok : Octs k) (hn : n = b.length) (HL : Pt.Ok w ⟨bo, bc, b⟩) (hmc : mc = c.length) (HP : Pt.Ok w ⟨ao, cap, c⟩) (hno : ao = none → cap = 0) (hmx : n ≤ 9223372036854775807) :
    Calls Try.prog 147 #[.agg (k.map (Value.int .u8)).toArray, .slice bo n bc, .slice ao mc cap] w fun r w' => r = .returned (opV k b c) ∧ Below w.heap.size w w' := by
  by_cases h1 : 4096 < c.length
  · exact OpenPack_L k b c bo bc n ao cap mc w hk ok hn HL hmc HP hno hmx h1
  · by_cases h2 : unE b = 0
    · exact OpenPack_O k b c bo bc n ao cap mc w hk ok hn HL hmc HP hno hmx h1 h2
    · exact OpenPack_R k b c bo bc n ao cap mc w hk ok hn HL hmc HP hno hmx h1 h2
end Go.Proofs.Ytbljihhelladbaa.wr
