/-
  Contract of keyref2.MendOf. Conditions: good shares of the type's form, at most 32. FaultsAreFound, plain: what Mend answers is what the choice answers. Conditions: good shares. The law FaultsAreFound: slices.Equal at IDs that are the same. Conditions: shares of the type's form.
-/
import Derived.Test.YtbljihhelladbaaFGsN
import Derived.Test.YtbljihhelladbaaFShH
import Derived.Test.YtbljihhelladbaaFSmA
namespace Go.Proofs.Ytbljihhelladbaa.gs
open Go.RowKit Go.Proofs.Ytbljihhelladbaa.Fld Go.Proofs.Ytbljihhelladbaa.sh Go.Proofs.Ytbljihhelladbaa.shr Go.Proofs.Ytbljihhelladbaa.slInt
open Go.Proofs.Ytbljihhelladbaa.wr (wl_box1)
set_option linter.unusedSimpArgs false
set_option linter.unusedVariables false
set_option pp.maxSteps 6000
theorem wl_alloc1 {P : Program} {w : World} {ops : Array Oper} {rest : List Oper} {o : Oper} {a : Act} {Q : Exit → Act → World → Prop} (hgd : o.guard = none) (t : TypeId) (ho : o.op = .alloc t)
    (v : Value) (hv : v.cells = #[v]) (hz : (P.info? t).map (·.zero) = some (some v)) (N : Nat) (hN : w.heap.size = N)
    (h : ∀ w', BlkV t w' N [v] → Below N w w' → w'.heap.size = N + 1 → wpList P ops Q rest (a.put o.dst (.pointer (some ⟨N, 0, none⟩))) w') : wpList P ops Q (o :: rest) a w := by
  subst hN
  obtain ⟨i, hi, hzz⟩ := Option.map_eq_some_iff.1 hz
  refine wpList_plain hgd fun K hK' => ?_
  unfold Oper.wp
  simp [execOp, ho, Instr.alloc, zeroValue, typeInfo, hi, hzz, newVar, newRow, hv, Result.andThen]
  exact hK' _ _ (h _ (BlkV.new t w [v] rfl) ((Below.refl _ _).alloc (Nat.le_refl _) _) (by simp))
def pickR (m : Nat) (l : List Sh) : Option (List Sh) := pickGo l ((l.length - m) / 2) m 0 []
def refE (m : Nat) (l : List Sh) : Int := match pickR m l with | none => 20 | some b => secretE b
def refK (m : Nat) (l : List Sh) : List Int := match pickR m l with | none => List.replicate 32 0 | some b => secretOf b
def refB (m : Nat) (l : List Sh) : List Sh := match pickR m l with | none => [] | some b => if secretE b = 0 then liarsB b l else []
def RefPost (m : Nat) (l : List Sh) (w : World) (e : Ending) (w' : World) : Prop := Below w.heap.size w w' ∧ ∃ v, e = .returned (.tuple #[.agg ((refK m l).map (Value.int .u8)).toArray, v, .int .i64 (refE m l)]) ∧ Mine w' w.heap.size 57 16 v (refB m l).length (flatID (refB m l))
theorem liarsB_snoc (b l : List Sh) (k : Nat) (hk : k < l.length) : liarsB b (l.take (k + 1)) = liarsB b (l.take k) ++ if liesB b (l.getD k nil) = true then [] else [l.getD k nil] := by
  unfold liarsB
  rw [List.take_succ_eq_append_getElem hk, List.filter_append, getD_lt' l nil hk]
  congr 1
  cases h : liesB b l[k] <;> simp [h]
theorem pick_sub (l : List Sh) (wg : Nat) : ∀ (d i : Nat) (by_ b : List Sh), pickGo l wg d i by_ = some b → by_.Sublist (l.take i) → b.Sublist l ∧ b.length = by_.length + d ∧ (liarsB b l).length ≤ wg := by
  intro d
  induction d with
  | zero =>
    intro i by_ b h hs
    rw [pickGo] at h
    split at h
    · rename_i h1
      cases h
      exact ⟨hs.trans (List.take_sublist _ _), rfl, h1⟩
    · cases h
  | succ d ih =>
    intro i by_ b h hs
    rw [pickGo] at h
    obtain ⟨j, hj, hb⟩ := List.exists_of_findSome?_eq_some h
    rw [List.mem_range'_1] at hj
    have hjl : j < l.length := by omega
    obtain ⟨h1, h2, h3⟩ := ih (j + 1) _ b hb (by
      rw [List.take_succ_eq_append_getElem hjl]
      refine List.Sublist.append (hs.trans (List.take_sublist_take_left hj.1)) ?_
      rw [getD_lt' l nil hjl]
      exact List.Sublist.refl _)
    exact ⟨h1, by rw [h2, List.length_append]; simp; omega, h3⟩
theorem sizeF : (Try.prog.info? 68).map (·.size) = some 1 := by kernel_rfl
set_option maxRecDepth 100000 in
set_option maxHeartbeats 1000000 in
theorem MendOf_any (m n cap : Nat) (ao : Option Addr) (l : List Sh) (w : World) (hnl : n = l.length) (hr : RowS w ao l) (hok : ∀ s ∈ l, s.Ok) (hg : shr.Good l) (hm1 : 1 ≤ m) (hmn : m ≤ n) (hn : n ≤ 32) :
    Calls Try.prog 39 #[.int .i64 m, .slice ao n cap] w (RefPost m l w) := by
  have hmf : ∀ (fn : Fn) (first cap : Array Value) (w : World), (Instr.makeFunc fn first cap).run Try.prog w = .ok (.func fn first cap) w := fun _ _ _ _ => rfl
  obtain ⟨B, HB⟩ : ∃ B, Hid (B = w.heap.size) := ⟨_, rfl⟩
  have hsz : w.heap.size = B := HB.out.symm
  have HOK := hid hok
  have HNL := hid hnl
  obtain ⟨Z, HZ⟩ : ∃ Z, Hid (Z = zero32) := ⟨_, rfl⟩
  have HZ0 := hid zeroKey
  rw [← HZ.out] at HZ0
  have hZl : Z.length = 32 := by rw [HZ.out]; rfl
  have hZ1 : ∀ u ∈ Z, u.oneCell' = true := by rw [HZ.out]; exact ints_one _ _
  have HBU : Hid ((Try.prog.built 23 []) = some Z.toArray) := hid (by rw [HZ.out]; kernel_rfl)
  obtain ⟨NF, HNF'⟩ : ∃ V : Value, Hid (V = .nilFunc) := ⟨_, rfl⟩
  have HNF : Hid ((Try.prog.info? 68).map (·.zero) = some (some NF)) := hid (by rw [HNF'.out]; kernel_rfl)
  have hNFc : NF.cells = #[NF] := by rw [HNF'.out]; rfl
  obtain ⟨wg, HWG⟩ : ∃ wg, Hid (wg = (n - m) / 2) := ⟨_, rfl⟩
  have hdv : ((n : Int) - (m : Int)).tdiv 2 = (wg : Int) := by
    rw [Int.tdiv_eq_ediv_of_nonneg (by omega), HWG.out]; omega
  have hwb : wg ≤ 32 := by rw [HWG.out]; omega
  have hww : RowKit.wrap64 (wg : Int) = (wg : Int) := by unfold RowKit.wrap64; omega
  clear hnl hok
  go_enter Try.func39, Try.ntmps39
  go_wp2_with (first | (refine wl_setV rfl 68 _ _ rfl 68 (B + 5) 0 rfl (fvB B) rfl rfl rfl sizeF [NF] hC6 (by simp) ?_; intro w7 hC7 hg7 hs7; have hN7 := hN6.grown hg7 (by intro e; have := Option.some.inj e; omega); have hL7 := hL6.grown hg7 (by intro e; have := Option.some.inj e; omega); have hR7 := hR6.grown hg7 (by intro e; have := Option.some.inj e; omega); have hK7 := hK6.grown hg7 (by intro e; have := Option.some.inj e; omega); have hF7 := hF6.grown hg7 (by intro e; have := Option.some.inj e; omega); have bb7 : Below B w w7 := bb6.grown hg7 (by omega) (fun k e => by have := Option.some.inj e; omega); have cC7 := hC7.cell 0; unfold fvB caps ptr at cC7) | (refine wl_alloc1 rfl 68 rfl NF hNFc HNF.out (B + 5) hs5 ?_; intro w6 hC6 hb6 hs6; have hN6 := hN5.below hb6 (by omega); have hL6 := hL5.below hb6 (by omega); have hR6 := hR5.below hb6 (by omega); have hK6 := hK5.below hb6 (by omega); have hF6 := hF5.below hb6 (by omega); have bb6 : Below B w w6 := bb5.trans (hb6.mono (by omega)); clear hN5 hL5 hR5 hK5 hF5 bb5 hb6) | (refine wl_alloc1 rfl 47 rfl (.slice none 0 0) rfl (by kernel_rfl) (B + 4) hs4' ?_; intro w5 hF5 hb5 hs5; have hN5 := hN4.below hb5 (by omega); have hL5 := hL4.below hb5 (by omega); have hR5 := hR4.below hb5 (by omega); have hK5 := hK4.below hb5 (by omega); have bb5 : Below B w w5 := bb4.trans (hb5.mono (by omega)); clear hN4 hL4 hR4 hK4 bb4 hb5) | (refine wl_setV rfl 3 _ _ rfl 3 (B + 3) 0 rfl (.int .i64 wg) rfl rfl rfl (by kernel_rfl) [.int .i64 0] hK3 (by simp) ?_; intro w4 hK4 hg4 hs4; have hN4 := hN3.grown hg4 (by intro e; have := Option.some.inj e; omega); have hL4 := hL3.grown hg4 (by intro e; have := Option.some.inj e; omega); have hR4 := hR3.grown hg4 (by intro e; have := Option.some.inj e; omega); have bb4 : Below B w w4 := bb3.grown hg4 (by omega) (fun k e => by have := Option.some.inj e; omega); have hs4' : w4.heap.size = B + 4 := (by omega); clear hN3 hL3 hR3 bb3 hK3 hg4) | (refine wl_alloc1 rfl 3 rfl (.int .i64 0) rfl (by kernel_rfl) (B + 3) hs2 ?_; intro w3 hK3 hb3 hs3; have hN3 := hN2.below hb3 (by omega); have hL3 := hL2.below hb3 (by omega); have hR3 := hR2.below hb3 (by omega); have bb3 : Below B w w3 := bb2.trans (hb3.mono (by omega)); clear hN2 hL2 hR2 bb2 hb3 cL2 cN2) | (refine wl_allocV rfl 23 rfl Z HZ0.out (B + 2) hs1 ?_; intro w2 hR2 hb2 hs2; have hN2 := hN1.below hb2 (by omega); have hL2 := hL1.below hb2 (by omega); have bb2 : Below B w w2 := bb1.trans (hb2.mono (by omega)); have cL2 := hL2.cell 0; have cN2 := hN2.cell 0; clear hN1 hL1 bb1 hb2 cL1 cN1) | (refine wl_box1 rfl 47 _ rfl (.slice ao n cap) rfl rfl (B + 1) hs0 ?_; intro w1 hL1 hb1 hs1; have hN1 := hN0.below hb1 (by omega); have bb1 : Below B w w1 := hb0.trans (hb1.mono (by omega)); have cL1 := hL1.cell 0; have cN1 := hN1.cell 0; clear hN0 hb0 hb1) | (refine wl_box1 rfl 3 _ rfl (.int .i64 m) rfl rfl B hsz ?_; intro w0 hN0 hb0 hs0))
  have hE7 : Env w B w7 m n cap wg ao := ⟨hN7, hL7, hK7, ⟨_, hF7⟩, hC7, bb7⟩
  have hch := choose_any w B m n cap wg ao l hsz HNL.out hn hr HOK.out hg hm1 (by omega) m 0 0 [] 0 none 0 w7 rfl (by omega) rfl (by omega) (List.nil_sublist _) hE7 (Or.inl rfl) (fun a e => by cases e) (fun _ => ⟨rfl, rfl⟩)
  obtain ⟨r, HR⟩ : ∃ r, Hid (r = pickGo l wg m 0 []) := ⟨_, rfl⟩
  rw [← HR.out] at hch
  have HPR : Hid (pickR m l = r) := hid (by unfold pickR; rw [← HNL.out, ← HWG.out, HR.out])
  rw [show (#[.int .i64 0, .slice none 0 0] ++ caps B : Array Value) = #[.int .i64 0, .slice none 0 0, ptr B, ptr (B + 1), ptr (B + 3), ptr (B + 4), ptr (B + 5)] from rfl] at hch
  unfold ptr at hch
  refine hch.mono ?_
  rintro e w8 ⟨rfl, hg8, hf8⟩
  have hR8 := hR7.grown hg8 (by intro e; have := Option.some.inj e; omega)
  have hL8 := hL7.grown hg8 (by intro e; have := Option.some.inj e; omega)
  have bb8 : Below B w w8 := bb7.grown hg8 (by have := bb7.size; omega) (fun k e => by have := Option.some.inj e; omega)
  have hs8 : B + 6 ≤ w8.heap.size := by have := hg8.size; have := hC7.lt; omega
  clear hN7 hL7 hK7 hF7 hC7 bb7 hE7 hch hR7 hg8 hg7
  cases r with
  | none =>
    go_wp2_with (first | (refine wl_storeV rfl 23 _ _ rfl 23 (B + 2) rfl Z rfl 32 aggKey hZl Z hR8 hZl hZ1 ?_; intro wS hS hbS hsS) | (refine wl_build0 rfl 23 rfl Z HBU.out ?_))
    (try simp only [Exit.inBlock, Exit.then]); refine bodyPost_ret (results_c3 rfl _ _ _ _ rfl Z (by rw [hZl]; exact aggKey) hS.at0) rfl ?_
    refine ⟨by rw [hsz]; exact bb8.trans (hbS.mono (by omega)), .slice none 0 0, ?_, ?_⟩
    · unfold refK refE; rw [HPR.out, HZ.out]; rfl
    · unfold refB; rw [HPR.out]; exact Mine.nil _ _ _ _
  | some b =>
    obtain ⟨vf, hF8, hfb⟩ := hf8
    obtain ⟨pb, cb, rfl, hRb, _⟩ := hfb b rfl
    obtain ⟨hbs, hbl, hbw⟩ := pick_sub l wg m 0 [] b HR.out.symm (List.nil_sublist _)
    have hbok : ∀ s ∈ b, s.Ok := fun s hs => HOK.out s (hbs.subset hs)
    have hgb := good_sub hg hbs
    obtain ⟨kb, HKB⟩ : ∃ k, Hid (k = b.length) := ⟨_, rfl⟩
    obtain rfl : m = kb := by rw [HKB.out, hbl]; simp
    rw [← HKB.out] at hF8
    obtain ⟨Gz, HGz⟩ : ∃ g, Hid (g = w8.heap.size) := ⟨_, rfl⟩
    have hGB : B + 6 ≤ Gz := by rw [HGz.out]; exact hs8
    have hse := fun (z : World) (hz : Below Gz w8 z) => hid (SecretOf_any pb cb m b z HKB.out (hRb.below (HGz.out ▸ hz)) hbok hgb (by rw [← HKB.out]; omega))
    have hli := fun (z : World) (hz : Below Gz w8 z) (s : Sh) (hs : s.Ok) (hx : 0 ≤ s.x ∧ s.x ≤ 256) => hid (Lies_any pb cb m b s z HKB.out (hRb.below (HGz.out ▸ hz)) hbok hgb (by rw [← HKB.out]; omega) hs hx)
    obtain ⟨KV, HKV⟩ : ∃ V, Hid (V = (secretOf b).map (Value.int .u8)) := ⟨_, rfl⟩
    obtain ⟨fl, HFL⟩ : ∃ V, Hid (V = faultAt0 b) := ⟨_, rfl⟩
    rw [← HKV.out, ← HFL.out] at hse
    have hKVl : KV.length = 32 := by rw [HKV.out, List.length_map]; unfold secretOf; split <;> simp [secretTo]
    have hKV1 : ∀ u ∈ KV, u.oneCell' = true := by rw [HKV.out]; exact ints_one _ _
    have hSE : Hid (secretE b = if fl = true then 20 else 0) := hid (by unfold secretE; rw [HFL.out])
    have cF8 := hF8.cell 0
    clear hfb hRb hbw hbl
    cases fl with
    | true =>
      go_wp2_with (first | (refine wl_storeV rfl 23 _ _ rfl 23 (B + 2) rfl Z rfl 32 aggKey hZl Z hRB hZl hZ1 ?_; intro wS hS hbS hsS) | (refine wl_build0 rfl 23 rfl Z HBU.out ?_) | (refine wl_storeV rfl 23 _ _ rfl 23 w9.heap.size rfl KV rfl 32 aggKey hKVl Z hA hZl hKV1 ?_; intro wB hC hbB hsB; have hbC := hbA.trans hbB; have hRB := hR9.below hbC (by have := hR9.lt; omega); have bbB : Below B w wB := bb9.trans (hbC.mono (by have := hR9.lt; omega)); clear hR9 bb9 hA) | (refine wl_allocV rfl 23 rfl Z HZ0.out w9.heap.size rfl ?_; intro wA hA hbA hsA) | (go_at_call 35; refine (hse w8 (Below.refl _ _)).out.mono ?_; rintro e w9 ⟨rfl, hb9⟩; have hR9 := hR8.below hb9 hR8.lt; have bb9 : Below B w w9 := bb8.trans (hb9.mono (by omega)); clear hR8 bb8))
      (try simp only [Exit.inBlock, Exit.then]); refine bodyPost_ret (results_c3 rfl _ _ _ _ rfl Z (by rw [hZl]; exact aggKey) hS.at0) rfl ?_
      have h20 : secretE b = 20 := hSE.out
      refine ⟨by rw [hsz]; exact bbB.trans (hbS.mono (by omega)), .slice none 0 0, ?_, ?_⟩
      · unfold refK refE; rw [HPR.out]
        dsimp only
        rw [h20, HZ.out]
        unfold secretOf
        rw [← HFL.out, if_pos rfl]; rfl
      · unfold refB; rw [HPR.out]
        dsimp only
        rw [h20, if_neg (by decide)]; exact Mine.nil _ _ _ _
    | false =>
      go_wp2_with (first | (refine wl_storeV rfl 23 _ _ rfl 23 w9.heap.size rfl KV rfl 32 aggKey hKVl Z hA hZl hKV1 ?_; intro wB hC hbB hsB; have hbC := hbA.trans hbB; have hRB := hR9.below hbC (by have := hR9.lt; omega); have bbB : Below B w wB := bb9.trans (hbC.mono (by have := hR9.lt; omega)); have hz8 : Below Gz w8 wB := (by rw [HGz.out]; exact hb9.trans (hbC.mono hb9.size)); have cLB := (hL8.below hz8 (by omega)).cell 0; have hs9 := hb9.size; clear hR9 bb9 hA hbA hbB) | (refine wl_allocV rfl 23 rfl Z HZ0.out w9.heap.size rfl ?_; intro wA hA hbA hsA) | (go_at_call 35; refine (hse w8 (Below.refl _ _)).out.mono ?_; rintro e w9 ⟨rfl, hb9⟩; have hR9 := hR8.below hb9 hR8.lt; have bb9 : Below B w w9 := bb8.trans (hb9.mono (by omega)); clear hR8 bb8))
      obtain ⟨Gb, HGb⟩ : ∃ g, Hid (g = wB.heap.size) := ⟨_, rfl⟩
      have hGbz : Gz ≤ Gb := by rw [HGb.out]; have := hz8.size; have := HGz.out; omega
      have hFB := hF8.below hz8 (by omega)
      have hM9 : w9.heap.size < Gb := by rw [HGb.out]; exact hC.lt
      have hLB := hL8.below hz8 (by omega)
      go_loopw [12, 35] (fun v i wr => ∃ (k j : Nat) (pa : Option Addr) (pc : Nat) (bs : List Sh), k ≤ n ∧ i = .int .i64 k ∧ v = .slice pa j pc ∧ j ≤ k ∧ Hid (bs.length = j) ∧ Hid (bs = liarsB b (l.take k)) ∧ Mine wr Gb 57 16 (.slice pa j pc) j (flatID bs) ∧ Below Gb wB wr) (fun _ i _ => n - (intOf i).toNat)
      case atStart => exact ⟨0, 0, none, 0, [], by omega, rfl, rfl, by omega, rfl, rfl, Mine.nil _ _ _ _, Below.refl _ _⟩
      case round =>
        obtain ⟨k, j, pa, pc, bs, hk', rfl, rfl, hjk, HBL, HBS, hM, hbz⟩ := hrel
        have hFr := hFB.below hbz (by omega)
        by_cases h0 : k < n
        · have hkI : (k : Int) < (n : Int) := by omega
          have hk0 : (0 : Int) ≤ (k : Int) := by omega
          have hbwr : Below B w wr := bbB.trans (hbz.mono (by omega))
          have hrr := hr.below (hsz ▸ hbwr)
          obtain ⟨b7, off, s, rfl, hbb, HSs, hat⟩ := hrr.elem (i := k) (by rw [← HNL.out]; exact h0)
          have hs : s.Ok := by rw [HSs.out]; exact HOK.out _ (getD_mem l k (by rw [← HNL.out]; exact h0))
          have HCL := hid hs.csl
          have c1 := cs_one s
          have hsx : 0 ≤ s.x ∧ s.x ≤ 256 := by
            have := hg.rx.getD k
            rw [xsOf_getD l k (by rw [← HNL.out]; exact h0), ← HSs.out] at this
            exact this
          obtain ⟨M, HMm⟩ : ∃ M, Hid (wr.heap.size = M) := ⟨_, rfl⟩
          have hGM : Gb ≤ M := by rw [← HMm.out, HGb.out]; exact hbz.size
          obtain ⟨SH, HSH⟩ : ∃ V, Hid (V = s.h.map (Value.int .u8)) := ⟨_, rfl⟩
          have hSHl : SH.length = 16 := by rw [HSH.out, List.length_map]; exact hs.hl
          have hSH1 : ∀ u ∈ SH, u.oneCell' = true := by rw [HSH.out]; exact ints_one _ _
          have HSa : Hid (∀ w (hC : BlkV 61 w M s.cs), At w ⟨M, 0, none⟩ SH) := hid (fun w hC => by rw [HSH.out]; exact at_h hs hC)
          have HSU := hid (liarsB_snoc b l k (by rw [← HNL.out]; exact h0))
          rw [← HBS.out, ← HSs.out] at HSU
          obtain ⟨q, HQ⟩ : ∃ q, Hid (q = liesB b s) := ⟨_, rfl⟩
          rw [← HQ.out] at HSU
          have hlq := fun (z : World) (hz : Below Gb wB z) => hid ((hli z (hz8.trans (hz.mono hGbz)) s hs hsx).out)
          rw [← HQ.out] at hlq
          cases q with
          | true =>
            rw [if_pos rfl, List.append_nil] at HSU
            go_wp2_with (first | (go_at_call 36; refine (hlq wC hbzC).out.mono ?_; rintro e wD ⟨rfl, hbD⟩; have hMD := hMC.belowAll hbD; have hCD := hC7.below hbD hC7.lt; have hbzD : Below Gb wB wD := hbzC.trans (hbD.mono (by have := hC7.lt; omega)); clear hMC hC7 hbzC hFCa) | (refine wl_load rfl 61 _ rfl ⟨M, 0, none⟩ rfl s.cs (by rw [HCL.out]; exact aggS) hCa ?_; clear hCa) | (refine wl_storeV rfl 61 _ _ rfl 61 M rfl s.cs rfl 49 aggS HCL.out sh0.cs hA sh0_len c1 ?_; intro wC hC7 hbC hsC; have hbC' := hbA.trans hbC; have hFC := hFr.below hbC' (by omega); have hFCa := hFC.cell 0; have hbzC : Below Gb wB wC := hbz.trans (hbC'.mono hGM); have hMC := hM.belowAll (HMm.out ▸ hbC'); have hCa := hC7.at0; clear hA hbA hbC hsA hbz hM hFr) | (refine wl_allocV rfl 61 rfl sh0.cs sh0_zero M HMm.out ?_; intro wA hA hbA hsA) | (refine wl_load rfl 61 _ rfl ⟨b7, off + k * 49, none⟩ rfl s.cs (by rw [HCL.out]; exact aggS) hat ?_; clear hat))
            go_roundw
            case rel => exact ⟨k + 1, j, pa, pc, bs, by omega, by go_num, rfl, by omega, HBL, hid HSU.out.symm, hMD, hbzD⟩
            case measure => simp [intOf] <;> omega
          | false =>
            rw [if_neg (by decide)] at HSU
            go_wp2_with (first | (at_builtin; refine wl_appendS rfl _ _ 64 rfl 57 (.agg idZ.toArray) 16 16 Try.underlying64 infoI (by simp [idZ, Value.cells]) (by decide) Gb (.slice pa j pc) j (flatID bs) rfl hME (some ⟨wD.heap.size, 0, none⟩) 1 1 rfl (fun h => by cases h) SH hSHl (RowB.row (t := 57) ⟨SH, hE2, by rw [List.take_length]⟩) hSH1 (by unfold maxLen; omega) (by omega) hsE' (j + 1) rfl ?_; intro pb9 pd w8' row8 hc8 hM8 hr8 hg8 hw8) | (refine wl_slice1 rfl 64 57 _ rfl Try.underlying64 16 idZ (by kernel_rfl) (by simp [idZ]) (by decide) (by decide) SH rfl hSHl wD.heap.size rfl ?_; intro wE hE2 hbE hsE; have hME := hMD.belowAll hbE; have hbzE : Below Gb wB wE := hbzD.trans (hbE.mono (by have := hbzD.size; have := HGb.out; omega)); have hsE' : Gb ≤ wE.heap.size := (by have := hbzE.size; have := HGb.out; omega); clear hMD hbzD) | (refine wl_load rfl 57 _ rfl ⟨M, 0, none⟩ rfl SH (by rw [hSHl]; exact aggI) (HSa.out _ hCD) ?_) | (go_at_call 36; refine (hlq wC hbzC).out.mono ?_; rintro e wD ⟨rfl, hbD⟩; have hMD := hMC.belowAll hbD; have hCD := hC7.below hbD hC7.lt; have hbzD : Below Gb wB wD := hbzC.trans (hbD.mono (by have := hC7.lt; omega)); clear hMC hC7 hbzC hFCa) | (refine wl_load rfl 61 _ rfl ⟨M, 0, none⟩ rfl s.cs (by rw [HCL.out]; exact aggS) hCa ?_; clear hCa) | (refine wl_storeV rfl 61 _ _ rfl 61 M rfl s.cs rfl 49 aggS HCL.out sh0.cs hA sh0_len c1 ?_; intro wC hC7 hbC hsC; have hbC' := hbA.trans hbC; have hFC := hFr.below hbC' (by omega); have hFCa := hFC.cell 0; have hbzC : Below Gb wB wC := hbz.trans (hbC'.mono hGM); have hMC := hM.belowAll (HMm.out ▸ hbC'); have hCa := hC7.at0; clear hA hbA hbC hsA hbz hM hFr) | (refine wl_allocV rfl 61 rfl sh0.cs sh0_zero M HMm.out ?_; intro wA hA hbA hsA) | (refine wl_load rfl 61 _ rfl ⟨b7, off + k * 49, none⟩ rfl s.cs (by rw [HCL.out]; exact aggS) hat ?_; clear hat))
            have hb8' : Below Gb wB w8' := hbzE.grown hg8 hsE' (fun k hk => (hw8 k hk).1)
            go_roundw
            case rel => exact ⟨k + 1, j + 1, pb9, pd, bs ++ [s], by omega, by go_num, rfl, by omega, hid (by rw [List.length_append, HBL.out]; rfl), hid HSU.out.symm, by rw [flatID_snoc, ← HSH.out]; exact hM8, hb8'⟩
            case measure => simp [intOf] <;> omega
        · obtain rfl : n = k := by omega
          rw [List.take_of_length_le (by rw [← HNL.out]; omega)] at HBS
          have hR4 := hRB.below hbz (by omega)
          have hCa := (hC.below hbz (by omega)).at0
          have bb4 : Below B w wr := bbB.trans (hbz.mono (by omega))
          have hs4 : Gb ≤ wr.heap.size := by rw [HGb.out]; exact hbz.size
          go_wp2_with (first | (refine wl_storeW rfl 23 _ _ rfl 23 (B + 2) rfl KV rfl 32 aggKey hKVl Z hR4 hZl hKV1 ?_; intro wS hS hbS hgS hsS) | (refine wl_load rfl 23 _ rfl ⟨w9.heap.size, 0, none⟩ rfl KV (by rw [hKVl]; exact aggKey) hCa ?_; clear hCa))
          (try simp only [Exit.inBlock, Exit.then]); refine bodyPost_ret (results_c3 rfl _ _ _ _ rfl KV (by rw [hKVl]; exact aggKey) hS.at0) rfl ?_
          have h20 : secretE b = 0 := hSE.out
          refine ⟨by rw [hsz]; exact bb4.trans (hbS.mono (by omega)), .slice pa j pc, ?_, ?_⟩
          · unfold refK refE; rw [HPR.out]
            dsimp only
            rw [h20, ← HKV.out]; rfl
          · unfold refB; rw [HPR.out]
            dsimp only
            rw [if_pos h20, ← HBS.out, HBL.out]
            exact (mine_keep hM (fun g h1 h2 => hgS.block g h2 (fun e => by have := Option.some.inj e; omega))).mono (by rw [hsz]; omega)
end Go.Proofs.Ytbljihhelladbaa.gs
namespace Go.Proofs.Ytbljihhelladbaa.gs
open Go.RowKit Go.Proofs.Ytbljihhelladbaa.Fld Go.Proofs.Ytbljihhelladbaa.sh Go.Proofs.Ytbljihhelladbaa.shr
set_option linter.unusedSimpArgs false
set_option linter.unusedVariables false
theorem pick_complete (l : List Sh) (wg : Nat) : ∀ (d : Nat) (k i : Nat) (by_ b : List Sh), l.length - i = k → b.length = d → b.Sublist (l.drop i) → (liarsB (by_ ++ b) l).length ≤ wg → ∃ r, pickGo l wg d i by_ = some r := by
  intro d
  induction d with
  | zero =>
    intro k i by_ b hk hb hs hw
    obtain rfl : b = [] := List.eq_nil_of_length_eq_zero hb
    rw [List.append_nil] at hw
    exact ⟨by_, by rw [pickGo, if_pos hw]⟩
  | succ d ih =>
    intro k
    induction k with
    | zero =>
      intro i by_ b hk hb hs hw
      rw [List.drop_eq_nil_of_le (by omega)] at hs
      rw [List.sublist_nil.1 hs] at hb
      cases hb
    | succ k ihk =>
      intro i by_ b hk hb hs hw
      have hi : i < l.length := by omega
      rw [List.drop_eq_getElem_cons hi] at hs
      rw [pick_step l wg d i by_ hi]
      cases hs with
      | cons _ h =>
        obtain ⟨r, hr⟩ := ihk (i + 1) by_ b (by omega) hb h hw
        rw [hr]
        cases pickGo l wg d (i + 1) (by_ ++ [l.getD i nil]) with
        | none => exact ⟨r, rfl⟩
        | some r2 => exact ⟨r2, rfl⟩
      | cons_cons _ h =>
        rename_i b'
        obtain ⟨r, hr⟩ := ih (l.length - (i + 1)) (i + 1) (by_ ++ [l.getD i nil]) b' rfl (by simpa using hb) h (by rw [getD_lt' l nil hi, List.append_assoc]; exact hw)
        rw [hr]
        exact ⟨r, rfl⟩
theorem cgL_eq {p q : List Int} (h : CgL p q) (hp : Rng p) (hq : Rng q) : p = q := by
  apply List.ext_getElem h.1
  intro i h1 h2
  have := h.2 i
  have a := hp.getD i
  have b := hq.getD i
  rw [← getD_lt' p 0 h1, ← getD_lt' q 0 h2]
  unfold Cg at this
  omega
theorem range_map_getD (l : List Sh) : (List.range l.length).map (fun i => l.getD i nil) = l := by
  apply List.ext_getElem
  · simp
  · intro i h1 h2
    rw [List.getElem_map, List.getElem_range, getD_lt' l nil h2]
theorem bad_le {l b : List Sh} (hg : shr.Good l) (hb : shr.Good b) (o : Nat) (ho : o < 32) : (badN (polyOf b o) (xsOf l) (ysOf l o)).length ≤ (liarsB b l).length := by
  unfold badN liarsB
  rw [xsOf_length]
  have e : l.filter (fun s => !liesB b s) = ((List.range l.length).map (fun i => l.getD i nil)).filter (fun s => !liesB b s) := by rw [range_map_getD]
  rw [e, List.filter_map, List.length_map, ← List.countP_eq_length_filter, ← List.countP_eq_length_filter]
  refine List.countP_mono_left fun i hi h => ?_
  have hil : i < l.length := by simpa using hi
  simp only [Bool.not_eq_true', decide_eq_false_iff_not] at h
  show (!liesB b (l.getD i nil)) = true
  rw [liesB_false b (l.getD i nil) o ho (fun e2 => h ?_)]
  · rfl
  · have hy := (hg.ry o).getD i
    rw [ysOf_getD l o i hil] at hy
    rw [xsOf_getD l i hil, ysOf_getD l o i hil, hb.val, e2]
    omega
/-- a choice with few liars: every octet's polynomial is found, and it is the choice's -/
theorem choice_polys {l b : List Sh} {m : Nat} (hg : shr.Good l) (hs : b.Sublist l) (hb : b.length = m) (hm : 1 ≤ m) (hw : (liarsB b l).length ≤ (l.length - m) / 2) (o : Nat) (ho : o < 32) : polyM m l o = some (polyOf b o) := by
  have hgb := good_sub hg hs
  have hl := hs.length_le
  obtain ⟨p, h1, h2⟩ := mend_ok (need := m) (wr := (l.length - m) / 2) (xs := xsOf l) (ys := ysOf l o) (P := polyOf b o) hm (by rw [hgb.poly_length, hb]) hg.ap (by rw [xsOf_length]; omega) (Nat.le_trans (bad_le hg hgb o ho) hw)
  have h3 := mendL_len hm h1
  unfold polyM
  rw [h1, cgL_eq h2 h3.2 (hgb.poly_rng o)]
theorem vF_valAt {F : Nat → List Int} {b : List Sh} (hb : shr.Good b) (h : ∀ o, o < 32 → F o = polyOf b o) (o : Nat) (ho : o < 32) (t : Int) : vF F o t = valAt b o t := by
  unfold vF; rw [h o ho, hb.val]
theorem liesF_eq {F : Nat → List Int} {b : List Sh} (hb : shr.Good b) (h : ∀ o, o < 32 → F o = polyOf b o) (s : Sh) : liesF F s = liesB b s := by
  unfold liesF liesFTo liesB liesTo
  rw [Bool.eq_iff_iff, List.all_eq_true, List.all_eq_true]
  constructor <;> intro hh o ho <;> have := hh o ho <;> rw [vF_valAt hb h o (by simpa using ho)] at * <;> exact this
theorem fltF_eq {F : Nat → List Int} {b : List Sh} (hb : shr.Good b) (h : ∀ o, o < 32 → F o = polyOf b o) : fltF F = faultAt0 b := by
  unfold fltF faultAt0
  rw [Bool.eq_iff_iff, List.any_eq_true, List.any_eq_true]
  constructor <;> rintro ⟨o, ho, hh⟩ <;> refine ⟨o, ho, ?_⟩
  · rw [vF_valAt hb h o (by simpa using ho)] at hh; simpa using hh
  · rw [vF_valAt hb h o (by simpa using ho)]; simpa using hh
theorem keyF_eq {F : Nat → List Int} {b : List Sh} (hb : shr.Good b) (h : ∀ o, o < 32 → F o = polyOf b o) : keyF F = secretOf b := by
  unfold keyF secretOf secretTo
  rw [fltF_eq hb h]
  split
  · rfl
  · exact List.map_congr_left fun o ho => vF_valAt hb h o (by simpa using ho) 0
theorem liarsF_eq {F : Nat → List Int} {b : List Sh} (hb : shr.Good b) (h : ∀ o, o < 32 → F o = polyOf b o) (l : List Sh) : liarsF F l = liarsB b l := by
  unfold liarsF liarsB
  exact List.filter_congr fun s _ => by rw [liesF_eq hb h]
theorem liesF_at {F : Nat → List Int} {s : Sh} (h : liesF F s = true) (o : Nat) (ho : o < 32) : vF F o s.x = s.y.getD o 0 := by
  unfold liesF liesFTo at h
  rw [List.all_eq_true] at h
  simpa using h o (by simpa using ho)
/-- few liars: there is a choice with no more -/
theorem polys_choice {l : List Sh} {m : Nat} (hg : shr.Good l) (hm : 1 ≤ m) (hml : m ≤ l.length) (ha : allM m l 32 = true) (hw : (liarsF (mendF m l) l).length ≤ (l.length - m) / 2) : ∃ b, pickR m l = some b := by
  obtain ⟨F, HF⟩ : ∃ F, F = mendF m l := ⟨_, rfl⟩
  rw [← HF] at hw
  obtain ⟨b, HB⟩ : ∃ b, b = (l.filter fun s => liesF F s).take m := ⟨_, rfl⟩
  have hs : b.Sublist l := by rw [HB]; exact (List.take_sublist _ _).trans List.filter_sublist
  have hsp := filter_split l (fun s => liesF F s)
  unfold liarsF at hw
  have hb : b.length = m := by rw [HB, List.length_take]; omega
  have hgb := good_sub hg hs
  have hF : ∀ o, o < 32 → (F o).length = m ∧ Rng (F o) := fun o ho => by
    obtain ⟨p, hp⟩ := allM_mono ha ho
    have := mendF_len hm hp
    rw [HF, this.1]
    exact this.2
  have hP : ∀ o, o < 32 → F o = polyOf b o := fun o ho => by
    refine (cgL_eq (interp_unique hgb.ap (through_interp (xsOf b) (ysOf b o) hgb.ap) ⟨by rw [(hF o ho).1, xsOf_length, hb], fun i hi => ?_⟩) (hgb.poly_rng o) (hF o ho).2).symm
    rw [xsOf_length] at hi
    rw [xsOf_getD b i hi, ysOf_getD b o i hi]
    have hmem : b.getD i nil ∈ l.filter fun s => liesF F s := by
      have := getD_mem b i hi
      rw [HB] at this
      rw [HB]
      exact List.mem_of_mem_take this
    have h1 := liesF_at (List.mem_filter.1 hmem).2 o ho
    unfold vF at h1
    unfold Cg
    rw [← h1]
    omega
  have hlb : (liarsB ([] ++ b) l).length ≤ (l.length - m) / 2 := by
    rw [List.nil_append, ← liarsF_eq hgb hP l]; exact hw
  exact pick_complete l ((l.length - m) / 2) m (l.length - 0) 0 [] b rfl hb (by simpa using hs) hlb
theorem mend_ref {l : List Sh} {m : Nat} (hg : shr.Good l) (hm : 1 ≤ m) (hml : m ≤ l.length) (hE : sharesE false (m : Int) l = 0) : mendE (m : Int) l = refE m l ∧ mendK (m : Int) l = refK m l ∧ mendB (m : Int) l = refB m l := by
  have hme : mendE (m : Int) l = if allM m l 32 = false then 20 else if (l.length - m) / 2 < (liarsF (mendF m l) l).length then 20 else keyE (mendF m l) := by
    unfold mendE; rw [hE, if_neg (fun h => h rfl), Int.toNat_natCast]
  cases hp : pickR m l with
  | none =>
    have h20 : mendE (m : Int) l = 20 := by
      rw [hme]
      by_cases ha : allM m l 32 = false
      · rw [if_pos ha]
      · rw [if_neg ha]
        by_cases hw : (l.length - m) / 2 < (liarsF (mendF m l) l).length
        · rw [if_pos hw]
        · obtain ⟨b, hb⟩ := polys_choice hg hm hml (by simpa using ha) (by omega)
          rw [hp] at hb; cases hb
    refine ⟨by rw [h20]; unfold refE; rw [hp], ?_, ?_⟩
    · unfold mendK refK; rw [h20, hp, if_neg (by decide)]
    · unfold mendB refB; rw [h20, hp, if_neg (by decide)]
  | some b =>
    obtain ⟨h1, h2, h3⟩ := pick_sub l _ m 0 [] b hp (List.nil_sublist _)
    have h2' : b.length = m := by simpa using h2
    have hgb := good_sub hg h1
    have hpo := fun o ho => choice_polys hg h1 h2' hm h3 o ho
    have hF : ∀ o, o < 32 → mendF m l o = polyOf b o := fun o ho => by unfold mendF; rw [hpo o ho]; rfl
    have ha : allM m l 32 = true := by
      unfold allM
      rw [List.all_eq_true]
      intro o ho
      rw [hpo o (by simpa using ho)]; rfl
    have hk : keyE (mendF m l) = secretE b := by unfold keyE secretE; rw [fltF_eq hgb hF]
    have he : mendE (m : Int) l = secretE b := by
      rw [hme, ha, if_neg (by decide), liarsF_eq hgb hF, if_neg (by omega), hk]
    refine ⟨by rw [he]; unfold refE; rw [hp], ?_, ?_⟩
    · unfold mendK refK; rw [he, hp, Int.toNat_natCast, keyF_eq hgb hF]
      dsimp only
      by_cases h0 : secretE b = 0
      · rw [if_pos h0]
      · rw [if_neg h0]
        unfold secretE at h0
        unfold secretOf
        by_cases hf : faultAt0 b = true
        · rw [if_pos hf]
        · rw [if_neg hf] at h0; exact absurd rfl h0
    · unfold mendB refB; rw [he, hp, Int.toNat_natCast, liarsF_eq hgb hF]
end Go.Proofs.Ytbljihhelladbaa.gs
namespace Go.Proofs.Ytbljihhelladbaa.gs
open Go.RowKit Go.Proofs.Ytbljihhelladbaa.Fld Go.Proofs.Ytbljihhelladbaa.sh Go.Proofs.Ytbljihhelladbaa.shr
set_option linter.unusedSimpArgs false
set_option linter.unusedVariables false
set_option pp.maxSteps 6000
theorem flatID_get : ∀ (bs : List Sh) (hl : ∀ s ∈ bs, s.h.length = 16) (k j : Nat) (u : Value), k < bs.length → ((bs.getD k nil).h.map (Value.int .u8))[j]? = some u → (flatID bs)[k * 16 + j]? = some u
  | [], hl, k, j, u, hk, h => by simp at hk
  | s :: bs, hl, 0, j, u, hk, h => by
    have hj : j < (s.h.map (Value.int .u8)).length := (List.getElem?_eq_some_iff.1 h).1
    show (s.h.map (Value.int .u8) ++ flatID bs)[0 * 16 + j]? = some u
    rw [show 0 * 16 + j = j by omega, List.getElem?_append_left hj]
    exact h
  | s :: bs, hl, k + 1, j, u, hk, h => by
    have hs : (s.h.map (Value.int .u8)).length = 16 := by rw [List.length_map]; exact hl s List.mem_cons_self
    show (s.h.map (Value.int .u8) ++ flatID bs)[(k + 1) * 16 + j]? = some u
    rw [List.getElem?_append_right (by omega), show (k + 1) * 16 + j - (s.h.map (Value.int .u8)).length = k * 16 + j by omega]
    exact flatID_get bs (fun t ht => hl t (List.mem_cons_of_mem _ ht)) k j u (by simpa using hk) h
theorem rowID_at {w : World} {ao : Option Addr} {bs : List Sh} (h : RowV w ao (flatID bs)) (hl : ∀ s ∈ bs, s.h.length = 16) {k : Nat} (hk : k < bs.length) : ∃ b off, ao = some ⟨b, off, none⟩ ∧ b < w.heap.size ∧ At w ⟨b, off + k * 16, none⟩ ((bs.getD k nil).h.map (Value.int .u8)) := by
  rcases h with h | ⟨g, o, h1, h2, h3⟩
  · have h16 := hl (bs.getD k nil) (getD_mem bs k hk)
    have := flatID_get bs hl k 0 _ hk (List.getElem?_eq_getElem (by rw [List.length_map, h16]; decide))
    rw [h] at this; simp at this
  · refine ⟨g, o, h1, h2, fun j u hu => ?_⟩
    have := h3 (k * 16 + j) u (flatID_get bs hl k j u hk hu)
    rw [addr_add, Nat.add_assoc]; exact this
set_option maxRecDepth 100000 in
theorem equal_ids (ao bo : Option Addr) (c1 c2 n : Nat) (bs : List Sh) (w : World) (hn' : n = bs.length) (h1 : RowV w ao (flatID bs)) (h2 : RowV w bo (flatID bs)) (hl : ∀ s ∈ bs, s.h.length = 16) (hn : n ≤ 1000000) :
    Calls Try.prog 40 #[.slice ao n c1, .slice bo n c2] w fun e w' => e = .returned (.bool true) ∧ Below w.heap.size w w' := by
  have HN := hid hn'
  have HLL := hid hl
  clear hn' hl
  go_enter Try.func40, Try.ntmps40
  go_wp2
  go_loopw [13] (fun i wr => ∃ k : Nat, k ≤ n ∧ i = .int .i64 k ∧ Below w.heap.size w wr) (fun i _ => n - (intOf i).toNat)
  case atStart => exact ⟨0, Nat.zero_le _, rfl, Below.refl _ _⟩
  case round =>
    obtain ⟨k, hk, rfl, hbl⟩ := hrel
    by_cases h0 : k < n
    · obtain ⟨b, off, rfl, hb, hat⟩ := rowID_at (h1.below hbl) HLL.out (k := k) (by rw [← HN.out]; exact h0)
      obtain ⟨b2, off2, rfl, hb2, hat2⟩ := rowID_at (h2.below hbl) HLL.out (k := k) (by rw [← HN.out]; exact h0)
      obtain ⟨I, HI⟩ : ∃ V, Hid (V = (bs.getD k nil).h.map (Value.int .u8)) := ⟨_, rfl⟩
      have h16 := HLL.out _ (getD_mem bs k (by rw [← HN.out]; exact h0))
      have HCL : Hid (I.length = 16) := hid (by rw [HI.out, List.length_map]; exact h16)
      have heq : Hid (∀ w, (Op.equalIn 10000 57 (.agg I.toArray) (.agg I.toArray)).run Try.prog w = .ok true w) := hid (fun w => by
        have := run_equalIn_ints (P := Try.prog) w 9998 57 5 16 .u8 Try.underlying57 Try.underlying5 (fun w => by kernel_rfl) (bs.getD k nil).h (bs.getD k nil).h h16 h16
        rw [← HI.out, beq_self_eq_true] at this
        exact this)
      rw [← HI.out] at hat hat2
      have hkI : (k : Int) < (n : Int) := by omega
      have hkI0 : (0 : Int) ≤ (k : Int) := by omega
      have a1 : At wr.drew ⟨b, off + k * 16, none⟩ I := hat
      have a2 : At wr.drew ⟨b2, off2 + k * 16, none⟩ I := hat2
      clear hat hat2
      go_wp2_with fail
      refine wp_region_still_tail 8 (by kernel_rfl) (by kernel_rfl) ?_
      simp only [List.take_succ_cons, List.take_zero, List.drop_succ_cons, List.drop_zero]
      change wpStill _ _ wr.drew (fun a' => wpList _ _ _ _ a' wr.drew) _ _
      iterate 3 still_step
      refine still_load (by kernel_rfl) 57 _ rfl ⟨b, off + k * 16, none⟩ rfl 16 I HCL.out aggI a1 ?_
      iterate 3 still_step
      refine still_load (by kernel_rfl) 57 _ rfl ⟨b2, off2 + k * 16, none⟩ rfl 16 I HCL.out aggI a2 ?_
      refine wpStill_nil ?_
      go_wp2_with (refine wl_neqD 24 rfl (by kernel_rfl) 57 _ _ _ rfl I.toArray I.toArray rfl rfl true (heq.out _) (by kernel_rfl) false rfl ?_)
      go_roundw
      case rel => exact ⟨k + 1, by omega, by go_num, hbl.drew⟩
      case measure => simp [intOf] <;> omega
    · go_wp2
      go_ret
      exact ⟨rfl, hbl⟩
end Go.Proofs.Ytbljihhelladbaa.gs
