/-
  Contract of the choice in keyref2.MendOf. Conditions: shares of the type's form, at most 32. Contract of wrap.Read. Conditions: a slice of octets that lies in memory. keyref2.ReadEnvelope: laws for a map literal, its closure, its errors. Conditions: a slice of octets that lies in memory.
-/
import Derived.Test.YtbljihhelladbaaFGsK
import Derived.Test.YtbljihhelladbaaFSmA
import Derived.Test.YtbljihhelladbaaFHsX
import Derived.WideMake
namespace Go.Proofs.Ytbljihhelladbaa.gs
open Go.RowKit Go.Proofs.Ytbljihhelladbaa.Fld Go.Proofs.Ytbljihhelladbaa.sh Go.Proofs.Ytbljihhelladbaa.shr Go.Proofs.Ytbljihhelladbaa.slInt
open Go.Proofs.Ytbljihhelladbaa.wr (step_appendS at_range)
set_option linter.unusedSimpArgs false
set_option linter.unusedVariables false
set_option pp.maxSteps 6000
theorem apart_sub {xs ys : List Int} (h : ApartTo xs xs.length) (hs : ys.Sublist xs) : ApartTo ys ys.length := by
  have hp : xs.Pairwise fun a b => ¬ Cg a b := by
    rw [List.pairwise_iff_getElem]
    intro i j hi hj hij
    have := h i j hij hj
    rwa [getD_lt' xs 0 hi, getD_lt' xs 0 hj] at this
  have hq := hp.sublist hs
  rw [List.pairwise_iff_getElem] at hq
  intro i j hij hj
  have := hq i j (by omega) hj hij
  rwa [← getD_lt' ys 0 (by omega), ← getD_lt' ys 0 hj] at this
theorem good_sub {l b : List Sh} (h : shr.Good l) (hs : b.Sublist l) : shr.Good b :=
  ⟨fun c hc => h.rx c ((hs.map (·.x)).subset hc), fun o c hc => h.ry o c ((hs.map fun s => s.y.getD o 0).subset hc), apart_sub h.ap (by unfold xsOf; exact hs.map _)⟩
set_option maxRecDepth 100000 in
set_option maxHeartbeats 1000000 in
theorem choose_any (w0 : World) (B m n cap wg : Nat) (ao : Option Addr) (l : List Sh) (hB : w0.heap.size = B) (hnl : n = l.length) (hn : n ≤ 32) (hr0 : RowS w0 ao l) (hok : ∀ s ∈ l, s.Ok) (hgl : shr.Good l) (hm1 : 1 ≤ m) (hm32 : m ≤ 32) : ∀ (d i : Nat) (iv : Int) (by_ : List Sh) (k : Nat) (pa : Option Addr) (c : Nat) (w : World), iv = (i : Int) → i ≤ n → k = by_.length → k + d = m → by_.Sublist (l.take i) → Env w0 B w m n cap wg ao → RowV w pa (flatS by_) → (∀ a, pa = some a → a.block ≠ B + 4) → (pa = none → c = 0 ∧ k = 0) →
    Calls Try.prog 109 (#[.int .i64 iv, .slice pa k c] ++ caps B) w (PickPost B (pickGo l wg d i by_) w) := by
  intro d
  induction d with
  | zero =>
    intro i iv by_ k pa c w hiv hi hk hkd hsub hE hrow hne hno
    obtain rfl : k = m := by omega
    have hbl : by_.Sublist l := hsub.trans (List.take_sublist _ _)
    have hbok : ∀ s ∈ by_, s.Ok := fun s hs => hok s (hbl.subset hs)
    exact choose_leaf w0 B k n cap wg ao l by_ pa c iv w hB hnl hn hr0 hok hgl hE hk hm1 hm32 (RowS.of_flat hrow hbok) hbok (good_sub hgl hbl)
  | succ d ih =>
    intro i iv by_ k pa c w hiv hi hk hkd hsub hE hrow hne hno
    have hbl : by_.Sublist l := hsub.trans (List.take_sublist _ _)
    have hbok : ∀ s ∈ by_, s.Ok := fun s hs => hok s (hbl.subset hs)
    obtain ⟨PP, HPP⟩ : ∃ r, Hid (r = pickGo l wg (d + 1) i by_) := ⟨_, rfl⟩
    rw [← HPP.out]
    have HNL := hid hnl
    have HOK := hid hok
    have HK := hid hk
    have HIH := hid ih
    have HSB := hid hsub
    have HBO := hid hbok
    have HNO := hid hno
    have HNE := hid hne
    have hkm : ¬ (k : Int) = (m : Int) := by omega
    have hkb : ((k : Int) == (m : Int)) = false := by simp; omega
    have cN := hE.n_.cell 0
    have HE := hid hE
    obtain ⟨v0, hv0⟩ := hE.f_
    have hk32 : k ≤ 32 := by omega
    have hF0 : FoundIn B w none := ⟨v0, hv0, fun b e => by cases e⟩
    have HKD := hid hkd
    clear hnl hok hk ih hsub hbok hno hne hE hkd hbl
    subst hiv
    rw [show (#[.int .i64 (i : Int), .slice pa k c] ++ caps B : Array Value) = #[.int .i64 (i : Int), .slice pa k c, ptr B, ptr (B + 1), ptr (B + 3), ptr (B + 4), ptr (B + 5)] from rfl]
    unfold ptr
    go_enter Try.func109, Try.ntmps109
    go_wp2_with fail
    go_loopw [13] (fun jv wr => ∃ j : Nat, i ≤ j ∧ j ≤ n ∧ jv = .int .i64 j ∧ Hid (PP = pickGo l wg (d + 1) j by_) ∧ w.grownBy wr (some (B + 4)) ∧ FoundIn B wr none) (fun jv _ => n - (intOf jv).toNat)
    case atStart => exact ⟨i, Nat.le_refl _, hi, rfl, HPP, grown_refl _ _, hF0⟩
    case round =>
      clear hF0
      obtain ⟨j, hij, hjn, rfl, HPI, hgw, hF⟩ := hrel
      have hEr : Env w0 B wr m n cap wg ao := HE.out.grown hgw (by obtain ⟨v, hv, _⟩ := hF; exact ⟨v, hv⟩)
      have cL := hEr.l_.cell 0
      have cC := hEr.c_.cell 0
      by_cases h0 : j < n
      · have hjI : (j : Int) < (n : Int) := by omega
        have hj0 : (0 : Int) ≤ (j : Int) := by omega
        have hrr := hr0.below (hB ▸ hEr.b0)
        obtain ⟨b, off, s, rfl, hbb0, HSs, hat0⟩ := hr0.elem (i := j) (by rw [← HNL.out]; exact h0)
        rw [hB] at hbb0
        have hat := At.belowB hat0 hEr.b0 hbb0
        have hs : s.Ok := by rw [HSs.out]; exact HOK.out _ (getD_mem l j (by rw [← HNL.out]; exact h0))
        have HCL := hid hs.csl
        have c1 := cs_one s
        have hne : some (⟨b, off + j * 49, none⟩ : Addr).block ≠ some (B + 4) := by intro e; have := Option.some.inj e; dsimp only at this; omega
        have HFS : Hid (flatS (by_ ++ [s]) = flatS by_ ++ s.cs) := hid (by unfold flatS; rw [List.flatMap_append]; simp)
        have HPS := hid (pick_step l wg d j by_ (by rw [← HNL.out]; exact h0))
        rw [← HSs.out] at HPS
        obtain ⟨q, HQ⟩ : ∃ q, Hid (q = pickGo l wg d (j + 1) (by_ ++ [s])) := ⟨_, rfl⟩
        rw [← HQ.out] at HPS
        obtain ⟨y0, HY0⟩ : ∃ y, Hid (y = wr.drew) := ⟨_, rfl⟩
        obtain ⟨Gy, HGy⟩ : ∃ g, Hid (g = y0.heap.size) := ⟨_, rfl⟩
        have hEy : Env w0 B y0 m n (cap) wg (some ⟨b, off, none⟩) := by rw [HY0.out]; exact hEr.grown (grown_drew (grown_refl wr _)) hEr.f_
        have HGW : Hid (w.grownBy y0 (some (B + 4))) := hid (by rw [HY0.out]; exact grown_drew hgw)
        have hrowY : RowV y0 pa (flatS by_) := hrow.kept HGW.out (fun a e => by intro e2; exact HNE.out a e (Option.some.inj e2).symm)
        have hcl := fun (z : World) (hz : Below Gy y0 z) => hid (CloneS_any pa k c by_ z HK.out ((RowS.of_flat hrowY HBO.out).below (HGy.out ▸ hz)) HBO.out HNO.out (by omega))
        have hih := fun (z : World) (gb cc : Nat) (hz : Below Gy y0 z) (hgb : Gy ≤ gb) (hR : RowV z (some ⟨gb, 0, none⟩) (flatS (by_ ++ [s]))) => hid (HIH.out (j + 1) ((j : Int) + 1) (by_ ++ [s]) (k + 1) (some ⟨gb, 0, none⟩) cc z (by omega) (by omega) (by rw [List.length_append, ← HK.out]; rfl) (by have := HKD.out; omega) (by
          rw [List.take_succ_eq_append_getElem (by rw [← HNL.out]; exact h0)]
          refine List.Sublist.append (HSB.out.trans (List.take_sublist_take_left hij)) ?_
          rw [HSs.out, getD_lt' l nil (by rw [← HNL.out]; exact h0)]
          exact List.Sublist.refl _) (hEy.below (HGy.out ▸ hz)) hR (fun a e => by cases e; have := hEy.size; have := HGy.out; dsimp only; omega) (fun h => by cases h))
        rw [← HQ.out] at hih
        rw [show (caps B : Array Value) = #[ptr B, ptr (B + 1), ptr (B + 3), ptr (B + 4), ptr (B + 5)] from rfl] at hih
        unfold ptr at hih
        simp only [List.push_toArray, List.append_toArray, List.cons_append, List.nil_append] at hih
        have huS := Try.underlying61
        have hiS : (Try.prog.info? 61).map (·.size) = some s.cs.length := by rw [HCL.out]; exact aggS.2
        have hw0 : Below Gy y0 y0 := Below.refl _ _
        have hwj : IntKind.i64.wrap ((j : Int) + 1) = (j : Int) + 1 := IntWalk.i64_in _ (by omega)
        unfold fvB caps ptr at cC
        go_wp2_with fail
        refine wp_region_held_drew (S := fun w' => y0.grownBy w' (some (B + 4))) (by kernel_rfl) (by rw [← HY0.out]; exact grown_refl _ _) (fun hHeld => ?_)
        rw [← HY0.out] at hHeld ⊢
        have cL : y0.cell? ⟨B + 1, 0, none⟩ = some (.slice (some ⟨b, off, none⟩) n cap) := hEy.l_.cell 0
        have cC : y0.cell? ⟨B + 5, 0, none⟩ = some (fvB B) := hEy.c_.cell 0
        unfold fvB caps ptr at cC
        have hat : At y0 ⟨b, off + j * 49, none⟩ s.cs := At.belowB hat0 hEy.b0 hbb0
        refine tkP 0 rfl (by assumption) ⟨?_, ?_, ?_⟩
        rotate_left
        · intro w hSw; have c0 := hSw.cell cC (by intro e; have := Option.some.inj e; dsimp only at this; omega); (try dsimp only at hSw); go_simp; (try with_reducible rfl)
        try simp only [Act.put, sArr, sZ, sS]
        refine tkP 1 rfl (by assumption) ⟨?_, ?_, ?_⟩
        rotate_left
        · intro w hSw; (try dsimp only at hSw); go_simp; (try with_reducible rfl)
        try simp only [Act.put, sArr, sZ, sS]
        refine tkP 2 rfl (by assumption) ⟨?_, ?_, ?_⟩
        rotate_left
        · intro w hSw; (try dsimp only at hSw); go_simp; (try with_reducible rfl)
        try simp only [Act.put, sArr, sZ, sS]
        refine tkP 3 rfl (by assumption) ⟨?_, ?_, ?_⟩
        rotate_left
        · intro w hSw; (try dsimp only at hSw); go_simp; (try with_reducible rfl)
        try simp only [Act.put, sArr, sZ, sS]
        refine tkP 5 rfl (by assumption) ⟨?_, ?_, ?_⟩
        rotate_left
        · intro w hSw; have c0 := hSw.cell cL (by intro e; have := Option.some.inj e; dsimp only at this; omega); (try dsimp only at hSw); go_simp; (try with_reducible rfl)
        try simp only [Act.put, sArr, sZ, sS]
        refine tkP 6 rfl (by assumption) ⟨?_, ?_, ?_⟩
        rotate_left
        · intro w hSw; (try dsimp only at hSw); go_simp; (try with_reducible rfl)
        try simp only [Act.put, sArr, sZ, sS]
        refine tkP 7 rfl (by assumption) ⟨?_, ?_, ?_⟩
        rotate_left
        · intro w hSw; (try dsimp only at hSw); go_simp; (try with_reducible rfl)
        try simp only [Act.put, sArr, sZ, sS]
        refine tkR 8 rfl (yieldsIf_load_mid (by rfl) 61 _ rfl b (off + j * 49) rfl s.cs _ (fun w hS => at_range (hat.kept hS hne)) huS rfl hiS) (by assumption) ?_
        try simp only [Act.put, sArr, sZ, sS]
        refine wpAnyH_ready (rs := [4, 9]) (by kernel_rfl) (by simp) (cons_l rfl (fun K' hK' => ?_) (cons_l rfl (fun K' hK' => ?_) AllReadyH.nil))
        · rw [if_pos (by kernel_rfl)]
          go_simp
          go_at_call 110
          refine (hcl y0 hw0).out.mono ?_
          rintro e y1 ⟨v1, rfl, hM0, hbx1⟩
          have hM1 := hM0.mono (by have := hw0.size; have := HGy.out; omega : Gy ≤ y0.heap.size)
          clear hM0
          have hw1 : Below Gy y0 y1 := hw0.trans (hbx1.mono (by have := hw0.size; have := HGy.out; omega))
          refine hK'.out _ _ (grown_below (HGy.out ▸ hw1)) (fun hHeld => ?_)
          clear hK' K'
          try simp only [Act.put, sArr, sZ, sS]
          refine wpAnyH_ready (rs := [9]) (by kernel_rfl) (by simp) (cons_l rfl (fun K' hK' => ?_) AllReadyH.nil)
          obtain ⟨N, HNN⟩ : ∃ g, Hid (g = y1.heap.size) := ⟨_, rfl⟩
          refine step_slice1 rfl 47 61 _ rfl Try.underlying47 49 sh0.cs (by kernel_rfl) sh0_len (by decide) (by decide) s.cs rfl HCL.out N HNN.out.symm ?_
          intro y2 hN2 hbx2 hsx2
          rw [HNN.out] at hbx2
          have hw2 : Below Gy y0 y2 := hw1.trans (hbx2.mono (by have := hw1.size; have := HGy.out; omega))
          have hM2 := hM1.belowAll hbx2
          refine hK'.out _ _ (grown_below (HGy.out ▸ hw2)) (fun hHeld => ?_)
          clear hK' K'
          try simp only [Act.put, sArr, sZ, sS]
          refine wpAnyH_ready (rs := [10]) (by kernel_rfl) (by simp) (cons_l rfl (fun K' hK' => ?_) AllReadyH.nil)
          refine step_appendS rfl _ _ 47 rfl 61 (.agg sh0.cs.toArray) 49 88 Try.underlying47 infoS rfl (by decide) Gy v1 k (flatS by_) rfl hM2 (some ⟨N, 0, none⟩) 1 1 rfl (fun h => by cases h) s.cs HCL.out (RowB.row (t := 61) ⟨s.cs, hN2, by rw [List.take_length]⟩) c1 (by unfold maxLen; omega) (by omega) (by have := hw2.size; have := HGy.out; omega) (k + 1) rfl ?_
          intro ao3 ca3 y3 row3 hc3 hA3 hR3 hg3 hr3
          have hw3 : Below Gy y0 y3 := hw2.grown hg3 (by have := hw2.size; have := HGy.out; omega) (fun k hk => (hr3 k hk).1)
          clear hg3 hr3
          obtain ⟨gb, rfl, hgb, hcb, _⟩ := rowOf hA3 (by omega)
          rw [← HFS.out] at hR3
          refine hK'.out _ _ (grown_below (HGy.out ▸ hw3)) (fun hHeld => ?_)
          clear hK' K'
          try simp only [Act.put, sArr, sZ, sS]
          refine wpAnyH_ready (rs := [11]) (by kernel_rfl) (by simp) (cons_l rfl (fun K' hK' => ?_) AllReadyH.nil)
          rw [if_pos (by kernel_rfl)]
          go_simp
          go_at_call 109
          refine (hih y3 gb ca3 hw3 hgb hR3).out.mono ?_
          rintro e y4 ⟨rfl, hgx4, hfx4⟩
          have hw4 : y0.grownBy y4 (some (B + 4)) := (grown_below (HGy.out ▸ hw3)).trans hgx4
          refine hK'.out _ _ hw4 (fun hHeld => ?_)
          clear hK' K'
          try simp only [Act.put, sArr, sZ, sS]
          refine wpAnyH_done (by kernel_rfl) ?_ _
          clear hHeld
          cases q with
          | none =>
            have hd0 : decide True = true := rfl
            go_wp2_with fail
            go_roundw
            case rel =>
              refine ⟨j + 1, by omega, by omega, by go_num, hid (by rw [HPI.out, HPS.out]; rfl), (HGW.out).trans hw4, ?_⟩
              obtain ⟨v, hv, _⟩ := hfx4
              exact ⟨v, hv, fun b e => by cases e⟩
            case measure => simp [intOf] <;> omega
          | some b9 =>
            go_wp2_with fail
            go_ret
            exact ⟨by rw [HPI.out, HPS.out]; rfl, (HGW.out).trans hw4, by rw [HPI.out, HPS.out]; exact hfx4⟩
        · obtain ⟨N, HNN⟩ : ∃ g, Hid (g = y0.heap.size) := ⟨_, rfl⟩
          refine step_slice1 rfl 47 61 _ rfl Try.underlying47 49 sh0.cs (by kernel_rfl) sh0_len (by decide) (by decide) s.cs rfl HCL.out N HNN.out.symm ?_
          intro y1 hN1 hbx1 hsx1
          rw [HNN.out] at hbx1
          have hw1 : Below Gy y0 y1 := hw0.trans (hbx1.mono (by have := hw0.size; have := HGy.out; omega))
          refine hK'.out _ _ (grown_below (HGy.out ▸ hw1)) (fun hHeld => ?_)
          clear hK' K'
          try simp only [Act.put, sArr, sZ, sS]
          refine wpAnyH_ready (rs := [4]) (by kernel_rfl) (by simp) (cons_l rfl (fun K' hK' => ?_) AllReadyH.nil)
          rw [if_pos (by kernel_rfl)]
          go_simp
          go_at_call 110
          refine (hcl y1 hw1).out.mono ?_
          rintro e y2 ⟨v2, rfl, hM0, hbx2⟩
          have hM2 := hM0.mono (by have := hw1.size; have := HGy.out; omega : Gy ≤ y1.heap.size)
          clear hM0
          have hw2 : Below Gy y0 y2 := hw1.trans (hbx2.mono (by have := hw1.size; have := HGy.out; omega))
          have hN2 := hN1.below hbx2 hN1.lt
          refine hK'.out _ _ (grown_below (HGy.out ▸ hw2)) (fun hHeld => ?_)
          clear hK' K'
          try simp only [Act.put, sArr, sZ, sS]
          refine wpAnyH_ready (rs := [10]) (by kernel_rfl) (by simp) (cons_l rfl (fun K' hK' => ?_) AllReadyH.nil)
          refine step_appendS rfl _ _ 47 rfl 61 (.agg sh0.cs.toArray) 49 88 Try.underlying47 infoS rfl (by decide) Gy v2 k (flatS by_) rfl hM2 (some ⟨N, 0, none⟩) 1 1 rfl (fun h => by cases h) s.cs HCL.out (RowB.row (t := 61) ⟨s.cs, hN2, by rw [List.take_length]⟩) c1 (by unfold maxLen; omega) (by omega) (by have := hw2.size; have := HGy.out; omega) (k + 1) rfl ?_
          intro ao3 ca3 y3 row3 hc3 hA3 hR3 hg3 hr3
          have hw3 : Below Gy y0 y3 := hw2.grown hg3 (by have := hw2.size; have := HGy.out; omega) (fun k hk => (hr3 k hk).1)
          clear hg3 hr3
          obtain ⟨gb, rfl, hgb, hcb, _⟩ := rowOf hA3 (by omega)
          rw [← HFS.out] at hR3
          refine hK'.out _ _ (grown_below (HGy.out ▸ hw3)) (fun hHeld => ?_)
          clear hK' K'
          try simp only [Act.put, sArr, sZ, sS]
          refine wpAnyH_ready (rs := [11]) (by kernel_rfl) (by simp) (cons_l rfl (fun K' hK' => ?_) AllReadyH.nil)
          rw [if_pos (by kernel_rfl)]
          go_simp
          go_at_call 109
          refine (hih y3 gb ca3 hw3 hgb hR3).out.mono ?_
          rintro e y4 ⟨rfl, hgx4, hfx4⟩
          have hw4 : y0.grownBy y4 (some (B + 4)) := (grown_below (HGy.out ▸ hw3)).trans hgx4
          refine hK'.out _ _ hw4 (fun hHeld => ?_)
          clear hK' K'
          try simp only [Act.put, sArr, sZ, sS]
          refine wpAnyH_done (by kernel_rfl) ?_ _
          clear hHeld
          cases q with
          | none =>
            have hd0 : decide True = true := rfl
            go_wp2_with fail
            go_roundw
            case rel =>
              refine ⟨j + 1, by omega, by omega, by go_num, hid (by rw [HPI.out, HPS.out]; rfl), (HGW.out).trans hw4, ?_⟩
              obtain ⟨v, hv, _⟩ := hfx4
              exact ⟨v, hv, fun b e => by cases e⟩
            case measure => simp [intOf] <;> omega
          | some b9 =>
            go_wp2_with fail
            go_ret
            exact ⟨by rw [HPI.out, HPS.out]; rfl, (HGW.out).trans hw4, by rw [HPI.out, HPS.out]; exact hfx4⟩
      · obtain rfl : n = j := by omega
        have HPE := hid (pick_end l wg d n by_ (by rw [← HNL.out]; omega))
        go_wp2_with fail
        go_ret
        exact ⟨by rw [HPI.out, HPE.out]; rfl, hgw, by rw [HPI.out, HPE.out]; exact hF⟩
end Go.Proofs.Ytbljihhelladbaa.gs
namespace Go.Proofs.Ytbljihhelladbaa.wr
open Go.RowKit Go.Proofs.Ytbljihhelladbaa.st Go.Proofs.Ytbljihhelladbaa.hs Go.Proofs.Ytbljihhelladbaa.shr Go.Proofs.Ytbljihhelladbaa.sh
set_option linter.unusedSimpArgs false
set_option linter.unusedVariables false
set_option pp.maxSteps 6000
structure Env.Len (x : Env) : Prop where
  bl : x.b.length = 16
  ol : x.o.length = 16
  nl : x.n.length = 16
  cl : x.c.length = 32
  gl : x.g.length = 32
  tl : x.t.length = 16
theorem Env.cs_split (x : Env) : x.cs = [.int .i64 x.v, .int .i64 x.e] ++ x.b.map (Value.int .u8) ++ x.o.map (Value.int .u8) ++ x.n.map (Value.int .u8) ++ x.c.map (Value.int .u8) ++ x.g.map (Value.int .u8) ++ x.t.map (Value.int .u8) := by
  rw [Env.cs_eq]; unfold Env.octs; simp
theorem Env.Len.csl {x : Env} (h : x.Len) : x.cs.length = 130 := by rw [Env.cs_split]; simp [h.bl, h.ol, h.nl, h.cl, h.gl, h.tl]
end Go.Proofs.Ytbljihhelladbaa.wr
namespace Go.Proofs.Ytbljihhelladbaa.wr
open Go.RowKit Go.Proofs.Ytbljihhelladbaa.st Go.Proofs.Ytbljihhelladbaa.hs Go.Proofs.Ytbljihhelladbaa.shr Go.Proofs.Ytbljihhelladbaa.sh
set_option linter.unusedSimpArgs false
set_option linter.unusedVariables false
set_option pp.maxSteps 6000
theorem wl_box1 {P : Program} {w : World} {ops : Array Oper} {rest : List Oper} {o : Oper} {a : Act} {Q : Exit → Act → World → Prop} (hgd : o.guard = none) (t : TypeId) (x : Operand) (ho : o.op = .box t x)
    (v : Value) (hv : v.cells = #[v]) (hx : a.eval x = v) (N : Nat) (hN : w.heap.size = N)
    (h : ∀ w', BlkV t w' N [v] → Below N w w' → w'.heap.size = N + 1 → wpList P ops Q rest (a.put o.dst (.pointer (some ⟨N, 0, none⟩))) w') : wpList P ops Q (o :: rest) a w := by
  subst hN
  refine wpList_plain hgd fun K hK' => ?_
  unfold Oper.wp
  simp [execOp, ho, hx, Instr.box, newVar, newRow, hv, Result.andThen]
  exact hK' _ _ (h _ (BlkV.new t w [v] rfl) ((Below.refl _ _).alloc (Nat.le_refl _) _) (by simp))
end Go.Proofs.Ytbljihhelladbaa.wr
