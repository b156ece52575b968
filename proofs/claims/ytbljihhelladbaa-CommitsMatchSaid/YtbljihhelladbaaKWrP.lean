/-
  Contract of wrap.Wrap at version 1; keylaw2.wraps says yes. Conditions: keys and nonces of octets, an epoch in its bounds, a context of at most 4096 octets. The walk of the law CommitsMatch. Conditions: a key of octets; a string of at most maxLen octets. Arguments that are arrays of octets, opened for the walks. No condition. What a law's walk owes the row's form: a call that returns true and leaves all that was there as it was meets the law's 'post'. Conditions: none but the parameters' types being readable, which is asked as a closed fact.
-/
import Derived.Test.YtbljihhelladbaaKWrK
import Derived.Test.YtbljihhelladbaaKCmD
import Derived.Test.YtbljihhelladbaaKShr
import Derived.Test.YtbljihhelladbaaKMem
import Derived.ProofKit
import Derived.OpenShut
import Derived.JoinedCond
namespace Go.Proofs.Ytbljihhelladbaa.wr
open Go.RowKit Go.Proofs.Ytbljihhelladbaa.st Go.Proofs.Ytbljihhelladbaa.hs Go.Proofs.Ytbljihhelladbaa.shr Go.Proofs.Ytbljihhelladbaa.sh
set_option linter.unusedSimpArgs false
set_option linter.unusedVariables false
set_option pp.maxSteps 6000
theorem built_env4 (v e : Int) {h n : List Int} (hlh : h.length = 16) (hln : n.length = 16) : Try.prog.built 107 [(0, .int .i64 v), (1, .int .i64 e), (2, .agg (h.map (Value.int .u8)).toArray), (4, .agg (n.map (Value.int .u8)).toArray)] = some (⟨v, e, h, List.replicate 16 0, n, List.replicate 32 0, List.replicate 32 0, List.replicate 16 0⟩ : Env).cs.toArray := by
  obtain ⟨a0, a1, a2, a3, a4, a5, a6, a7, a8, a9, a10, a11, a12, a13, a14, a15, rfl⟩ : ∃ a0 a1 a2 a3 a4 a5 a6 a7 a8 a9 a10 a11 a12 a13 a14 a15, h = [a0, a1, a2, a3, a4, a5, a6, a7, a8, a9, a10, a11, a12, a13, a14, a15] := by
    refine ⟨h[0], h[1], h[2], h[3], h[4], h[5], h[6], h[7], h[8], h[9], h[10], h[11], h[12], h[13], h[14], h[15], List.ext_getElem (by simp [hlh]) fun i h1 h2 => ?_⟩
    have : i < 16 := by omega
    match i, this with
    | 0, _ => rfl
    | 1, _ => rfl
    | 2, _ => rfl
    | 3, _ => rfl
    | 4, _ => rfl
    | 5, _ => rfl
    | 6, _ => rfl
    | 7, _ => rfl
    | 8, _ => rfl
    | 9, _ => rfl
    | 10, _ => rfl
    | 11, _ => rfl
    | 12, _ => rfl
    | 13, _ => rfl
    | 14, _ => rfl
    | 15, _ => rfl
    | i + 16, h => exact absurd h (by omega)
  obtain ⟨c0, c1, c2, c3, c4, c5, c6, c7, c8, c9, c10, c11, c12, c13, c14, c15, rfl⟩ : ∃ c0 c1 c2 c3 c4 c5 c6 c7 c8 c9 c10 c11 c12 c13 c14 c15, n = [c0, c1, c2, c3, c4, c5, c6, c7, c8, c9, c10, c11, c12, c13, c14, c15] := by
    refine ⟨n[0], n[1], n[2], n[3], n[4], n[5], n[6], n[7], n[8], n[9], n[10], n[11], n[12], n[13], n[14], n[15], List.ext_getElem (by simp [hln]) fun i h1 h2 => ?_⟩
    have : i < 16 := by omega
    match i, this with
    | 0, _ => rfl
    | 1, _ => rfl
    | 2, _ => rfl
    | 3, _ => rfl
    | 4, _ => rfl
    | 5, _ => rfl
    | 6, _ => rfl
    | 7, _ => rfl
    | 8, _ => rfl
    | 9, _ => rfl
    | 10, _ => rfl
    | 11, _ => rfl
    | 12, _ => rfl
    | 13, _ => rfl
    | 14, _ => rfl
    | 15, _ => rfl
    | i + 16, h => exact absurd h (by omega)
  kernel_rfl
theorem wl_build1 {P : Program} {w : World} {ops : Array Oper} {rest : List Oper} {o : Oper} {a : Act} {Q : Exit → Act → World → Prop} (hgd : o.guard = none) (t : TypeId) (i : Nat) (x : Operand) (ho : o.op = .build t #[(i, x)])
    (u : Value) (hx : a.eval x = u) (cs : List Value) (hb : P.built t [(i, u)] = some cs.toArray) (h : wpList P ops Q rest (a.put o.dst (.agg cs.toArray)) w) : wpList P ops Q (o :: rest) a w :=
  wl_build hgd t #[(i, x)] ho cs (by simpa [hx] using hb) h
theorem yieldsIf_build4 {P : Program} {ops : Array Oper} {S : World → Prop} {op : Oper} {a : Act} (hw : Region.wanted op (yielded ops a.tmps) = true) (t : TypeId) (i j k l : Nat) (x y z q : Operand) (ho : op.op = .build t #[(i, x), (j, y), (k, z), (l, q)])
    (u v r s : Value) (hx : a.eval x = u) (hy : a.eval y = v) (hz : a.eval z = r) (hq : a.eval q = s) (cs : List Value) (hb : P.built t [(i, u), (j, v), (k, r), (l, s)] = some cs.toArray) : YieldsIf P ops S op (.agg cs.toArray) a :=
  .inl ⟨hw, fun w hw' => by
    unfold execOp
    simp [ho, hx, hy, hz, hq, run_build w t #[(i, u), (j, v), (k, r), (l, s)] cs.toArray hb, Result.andThen]⟩
set_option maxRecDepth 100000 in
set_option maxHeartbeats 4000000 in
theorem Wrap_1 (k n s c : List Int) (e : Int) (ao : Option Addr) (cap mc : Nat) (w : World) (hk : k.length = 32) (ok : Octs k) (he : 0 ≤ e ∧ e ≤ 4294967295) (hn : n.length = 16) (on : Octs n) (hs : s.length = 32) (os : Octs s) (hmc : mc = c.length) (HP : Pt.Ok w ⟨ao, cap, c⟩) (hno : ao = none → cap = 0) (hm : mc ≤ 4096) :
    Calls Try.prog 127 #[.int .i64 1, .agg (k.map (Value.int .u8)).toArray, .int .i64 e, .agg (n.map (Value.int .u8)).toArray, .slice ao mc cap, .agg (s.map (Value.int .u8)).toArray] w fun r w' => ∃ ao' c', r = .returned (.tuple #[.slice ao' 88 c', .int .i64 0]) ∧ Below w.heap.size w w' := by
  obtain ⟨B, HB⟩ : ∃ B, Hid (B = w.heap.size) := ⟨_, rfl⟩
  have hsz : w.heap.size = B := HB.out.symm
  have hbe := fun w => hid (badEpoch_any e w)
  have hi : inB e 0 4294967295 = true := by unfold inB; simp; omega
  rw [hi] at hbe
  have hnm := fun w => hid (NameOf_any k hk ok w)
  have hco := fun w => hid (cover_any k e n s w hk ok he hn on hs os)
  obtain ⟨X0, HX0⟩ : ∃ X, Hid (X = (⟨1, e, nameL k, List.replicate 16 0, n, List.replicate 32 0, List.replicate 32 0, List.replicate 16 0⟩ : Env)) := ⟨_, rfl⟩
  have hO0 : Hid X0.Ok := hid (by rw [HX0.out]; exact ⟨⟨by show (-9223372036854775808 : Int) ≤ 1; decide, by show (1 : Int) ≤ 9223372036854775807; decide⟩, ⟨by simp only; omega, by simp only; omega⟩, nameL_length k, rfl, hn, rfl, rfl, rfl, nameL_octs k, zeros_octs 16, on, zeros_octs 32, zeros_octs 32, zeros_octs 16⟩)
  have hL0 : Hid X0.Len := hid hO0.out.toLen
  have hv0 : Hid (X0.v = 1) := hid (by rw [HX0.out])
  have he0 : Hid (X0.e = e) := hid (by rw [HX0.out])
  have HBT : Hid (Try.prog.built 107 [(0, .int .i64 1), (1, .int .i64 e), (2, .agg ((nameL k).map (Value.int .u8)).toArray), (4, .agg (n.map (Value.int .u8)).toArray)] = some X0.cs.toArray) := hid (by rw [HX0.out]; exact built_env4 1 e (nameL_length k) hn)
  obtain ⟨X1, HX1⟩ : ∃ X, Hid (X = ({X0 with g := wrapL k e n s} : Env)) := ⟨_, rfl⟩
  have hWL : (wrapL k e n s).length = 32 := by rw [wrapL_length, hs]
  have hWO : Octs (wrapL k e n s) := coverL_octs _ _ os
  have hO1 : Hid X1.Ok := hid (by rw [HX1.out]; have h := hO0.out; exact ⟨h.vb, h.eb, h.bl, h.ol, h.nl, h.cl, hWL, h.tl, h.bo, h.oo, h.no, h.co, hWO, h.tt⟩)
  have hL1 : Hid X1.Len := hid hO1.out.toLen
  have hv1 : Hid (X1.v = 1) := hid (by rw [HX1.out]; exact hv0.out)
  have he1 : Hid (X1.e = e) := hid (by rw [HX1.out]; exact he0.out)
  obtain ⟨WV, HWV⟩ : ∃ V, Hid (V = (wrapL k e n s).map (Value.int .u8)) := ⟨_, rfl⟩
  have hWl : WV.length = 32 := by rw [HWV.out, List.length_map, hWL]
  have hW1 : ∀ u ∈ WV, u.oneCell' = true := by rw [HWV.out]; exact ints_one _ _
  have hT1 : Hid (X0.cs.take 82 ++ WV ++ X0.cs.drop (82 + WV.length) = X1.cs) := hid (by rw [HWV.out, HX1.out]; exact env_put_g hL0.out _ hWL)
  have htg := fun w1 (hb : Below B w w1) => hid (tag_1 k X1 c ao cap mc w1 hk ok hO1.out hv1.out (by rw [he1.out]; exact he) hmc (HP.below (hsz ▸ hb)) hno (by omega))
  obtain ⟨TV, HTV⟩ : ∃ V, Hid (V = (tagX k X1 c).map (Value.int .u8)) := ⟨_, rfl⟩
  have hTl : TV.length = 16 := by rw [HTV.out, List.length_map, tagX_length]
  have hTV1 : ∀ u ∈ TV, u.oneCell' = true := by rw [HTV.out]; exact ints_one _ _
  obtain ⟨X2, HX2⟩ : ∃ X, Hid (X = ({X1 with t := tagX k X1 c} : Env)) := ⟨_, rfl⟩
  have hO2 : Hid X2.Ok := hid (by rw [HX2.out]; have h := hO1.out; exact ⟨h.vb, h.eb, h.bl, h.ol, h.nl, h.cl, h.gl, tagX_length _ _ _, h.bo, h.oo, h.no, h.co, h.go, tagL_octs _ _⟩)
  have hL2 : Hid X2.Len := hid hO2.out.toLen
  have hT2 : Hid (X1.cs.take 114 ++ TV ++ X1.cs.drop (114 + TV.length) = X2.cs) := hid (by rw [HTV.out, HX2.out]; exact env_put_t hL1.out _ (tagX_length _ _ _))
  have hv2 : X2.v = 1 := by rw [HX2.out]; exact hv1.out
  have hz2 : errV X2 = 0 ∧ sizeV X2 = 88 := by
    have h3 : X2.e = e := by rw [HX2.out]; exact he1.out
    have h4 : X2.o = List.replicate 16 0 := by rw [HX2.out, HX1.out, HX0.out]
    have h5 : X2.c = List.replicate 32 0 := by rw [HX2.out, HX1.out, HX0.out]
    constructor
    · unfold errV; rw [if_neg (by simp [hv2]), if_neg (fun h => h (by rw [h3]; exact he)), if_neg (fun h => h.2 ⟨h4, h5⟩)]
    · unfold sizeV; rw [if_neg (by omega)]
  have hpr := fun w => hid ((Print_any X2 hO2.out w).mono fun r w' (h : EnvPost X2 w r w') => (by
    have h2 := h.2
    rw [if_pos hz2.1, hz2.2] at h2
    obtain ⟨a, b, h3, _⟩ := h2
    exact ⟨a, b, h3, h.1⟩ : ∃ ao c, r = .returned (.tuple #[.slice ao 88 c, .int .i64 0]) ∧ Below w.heap.size w w'))
  obtain ⟨K, HK⟩ : ∃ K, Hid (K = k.map (Value.int .u8)) := ⟨_, rfl⟩
  obtain ⟨N, HN⟩ : ∃ N, Hid (N = n.map (Value.int .u8)) := ⟨_, rfl⟩
  obtain ⟨S, HS⟩ : ∃ S, Hid (S = s.map (Value.int .u8)) := ⟨_, rfl⟩
  have hKl : K.length = 32 := by rw [HK.out, List.length_map, hk]
  have hNl : N.length = 16 := by rw [HN.out, List.length_map, hn]
  have hSl : S.length = 32 := by rw [HS.out, List.length_map, hs]
  obtain ⟨ZE, HZE⟩ : ∃ Z, Hid (Z = env0.cs) := ⟨_, rfl⟩
  have hzE := hid zeroEnv
  rw [← HZE.out] at hzE
  have hZEl : ZE.length = 130 := by rw [HZE.out]; exact env0_ok.csl
  rw [← HK.out] at hnm hco htg ⊢
  rw [← HN.out] at hco HBT ⊢
  rw [← HS.out] at hco ⊢
  rw [← HWV.out] at hco
  rw [← HTV.out] at htg
  obtain ⟨NV, HNV⟩ : ∃ V, Hid (V = (nameL k).map (Value.int .u8)) := ⟨_, rfl⟩
  rw [← HNV.out] at hnm HBT
  have hu23 := Try.underlying23
  have hi23 : (Try.prog.info? 23).map (·.size) = some K.length := by rw [hKl]; exact aggKey.2
  have hu25 := Try.underlying25
  have hi25 : (Try.prog.info? 25).map (·.size) = some N.length := by rw [hNl]; exact aggNo.2
  have hmI : ¬ (4096 : Int) < (mc : Int) := by omega
  clear hk hn hs hmc HP hWL hWO hv2 hz2 hi
  go_enter Try.func127, Try.ntmps127
  go_wp2_with (first | (refine wl_boxV rfl 23 _ rfl S rfl (B + 2) hs1 ?_; intro w2 hS2 hb2 hs2; have hB2 := hB1.below hb2 (by omega); have hN2 := hN1.below hb2 (by omega); have bb2 := bb1.trans (hb2.mono (by omega : B ≤ _)); clear hB1 hN1 bb1 hb2) | (refine wl_boxV rfl 25 _ rfl N rfl (B + 1) hs0 ?_; intro w1 hN1 hb1 hs1; have hB1 := hB0.below hb1 (by omega); have bb1 := hb0.trans (hb1.mono (by omega : B ≤ _)); clear hB0 hb0 hb1) | (refine wl_boxV rfl 23 _ rfl K rfl B hsz ?_; intro w0 hB0 hb0 hs0) | (go_at_call 125; refine (hbe w2).out.mono ?_; rintro e w3 ⟨rfl, rfl⟩))
  refine wp_region_held_drew (S := (fun w' => w'.rangeAt B 0 K ∧ w'.rangeAt (B + 1) 0 N)) (by kernel_rfl) ⟨at_range (w := w2.drew) hB2.at0, at_range (w := w2.drew) hN2.at0⟩ (fun hHeld => ?_)
  obtain ⟨y0, HY0⟩ : ∃ x, Hid (x = w2.drew) := ⟨_, rfl⟩
  rw [← HY0.out] at hHeld ⊢
  have hB0 : BlkV 23 y0 B K := by rw [HY0.out]; exact hB2
  have hN0 : BlkV 25 y0 (B + 1) N := by rw [HY0.out]; exact hN2
  have hS0 : BlkV 23 y0 (B + 2) S := by rw [HY0.out]; exact hS2
  have bb0 : Below B w y0 := by rw [HY0.out]; exact bb2.drew
  have hsy0 : B + 3 ≤ y0.heap.size := by rw [HY0.out]; show B + 3 ≤ w2.heap.size; omega
  clear hB2 hN2 hS2 bb2 hs2 hs1 hs0
  refine take_l (i := 0) (v := ?rv1) rfl (by kernel_rfl) (by kernel_rfl) (by kernel_rfl) (fun _ _ _ h => h) (Or.inl ⟨by rfl, ?rhy1⟩) (by assumption) ?rrest1
  case rhy1 => (intro w hSw; (try dsimp only at hSw); go_simp; (try with_reducible rfl))
  try simp only [Act.put, List.setIfInBounds_toArray, List.set_cons_zero, List.set_cons_succ]
  refine take_l (i := 1) (v := ?rv2) rfl (by kernel_rfl) (by kernel_rfl) (by kernel_rfl) (fun _ _ _ h => h) (Or.inl ⟨by rfl, ?rhy2⟩) (by assumption) ?rrest2
  case rhy2 => (intro w hSw; (try dsimp only at hSw); go_simp; (try with_reducible rfl))
  try simp only [Act.put, List.setIfInBounds_toArray, List.set_cons_zero, List.set_cons_succ]
  refine take_l (i := 2) (v := _) rfl (by kernel_rfl) (by kernel_rfl) (by kernel_rfl) (fun _ _ _ h => h) (yieldsIf_load_mid (by rfl) 23 _ rfl B 0 rfl K _ (fun w hS => hS.1) hu23 rfl hi23) (by assumption) ?_
  try simp only [Act.put, List.setIfInBounds_toArray, List.set_cons_zero, List.set_cons_succ]
  refine take_l (i := 4) (v := _) rfl (by kernel_rfl) (by kernel_rfl) (by kernel_rfl) (fun _ _ _ h => h) (yieldsIf_load_mid (by rfl) 25 _ rfl (B + 1) 0 rfl N _ (fun w hS => hS.2) hu25 rfl hi25) (by assumption) ?_
  try simp only [Act.put, List.setIfInBounds_toArray, List.set_cons_zero, List.set_cons_succ]
  refine wpAnyH_ready (rs := [3, 6]) (by kernel_rfl) (by simp) (cons_l rfl (fun K' hK' => ?_) (cons_l rfl (fun K' hK' => ?_) AllReadyH.nil))
  · rw [if_pos (by rfl)]
    go_simp
    go_at_call 174
    refine (hnm y0).out.mono ?_
    rintro e y1 ⟨rfl, hbx1⟩
    have hB1 := hB0.below hbx1 (by omega)
    have hN1 := hN0.below hbx1 (by omega)
    have hS1 := hS0.below hbx1 (by omega)
    have bb1 := bb0.trans (hbx1.mono (by omega : B ≤ _))
    have hsy1 : B + 3 ≤ y1.heap.size := by have := hbx1.size; omega
    refine hK'.out _ _ ⟨at_range hB1.at0, at_range hN1.at0⟩ (fun hHeld => ?_)
    clear hK' K'
    try simp only [Act.put, List.setIfInBounds_toArray, List.set_cons_zero, List.set_cons_succ]
    refine take_l (i := 5) (v := _) rfl (by kernel_rfl) (by kernel_rfl) (by kernel_rfl) (fun _ _ _ h => h) (yieldsIf_build4 (by rfl) 107 0 1 2 4 _ _ _ _ rfl (.int .i64 1) (.int .i64 e) (.agg NV.toArray) (.agg N.toArray) rfl rfl rfl rfl X0.cs HBT.out) (by assumption) ?_
    try simp only [Act.put, List.setIfInBounds_toArray, List.set_cons_zero, List.set_cons_succ]
    refine wpAnyH_ready (rs := [6]) (by kernel_rfl) (by simp) (cons_l rfl (fun K' hK' => ?_) AllReadyH.nil)
    obtain ⟨G, HG⟩ : ∃ g, Hid (g = y1.heap.size) := ⟨_, rfl⟩
    have hG3 : B + 3 ≤ G := by have := HG.out; omega
    refine step_allocV (by rfl) 107 (by rfl) ZE hzE.out G HG.out.symm ?_
    intro y2 hG2 hbx2 hsx2
    have hB2 := hB1.below hbx2 (by omega)
    have hN2 := hN1.below hbx2 (by omega)
    have hS2 := hS1.below hbx2 (by omega)
    have bb2 := bb1.trans (hbx2.mono (by omega : B ≤ _))
    have hsy2 : B + 3 ≤ y2.heap.size := by omega
    refine hK'.out _ _ ⟨at_range hB2.at0, at_range hN2.at0⟩ (fun hHeld => ?_)
    clear hK' K'
    try simp only [Act.put, List.setIfInBounds_toArray, List.set_cons_zero, List.set_cons_succ]
    refine wpAnyH_ready (rs := [7]) (by kernel_rfl) (by simp) (cons_l rfl (fun K' hK' => ?_) AllReadyH.nil)
    refine step_storeV (by rfl) 107 _ _ (by rfl) 107 G (by rfl) X0.cs (by rfl) 130 aggEnv hL0.out.csl ZE hG2 hZEl X0.cs_one ?_
    intro y3 hG3 hbx3 hsx3
    have hB3 := hB2.below hbx3 (by omega)
    have hN3 := hN2.below hbx3 (by omega)
    have hS3 := hS2.below hbx3 (by omega)
    have bb3 := bb2.trans (hbx3.mono (by omega : B ≤ _))
    refine hK'.out _ _ ⟨at_range hB3.at0, at_range hN3.at0⟩ (fun hHeld => ?_)
    clear hK' K'
    try simp only [Act.put, List.setIfInBounds_toArray, List.set_cons_zero, List.set_cons_succ]
    refine wpAnyH_done (by kernel_rfl) ?_ _
    have c00 := (hG3.cell 0).trans (by rw [Env.cv, hv0.out] : X0.cs[0]? = some (.int .i64 1))
    have hBs : B + 3 ≤ y3.heap.size := by have := hG3.lt; omega
    have hsw : B ≤ w.heap.size := by omega
    clear hHeld
    go_wp2_with (first | (go_at_call 68; refine (hpr v4).out.mono ?_; rintro e v5 ⟨ao5, c5, rfl, hbv5⟩; have bbv5 := bbv4.trans (hbv5.mono (by have := bbv4.size; omega : B ≤ _))) | (refine wl_load rfl 107 _ rfl ⟨G, 0, none⟩ rfl X2.cs (by rw [hL2.out.csl]; exact aggEnv) hGx.at0 ?_) | (refine wl_putAt rfl 105 _ _ rfl 107 G 114 rfl TV rfl (by rw [hTl]; exact aggTag.2) X1.cs hGv3 (by rw [hL1.out.csl, hTl]; decide) hTV1 ?_; intro v4 hGv4 hgv4 hsv4; have bbv4 := bbv3.grown hgv4 (by have := bbv3.size; omega) (fun k hk => by cases hk; omega); have hGx := hGv4; rw [hT2.out] at hGx; clear hGv3 bbv3 hgv4 hGv4) | (go_at_call 177; refine (htg v2 bbv2).out.mono ?_; rintro e v3 ⟨rfl, hbv3⟩; have hGv3 := hGw.below hbv3 hGw.lt; have bbv3 := bbv2.trans (hbv3.mono (by have := bbv2.size; omega : B ≤ _)); clear hBv2 hGw bbv2 hbv3 cv2) | (refine wl_load rfl 107 _ rfl ⟨G, 0, none⟩ rfl X1.cs (by rw [hL1.out.csl]; exact aggEnv) hGw.at0 ?_) | (refine wl_load rfl 23 _ rfl ⟨B, 0, none⟩ rfl K (by rw [hKl]; exact aggKey) hBv2.at0 ?_) | (refine wl_putAt rfl 22 _ _ rfl 107 G 82 rfl WV rfl (by rw [hWl]; exact agg32.2) X0.cs hGv1 (by rw [hL0.out.csl, hWl]; decide) hW1 ?_; intro v2 hGv2 hgv2 hsv2; have hBv2 := hBv1.grown hgv2 (by intro e; injection e with e; omega); have bbv2 := bbv1.grown hgv2 (by have := bbv1.size; omega) (fun k hk => by cases hk; omega); have hGw := hGv2; rw [hT1.out] at hGw; have cv2 := (hGw.cell 0).trans (by rw [Env.cv, hv1.out] : X1.cs[0]? = some (.int .i64 1)); clear hBv1 hGv1 bbv1 hgv2 hGv2) | (go_at_call 176; refine (hco y3).out.mono ?_; rintro e v1 ⟨rfl, hbv1⟩; have hBv1 := hB3.below hbv1 (by omega); have hGv1 := hG3.below hbv1 hG3.lt; have bbv1 := bb3.trans (hbv1.mono (by omega : B ≤ _)); clear hB3 hN3 hS3 hG3 bb3 hbv1) | (refine wl_load rfl 23 _ rfl ⟨B + 2, 0, none⟩ rfl S (by rw [hSl]; exact aggKey) hS3.at0 ?_) | (refine wl_load rfl 25 _ rfl ⟨B + 1, 0, none⟩ rfl N (by rw [hNl]; exact aggNo) hN3.at0 ?_) | (refine wl_load rfl 23 _ rfl ⟨B, 0, none⟩ rfl K (by rw [hKl]; exact aggKey) hB3.at0 ?_))
    go_ret2
    exact ⟨_, _, rfl, by first | exact bbv5 | (rw [hsz]; exact bbv5)⟩
  · obtain ⟨G, HG⟩ : ∃ g, Hid (g = y0.heap.size) := ⟨_, rfl⟩
    have hG3 : B + 3 ≤ G := by have := HG.out; omega
    refine step_allocV (by rfl) 107 (by rfl) ZE hzE.out G HG.out.symm ?_
    intro y1 hG1 hbx1 hsx1
    have hB1 := hB0.below hbx1 (by omega)
    have hN1 := hN0.below hbx1 (by omega)
    have hS1 := hS0.below hbx1 (by omega)
    have bb1 := bb0.trans (hbx1.mono (by omega : B ≤ _))
    have hsy1 : B + 3 ≤ y1.heap.size := by omega
    refine hK'.out _ _ ⟨at_range hB1.at0, at_range hN1.at0⟩ (fun hHeld => ?_)
    clear hK' K'
    try simp only [Act.put, List.setIfInBounds_toArray, List.set_cons_zero, List.set_cons_succ]
    refine wpAnyH_ready (rs := [3]) (by kernel_rfl) (by simp) (cons_l rfl (fun K' hK' => ?_) AllReadyH.nil)
    rw [if_pos (by rfl)]
    go_simp
    go_at_call 174
    refine (hnm y1).out.mono ?_
    rintro e y2 ⟨rfl, hbx2⟩
    have hB2 := hB1.below hbx2 (by omega)
    have hN2 := hN1.below hbx2 (by omega)
    have hS2 := hS1.below hbx2 (by omega)
    have bb2 := bb1.trans (hbx2.mono (by omega : B ≤ _))
    have hsy2 : B + 3 ≤ y2.heap.size := by have := hbx2.size; omega
    have hG2 := hG1.below hbx2 hG1.lt
    refine hK'.out _ _ ⟨at_range hB2.at0, at_range hN2.at0⟩ (fun hHeld => ?_)
    clear hK' K'
    try simp only [Act.put, List.setIfInBounds_toArray, List.set_cons_zero, List.set_cons_succ]
    refine take_l (i := 5) (v := _) rfl (by kernel_rfl) (by kernel_rfl) (by kernel_rfl) (fun _ _ _ h => h) (yieldsIf_build4 (by rfl) 107 0 1 2 4 _ _ _ _ rfl (.int .i64 1) (.int .i64 e) (.agg NV.toArray) (.agg N.toArray) rfl rfl rfl rfl X0.cs HBT.out) (by assumption) ?_
    try simp only [Act.put, List.setIfInBounds_toArray, List.set_cons_zero, List.set_cons_succ]
    refine wpAnyH_ready (rs := [7]) (by kernel_rfl) (by simp) (cons_l rfl (fun K' hK' => ?_) AllReadyH.nil)
    refine step_storeV (by rfl) 107 _ _ (by rfl) 107 G (by rfl) X0.cs (by rfl) 130 aggEnv hL0.out.csl ZE hG2 hZEl X0.cs_one ?_
    intro y3 hG3 hbx3 hsx3
    have hB3 := hB2.below hbx3 (by omega)
    have hN3 := hN2.below hbx3 (by omega)
    have hS3 := hS2.below hbx3 (by omega)
    have bb3 := bb2.trans (hbx3.mono (by omega : B ≤ _))
    refine hK'.out _ _ ⟨at_range hB3.at0, at_range hN3.at0⟩ (fun hHeld => ?_)
    clear hK' K'
    try simp only [Act.put, List.setIfInBounds_toArray, List.set_cons_zero, List.set_cons_succ]
    refine wpAnyH_done (by kernel_rfl) ?_ _
    have c00 := (hG3.cell 0).trans (by rw [Env.cv, hv0.out] : X0.cs[0]? = some (.int .i64 1))
    have hBs : B + 3 ≤ y3.heap.size := by have := hG3.lt; omega
    have hsw : B ≤ w.heap.size := by omega
    clear hHeld
    go_wp2_with (first | (go_at_call 68; refine (hpr v4).out.mono ?_; rintro e v5 ⟨ao5, c5, rfl, hbv5⟩; have bbv5 := bbv4.trans (hbv5.mono (by have := bbv4.size; omega : B ≤ _))) | (refine wl_load rfl 107 _ rfl ⟨G, 0, none⟩ rfl X2.cs (by rw [hL2.out.csl]; exact aggEnv) hGx.at0 ?_) | (refine wl_putAt rfl 105 _ _ rfl 107 G 114 rfl TV rfl (by rw [hTl]; exact aggTag.2) X1.cs hGv3 (by rw [hL1.out.csl, hTl]; decide) hTV1 ?_; intro v4 hGv4 hgv4 hsv4; have bbv4 := bbv3.grown hgv4 (by have := bbv3.size; omega) (fun k hk => by cases hk; omega); have hGx := hGv4; rw [hT2.out] at hGx; clear hGv3 bbv3 hgv4 hGv4) | (go_at_call 177; refine (htg v2 bbv2).out.mono ?_; rintro e v3 ⟨rfl, hbv3⟩; have hGv3 := hGw.below hbv3 hGw.lt; have bbv3 := bbv2.trans (hbv3.mono (by have := bbv2.size; omega : B ≤ _)); clear hBv2 hGw bbv2 hbv3 cv2) | (refine wl_load rfl 107 _ rfl ⟨G, 0, none⟩ rfl X1.cs (by rw [hL1.out.csl]; exact aggEnv) hGw.at0 ?_) | (refine wl_load rfl 23 _ rfl ⟨B, 0, none⟩ rfl K (by rw [hKl]; exact aggKey) hBv2.at0 ?_) | (refine wl_putAt rfl 22 _ _ rfl 107 G 82 rfl WV rfl (by rw [hWl]; exact agg32.2) X0.cs hGv1 (by rw [hL0.out.csl, hWl]; decide) hW1 ?_; intro v2 hGv2 hgv2 hsv2; have hBv2 := hBv1.grown hgv2 (by intro e; injection e with e; omega); have bbv2 := bbv1.grown hgv2 (by have := bbv1.size; omega) (fun k hk => by cases hk; omega); have hGw := hGv2; rw [hT1.out] at hGw; have cv2 := (hGw.cell 0).trans (by rw [Env.cv, hv1.out] : X1.cs[0]? = some (.int .i64 1)); clear hBv1 hGv1 bbv1 hgv2 hGv2) | (go_at_call 176; refine (hco y3).out.mono ?_; rintro e v1 ⟨rfl, hbv1⟩; have hBv1 := hB3.below hbv1 (by omega); have hGv1 := hG3.below hbv1 hG3.lt; have bbv1 := bb3.trans (hbv1.mono (by omega : B ≤ _)); clear hB3 hN3 hS3 hG3 bb3 hbv1) | (refine wl_load rfl 23 _ rfl ⟨B + 2, 0, none⟩ rfl S (by rw [hSl]; exact aggKey) hS3.at0 ?_) | (refine wl_load rfl 25 _ rfl ⟨B + 1, 0, none⟩ rfl N (by rw [hNl]; exact aggNo) hN3.at0 ?_) | (refine wl_load rfl 23 _ rfl ⟨B, 0, none⟩ rfl K (by rw [hKl]; exact aggKey) hB3.at0 ?_))
    go_ret2
    exact ⟨_, _, rfl, by first | exact bbv5 | (rw [hsz]; exact bbv5)⟩
set_option maxRecDepth 100000 in
set_option maxHeartbeats 2000000 in
theorem wraps_any (w : World) : Calls Try.prog 70 #[] w fun r w' => r = .returned (.bool true) ∧ Below w.heap.size w w' := by
  have hb1 : Try.prog.built 23 [] = some ((List.replicate 32 (0 : Int)).map (Value.int .u8)).toArray := by kernel_rfl
  have hb2 : Try.prog.built 25 [] = some ((List.replicate 16 (0 : Int)).map (Value.int .u8)).toArray := by kernel_rfl
  have hb3 : Try.prog.built 23 [(0, .int .u8 1)] = some ((1 :: List.replicate 31 (0 : Int)).map (Value.int .u8)).toArray := by kernel_rfl
  have os : Octs (1 :: List.replicate 31 (0 : Int)) := by
    intro c hc
    rcases List.mem_cons.1 hc with rfl | hc
    · exact ⟨by decide, by decide⟩
    · exact zeros_octs 31 c hc
  have hW := fun w => hid (Wrap_1 (List.replicate 32 0) (List.replicate 16 0) (1 :: List.replicate 31 0) [] 0 none 0 0 w rfl (zeros_octs 32) ⟨by decide, by decide⟩ rfl (zeros_octs 16) rfl os rfl ⟨RowI.nil _ _ _, by decide, by decide, (fun c hc => by cases hc), (fun b h => by cases h)⟩ (fun _ => rfl) (by decide))
  obtain ⟨K, HK⟩ : ∃ K, Hid (K = (List.replicate 32 (0 : Int)).map (Value.int .u8)) := ⟨_, rfl⟩
  obtain ⟨N, HN⟩ : ∃ K, Hid (K = (List.replicate 16 (0 : Int)).map (Value.int .u8)) := ⟨_, rfl⟩
  obtain ⟨S, HS⟩ : ∃ K, Hid (K = (1 :: List.replicate 31 (0 : Int)).map (Value.int .u8)) := ⟨_, rfl⟩
  rw [← HK.out, ← HN.out, ← HS.out] at hW
  rw [← HK.out] at hb1
  rw [← HN.out] at hb2
  rw [← HS.out] at hb3
  have HB1 := hid hb1
  have HB2 := hid hb2
  have HB3 := hid hb3
  clear os hb1 hb2 hb3
  go_enter Try.func70, Try.ntmps70
  go_wp2_with (first | (refine wl_build0 rfl 23 rfl K HB1.out ?_) | (refine wl_build0 rfl 25 rfl N HB2.out ?_) | (refine wl_build1 rfl 23 0 _ rfl (.int .u8 1) rfl S HB3.out ?_) | (go_at_call 127; refine (hW w).out.mono ?_; rintro e w1 ⟨ao1, c1, rfl, hb⟩))
  go_ret
  exact ⟨rfl, hb⟩
end Go.Proofs.Ytbljihhelladbaa.wr
namespace Go.Proofs.Ytbljihhelladbaa.wr
open Go.RowKit Go.Proofs.Ytbljihhelladbaa.st Go.Proofs.Ytbljihhelladbaa.hs Go.Proofs.Ytbljihhelladbaa.shr Go.Proofs.Ytbljihhelladbaa.sh
set_option linter.unusedSimpArgs false
set_option linter.unusedVariables false
set_option pp.maxSteps 6000
set_option maxRecDepth 100000 in
set_option maxHeartbeats 2000000 in
theorem commits_law (k : List Int) (hk : k.length = 32) (ok : Octs k) (s : ByteArray) (hs : s.size ≤ maxLen) (e : Int) (w : World) :
    Calls Try.prog 12 #[.agg (k.map (Value.int .u8)).toArray, .string s, .int .i64 e] w fun r w' => r = .returned (.bool true) ∧ Below w.heap.size w w' := by
  obtain ⟨B, HB⟩ : ∃ B, Hid (B = w.heap.size) := ⟨_, rfl⟩
  have hsz : w.heap.size = B := HB.out.symm
  have hci := fun w => hid (Commit_any k hk ok s hs e w)
  have hcr := fun w => hid (RefCommit_any k hk ok s hs e w)
  have hwr := fun w => hid (wraps_any w)
  have hq := fun w => hid (run_eq_sum w (commitS k s e) (commitS k s e) (commitS_length k s e) (commitS_length k s e))
  rw [show (commitS k s e == commitS k s e) = true by simp] at hq
  obtain ⟨K, HK⟩ : ∃ K, Hid (K = k.map (Value.int .u8)) := ⟨_, rfl⟩
  have hKl : K.length = 32 := by rw [HK.out, List.length_map, hk]
  obtain ⟨S, HS⟩ : ∃ S, Hid (S = (commitS k s e).map (Value.int .u8)) := ⟨_, rfl⟩
  have hSl : S.length = 32 := by rw [HS.out, List.length_map]; exact commitS_length k s e
  have hS1 : ∀ u ∈ S, u.oneCell' = true := by rw [HS.out]; exact ints_one _ _
  obtain ⟨E, HE⟩ : ∃ E, Hid (E = commitE s e) := ⟨_, rfl⟩
  have hcv : commitV k s e = .tuple #[.agg S.toArray, .int .i64 E] := by rw [HS.out, HE.out]; rfl
  rw [hcv, ← HK.out] at hci hcr
  rw [← HS.out] at hq
  rw [← HK.out]
  obtain ⟨Z, HZ⟩ : ∃ Z, Hid (Z = zSum) := ⟨_, rfl⟩
  have hz := hid zeroSumZ
  rw [← HZ.out] at hz
  have hZl : Z.length = 32 := by rw [HZ.out]; simp [zSum]
  have HEG := hid (by kernel_rfl : Try.prog.eqGuardType Try.prog.depth 73 = false)
  have hbe : (E == E) = true := by simp
  clear hcv hk
  go_enter Try.func12, Try.ntmps12
  go_wp2_with (first | (refine wl_eqM 34 rfl (by rfl) 73 _ _ _ rfl S.toArray S.toArray rfl rfl true (hq w7).out HEG.out ?_) | (refine wl_loadD 33 rfl (by rfl) 73 _ rfl ⟨w4.heap.size, 0, none⟩ rfl 32 S hSl aggSumT hV7.at0 ?_) | (refine wl_loadD 32 rfl (by rfl) 73 _ rfl ⟨w1.heap.size, 0, none⟩ rfl 32 S hSl aggSumT hU7.at0 ?_) | (go_at_call 70; refine (hwr w6).out.mono ?_; rintro r w7 ⟨rfl, hb7⟩; have hU7 := hU6.below hb7 hU6.lt; have hV7 := hV6.below hb7 hV6.lt; have bb7 := bb6.trans (hb7.mono (by omega : B ≤ _)); clear hU6 hV6 bb6 hb7) | (refine wl_storeV rfl 73 _ _ rfl 73 w4.heap.size rfl S rfl 32 aggSumT hSl Z hV5 hZl hS1 ?_; intro w6 hV6 hb6 hs6; have hU6 := hU5.below hb6 (by omega); have bb6 := bb5.trans (hb6.mono (by omega : B ≤ _)); clear hV5 hU5 bb5 hb6) | (refine wl_allocV rfl 73 rfl Z hz.out w4.heap.size rfl ?_; intro w5 hV5 hb5 hs5; have hU5 := hU4.below hb5 hU4.lt; have bb5 := bb4.trans (hb5.mono (by omega : B ≤ _)); clear hU4 bb4 hb5) | (go_at_call 74; refine (hcr w3).out.mono ?_; rintro r w4 ⟨rfl, hb4⟩; have hU4 := hU3.below hb4 hU3.lt; have bb4 := bb3.trans (hb4.mono (by omega : B ≤ _)); have hs4 := hb4.size; clear hU3 hB3 bb3 hb4) | (refine wl_load rfl 23 _ rfl ⟨B, 0, none⟩ rfl K (by rw [hKl]; exact aggKey) hB3.at0 ?_) | (refine wl_storeV rfl 73 _ _ rfl 73 w1.heap.size rfl S rfl 32 aggSumT hSl Z hU2 hZl hS1 ?_; intro w3 hU3 hb3 hs3; have hB3 := hB2.below hb3 (by omega); have bb3 := bb2.trans (hb3.mono (by omega : B ≤ _)); clear hU2 hB2 bb2 hb3) | (refine wl_allocV rfl 73 rfl Z hz.out w1.heap.size rfl ?_; intro w2 hU2 hb2 hs2; have hB2 := hB1.below hb2 (by omega); have bb2 := bb1.trans (hb2.mono (by omega : B ≤ _)); clear hB1 bb1 hb2) | (go_at_call 73; refine (hci w0).out.mono ?_; rintro r w1 ⟨rfl, hb1⟩; have hB1 := hB0.below hb1 (by omega); have bb1 := hb0.trans (hb1.mono (by omega : B ≤ _)); have hs1 := hb1.size; clear hB0 hb0 hb1) | (refine wl_load rfl 23 _ rfl ⟨B, 0, none⟩ rfl K (by rw [hKl]; exact aggKey) hB0.at0 ?_) | (refine wl_boxV rfl 23 _ rfl K rfl B hsz ?_; intro w0 hB0 hb0 hs0))
  go_ret
  exact ⟨rfl, by first | exact bb7 | (rw [hsz]; exact bb7)⟩
end Go.Proofs.Ytbljihhelladbaa.wr
namespace Go.Proofs.Ytbljihhelladbaa.opn
set_option linter.unusedSimpArgs false
set_option linter.unusedVariables false
open Go.ChangeShapes Go.WideShapes Go.ChangeAt Go.RowKit
theorem octArr {H : Type} {enc : TypeId × Value → H} {P : Program} {W : World} {base : Nat} {spare : Nat → Bool} {held : Bool} {r : Reach} {b0 : Nat} {t e : TypeId} {n : Nat} {v : Value} {d : DataW H} {ps : List MemPlace}
    (ht : P.underlying t = some (.array n e)) (he : P.underlying e = some (.int .u8)) (hc : P.cellsOf e = 1) (hct : P.cellsOf t = n) (hval : Value.okWide P W r b0 t v) (hd : DataW.Trod enc P W base spare held t v d ps) :
    ∃ l : List Int, v = .agg (l.map (Value.int .u8)).toArray ∧ l.length = n ∧ ∀ c ∈ l, 0 ≤ c ∧ c ≤ 255 := by
  have hv : ∃ cs, v = .agg cs := by
    simp only [Value.okWide, ht] at hval
    obtain ⟨cs, h, _⟩ := hval
    exact ⟨cs, h⟩
  obtain ⟨cs, rfl⟩ := hv
  obtain ⟨fuel, hf⟩ := hd
  obtain ⟨xs, m, rfl, _, h1, h2, h3⟩ := DataW.trod_array ht hf
  simp only [Value.cells] at h1 h3
  rw [hct] at h1
  have h4 : ∀ i, i < n → ∃ c : Int, cs.toList[i]? = some (.int .u8 c) ∧ 0 ≤ c ∧ c ≤ 255 := by
    intro i hi
    have h5 := h3 i hi
    rw [hc, Nat.mul_one, List.getElem?_eq_getElem (by omega)] at h5
    have hcs : (cs.toList.drop i).take 1 = [cs.toList[i]'(by omega)] := by
      rw [List.drop_eq_getElem_cons (by omega)]
      rfl
    rw [hcs] at h5
    obtain ⟨c, hcc, _, hw⟩ := DataW.trod_int he h5
    have hb := bounds_u8 hw
    simp only [List.cons.injEq, and_true] at hcc
    exact ⟨c, by rw [List.getElem?_eq_getElem (by omega), hcc], hb⟩
  refine ⟨cs.toList.map fun u => match u with | .int _ c => c | _ => 0, ?_, by rw [List.length_map]; exact h1, ?_⟩
  · congr 1
    apply Array.ext'
    rw [List.map_map]
    symm
    apply List.ext_getElem
    · simp
    · intro i hi1 hi2
      obtain ⟨c, h6, _⟩ := h4 i (by omega)
      rw [List.getElem?_eq_getElem (by omega)] at h6
      simp only [Option.some.injEq] at h6
      simp [h6]
  · intro c hc'
    obtain ⟨u, hu, rfl⟩ := List.mem_map.1 hc'
    obtain ⟨i, hi, rfl⟩ := List.getElem_of_mem hu
    obtain ⟨c, h6, h7⟩ := h4 i (by omega)
    rw [List.getElem?_eq_getElem hi] at h6
    simp only [Option.some.injEq] at h6
    rw [h6]
    exact h7
end Go.Proofs.Ytbljihhelladbaa.opn
namespace Go.Proofs.Ytbljihhelladbaa.law
set_option linter.unusedSimpArgs false
set_option linter.unusedVariables false
open Go.ChangeShapes Go.WideShapes Go.ChangeAt Go.RowKit
/-- types that can be read, and whose rows there are -/
def Readable (P : Program) : List TypeId → Prop
  | [] => True
  | t :: ts => P.readableRec t = true ∧ t < P.types.size ∧ Readable P ts
theorem readable_nil {P : Program} : Readable P [] := trivial
theorem readable_cons {P : Program} {t : TypeId} {ts : List TypeId} (h : P.readableRec t = true) (k : t < P.types.size) (r : Readable P ts) : Readable P (t :: ts) := ⟨h, k, r⟩
theorem stays {H : Type} {enc : TypeId × Value → H} {P : Program} (hl : laidOutB P = true) {W W' : World} (hb : Below W.heap.size W W') :
    ∀ (ts : List TypeId) (vs : List Value) (ds : List (DataW H)) (ps : List MemPlace), Readable P ts → DataW.TrodAll enc P W 0 (fun _ => true) true ts vs ds ps → (∀ x ∈ ps, x.block < W.heap.size) →
      DataW.TrodAll enc P W' 0 (fun b => decide (b < W.heap.size)) true ts vs ds ps
  | [], vs, ds, ps, _, h, _ => by
    obtain ⟨rfl, rfl, rfl⟩ := trodAll_nil h
    exact trodAll_mk0
  | t :: ts, vs, ds, ps, hr, h, hlt => by
    obtain ⟨v, vs1, d, ds1, a, b, rfl, rfl, rfl, h1, h2⟩ := trodAll_cons h
    exact trodAll_cons_mk (Below.trod hl hr.1 hr.2.1 h1 hb (fun x hx => hlt x (List.mem_append_left _ hx))) (stays hl hb ts vs1 ds1 b hr.2.2 h2 (fun x hx => hlt x (List.mem_append_right _ hx)))
theorem post {H : Type} {enc : TypeId × Value → H} {P : Program} (hl : laidOutB P = true) {f : Func} {s : ChangeSpec} {W W' : World} {args : Array Value} {ds gs : List (DataW H)} {before : List MemPlace} {tb : TypeId}
    (hW : DataW.Whole enc P f.params.toList s.vars false W args.toList ds gs before) (hvars : s.vars = []) (hp : Readable P f.params.toList) (hr : f.resultTypes = #[tb]) (hu : P.underlying tb = some .bool)
    (hfn : (s.fn H ds) = { results := [.lit (.bool true)], args := ds }) (hb : Below W.heap.size W W') :
    s.post enc P f false true false false W args (.bool true) W' := by
  have hW' := hW
  obtain ⟨p, q, hA, hV, rfl, hfz, hnd⟩ := hW
  rw [hvars] at hV
  obtain ⟨rfl, rfl⟩ := trodVars_none hV
  refine ⟨ds, [], p ++ [], [], p, [], hW', ?_, ?_, ?_, hb.frame _, fun h => by cases h⟩
  · rw [hr, List.append_nil, hfn]
    exact trodAll_cons_mk (shut_bool hu true) trodAll_mk0
  · rw [List.append_nil, hfn]
    exact stays hl hb _ _ _ _ hp hA fun x hx => hA.lt x hx
  · rw [hvars, List.append_nil, hfn]
    exact rfl
theorem laidOut : laidOutB Try.prog = true := by kernel_rfl
theorem own : ownKnob Try.prog.godebug = none := by kernel_rfl
end Go.Proofs.Ytbljihhelladbaa.law
