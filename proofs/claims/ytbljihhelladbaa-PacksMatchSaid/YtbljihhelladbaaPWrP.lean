/-
  Contract of wrap.Wrap at version 1; keylaw2.wraps says yes. Conditions: keys and nonces of octets, an epoch in its bounds, a context of at most 4096 octets. What Print writes Read reads; the walk of the law EnvelopesMatch. Conditions: an envelope of the type's form, a slice of octets that lies in memory. Contract of wrap.contextOf; facts of an envelope that was read; what the opening of an envelope answers; arrays held to be unlike. Conditions: as stated. Maps keyed by IDs, all values true: reading and writing one. Conditions: IDs of 16 octets.
-/
import Derived.Test.YtbljihhelladbaaPWrN
import Derived.Test.YtbljihhelladbaaPWrM
import Derived.Test.YtbljihhelladbaaPShBC
import Derived.Test.YtbljihhelladbaaPEqA
import Derived.Test.YtbljihhelladbaaPWsD
import Derived.Test.YtbljihhelladbaaPWrL
import Derived.WideKeyRuns
namespace Go.Proofs.Ytbljihhelladbaa.wr
open Go.RowKit Go.Proofs.Ytbljihhelladbaa.st Go.Proofs.Ytbljihhelladbaa.hs Go.Proofs.Ytbljihhelladbaa.shr Go.Proofs.Ytbljihhelladbaa.sh
set_option linter.unusedSimpArgs false
set_option linter.unusedVariables false
set_option pp.maxSteps 6000
theorem built_env4 (v e : Int) {h n : List Int} (hlh : h.length = 16) (hln : n.length = 16) : Try.prog.built 107 [(0, .int .i64 v), (1, .int .i64 e), (2, .agg (h.map (Value.int .u8)).toArray), (4, .agg (n.map (Value.int .u8)).toArray)] = some (⟨v, e, h, List.replicate 16 0, n, List.replicate 32 0, List.replicate 32 0, List.replicate 16 0⟩ : Env).cs.toArray := by
  obtain ⟨a0, a1, a2, a3, a4, a5, a6, a7, a8, a9, a10, a11, a12, a13, a14, a15, rfl⟩ : ∃ a0 a1 a2 a3 a4 a5 a6 a7 a8 a9 a10 a11 a12 a13 a14 a15, h = [a0, a1, a2, a3, a4, a5, a6, a7, a8, a9, a10, a11, a12, a13, a14, a15] := by
    refine ⟨h[0], h[1], h[2], h[3], h[4], h[5], h[6], h[7], h[8], h[9], h[10], h[11], h[12], h[13], h[14], h[15], List.ext_getElem (by simp [hlh]) fun i h1 h2 => ?_⟩
    have : i < 16 := by omega
    match i, this with
    | 0, _ => rfl
    | 1, _ => rfl
    | 2, _ => rfl
    | 3, _ => rfl
    | 4, _ => rfl
    | 5, _ => rfl
    | 6, _ => rfl
    | 7, _ => rfl
    | 8, _ => rfl
    | 9, _ => rfl
    | 10, _ => rfl
    | 11, _ => rfl
    | 12, _ => rfl
    | 13, _ => rfl
    | 14, _ => rfl
    | 15, _ => rfl
    | i + 16, h => exact absurd h (by omega)
  obtain ⟨c0, c1, c2, c3, c4, c5, c6, c7, c8, c9, c10, c11, c12, c13, c14, c15, rfl⟩ : ∃ c0 c1 c2 c3 c4 c5 c6 c7 c8 c9 c10 c11 c12 c13 c14 c15, n = [c0, c1, c2, c3, c4, c5, c6, c7, c8, c9, c10, c11, c12, c13, c14, c15] := by
    refine ⟨n[0], n[1], n[2], n[3], n[4], n[5], n[6], n[7], n[8], n[9], n[10], n[11], n[12], n[13], n[14], n[15], List.ext_getElem (by simp [hln]) fun i h1 h2 => ?_⟩
    have : i < 16 := by omega
    match i, this with
    | 0, _ => rfl
    | 1, _ => rfl
    | 2, _ => rfl
    | 3, _ => rfl
    | 4, _ => rfl
    | 5, _ => rfl
    | 6, _ => rfl
    | 7, _ => rfl
    | 8, _ => rfl
    | 9, _ => rfl
    | 10, _ => rfl
    | 11, _ => rfl
    | 12, _ => rfl
    | 13, _ => rfl
    | 14, _ => rfl
    | 15, _ => rfl
    | i + 16, h => exact absurd h (by omega)
  kernel_rfl
theorem wl_build1 {P : Program} {w : World} {ops : Array Oper} {rest : List Oper} {o : Oper} {a : Act} {Q : Exit → Act → World → Prop} (hgd : o.guard = none) (t : TypeId) (i : Nat) (x : Operand) (ho : o.op = .build t #[(i, x)])
    (u : Value) (hx : a.eval x = u) (cs : List Value) (hb : P.built t [(i, u)] = some cs.toArray) (h : wpList P ops Q rest (a.put o.dst (.agg cs.toArray)) w) : wpList P ops Q (o :: rest) a w :=
  wl_build hgd t #[(i, x)] ho cs (by simpa [hx] using hb) h
theorem yieldsIf_build4 {P : Program} {ops : Array Oper} {S : World → Prop} {op : Oper} {a : Act} (hw : Region.wanted op (yielded ops a.tmps) = true) (t : TypeId) (i j k l : Nat) (x y z q : Operand) (ho : op.op = .build t #[(i, x), (j, y), (k, z), (l, q)])
    (u v r s : Value) (hx : a.eval x = u) (hy : a.eval y = v) (hz : a.eval z = r) (hq : a.eval q = s) (cs : List Value) (hb : P.built t [(i, u), (j, v), (k, r), (l, s)] = some cs.toArray) : YieldsIf P ops S op (.agg cs.toArray) a :=
  .inl ⟨hw, fun w hw' => by
    unfold execOp
    simp [ho, hx, hy, hz, hq, run_build w t #[(i, u), (j, v), (k, r), (l, s)] cs.toArray hb, Result.andThen]⟩
set_option maxRecDepth 100000 in
set_option maxHeartbeats 4000000 in
theorem Wrap_1 (k n s c : List Int) (e : Int) (ao : Option Addr) (cap mc : Nat) (w : World) (hk : k.length = 32) (ok : Octs k) (he : 0 ≤ e ∧ e ≤ 4294967295) (hn : n.length = 16) (on : Octs n) (hs : s.length = 32) (os : Octs s) (hmc : mc = c.length) (HP : Pt.Ok w ⟨ao, cap, c⟩) (hno : ao = none → cap = 0) (hm : mc ≤ 4096) :
    Calls Try.prog 127 #[.int .i64 1, .agg (k.map (Value.int .u8)).toArray, .int .i64 e, .agg (n.map (Value.int .u8)).toArray, .slice ao mc cap, .agg (s.map (Value.int .u8)).toArray] w fun r w' => ∃ ao' c', r = .returned (.tuple #[.slice ao' 88 c', .int .i64 0]) ∧ Below w.heap.size w w' := by
  obtain ⟨B, HB⟩ : ∃ B, Hid (B = w.heap.size) := ⟨_, rfl⟩
  have hsz : w.heap.size = B := HB.out.symm
  have hbe := fun w => hid (badEpoch_any e w)
  have hi : inB e 0 4294967295 = true := by unfold inB; simp; omega
  rw [hi] at hbe
  have hnm := fun w => hid (NameOf_any k hk ok w)
  have hco := fun w => hid (cover_any k e n s w hk ok he hn on hs os)
  obtain ⟨X0, HX0⟩ : ∃ X, Hid (X = (⟨1, e, nameL k, List.replicate 16 0, n, List.replicate 32 0, List.replicate 32 0, List.replicate 16 0⟩ : Env)) := ⟨_, rfl⟩
  have hO0 : Hid X0.Ok := hid (by rw [HX0.out]; exact ⟨⟨by show (-9223372036854775808 : Int) ≤ 1; decide, by show (1 : Int) ≤ 9223372036854775807; decide⟩, ⟨by simp only; omega, by simp only; omega⟩, nameL_length k, rfl, hn, rfl, rfl, rfl, nameL_octs k, zeros_octs 16, on, zeros_octs 32, zeros_octs 32, zeros_octs 16⟩)
  have hL0 : Hid X0.Len := hid hO0.out.toLen
  have hv0 : Hid (X0.v = 1) := hid (by rw [HX0.out])
  have he0 : Hid (X0.e = e) := hid (by rw [HX0.out])
  have HBT : Hid (Try.prog.built 107 [(0, .int .i64 1), (1, .int .i64 e), (2, .agg ((nameL k).map (Value.int .u8)).toArray), (4, .agg (n.map (Value.int .u8)).toArray)] = some X0.cs.toArray) := hid (by rw [HX0.out]; exact built_env4 1 e (nameL_length k) hn)
  obtain ⟨X1, HX1⟩ : ∃ X, Hid (X = ({X0 with g := wrapL k e n s} : Env)) := ⟨_, rfl⟩
  have hWL : (wrapL k e n s).length = 32 := by rw [wrapL_length, hs]
  have hWO : Octs (wrapL k e n s) := coverL_octs _ _ os
  have hO1 : Hid X1.Ok := hid (by rw [HX1.out]; have h := hO0.out; exact ⟨h.vb, h.eb, h.bl, h.ol, h.nl, h.cl, hWL, h.tl, h.bo, h.oo, h.no, h.co, hWO, h.tt⟩)
  have hL1 : Hid X1.Len := hid hO1.out.toLen
  have hv1 : Hid (X1.v = 1) := hid (by rw [HX1.out]; exact hv0.out)
  have he1 : Hid (X1.e = e) := hid (by rw [HX1.out]; exact he0.out)
  obtain ⟨WV, HWV⟩ : ∃ V, Hid (V = (wrapL k e n s).map (Value.int .u8)) := ⟨_, rfl⟩
  have hWl : WV.length = 32 := by rw [HWV.out, List.length_map, hWL]
  have hW1 : ∀ u ∈ WV, u.oneCell' = true := by rw [HWV.out]; exact ints_one _ _
  have hT1 : Hid (X0.cs.take 82 ++ WV ++ X0.cs.drop (82 + WV.length) = X1.cs) := hid (by rw [HWV.out, HX1.out]; exact env_put_g hL0.out _ hWL)
  have htg := fun w1 (hb : Below B w w1) => hid (tag_1 k X1 c ao cap mc w1 hk ok hO1.out hv1.out (by rw [he1.out]; exact he) hmc (HP.below (hsz ▸ hb)) hno (by omega))
  obtain ⟨TV, HTV⟩ : ∃ V, Hid (V = (tagX k X1 c).map (Value.int .u8)) := ⟨_, rfl⟩
  have hTl : TV.length = 16 := by rw [HTV.out, List.length_map, tagX_length]
  have hTV1 : ∀ u ∈ TV, u.oneCell' = true := by rw [HTV.out]; exact ints_one _ _
  obtain ⟨X2, HX2⟩ : ∃ X, Hid (X = ({X1 with t := tagX k X1 c} : Env)) := ⟨_, rfl⟩
  have hO2 : Hid X2.Ok := hid (by rw [HX2.out]; have h := hO1.out; exact ⟨h.vb, h.eb, h.bl, h.ol, h.nl, h.cl, h.gl, tagX_length _ _ _, h.bo, h.oo, h.no, h.co, h.go, tagL_octs _ _⟩)
  have hL2 : Hid X2.Len := hid hO2.out.toLen
  have hT2 : Hid (X1.cs.take 114 ++ TV ++ X1.cs.drop (114 + TV.length) = X2.cs) := hid (by rw [HTV.out, HX2.out]; exact env_put_t hL1.out _ (tagX_length _ _ _))
  have hv2 : X2.v = 1 := by rw [HX2.out]; exact hv1.out
  have hz2 : errV X2 = 0 ∧ sizeV X2 = 88 := by
    have h3 : X2.e = e := by rw [HX2.out]; exact he1.out
    have h4 : X2.o = List.replicate 16 0 := by rw [HX2.out, HX1.out, HX0.out]
    have h5 : X2.c = List.replicate 32 0 := by rw [HX2.out, HX1.out, HX0.out]
    constructor
    · unfold errV; rw [if_neg (by simp [hv2]), if_neg (fun h => h (by rw [h3]; exact he)), if_neg (fun h => h.2 ⟨h4, h5⟩)]
    · unfold sizeV; rw [if_neg (by omega)]
  have hpr := fun w => hid ((Print_any X2 hO2.out w).mono fun r w' (h : EnvPost X2 w r w') => (by
    have h2 := h.2
    rw [if_pos hz2.1, hz2.2] at h2
    obtain ⟨a, b, h3, _⟩ := h2
    exact ⟨a, b, h3, h.1⟩ : ∃ ao c, r = .returned (.tuple #[.slice ao 88 c, .int .i64 0]) ∧ Below w.heap.size w w'))
  obtain ⟨K, HK⟩ : ∃ K, Hid (K = k.map (Value.int .u8)) := ⟨_, rfl⟩
  obtain ⟨N, HN⟩ : ∃ N, Hid (N = n.map (Value.int .u8)) := ⟨_, rfl⟩
  obtain ⟨S, HS⟩ : ∃ S, Hid (S = s.map (Value.int .u8)) := ⟨_, rfl⟩
  have hKl : K.length = 32 := by rw [HK.out, List.length_map, hk]
  have hNl : N.length = 16 := by rw [HN.out, List.length_map, hn]
  have hSl : S.length = 32 := by rw [HS.out, List.length_map, hs]
  obtain ⟨ZE, HZE⟩ : ∃ Z, Hid (Z = env0.cs) := ⟨_, rfl⟩
  have hzE := hid zeroEnv
  rw [← HZE.out] at hzE
  have hZEl : ZE.length = 130 := by rw [HZE.out]; exact env0_ok.csl
  rw [← HK.out] at hnm hco htg ⊢
  rw [← HN.out] at hco HBT ⊢
  rw [← HS.out] at hco ⊢
  rw [← HWV.out] at hco
  rw [← HTV.out] at htg
  obtain ⟨NV, HNV⟩ : ∃ V, Hid (V = (nameL k).map (Value.int .u8)) := ⟨_, rfl⟩
  rw [← HNV.out] at hnm HBT
  have hu23 := Try.underlying23
  have hi23 : (Try.prog.info? 23).map (·.size) = some K.length := by rw [hKl]; exact aggKey.2
  have hu25 := Try.underlying25
  have hi25 : (Try.prog.info? 25).map (·.size) = some N.length := by rw [hNl]; exact aggNo.2
  have hmI : ¬ (4096 : Int) < (mc : Int) := by omega
  clear hk hn hs hmc HP hWL hWO hv2 hz2 hi
  go_enter Try.func127, Try.ntmps127
  go_wp2_with (first | (refine wl_boxV rfl 23 _ rfl S rfl (B + 2) hs1 ?_; intro w2 hS2 hb2 hs2; have hB2 := hB1.below hb2 (by omega); have hN2 := hN1.below hb2 (by omega); have bb2 := bb1.trans (hb2.mono (by omega : B ≤ _)); clear hB1 hN1 bb1 hb2) | (refine wl_boxV rfl 25 _ rfl N rfl (B + 1) hs0 ?_; intro w1 hN1 hb1 hs1; have hB1 := hB0.below hb1 (by omega); have bb1 := hb0.trans (hb1.mono (by omega : B ≤ _)); clear hB0 hb0 hb1) | (refine wl_boxV rfl 23 _ rfl K rfl B hsz ?_; intro w0 hB0 hb0 hs0) | (go_at_call 125; refine (hbe w2).out.mono ?_; rintro e w3 ⟨rfl, rfl⟩))
  refine wp_region_held_drew (S := (fun w' => w'.rangeAt B 0 K ∧ w'.rangeAt (B + 1) 0 N)) (by kernel_rfl) ⟨at_range (w := w2.drew) hB2.at0, at_range (w := w2.drew) hN2.at0⟩ (fun hHeld => ?_)
  obtain ⟨y0, HY0⟩ : ∃ x, Hid (x = w2.drew) := ⟨_, rfl⟩
  rw [← HY0.out] at hHeld ⊢
  have hB0 : BlkV 23 y0 B K := by rw [HY0.out]; exact hB2
  have hN0 : BlkV 25 y0 (B + 1) N := by rw [HY0.out]; exact hN2
  have hS0 : BlkV 23 y0 (B + 2) S := by rw [HY0.out]; exact hS2
  have bb0 : Below B w y0 := by rw [HY0.out]; exact bb2.drew
  have hsy0 : B + 3 ≤ y0.heap.size := by rw [HY0.out]; show B + 3 ≤ w2.heap.size; omega
  clear hB2 hN2 hS2 bb2 hs2 hs1 hs0
  refine take_l (i := 0) (v := ?rv1) rfl (by kernel_rfl) (by kernel_rfl) (by kernel_rfl) (fun _ _ _ h => h) (Or.inl ⟨by rfl, ?rhy1⟩) (by assumption) ?rrest1
  case rhy1 => (intro w hSw; (try dsimp only at hSw); go_simp; (try with_reducible rfl))
  try simp only [Act.put, List.setIfInBounds_toArray, List.set_cons_zero, List.set_cons_succ]
  refine take_l (i := 1) (v := ?rv2) rfl (by kernel_rfl) (by kernel_rfl) (by kernel_rfl) (fun _ _ _ h => h) (Or.inl ⟨by rfl, ?rhy2⟩) (by assumption) ?rrest2
  case rhy2 => (intro w hSw; (try dsimp only at hSw); go_simp; (try with_reducible rfl))
  try simp only [Act.put, List.setIfInBounds_toArray, List.set_cons_zero, List.set_cons_succ]
  refine take_l (i := 2) (v := _) rfl (by kernel_rfl) (by kernel_rfl) (by kernel_rfl) (fun _ _ _ h => h) (yieldsIf_load_mid (by rfl) 23 _ rfl B 0 rfl K _ (fun w hS => hS.1) hu23 rfl hi23) (by assumption) ?_
  try simp only [Act.put, List.setIfInBounds_toArray, List.set_cons_zero, List.set_cons_succ]
  refine take_l (i := 4) (v := _) rfl (by kernel_rfl) (by kernel_rfl) (by kernel_rfl) (fun _ _ _ h => h) (yieldsIf_load_mid (by rfl) 25 _ rfl (B + 1) 0 rfl N _ (fun w hS => hS.2) hu25 rfl hi25) (by assumption) ?_
  try simp only [Act.put, List.setIfInBounds_toArray, List.set_cons_zero, List.set_cons_succ]
  refine wpAnyH_ready (rs := [3, 6]) (by kernel_rfl) (by simp) (cons_l rfl (fun K' hK' => ?_) (cons_l rfl (fun K' hK' => ?_) AllReadyH.nil))
  · rw [if_pos (by rfl)]
    go_simp
    go_at_call 174
    refine (hnm y0).out.mono ?_
    rintro e y1 ⟨rfl, hbx1⟩
    have hB1 := hB0.below hbx1 (by omega)
    have hN1 := hN0.below hbx1 (by omega)
    have hS1 := hS0.below hbx1 (by omega)
    have bb1 := bb0.trans (hbx1.mono (by omega : B ≤ _))
    have hsy1 : B + 3 ≤ y1.heap.size := by have := hbx1.size; omega
    refine hK'.out _ _ ⟨at_range hB1.at0, at_range hN1.at0⟩ (fun hHeld => ?_)
    clear hK' K'
    try simp only [Act.put, List.setIfInBounds_toArray, List.set_cons_zero, List.set_cons_succ]
    refine take_l (i := 5) (v := _) rfl (by kernel_rfl) (by kernel_rfl) (by kernel_rfl) (fun _ _ _ h => h) (yieldsIf_build4 (by rfl) 107 0 1 2 4 _ _ _ _ rfl (.int .i64 1) (.int .i64 e) (.agg NV.toArray) (.agg N.toArray) rfl rfl rfl rfl X0.cs HBT.out) (by assumption) ?_
    try simp only [Act.put, List.setIfInBounds_toArray, List.set_cons_zero, List.set_cons_succ]
    refine wpAnyH_ready (rs := [6]) (by kernel_rfl) (by simp) (cons_l rfl (fun K' hK' => ?_) AllReadyH.nil)
    obtain ⟨G, HG⟩ : ∃ g, Hid (g = y1.heap.size) := ⟨_, rfl⟩
    have hG3 : B + 3 ≤ G := by have := HG.out; omega
    refine step_allocV (by rfl) 107 (by rfl) ZE hzE.out G HG.out.symm ?_
    intro y2 hG2 hbx2 hsx2
    have hB2 := hB1.below hbx2 (by omega)
    have hN2 := hN1.below hbx2 (by omega)
    have hS2 := hS1.below hbx2 (by omega)
    have bb2 := bb1.trans (hbx2.mono (by omega : B ≤ _))
    have hsy2 : B + 3 ≤ y2.heap.size := by omega
    refine hK'.out _ _ ⟨at_range hB2.at0, at_range hN2.at0⟩ (fun hHeld => ?_)
    clear hK' K'
    try simp only [Act.put, List.setIfInBounds_toArray, List.set_cons_zero, List.set_cons_succ]
    refine wpAnyH_ready (rs := [7]) (by kernel_rfl) (by simp) (cons_l rfl (fun K' hK' => ?_) AllReadyH.nil)
    refine step_storeV (by rfl) 107 _ _ (by rfl) 107 G (by rfl) X0.cs (by rfl) 130 aggEnv hL0.out.csl ZE hG2 hZEl X0.cs_one ?_
    intro y3 hG3 hbx3 hsx3
    have hB3 := hB2.below hbx3 (by omega)
    have hN3 := hN2.below hbx3 (by omega)
    have hS3 := hS2.below hbx3 (by omega)
    have bb3 := bb2.trans (hbx3.mono (by omega : B ≤ _))
    refine hK'.out _ _ ⟨at_range hB3.at0, at_range hN3.at0⟩ (fun hHeld => ?_)
    clear hK' K'
    try simp only [Act.put, List.setIfInBounds_toArray, List.set_cons_zero, List.set_cons_succ]
    refine wpAnyH_done (by kernel_rfl) ?_ _
    have c00 := (hG3.cell 0).trans (by rw [Env.cv, hv0.out] : X0.cs[0]? = some (.int .i64 1))
    have hBs : B + 3 ≤ y3.heap.size := by have := hG3.lt; omega
    have hsw : B ≤ w.heap.size := by omega
    clear hHeld
    go_wp2_with (first | (go_at_call 68; refine (hpr v4).out.mono ?_; rintro e v5 ⟨ao5, c5, rfl, hbv5⟩; have bbv5 := bbv4.trans (hbv5.mono (by have := bbv4.size; omega : B ≤ _))) | (refine wl_load rfl 107 _ rfl ⟨G, 0, none⟩ rfl X2.cs (by rw [hL2.out.csl]; exact aggEnv) hGx.at0 ?_) | (refine wl_putAt rfl 105 _ _ rfl 107 G 114 rfl TV rfl (by rw [hTl]; exact aggTag.2) X1.cs hGv3 (by rw [hL1.out.csl, hTl]; decide) hTV1 ?_; intro v4 hGv4 hgv4 hsv4; have bbv4 := bbv3.grown hgv4 (by have := bbv3.size; omega) (fun k hk => by cases hk; omega); have hGx := hGv4; rw [hT2.out] at hGx; clear hGv3 bbv3 hgv4 hGv4) | (go_at_call 177; refine (htg v2 bbv2).out.mono ?_; rintro e v3 ⟨rfl, hbv3⟩; have hGv3 := hGw.below hbv3 hGw.lt; have bbv3 := bbv2.trans (hbv3.mono (by have := bbv2.size; omega : B ≤ _)); clear hBv2 hGw bbv2 hbv3 cv2) | (refine wl_load rfl 107 _ rfl ⟨G, 0, none⟩ rfl X1.cs (by rw [hL1.out.csl]; exact aggEnv) hGw.at0 ?_) | (refine wl_load rfl 23 _ rfl ⟨B, 0, none⟩ rfl K (by rw [hKl]; exact aggKey) hBv2.at0 ?_) | (refine wl_putAt rfl 22 _ _ rfl 107 G 82 rfl WV rfl (by rw [hWl]; exact agg32.2) X0.cs hGv1 (by rw [hL0.out.csl, hWl]; decide) hW1 ?_; intro v2 hGv2 hgv2 hsv2; have hBv2 := hBv1.grown hgv2 (by intro e; injection e with e; omega); have bbv2 := bbv1.grown hgv2 (by have := bbv1.size; omega) (fun k hk => by cases hk; omega); have hGw := hGv2; rw [hT1.out] at hGw; have cv2 := (hGw.cell 0).trans (by rw [Env.cv, hv1.out] : X1.cs[0]? = some (.int .i64 1)); clear hBv1 hGv1 bbv1 hgv2 hGv2) | (go_at_call 176; refine (hco y3).out.mono ?_; rintro e v1 ⟨rfl, hbv1⟩; have hBv1 := hB3.below hbv1 (by omega); have hGv1 := hG3.below hbv1 hG3.lt; have bbv1 := bb3.trans (hbv1.mono (by omega : B ≤ _)); clear hB3 hN3 hS3 hG3 bb3 hbv1) | (refine wl_load rfl 23 _ rfl ⟨B + 2, 0, none⟩ rfl S (by rw [hSl]; exact aggKey) hS3.at0 ?_) | (refine wl_load rfl 25 _ rfl ⟨B + 1, 0, none⟩ rfl N (by rw [hNl]; exact aggNo) hN3.at0 ?_) | (refine wl_load rfl 23 _ rfl ⟨B, 0, none⟩ rfl K (by rw [hKl]; exact aggKey) hB3.at0 ?_))
    go_ret2
    exact ⟨_, _, rfl, by first | exact bbv5 | (rw [hsz]; exact bbv5)⟩
  · obtain ⟨G, HG⟩ : ∃ g, Hid (g = y0.heap.size) := ⟨_, rfl⟩
    have hG3 : B + 3 ≤ G := by have := HG.out; omega
    refine step_allocV (by rfl) 107 (by rfl) ZE hzE.out G HG.out.symm ?_
    intro y1 hG1 hbx1 hsx1
    have hB1 := hB0.below hbx1 (by omega)
    have hN1 := hN0.below hbx1 (by omega)
    have hS1 := hS0.below hbx1 (by omega)
    have bb1 := bb0.trans (hbx1.mono (by omega : B ≤ _))
    have hsy1 : B + 3 ≤ y1.heap.size := by omega
    refine hK'.out _ _ ⟨at_range hB1.at0, at_range hN1.at0⟩ (fun hHeld => ?_)
    clear hK' K'
    try simp only [Act.put, List.setIfInBounds_toArray, List.set_cons_zero, List.set_cons_succ]
    refine wpAnyH_ready (rs := [3]) (by kernel_rfl) (by simp) (cons_l rfl (fun K' hK' => ?_) AllReadyH.nil)
    rw [if_pos (by rfl)]
    go_simp
    go_at_call 174
    refine (hnm y1).out.mono ?_
    rintro e y2 ⟨rfl, hbx2⟩
    have hB2 := hB1.below hbx2 (by omega)
    have hN2 := hN1.below hbx2 (by omega)
    have hS2 := hS1.below hbx2 (by omega)
    have bb2 := bb1.trans (hbx2.mono (by omega : B ≤ _))
    have hsy2 : B + 3 ≤ y2.heap.size := by have := hbx2.size; omega
    have hG2 := hG1.below hbx2 hG1.lt
    refine hK'.out _ _ ⟨at_range hB2.at0, at_range hN2.at0⟩ (fun hHeld => ?_)
    clear hK' K'
    try simp only [Act.put, List.setIfInBounds_toArray, List.set_cons_zero, List.set_cons_succ]
    refine take_l (i := 5) (v := _) rfl (by kernel_rfl) (by kernel_rfl) (by kernel_rfl) (fun _ _ _ h => h) (yieldsIf_build4 (by rfl) 107 0 1 2 4 _ _ _ _ rfl (.int .i64 1) (.int .i64 e) (.agg NV.toArray) (.agg N.toArray) rfl rfl rfl rfl X0.cs HBT.out) (by assumption) ?_
    try simp only [Act.put, List.setIfInBounds_toArray, List.set_cons_zero, List.set_cons_succ]
    refine wpAnyH_ready (rs := [7]) (by kernel_rfl) (by simp) (cons_l rfl (fun K' hK' => ?_) AllReadyH.nil)
    refine step_storeV (by rfl) 107 _ _ (by rfl) 107 G (by rfl) X0.cs (by rfl) 130 aggEnv hL0.out.csl ZE hG2 hZEl X0.cs_one ?_
    intro y3 hG3 hbx3 hsx3
    have hB3 := hB2.below hbx3 (by omega)
    have hN3 := hN2.below hbx3 (by omega)
    have hS3 := hS2.below hbx3 (by omega)
    have bb3 := bb2.trans (hbx3.mono (by omega : B ≤ _))
    refine hK'.out _ _ ⟨at_range hB3.at0, at_range hN3.at0⟩ (fun hHeld => ?_)
    clear hK' K'
    try simp only [Act.put, List.setIfInBounds_toArray, List.set_cons_zero, List.set_cons_succ]
    refine wpAnyH_done (by kernel_rfl) ?_ _
    have c00 := (hG3.cell 0).trans (by rw [Env.cv, hv0.out] : X0.cs[0]? = some (.int .i64 1))
    have hBs : B + 3 ≤ y3.heap.size := by have := hG3.lt; omega
    have hsw : B ≤ w.heap.size := by omega
    clear hHeld
    go_wp2_with (first | (go_at_call 68; refine (hpr v4).out.mono ?_; rintro e v5 ⟨ao5, c5, rfl, hbv5⟩; have bbv5 := bbv4.trans (hbv5.mono (by have := bbv4.size; omega : B ≤ _))) | (refine wl_load rfl 107 _ rfl ⟨G, 0, none⟩ rfl X2.cs (by rw [hL2.out.csl]; exact aggEnv) hGx.at0 ?_) | (refine wl_putAt rfl 105 _ _ rfl 107 G 114 rfl TV rfl (by rw [hTl]; exact aggTag.2) X1.cs hGv3 (by rw [hL1.out.csl, hTl]; decide) hTV1 ?_; intro v4 hGv4 hgv4 hsv4; have bbv4 := bbv3.grown hgv4 (by have := bbv3.size; omega) (fun k hk => by cases hk; omega); have hGx := hGv4; rw [hT2.out] at hGx; clear hGv3 bbv3 hgv4 hGv4) | (go_at_call 177; refine (htg v2 bbv2).out.mono ?_; rintro e v3 ⟨rfl, hbv3⟩; have hGv3 := hGw.below hbv3 hGw.lt; have bbv3 := bbv2.trans (hbv3.mono (by have := bbv2.size; omega : B ≤ _)); clear hBv2 hGw bbv2 hbv3 cv2) | (refine wl_load rfl 107 _ rfl ⟨G, 0, none⟩ rfl X1.cs (by rw [hL1.out.csl]; exact aggEnv) hGw.at0 ?_) | (refine wl_load rfl 23 _ rfl ⟨B, 0, none⟩ rfl K (by rw [hKl]; exact aggKey) hBv2.at0 ?_) | (refine wl_putAt rfl 22 _ _ rfl 107 G 82 rfl WV rfl (by rw [hWl]; exact agg32.2) X0.cs hGv1 (by rw [hL0.out.csl, hWl]; decide) hW1 ?_; intro v2 hGv2 hgv2 hsv2; have hBv2 := hBv1.grown hgv2 (by intro e; injection e with e; omega); have bbv2 := bbv1.grown hgv2 (by have := bbv1.size; omega) (fun k hk => by cases hk; omega); have hGw := hGv2; rw [hT1.out] at hGw; have cv2 := (hGw.cell 0).trans (by rw [Env.cv, hv1.out] : X1.cs[0]? = some (.int .i64 1)); clear hBv1 hGv1 bbv1 hgv2 hGv2) | (go_at_call 176; refine (hco y3).out.mono ?_; rintro e v1 ⟨rfl, hbv1⟩; have hBv1 := hB3.below hbv1 (by omega); have hGv1 := hG3.below hbv1 hG3.lt; have bbv1 := bb3.trans (hbv1.mono (by omega : B ≤ _)); clear hB3 hN3 hS3 hG3 bb3 hbv1) | (refine wl_load rfl 23 _ rfl ⟨B + 2, 0, none⟩ rfl S (by rw [hSl]; exact aggKey) hS3.at0 ?_) | (refine wl_load rfl 25 _ rfl ⟨B + 1, 0, none⟩ rfl N (by rw [hNl]; exact aggNo) hN3.at0 ?_) | (refine wl_load rfl 23 _ rfl ⟨B, 0, none⟩ rfl K (by rw [hKl]; exact aggKey) hB3.at0 ?_))
    go_ret2
    exact ⟨_, _, rfl, by first | exact bbv5 | (rw [hsz]; exact bbv5)⟩
set_option maxRecDepth 100000 in
set_option maxHeartbeats 2000000 in
theorem wraps_any (w : World) : Calls Try.prog 70 #[] w fun r w' => r = .returned (.bool true) ∧ Below w.heap.size w w' := by
  have hb1 : Try.prog.built 23 [] = some ((List.replicate 32 (0 : Int)).map (Value.int .u8)).toArray := by kernel_rfl
  have hb2 : Try.prog.built 25 [] = some ((List.replicate 16 (0 : Int)).map (Value.int .u8)).toArray := by kernel_rfl
  have hb3 : Try.prog.built 23 [(0, .int .u8 1)] = some ((1 :: List.replicate 31 (0 : Int)).map (Value.int .u8)).toArray := by kernel_rfl
  have os : Octs (1 :: List.replicate 31 (0 : Int)) := by
    intro c hc
    rcases List.mem_cons.1 hc with rfl | hc
    · exact ⟨by decide, by decide⟩
    · exact zeros_octs 31 c hc
  have hW := fun w => hid (Wrap_1 (List.replicate 32 0) (List.replicate 16 0) (1 :: List.replicate 31 0) [] 0 none 0 0 w rfl (zeros_octs 32) ⟨by decide, by decide⟩ rfl (zeros_octs 16) rfl os rfl ⟨RowI.nil _ _ _, by decide, by decide, (fun c hc => by cases hc), (fun b h => by cases h)⟩ (fun _ => rfl) (by decide))
  obtain ⟨K, HK⟩ : ∃ K, Hid (K = (List.replicate 32 (0 : Int)).map (Value.int .u8)) := ⟨_, rfl⟩
  obtain ⟨N, HN⟩ : ∃ K, Hid (K = (List.replicate 16 (0 : Int)).map (Value.int .u8)) := ⟨_, rfl⟩
  obtain ⟨S, HS⟩ : ∃ K, Hid (K = (1 :: List.replicate 31 (0 : Int)).map (Value.int .u8)) := ⟨_, rfl⟩
  rw [← HK.out, ← HN.out, ← HS.out] at hW
  rw [← HK.out] at hb1
  rw [← HN.out] at hb2
  rw [← HS.out] at hb3
  have HB1 := hid hb1
  have HB2 := hid hb2
  have HB3 := hid hb3
  clear os hb1 hb2 hb3
  go_enter Try.func70, Try.ntmps70
  go_wp2_with (first | (refine wl_build0 rfl 23 rfl K HB1.out ?_) | (refine wl_build0 rfl 25 rfl N HB2.out ?_) | (refine wl_build1 rfl 23 0 _ rfl (.int .u8 1) rfl S HB3.out ?_) | (go_at_call 127; refine (hW w).out.mono ?_; rintro e w1 ⟨ao1, c1, rfl, hb⟩))
  go_ret
  exact ⟨rfl, hb⟩
end Go.Proofs.Ytbljihhelladbaa.wr
namespace Go.Proofs.Ytbljihhelladbaa.wr
open Go.RowKit Go.Proofs.Ytbljihhelladbaa.st Go.Proofs.Ytbljihhelladbaa.hs Go.Proofs.Ytbljihhelladbaa.shr Go.Proofs.Ytbljihhelladbaa.sh
set_option linter.unusedSimpArgs false
set_option linter.unusedVariables false
set_option pp.maxSteps 6000
theorem numL_o4 {e : Int} (h : 0 ≤ e ∧ e ≤ 4294967295) : numL (o4 e) = e := by
  show 256 * (256 * (256 * (256 * 0 + e / 16777216 % 256) + e / 65536 % 256) + e / 256 % 256) + e % 256 = e
  omega
end Go.Proofs.Ytbljihhelladbaa.wr
namespace Go.Proofs.Ytbljihhelladbaa.wr
open Go.RowKit Go.Proofs.Ytbljihhelladbaa.st Go.Proofs.Ytbljihhelladbaa.hs Go.Proofs.Ytbljihhelladbaa.shr Go.Proofs.Ytbljihhelladbaa.sh
set_option linter.unusedSimpArgs false
set_option linter.unusedVariables false
set_option pp.maxSteps 6000
theorem yieldsIf_neM {P : Program} {ops : Array Oper} {S : World → Prop} {op : Oper} {a : Act} (hw : Region.wanted op (yielded ops a.tmps) = true) (ty ty2 : TypeId) (x y : Operand) (ho : op.op = .binOp .neq ty x y ty2)
    (A B : Array Value) (hx : a.eval x = .agg A) (hy : a.eval y = .agg B) (b : Bool) (he : ∀ w, (Op.equalIn 10000 ty (.agg A) (.agg B)).run P w = .ok b w) (hm : P.eqGuardType P.depth ty = false) : YieldsIf P ops S op (.bool !b) a :=
  .inl ⟨hw, fun w hw' => by
    unfold execOp
    simp [ho, hx, hy, run_eqGuard_agg, run_neq_struct, hm, he w, Result.andThen]⟩
theorem run_eq_tag (w : World) (s t : List Int) (hs : s.length = 16) (ht : t.length = 16) : (Op.equalIn 10000 105 (.agg (s.map (Value.int .u8)).toArray) (.agg (t.map (Value.int .u8)).toArray)).run Try.prog w = .ok (s == t) w :=
  run_equalIn_ints w 9998 105 5 16 .u8 Try.underlying105 Try.underlying5 size5' s t hs ht
theorem run_eq_sum' (w : World) (s t : List Int) (hs : s.length = 32) (ht : t.length = 32) : (Op.equalIn 10000 73 (.agg (s.map (Value.int .u8)).toArray) (.agg (t.map (Value.int .u8)).toArray)).run Try.prog w = .ok (s == t) w :=
  run_equalIn_ints w 9998 73 5 32 .u8 Try.underlying73 Try.underlying5 size5' s t hs ht
theorem readX_v {l : List Int} : (readX l).v = 1 ∨ (readX l).v = 2 := by
  unfold readX
  split
  · exact Or.inr rfl
  · exact Or.inl rfl
theorem readX_e {l : List Int} (ho : Octs l) : 0 ≤ (readX l).e ∧ (readX l).e ≤ 4294967295 := by
  unfold readX
  split <;> exact numL4_b ho 4
theorem readX_err {l : List Int} (ho : Octs l) : errV (readX l) = 0 := by
  unfold errV
  rw [if_neg (fun h => h readX_v), if_neg (fun h => h (readX_e ho)), if_neg ?_]
  intro h
  apply h.2
  have h1 := h.1
  unfold readX at h1 ⊢
  split at h1
  · cases h1
  · rename_i hn
    rw [if_neg hn]
    exact ⟨rfl, rfl⟩
/-- what the opening of an envelope answers -/
def secretX (k : List Int) (x : Env) : List Int := wrapL k x.e x.n x.g
def openE (k : List Int) (x : Env) (c : List Int) : Int := if nameL k ≠ x.b then 6 else if x.v = 2 ∧ sumL 0 c ≠ x.c then 17 else if tagX k x c ≠ x.t then 13 else if x.v = 2 ∧ nameL (secretX k x) ≠ x.o then 13 else 0
def openV (k : List Int) (x : Env) (c : List Int) : Value := .tuple #[.agg ((if openE k x c = 0 then secretX k x else List.replicate 32 0).map (Value.int .u8)).toArray, .int .i64 (openE k x c)]
theorem secretX_length {k : List Int} {x : Env} (h : x.Ok) : (secretX k x).length = 32 := by unfold secretX; rw [wrapL_length, h.gl]
theorem secretX_octs {k : List Int} {x : Env} (h : x.Ok) : Octs (secretX k x) := coverL_octs _ _ h.go
set_option maxRecDepth 100000 in
set_option maxHeartbeats 2000000 in
theorem contextOf_any (ao : Option Addr) (cap n : Nat) (l : List Int) (w : World) (hn : n = l.length) (HP : Pt.Ok w ⟨ao, cap, l⟩) (hm : n ≤ 1048576) :
    Calls Try.prog 175 #[.slice ao n cap] w fun e w' => e = .returned (.agg ((sumL 0 l).map (Value.int .u8)).toArray) ∧ Below w.heap.size w w' := by
  obtain ⟨B, HB⟩ : ∃ B, Hid (B = w.heap.size) := ⟨_, rfl⟩
  have hsz : w.heap.size = B := HB.out.symm
  obtain ⟨Z, HZ⟩ : ∃ Z, Hid (Z = zSum) := ⟨_, rfl⟩
  have hz32 := hid zeroSumZ
  rw [← HZ.out] at hz32
  have hZl : Z.length = 32 := by rw [HZ.out]; simp [zSum]
  obtain ⟨S, HS⟩ : ∃ S : List Value, Hid (S = (sumL 0 l).map (Value.int .u8)) := ⟨_, rfl⟩
  have hSl : S.length = 32 := by rw [HS.out, List.length_map, sumL_length]
  have hS1 : ∀ u ∈ S, u.oneCell' = true := by rw [HS.out]; exact ints_one _ _
  have HN := hid hn
  have hsum := fun (y : World) (hb : Below B w y) => hid (sumOf_in 0 ⟨by decide, by decide⟩ ao cap n l y HN.out (HP.below (hsz ▸ hb)) hm)
  rw [← HS.out] at hsum ⊢
  clear hn HP
  go_enter Try.func175, Try.ntmps175
  go_wp2_with (first | (refine wl_storeV rfl 73 _ _ rfl 73 B rfl S rfl 32 aggSumT hSl Z hR4 hZl hS1 ?_; intro w5 hR5 hb5 hs5; have bb5 := bb4.trans (hb5.mono (Nat.le_refl _)); clear hR4 bb4 hb5) | (refine wl_load rfl 73 _ rfl ⟨g, 0, none⟩ rfl S (by rw [hSl]; exact aggSumT) hE4.at0 ?_) | (refine wl_storeV rfl 73 _ _ rfl 73 g rfl S rfl 32 aggSumT hSl Z hE3 hZl hS1 ?_; intro w4 hE4 hb4 hs4; have hR4 := hR3.below hb4 (by omega); have bb4 := bb3.trans (hb4.mono (by omega : B ≤ _)); clear hR3 bb3 hb4 hE3) | (refine wl_allocV rfl 73 rfl Z hz32.out w2.heap.size rfl ?_; intro w3 hE3 hb3 hs3; obtain ⟨g, HG⟩ : ∃ g, Hid (g = w2.heap.size) := ⟨_, rfl⟩; rw [← HG.out] at hE3 hb3 hs3; rw [← HG.out]; have hgB : B < g := (by rw [HG.out]; exact hR2.lt); have hR3 := hR2.below hb3 hgB; have bb3 := bb2.trans (hb3.mono (by omega : B ≤ _)); clear hR2 bb2 hb3) | (go_at_call 113; refine (hsum w1 hb1).out.mono ?_; rintro e w2 ⟨rfl, hb2⟩; have hR2 := hR1.below hb2 (by omega); have bb2 := hb1.trans (hb2.mono (by omega : B ≤ _)); clear hR1 hb1 hb2) | (refine wl_allocV rfl 73 rfl Z hz32.out B hsz ?_; intro w1 hR1 hb1 hs1))
  (try simp only [Exit.inBlock, Exit.then]); refine bodyPost_ret (results_cell rfl _ _ _ _ rfl S (by rw [hSl]; exact aggSumT) hR5.at0) rfl ?_
  exact ⟨rfl, by rw [← HB.out]; exact bb5⟩
end Go.Proofs.Ytbljihhelladbaa.wr
namespace Go.Proofs.Ytbljihhelladbaa.wr
open Go.RowKit Go.Proofs.Ytbljihhelladbaa.st Go.Proofs.Ytbljihhelladbaa.hs Go.Proofs.Ytbljihhelladbaa.shr Go.Proofs.Ytbljihhelladbaa.sh
set_option linter.unusedSimpArgs false
set_option linter.unusedVariables false
set_option pp.maxSteps 6000
def idV (l : List Int) : Value := .agg (l.map (Value.int .u8)).toArray
/-- the entries of a map of IDs that are all true -/
def IdKeys (es : List MapEntry) (seen : List (List Int)) : Prop := es.map (·.key) = seen.map idV ∧ (∀ e ∈ es, e.val = .bool true) ∧ ∀ s ∈ seen, s.length = 16
theorem IdKeys.nil : IdKeys [] [] := ⟨rfl, (fun e h => by cases h), (fun s h => by cases h)⟩
theorem IdKeys.push {es : List MapEntry} {seen : List (List Int)} (h : IdKeys es seen) {l : List Int} (hl : l.length = 16) (c : Nat) : IdKeys (es ++ [⟨idV l, .bool true, c⟩]) (seen ++ [l]) := by
  refine ⟨by rw [List.map_append, List.map_append, h.1]; rfl, fun e he => ?_, fun s hs => ?_⟩
  · rcases List.mem_append.1 he with he | he
    · exact h.2.1 e he
    · rw [List.mem_singleton] at he; rw [he]
  · rcases List.mem_append.1 hs with hs | hs
    · exact h.2.2 s hs
    · rw [List.mem_singleton] at hs; rw [hs]; exact hl
theorem run_equal_id (w : World) (s t : List Int) (hs : s.length = 16) (ht : t.length = 16) : (Op.equal 57 (idV s) (idV t)).run Try.prog w = .ok (s == t) w := run_eq_id w s t hs ht
theorem ask_id (w : World) (l : List Int) (hl : l.length = 16) : ∀ (es : List MapEntry) (seen : List (List Int)) (i : Nat), IdKeys es seen →
    (l ∉ seen → (Instr.findAsking 57 (idV l) es i).run Try.prog w = .ok none w) ∧ (l ∈ seen → ∃ j, (Instr.findAsking 57 (idV l) es i).run Try.prog w = .ok (some (j, .bool true)) w)
  | [], [], i, _ => ⟨fun _ => rfl, fun h => by cases h⟩
  | [], _ :: _, _, h => by have := h.1; simp at this
  | _ :: _, [], _, h => by have := h.1; simp at this
  | e :: es, s :: seen, i, h => by
    have h1 := h.1
    simp only [List.map_cons, List.cons.injEq] at h1
    have hs := h.2.2 s (List.mem_cons_self ..)
    have ih := ask_id w l hl es seen (i + 1) ⟨h1.2, fun e he => h.2.1 e (List.mem_cons_of_mem _ he), fun t ht => h.2.2 t (List.mem_cons_of_mem _ ht)⟩
    have hv := h.2.1 e (List.mem_cons_self ..)
    have hq := run_equal_id w l s hl hs
    rw [← h1.1] at hq
    by_cases hls : l = s
    · refine ⟨fun hn => absurd (hls ▸ List.mem_cons_self ..) hn, fun _ => ⟨i, ?_⟩⟩
      rw [show (l == s) = true by simp [hls]] at hq
      unfold Instr.findAsking
      simp [Sem.run_bind, hq, Result.andThen, hv]
    · rw [show (l == s) = false by simp [hls]] at hq
      have hstep : ∀ r, (Instr.findAsking 57 (idV l) es (i + 1)).run Try.prog w = r → (Instr.findAsking 57 (idV l) (e :: es) i).run Try.prog w = r := by
        intro r hr
        rw [show Instr.findAsking 57 (idV l) (e :: es) i = (do if ← Op.equal 57 (idV l) e.key then pure (some (i, e.val)) else Instr.findAsking 57 (idV l) es (i + 1)) from rfl]
        simp [Sem.run_bind, hq, Result.andThen, hr]
      refine ⟨fun hn => hstep _ (ih.1 fun hm => hn (List.mem_cons_of_mem _ hm)), fun hm => ?_⟩
      rcases List.mem_cons.1 hm with hm | hm
      · exact absurd hm hls
      · obtain ⟨j, hj⟩ := ih.2 hm
        exact ⟨j, hstep _ hj⟩
theorem check_id (w : World) (b : Bool) (l : List Int) (hll : l.length = 16) : (Instr.checkKey b 10000 57 (idV l)).run Try.prog w = .ok () w := by
  obtain ⟨a0, a1, a2, a3, a4, a5, a6, a7, a8, a9, a10, a11, a12, a13, a14, a15, rfl⟩ : ∃ a0 a1 a2 a3 a4 a5 a6 a7 a8 a9 a10 a11 a12 a13 a14 a15, l = [a0, a1, a2, a3, a4, a5, a6, a7, a8, a9, a10, a11, a12, a13, a14, a15] := by
    refine ⟨l[0], l[1], l[2], l[3], l[4], l[5], l[6], l[7], l[8], l[9], l[10], l[11], l[12], l[13], l[14], l[15], List.ext_getElem (by simp [hll]) fun i h1 h2 => ?_⟩
    have : i < 16 := by omega
    match i, this with
    | 0, _ => rfl
    | 1, _ => rfl
    | 2, _ => rfl
    | 3, _ => rfl
    | 4, _ => rfl
    | 5, _ => rfl
    | 6, _ => rfl
    | 7, _ => rfl
    | 8, _ => rfl
    | 9, _ => rfl
    | 10, _ => rfl
    | 11, _ => rfl
    | 12, _ => rfl
    | 13, _ => rfl
    | 14, _ => rfl
    | 15, _ => rfl
    | i + 16, h => exact absurd h (by omega)
  kernel_rfl
theorem find_id (w : World) (l : List Int) (es : List MapEntry) (seen : List (List Int)) (h : IdKeys es seen) (hl : l.length = 16) :
    (l ∉ seen → (Instr.findKey 57 (idV l) es).run Try.prog w = .ok none w) ∧ (l ∈ seen → ∃ j, (Instr.findKey 57 (idV l) es).run Try.prog w = .ok (some (j, .bool true)) w) := by
  rw [run_findKey_eq w (by kernel_rfl)]
  exact ask_id w l hl es seen 0 h
theorem zero_bool (w : World) : (zeroValue 4).run Try.prog w = .ok (.bool false) w := by kernel_rfl
theorem wl_lookupID {w : World} {ops : Array Oper} {rest : List Oper} {o : Oper} {a : Act} {Q : Exit → Act → World → Prop} (hgd : o.guard = none) (m x : Operand) (ho : o.op = .lookup 183 m x false)
    (r clock : Nat) (es : List MapEntry) (seen : List (List Int)) (l : List Int) (hI : IdKeys es seen) (hl : l.length = 16) (hmv : a.eval m = .map (some r)) (hx : a.eval x = idV l) (hb : w.heap[r]? = some (.map es.toArray clock)) (b : Bool) (hb2 : decide (l ∈ seen) = b)
    (h : wpList Try.prog ops Q rest (a.put o.dst (.bool b)) w) : wpList Try.prog ops Q (o :: rest) a w := by
  have hrun : (Instr.lookup 183 (.map (some r)) (idV l) false).run Try.prog w = .ok (.bool b) w := by
    by_cases hm : l ∈ seen
    · obtain ⟨j, hj⟩ := (find_id w l es seen hI hl).2 hm
      have hbb : b = true := by rw [← hb2]; simp [hm]
      simp [Instr.lookup, run_underlying Try.underlying183, MapKept.run_getObj_map hb, check_id, hl, hj, hbb, Result.andThen]
    · have hj := (find_id w l es seen hI hl).1 hm
      have hbb : b = false := by rw [← hb2]; simp [hm]
      simp [Instr.lookup, run_underlying Try.underlying183, MapKept.run_getObj_map hb, check_id, hl, hj, hbb, zero_bool, Result.andThen]
  refine wpList_plain hgd fun K hK' => ?_
  unfold Oper.wp
  simp only [execOp, ho, hmv, hx, hrun, Sem.run_bind, Result.andThen_ok, Sem.run_pure]
  exact hK' _ _ h
theorem wl_updateID {w : World} {ops : Array Oper} {rest : List Oper} {o : Oper} {a : Act} {Q : Exit → Act → World → Prop} (hgd : o.guard = none) (m x v : Operand) (ho : o.op = .mapUpdate 183 m x v)
    (r clock : Nat) (es : List MapEntry) (seen : List (List Int)) (l : List Int) (hI : IdKeys es seen) (hl : l.length = 16) (hmv : a.eval m = .map (some r)) (hx : a.eval x = idV l) (hv : a.eval v = .bool true) (hb : w.heap[r]? = some (.map es.toArray clock)) (hn : l ∉ seen)
    (h : ∀ w' es', w'.heap[r]? = some (.map es'.toArray (clock + 1)) → IdKeys es' (seen ++ [l]) → Below r w w' → w'.heap.size = w.heap.size → w.grownBy w' (some r) → wpList Try.prog ops Q rest (a.put o.dst undef) w') : wpList Try.prog ops Q (o :: rest) a w := by
  have hj := (find_id w l es seen hI hl).1 hn
  have hrun : (Instr.mapUpdate 183 (.map (some r)) (idV l) (.bool true)).run Try.prog w = .ok () { w with heap := w.heap.setIfInBounds r (.map (es.toArray.push ⟨idV l, .bool true, clock⟩) (clock + 1)) } := by
    simp [Instr.mapUpdate, run_underlying Try.underlying183, MapKept.run_getObj_map hb, check_id, hl, hj, MapKept.run_setObj_map _ hb, Result.andThen]
  obtain ⟨h1, h2⟩ := MapKept.heap_set (o' := .map (es.toArray.push ⟨idV l, .bool true, clock⟩) (clock + 1)) hb
  refine wpList_plain hgd fun K hK' => ?_
  unfold Oper.wp
  simp only [execOp, ho, hmv, hx, hv, hrun, Sem.run_bind, Result.andThen_ok, Sem.run_pure]
  exact hK' _ _ (h _ (es ++ [⟨idV l, .bool true, clock⟩]) (by rw [h1]; simp) (hI.push hl clock) ⟨rfl, rfl, rfl, by simp, fun j hj => h2 j (by omega)⟩ (by simp) ⟨rfl, rfl, rfl, by simp, fun j _ hj => h2 j (fun e => hj (by rw [e]))⟩)
end Go.Proofs.Ytbljihhelladbaa.wr
