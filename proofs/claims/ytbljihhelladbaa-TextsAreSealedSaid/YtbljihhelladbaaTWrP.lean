/-
  Contract of wrap.Wrap at version 1; keylaw2.wraps says yes. Conditions: keys and nonces of octets, an epoch in its bounds, a context of at most 4096 octets. Contract of wrap.contextOf; facts of an envelope that was read; what the opening of an envelope answers; arrays held to be unlike. Conditions: as stated. Maps keyed by IDs, all values true: reading and writing one. Conditions: IDs of 16 octets. Contract of keyref2.PackError: packE. Conditions: parts of octets that lie in memory. Contracts of wrap.Pack and keyref2.Packed: a pack's octets. Conditions: parts of octets that lie in memory and have no fault. Slices of octets that are cut; mix.Number where there are too few octets. Conditions: as stated. Contracts of wrap.Unpack and keyref2.Unpacked. Conditions: a text of at most 2^40 octets that lies in memory.
-/
import Derived.Test.YtbljihhelladbaaTWrO
import Derived.Test.YtbljihhelladbaaTWrJ
import Derived.Test.YtbljihhelladbaaTShBC
import Derived.Test.YtbljihhelladbaaTEqA
import Derived.Lib.AppendStr
import Derived.WideMake
import Derived.WideKeyRuns
import Derived.Laws.Slices
namespace Go.Proofs.Ytbljihhelladbaa.wr
open Go.RowKit Go.Proofs.Ytbljihhelladbaa.st Go.Proofs.Ytbljihhelladbaa.hs Go.Proofs.Ytbljihhelladbaa.shr Go.Proofs.Ytbljihhelladbaa.sh
set_option linter.unusedSimpArgs false
set_option linter.unusedVariables false
set_option pp.maxSteps 6000
theorem built_env4 (v e : Int) {h n : List Int} (hlh : h.length = 16) (hln : n.length = 16) : Try.prog.built 107 [(0, .int .i64 v), (1, .int .i64 e), (2, .agg (h.map (Value.int .u8)).toArray), (4, .agg (n.map (Value.int .u8)).toArray)] = some (⟨v, e, h, List.replicate 16 0, n, List.replicate 32 0, List.replicate 32 0, List.replicate 16 0⟩ : Env).cs.toArray := by
  obtain ⟨a0, a1, a2, a3, a4, a5, a6, a7, a8, a9, a10, a11, a12, a13, a14, a15, rfl⟩ : ∃ a0 a1 a2 a3 a4 a5 a6 a7 a8 a9 a10 a11 a12 a13 a14 a15, h = [a0, a1, a2, a3, a4, a5, a6, a7, a8, a9, a10, a11, a12, a13, a14, a15] := by
    refine ⟨h[0], h[1], h[2], h[3], h[4], h[5], h[6], h[7], h[8], h[9], h[10], h[11], h[12], h[13], h[14], h[15], List.ext_getElem (by simp [hlh]) fun i h1 h2 => ?_⟩
    have : i < 16 := by omega
    match i, this with
    | 0, _ => rfl
    | 1, _ => rfl
    | 2, _ => rfl
    | 3, _ => rfl
    | 4, _ => rfl
    | 5, _ => rfl
    | 6, _ => rfl
    | 7, _ => rfl
    | 8, _ => rfl
    | 9, _ => rfl
    | 10, _ => rfl
    | 11, _ => rfl
    | 12, _ => rfl
    | 13, _ => rfl
    | 14, _ => rfl
    | 15, _ => rfl
    | i + 16, h => exact absurd h (by omega)
  obtain ⟨c0, c1, c2, c3, c4, c5, c6, c7, c8, c9, c10, c11, c12, c13, c14, c15, rfl⟩ : ∃ c0 c1 c2 c3 c4 c5 c6 c7 c8 c9 c10 c11 c12 c13 c14 c15, n = [c0, c1, c2, c3, c4, c5, c6, c7, c8, c9, c10, c11, c12, c13, c14, c15] := by
    refine ⟨n[0], n[1], n[2], n[3], n[4], n[5], n[6], n[7], n[8], n[9], n[10], n[11], n[12], n[13], n[14], n[15], List.ext_getElem (by simp [hln]) fun i h1 h2 => ?_⟩
    have : i < 16 := by omega
    match i, this with
    | 0, _ => rfl
    | 1, _ => rfl
    | 2, _ => rfl
    | 3, _ => rfl
    | 4, _ => rfl
    | 5, _ => rfl
    | 6, _ => rfl
    | 7, _ => rfl
    | 8, _ => rfl
    | 9, _ => rfl
    | 10, _ => rfl
    | 11, _ => rfl
    | 12, _ => rfl
    | 13, _ => rfl
    | 14, _ => rfl
    | 15, _ => rfl
    | i + 16, h => exact absurd h (by omega)
  kernel_rfl
theorem wl_build1 {P : Program} {w : World} {ops : Array Oper} {rest : List Oper} {o : Oper} {a : Act} {Q : Exit → Act → World → Prop} (hgd : o.guard = none) (t : TypeId) (i : Nat) (x : Operand) (ho : o.op = .build t #[(i, x)])
    (u : Value) (hx : a.eval x = u) (cs : List Value) (hb : P.built t [(i, u)] = some cs.toArray) (h : wpList P ops Q rest (a.put o.dst (.agg cs.toArray)) w) : wpList P ops Q (o :: rest) a w :=
  wl_build hgd t #[(i, x)] ho cs (by simpa [hx] using hb) h
theorem yieldsIf_build4 {P : Program} {ops : Array Oper} {S : World → Prop} {op : Oper} {a : Act} (hw : Region.wanted op (yielded ops a.tmps) = true) (t : TypeId) (i j k l : Nat) (x y z q : Operand) (ho : op.op = .build t #[(i, x), (j, y), (k, z), (l, q)])
    (u v r s : Value) (hx : a.eval x = u) (hy : a.eval y = v) (hz : a.eval z = r) (hq : a.eval q = s) (cs : List Value) (hb : P.built t [(i, u), (j, v), (k, r), (l, s)] = some cs.toArray) : YieldsIf P ops S op (.agg cs.toArray) a :=
  .inl ⟨hw, fun w hw' => by
    unfold execOp
    simp [ho, hx, hy, hz, hq, run_build w t #[(i, u), (j, v), (k, r), (l, s)] cs.toArray hb, Result.andThen]⟩
set_option maxRecDepth 100000 in
set_option maxHeartbeats 4000000 in
theorem Wrap_1 (k n s c : List Int) (e : Int) (ao : Option Addr) (cap mc : Nat) (w : World) (hk : k.length = 32) (ok : Octs k) (he : 0 ≤ e ∧ e ≤ 4294967295) (hn : n.length = 16) (on : Octs n) (hs : s.length = 32) (os : Octs s) (hmc : mc = c.length) (HP : Pt.Ok w ⟨ao, cap, c⟩) (hno : ao = none → cap = 0) (hm : mc ≤ 4096) :
    Calls Try.prog 127 #[.int .i64 1, .agg (k.map (Value.int .u8)).toArray, .int .i64 e, .agg (n.map (Value.int .u8)).toArray, .slice ao mc cap, .agg (s.map (Value.int .u8)).toArray] w fun r w' => ∃ ao' c', r = .returned (.tuple #[.slice ao' 88 c', .int .i64 0]) ∧ Below w.heap.size w w' := by
  obtain ⟨B, HB⟩ : ∃ B, Hid (B = w.heap.size) := ⟨_, rfl⟩
  have hsz : w.heap.size = B := HB.out.symm
  have hbe := fun w => hid (badEpoch_any e w)
  have hi : inB e 0 4294967295 = true := by unfold inB; simp; omega
  rw [hi] at hbe
  have hnm := fun w => hid (NameOf_any k hk ok w)
  have hco := fun w => hid (cover_any k e n s w hk ok he hn on hs os)
  obtain ⟨X0, HX0⟩ : ∃ X, Hid (X = (⟨1, e, nameL k, List.replicate 16 0, n, List.replicate 32 0, List.replicate 32 0, List.replicate 16 0⟩ : Env)) := ⟨_, rfl⟩
  have hO0 : Hid X0.Ok := hid (by rw [HX0.out]; exact ⟨⟨by show (-9223372036854775808 : Int) ≤ 1; decide, by show (1 : Int) ≤ 9223372036854775807; decide⟩, ⟨by simp only; omega, by simp only; omega⟩, nameL_length k, rfl, hn, rfl, rfl, rfl, nameL_octs k, zeros_octs 16, on, zeros_octs 32, zeros_octs 32, zeros_octs 16⟩)
  have hL0 : Hid X0.Len := hid hO0.out.toLen
  have hv0 : Hid (X0.v = 1) := hid (by rw [HX0.out])
  have he0 : Hid (X0.e = e) := hid (by rw [HX0.out])
  have HBT : Hid (Try.prog.built 107 [(0, .int .i64 1), (1, .int .i64 e), (2, .agg ((nameL k).map (Value.int .u8)).toArray), (4, .agg (n.map (Value.int .u8)).toArray)] = some X0.cs.toArray) := hid (by rw [HX0.out]; exact built_env4 1 e (nameL_length k) hn)
  obtain ⟨X1, HX1⟩ : ∃ X, Hid (X = ({X0 with g := wrapL k e n s} : Env)) := ⟨_, rfl⟩
  have hWL : (wrapL k e n s).length = 32 := by rw [wrapL_length, hs]
  have hWO : Octs (wrapL k e n s) := coverL_octs _ _ os
  have hO1 : Hid X1.Ok := hid (by rw [HX1.out]; have h := hO0.out; exact ⟨h.vb, h.eb, h.bl, h.ol, h.nl, h.cl, hWL, h.tl, h.bo, h.oo, h.no, h.co, hWO, h.tt⟩)
  have hL1 : Hid X1.Len := hid hO1.out.toLen
  have hv1 : Hid (X1.v = 1) := hid (by rw [HX1.out]; exact hv0.out)
  have he1 : Hid (X1.e = e) := hid (by rw [HX1.out]; exact he0.out)
  obtain ⟨WV, HWV⟩ : ∃ V, Hid (V = (wrapL k e n s).map (Value.int .u8)) := ⟨_, rfl⟩
  have hWl : WV.length = 32 := by rw [HWV.out, List.length_map, hWL]
  have hW1 : ∀ u ∈ WV, u.oneCell' = true := by rw [HWV.out]; exact ints_one _ _
  have hT1 : Hid (X0.cs.take 82 ++ WV ++ X0.cs.drop (82 + WV.length) = X1.cs) := hid (by rw [HWV.out, HX1.out]; exact env_put_g hL0.out _ hWL)
  have htg := fun w1 (hb : Below B w w1) => hid (tag_1 k X1 c ao cap mc w1 hk ok hO1.out hv1.out (by rw [he1.out]; exact he) hmc (HP.below (hsz ▸ hb)) hno (by omega))
  obtain ⟨TV, HTV⟩ : ∃ V, Hid (V = (tagX k X1 c).map (Value.int .u8)) := ⟨_, rfl⟩
  have hTl : TV.length = 16 := by rw [HTV.out, List.length_map, tagX_length]
  have hTV1 : ∀ u ∈ TV, u.oneCell' = true := by rw [HTV.out]; exact ints_one _ _
  obtain ⟨X2, HX2⟩ : ∃ X, Hid (X = ({X1 with t := tagX k X1 c} : Env)) := ⟨_, rfl⟩
  have hO2 : Hid X2.Ok := hid (by rw [HX2.out]; have h := hO1.out; exact ⟨h.vb, h.eb, h.bl, h.ol, h.nl, h.cl, h.gl, tagX_length _ _ _, h.bo, h.oo, h.no, h.co, h.go, tagL_octs _ _⟩)
  have hL2 : Hid X2.Len := hid hO2.out.toLen
  have hT2 : Hid (X1.cs.take 114 ++ TV ++ X1.cs.drop (114 + TV.length) = X2.cs) := hid (by rw [HTV.out, HX2.out]; exact env_put_t hL1.out _ (tagX_length _ _ _))
  have hv2 : X2.v = 1 := by rw [HX2.out]; exact hv1.out
  have hz2 : errV X2 = 0 ∧ sizeV X2 = 88 := by
    have h3 : X2.e = e := by rw [HX2.out]; exact he1.out
    have h4 : X2.o = List.replicate 16 0 := by rw [HX2.out, HX1.out, HX0.out]
    have h5 : X2.c = List.replicate 32 0 := by rw [HX2.out, HX1.out, HX0.out]
    constructor
    · unfold errV; rw [if_neg (by simp [hv2]), if_neg (fun h => h (by rw [h3]; exact he)), if_neg (fun h => h.2 ⟨h4, h5⟩)]
    · unfold sizeV; rw [if_neg (by omega)]
  have hpr := fun w => hid ((Print_any X2 hO2.out w).mono fun r w' (h : EnvPost X2 w r w') => (by
    have h2 := h.2
    rw [if_pos hz2.1, hz2.2] at h2
    obtain ⟨a, b, h3, _⟩ := h2
    exact ⟨a, b, h3, h.1⟩ : ∃ ao c, r = .returned (.tuple #[.slice ao 88 c, .int .i64 0]) ∧ Below w.heap.size w w'))
  obtain ⟨K, HK⟩ : ∃ K, Hid (K = k.map (Value.int .u8)) := ⟨_, rfl⟩
  obtain ⟨N, HN⟩ : ∃ N, Hid (N = n.map (Value.int .u8)) := ⟨_, rfl⟩
  obtain ⟨S, HS⟩ : ∃ S, Hid (S = s.map (Value.int .u8)) := ⟨_, rfl⟩
  have hKl : K.length = 32 := by rw [HK.out, List.length_map, hk]
  have hNl : N.length = 16 := by rw [HN.out, List.length_map, hn]
  have hSl : S.length = 32 := by rw [HS.out, List.length_map, hs]
  obtain ⟨ZE, HZE⟩ : ∃ Z, Hid (Z = env0.cs) := ⟨_, rfl⟩
  have hzE := hid zeroEnv
  rw [← HZE.out] at hzE
  have hZEl : ZE.length = 130 := by rw [HZE.out]; exact env0_ok.csl
  rw [← HK.out] at hnm hco htg ⊢
  rw [← HN.out] at hco HBT ⊢
  rw [← HS.out] at hco ⊢
  rw [← HWV.out] at hco
  rw [← HTV.out] at htg
  obtain ⟨NV, HNV⟩ : ∃ V, Hid (V = (nameL k).map (Value.int .u8)) := ⟨_, rfl⟩
  rw [← HNV.out] at hnm HBT
  have hu23 := Try.underlying23
  have hi23 : (Try.prog.info? 23).map (·.size) = some K.length := by rw [hKl]; exact aggKey.2
  have hu25 := Try.underlying25
  have hi25 : (Try.prog.info? 25).map (·.size) = some N.length := by rw [hNl]; exact aggNo.2
  have hmI : ¬ (4096 : Int) < (mc : Int) := by omega
  clear hk hn hs hmc HP hWL hWO hv2 hz2 hi
  go_enter Try.func127, Try.ntmps127
  go_wp2_with (first | (refine wl_boxV rfl 23 _ rfl S rfl (B + 2) hs1 ?_; intro w2 hS2 hb2 hs2; have hB2 := hB1.below hb2 (by omega); have hN2 := hN1.below hb2 (by omega); have bb2 := bb1.trans (hb2.mono (by omega : B ≤ _)); clear hB1 hN1 bb1 hb2) | (refine wl_boxV rfl 25 _ rfl N rfl (B + 1) hs0 ?_; intro w1 hN1 hb1 hs1; have hB1 := hB0.below hb1 (by omega); have bb1 := hb0.trans (hb1.mono (by omega : B ≤ _)); clear hB0 hb0 hb1) | (refine wl_boxV rfl 23 _ rfl K rfl B hsz ?_; intro w0 hB0 hb0 hs0) | (go_at_call 125; refine (hbe w2).out.mono ?_; rintro e w3 ⟨rfl, rfl⟩))
  refine wp_region_held_drew (S := (fun w' => w'.rangeAt B 0 K ∧ w'.rangeAt (B + 1) 0 N)) (by kernel_rfl) ⟨at_range (w := w2.drew) hB2.at0, at_range (w := w2.drew) hN2.at0⟩ (fun hHeld => ?_)
  obtain ⟨y0, HY0⟩ : ∃ x, Hid (x = w2.drew) := ⟨_, rfl⟩
  rw [← HY0.out] at hHeld ⊢
  have hB0 : BlkV 23 y0 B K := by rw [HY0.out]; exact hB2
  have hN0 : BlkV 25 y0 (B + 1) N := by rw [HY0.out]; exact hN2
  have hS0 : BlkV 23 y0 (B + 2) S := by rw [HY0.out]; exact hS2
  have bb0 : Below B w y0 := by rw [HY0.out]; exact bb2.drew
  have hsy0 : B + 3 ≤ y0.heap.size := by rw [HY0.out]; show B + 3 ≤ w2.heap.size; omega
  clear hB2 hN2 hS2 bb2 hs2 hs1 hs0
  refine take_l (i := 0) (v := ?rv1) rfl (by kernel_rfl) (by kernel_rfl) (by kernel_rfl) (fun _ _ _ h => h) (Or.inl ⟨by rfl, ?rhy1⟩) (by assumption) ?rrest1
  case rhy1 => (intro w hSw; (try dsimp only at hSw); go_simp; (try with_reducible rfl))
  try simp only [Act.put, List.setIfInBounds_toArray, List.set_cons_zero, List.set_cons_succ]
  refine take_l (i := 1) (v := ?rv2) rfl (by kernel_rfl) (by kernel_rfl) (by kernel_rfl) (fun _ _ _ h => h) (Or.inl ⟨by rfl, ?rhy2⟩) (by assumption) ?rrest2
  case rhy2 => (intro w hSw; (try dsimp only at hSw); go_simp; (try with_reducible rfl))
  try simp only [Act.put, List.setIfInBounds_toArray, List.set_cons_zero, List.set_cons_succ]
  refine take_l (i := 2) (v := _) rfl (by kernel_rfl) (by kernel_rfl) (by kernel_rfl) (fun _ _ _ h => h) (yieldsIf_load_mid (by rfl) 23 _ rfl B 0 rfl K _ (fun w hS => hS.1) hu23 rfl hi23) (by assumption) ?_
  try simp only [Act.put, List.setIfInBounds_toArray, List.set_cons_zero, List.set_cons_succ]
  refine take_l (i := 4) (v := _) rfl (by kernel_rfl) (by kernel_rfl) (by kernel_rfl) (fun _ _ _ h => h) (yieldsIf_load_mid (by rfl) 25 _ rfl (B + 1) 0 rfl N _ (fun w hS => hS.2) hu25 rfl hi25) (by assumption) ?_
  try simp only [Act.put, List.setIfInBounds_toArray, List.set_cons_zero, List.set_cons_succ]
  refine wpAnyH_ready (rs := [3, 6]) (by kernel_rfl) (by simp) (cons_l rfl (fun K' hK' => ?_) (cons_l rfl (fun K' hK' => ?_) AllReadyH.nil))
  · rw [if_pos (by rfl)]
    go_simp
    go_at_call 174
    refine (hnm y0).out.mono ?_
    rintro e y1 ⟨rfl, hbx1⟩
    have hB1 := hB0.below hbx1 (by omega)
    have hN1 := hN0.below hbx1 (by omega)
    have hS1 := hS0.below hbx1 (by omega)
    have bb1 := bb0.trans (hbx1.mono (by omega : B ≤ _))
    have hsy1 : B + 3 ≤ y1.heap.size := by have := hbx1.size; omega
    refine hK'.out _ _ ⟨at_range hB1.at0, at_range hN1.at0⟩ (fun hHeld => ?_)
    clear hK' K'
    try simp only [Act.put, List.setIfInBounds_toArray, List.set_cons_zero, List.set_cons_succ]
    refine take_l (i := 5) (v := _) rfl (by kernel_rfl) (by kernel_rfl) (by kernel_rfl) (fun _ _ _ h => h) (yieldsIf_build4 (by rfl) 107 0 1 2 4 _ _ _ _ rfl (.int .i64 1) (.int .i64 e) (.agg NV.toArray) (.agg N.toArray) rfl rfl rfl rfl X0.cs HBT.out) (by assumption) ?_
    try simp only [Act.put, List.setIfInBounds_toArray, List.set_cons_zero, List.set_cons_succ]
    refine wpAnyH_ready (rs := [6]) (by kernel_rfl) (by simp) (cons_l rfl (fun K' hK' => ?_) AllReadyH.nil)
    obtain ⟨G, HG⟩ : ∃ g, Hid (g = y1.heap.size) := ⟨_, rfl⟩
    have hG3 : B + 3 ≤ G := by have := HG.out; omega
    refine step_allocV (by rfl) 107 (by rfl) ZE hzE.out G HG.out.symm ?_
    intro y2 hG2 hbx2 hsx2
    have hB2 := hB1.below hbx2 (by omega)
    have hN2 := hN1.below hbx2 (by omega)
    have hS2 := hS1.below hbx2 (by omega)
    have bb2 := bb1.trans (hbx2.mono (by omega : B ≤ _))
    have hsy2 : B + 3 ≤ y2.heap.size := by omega
    refine hK'.out _ _ ⟨at_range hB2.at0, at_range hN2.at0⟩ (fun hHeld => ?_)
    clear hK' K'
    try simp only [Act.put, List.setIfInBounds_toArray, List.set_cons_zero, List.set_cons_succ]
    refine wpAnyH_ready (rs := [7]) (by kernel_rfl) (by simp) (cons_l rfl (fun K' hK' => ?_) AllReadyH.nil)
    refine step_storeV (by rfl) 107 _ _ (by rfl) 107 G (by rfl) X0.cs (by rfl) 130 aggEnv hL0.out.csl ZE hG2 hZEl X0.cs_one ?_
    intro y3 hG3 hbx3 hsx3
    have hB3 := hB2.below hbx3 (by omega)
    have hN3 := hN2.below hbx3 (by omega)
    have hS3 := hS2.below hbx3 (by omega)
    have bb3 := bb2.trans (hbx3.mono (by omega : B ≤ _))
    refine hK'.out _ _ ⟨at_range hB3.at0, at_range hN3.at0⟩ (fun hHeld => ?_)
    clear hK' K'
    try simp only [Act.put, List.setIfInBounds_toArray, List.set_cons_zero, List.set_cons_succ]
    refine wpAnyH_done (by kernel_rfl) ?_ _
    have c00 := (hG3.cell 0).trans (by rw [Env.cv, hv0.out] : X0.cs[0]? = some (.int .i64 1))
    have hBs : B + 3 ≤ y3.heap.size := by have := hG3.lt; omega
    have hsw : B ≤ w.heap.size := by omega
    clear hHeld
    go_wp2_with (first | (go_at_call 68; refine (hpr v4).out.mono ?_; rintro e v5 ⟨ao5, c5, rfl, hbv5⟩; have bbv5 := bbv4.trans (hbv5.mono (by have := bbv4.size; omega : B ≤ _))) | (refine wl_load rfl 107 _ rfl ⟨G, 0, none⟩ rfl X2.cs (by rw [hL2.out.csl]; exact aggEnv) hGx.at0 ?_) | (refine wl_putAt rfl 105 _ _ rfl 107 G 114 rfl TV rfl (by rw [hTl]; exact aggTag.2) X1.cs hGv3 (by rw [hL1.out.csl, hTl]; decide) hTV1 ?_; intro v4 hGv4 hgv4 hsv4; have bbv4 := bbv3.grown hgv4 (by have := bbv3.size; omega) (fun k hk => by cases hk; omega); have hGx := hGv4; rw [hT2.out] at hGx; clear hGv3 bbv3 hgv4 hGv4) | (go_at_call 177; refine (htg v2 bbv2).out.mono ?_; rintro e v3 ⟨rfl, hbv3⟩; have hGv3 := hGw.below hbv3 hGw.lt; have bbv3 := bbv2.trans (hbv3.mono (by have := bbv2.size; omega : B ≤ _)); clear hBv2 hGw bbv2 hbv3 cv2) | (refine wl_load rfl 107 _ rfl ⟨G, 0, none⟩ rfl X1.cs (by rw [hL1.out.csl]; exact aggEnv) hGw.at0 ?_) | (refine wl_load rfl 23 _ rfl ⟨B, 0, none⟩ rfl K (by rw [hKl]; exact aggKey) hBv2.at0 ?_) | (refine wl_putAt rfl 22 _ _ rfl 107 G 82 rfl WV rfl (by rw [hWl]; exact agg32.2) X0.cs hGv1 (by rw [hL0.out.csl, hWl]; decide) hW1 ?_; intro v2 hGv2 hgv2 hsv2; have hBv2 := hBv1.grown hgv2 (by intro e; injection e with e; omega); have bbv2 := bbv1.grown hgv2 (by have := bbv1.size; omega) (fun k hk => by cases hk; omega); have hGw := hGv2; rw [hT1.out] at hGw; have cv2 := (hGw.cell 0).trans (by rw [Env.cv, hv1.out] : X1.cs[0]? = some (.int .i64 1)); clear hBv1 hGv1 bbv1 hgv2 hGv2) | (go_at_call 176; refine (hco y3).out.mono ?_; rintro e v1 ⟨rfl, hbv1⟩; have hBv1 := hB3.below hbv1 (by omega); have hGv1 := hG3.below hbv1 hG3.lt; have bbv1 := bb3.trans (hbv1.mono (by omega : B ≤ _)); clear hB3 hN3 hS3 hG3 bb3 hbv1) | (refine wl_load rfl 23 _ rfl ⟨B + 2, 0, none⟩ rfl S (by rw [hSl]; exact aggKey) hS3.at0 ?_) | (refine wl_load rfl 25 _ rfl ⟨B + 1, 0, none⟩ rfl N (by rw [hNl]; exact aggNo) hN3.at0 ?_) | (refine wl_load rfl 23 _ rfl ⟨B, 0, none⟩ rfl K (by rw [hKl]; exact aggKey) hB3.at0 ?_))
    go_ret2
    exact ⟨_, _, rfl, by first | exact bbv5 | (rw [hsz]; exact bbv5)⟩
  · obtain ⟨G, HG⟩ : ∃ g, Hid (g = y0.heap.size) := ⟨_, rfl⟩
    have hG3 : B + 3 ≤ G := by have := HG.out; omega
    refine step_allocV (by rfl) 107 (by rfl) ZE hzE.out G HG.out.symm ?_
    intro y1 hG1 hbx1 hsx1
    have hB1 := hB0.below hbx1 (by omega)
    have hN1 := hN0.below hbx1 (by omega)
    have hS1 := hS0.below hbx1 (by omega)
    have bb1 := bb0.trans (hbx1.mono (by omega : B ≤ _))
    have hsy1 : B + 3 ≤ y1.heap.size := by omega
    refine hK'.out _ _ ⟨at_range hB1.at0, at_range hN1.at0⟩ (fun hHeld => ?_)
    clear hK' K'
    try simp only [Act.put, List.setIfInBounds_toArray, List.set_cons_zero, List.set_cons_succ]
    refine wpAnyH_ready (rs := [3]) (by kernel_rfl) (by simp) (cons_l rfl (fun K' hK' => ?_) AllReadyH.nil)
    rw [if_pos (by rfl)]
    go_simp
    go_at_call 174
    refine (hnm y1).out.mono ?_
    rintro e y2 ⟨rfl, hbx2⟩
    have hB2 := hB1.below hbx2 (by omega)
    have hN2 := hN1.below hbx2 (by omega)
    have hS2 := hS1.below hbx2 (by omega)
    have bb2 := bb1.trans (hbx2.mono (by omega : B ≤ _))
    have hsy2 : B + 3 ≤ y2.heap.size := by have := hbx2.size; omega
    have hG2 := hG1.below hbx2 hG1.lt
    refine hK'.out _ _ ⟨at_range hB2.at0, at_range hN2.at0⟩ (fun hHeld => ?_)
    clear hK' K'
    try simp only [Act.put, List.setIfInBounds_toArray, List.set_cons_zero, List.set_cons_succ]
    refine take_l (i := 5) (v := _) rfl (by kernel_rfl) (by kernel_rfl) (by kernel_rfl) (fun _ _ _ h => h) (yieldsIf_build4 (by rfl) 107 0 1 2 4 _ _ _ _ rfl (.int .i64 1) (.int .i64 e) (.agg NV.toArray) (.agg N.toArray) rfl rfl rfl rfl X0.cs HBT.out) (by assumption) ?_
    try simp only [Act.put, List.setIfInBounds_toArray, List.set_cons_zero, List.set_cons_succ]
    refine wpAnyH_ready (rs := [7]) (by kernel_rfl) (by simp) (cons_l rfl (fun K' hK' => ?_) AllReadyH.nil)
    refine step_storeV (by rfl) 107 _ _ (by rfl) 107 G (by rfl) X0.cs (by rfl) 130 aggEnv hL0.out.csl ZE hG2 hZEl X0.cs_one ?_
    intro y3 hG3 hbx3 hsx3
    have hB3 := hB2.below hbx3 (by omega)
    have hN3 := hN2.below hbx3 (by omega)
    have hS3 := hS2.below hbx3 (by omega)
    have bb3 := bb2.trans (hbx3.mono (by omega : B ≤ _))
    refine hK'.out _ _ ⟨at_range hB3.at0, at_range hN3.at0⟩ (fun hHeld => ?_)
    clear hK' K'
    try simp only [Act.put, List.setIfInBounds_toArray, List.set_cons_zero, List.set_cons_succ]
    refine wpAnyH_done (by kernel_rfl) ?_ _
    have c00 := (hG3.cell 0).trans (by rw [Env.cv, hv0.out] : X0.cs[0]? = some (.int .i64 1))
    have hBs : B + 3 ≤ y3.heap.size := by have := hG3.lt; omega
    have hsw : B ≤ w.heap.size := by omega
    clear hHeld
    go_wp2_with (first | (go_at_call 68; refine (hpr v4).out.mono ?_; rintro e v5 ⟨ao5, c5, rfl, hbv5⟩; have bbv5 := bbv4.trans (hbv5.mono (by have := bbv4.size; omega : B ≤ _))) | (refine wl_load rfl 107 _ rfl ⟨G, 0, none⟩ rfl X2.cs (by rw [hL2.out.csl]; exact aggEnv) hGx.at0 ?_) | (refine wl_putAt rfl 105 _ _ rfl 107 G 114 rfl TV rfl (by rw [hTl]; exact aggTag.2) X1.cs hGv3 (by rw [hL1.out.csl, hTl]; decide) hTV1 ?_; intro v4 hGv4 hgv4 hsv4; have bbv4 := bbv3.grown hgv4 (by have := bbv3.size; omega) (fun k hk => by cases hk; omega); have hGx := hGv4; rw [hT2.out] at hGx; clear hGv3 bbv3 hgv4 hGv4) | (go_at_call 177; refine (htg v2 bbv2).out.mono ?_; rintro e v3 ⟨rfl, hbv3⟩; have hGv3 := hGw.below hbv3 hGw.lt; have bbv3 := bbv2.trans (hbv3.mono (by have := bbv2.size; omega : B ≤ _)); clear hBv2 hGw bbv2 hbv3 cv2) | (refine wl_load rfl 107 _ rfl ⟨G, 0, none⟩ rfl X1.cs (by rw [hL1.out.csl]; exact aggEnv) hGw.at0 ?_) | (refine wl_load rfl 23 _ rfl ⟨B, 0, none⟩ rfl K (by rw [hKl]; exact aggKey) hBv2.at0 ?_) | (refine wl_putAt rfl 22 _ _ rfl 107 G 82 rfl WV rfl (by rw [hWl]; exact agg32.2) X0.cs hGv1 (by rw [hL0.out.csl, hWl]; decide) hW1 ?_; intro v2 hGv2 hgv2 hsv2; have hBv2 := hBv1.grown hgv2 (by intro e; injection e with e; omega); have bbv2 := bbv1.grown hgv2 (by have := bbv1.size; omega) (fun k hk => by cases hk; omega); have hGw := hGv2; rw [hT1.out] at hGw; have cv2 := (hGw.cell 0).trans (by rw [Env.cv, hv1.out] : X1.cs[0]? = some (.int .i64 1)); clear hBv1 hGv1 bbv1 hgv2 hGv2) | (go_at_call 176; refine (hco y3).out.mono ?_; rintro e v1 ⟨rfl, hbv1⟩; have hBv1 := hB3.below hbv1 (by omega); have hGv1 := hG3.below hbv1 hG3.lt; have bbv1 := bb3.trans (hbv1.mono (by omega : B ≤ _)); clear hB3 hN3 hS3 hG3 bb3 hbv1) | (refine wl_load rfl 23 _ rfl ⟨B + 2, 0, none⟩ rfl S (by rw [hSl]; exact aggKey) hS3.at0 ?_) | (refine wl_load rfl 25 _ rfl ⟨B + 1, 0, none⟩ rfl N (by rw [hNl]; exact aggNo) hN3.at0 ?_) | (refine wl_load rfl 23 _ rfl ⟨B, 0, none⟩ rfl K (by rw [hKl]; exact aggKey) hB3.at0 ?_))
    go_ret2
    exact ⟨_, _, rfl, by first | exact bbv5 | (rw [hsz]; exact bbv5)⟩
set_option maxRecDepth 100000 in
set_option maxHeartbeats 2000000 in
theorem wraps_any (w : World) : Calls Try.prog 70 #[] w fun r w' => r = .returned (.bool true) ∧ Below w.heap.size w w' := by
  have hb1 : Try.prog.built 23 [] = some ((List.replicate 32 (0 : Int)).map (Value.int .u8)).toArray := by kernel_rfl
  have hb2 : Try.prog.built 25 [] = some ((List.replicate 16 (0 : Int)).map (Value.int .u8)).toArray := by kernel_rfl
  have hb3 : Try.prog.built 23 [(0, .int .u8 1)] = some ((1 :: List.replicate 31 (0 : Int)).map (Value.int .u8)).toArray := by kernel_rfl
  have os : Octs (1 :: List.replicate 31 (0 : Int)) := by
    intro c hc
    rcases List.mem_cons.1 hc with rfl | hc
    · exact ⟨by decide, by decide⟩
    · exact zeros_octs 31 c hc
  have hW := fun w => hid (Wrap_1 (List.replicate 32 0) (List.replicate 16 0) (1 :: List.replicate 31 0) [] 0 none 0 0 w rfl (zeros_octs 32) ⟨by decide, by decide⟩ rfl (zeros_octs 16) rfl os rfl ⟨RowI.nil _ _ _, by decide, by decide, (fun c hc => by cases hc), (fun b h => by cases h)⟩ (fun _ => rfl) (by decide))
  obtain ⟨K, HK⟩ : ∃ K, Hid (K = (List.replicate 32 (0 : Int)).map (Value.int .u8)) := ⟨_, rfl⟩
  obtain ⟨N, HN⟩ : ∃ K, Hid (K = (List.replicate 16 (0 : Int)).map (Value.int .u8)) := ⟨_, rfl⟩
  obtain ⟨S, HS⟩ : ∃ K, Hid (K = (1 :: List.replicate 31 (0 : Int)).map (Value.int .u8)) := ⟨_, rfl⟩
  rw [← HK.out, ← HN.out, ← HS.out] at hW
  rw [← HK.out] at hb1
  rw [← HN.out] at hb2
  rw [← HS.out] at hb3
  have HB1 := hid hb1
  have HB2 := hid hb2
  have HB3 := hid hb3
  clear os hb1 hb2 hb3
  go_enter Try.func70, Try.ntmps70
  go_wp2_with (first | (refine wl_build0 rfl 23 rfl K HB1.out ?_) | (refine wl_build0 rfl 25 rfl N HB2.out ?_) | (refine wl_build1 rfl 23 0 _ rfl (.int .u8 1) rfl S HB3.out ?_) | (go_at_call 127; refine (hW w).out.mono ?_; rintro e w1 ⟨ao1, c1, rfl, hb⟩))
  go_ret
  exact ⟨rfl, hb⟩
end Go.Proofs.Ytbljihhelladbaa.wr
namespace Go.Proofs.Ytbljihhelladbaa.wr
open Go.RowKit Go.Proofs.Ytbljihhelladbaa.st Go.Proofs.Ytbljihhelladbaa.hs Go.Proofs.Ytbljihhelladbaa.shr Go.Proofs.Ytbljihhelladbaa.sh
set_option linter.unusedSimpArgs false
set_option linter.unusedVariables false
set_option pp.maxSteps 6000
theorem yieldsIf_neM {P : Program} {ops : Array Oper} {S : World → Prop} {op : Oper} {a : Act} (hw : Region.wanted op (yielded ops a.tmps) = true) (ty ty2 : TypeId) (x y : Operand) (ho : op.op = .binOp .neq ty x y ty2)
    (A B : Array Value) (hx : a.eval x = .agg A) (hy : a.eval y = .agg B) (b : Bool) (he : ∀ w, (Op.equalIn 10000 ty (.agg A) (.agg B)).run P w = .ok b w) (hm : P.eqGuardType P.depth ty = false) : YieldsIf P ops S op (.bool !b) a :=
  .inl ⟨hw, fun w hw' => by
    unfold execOp
    simp [ho, hx, hy, run_eqGuard_agg, run_neq_struct, hm, he w, Result.andThen]⟩
theorem run_eq_tag (w : World) (s t : List Int) (hs : s.length = 16) (ht : t.length = 16) : (Op.equalIn 10000 105 (.agg (s.map (Value.int .u8)).toArray) (.agg (t.map (Value.int .u8)).toArray)).run Try.prog w = .ok (s == t) w :=
  run_equalIn_ints w 9998 105 5 16 .u8 Try.underlying105 Try.underlying5 size5' s t hs ht
end Go.Proofs.Ytbljihhelladbaa.wr
namespace Go.Proofs.Ytbljihhelladbaa.wr
open Go.RowKit Go.Proofs.Ytbljihhelladbaa.st Go.Proofs.Ytbljihhelladbaa.hs Go.Proofs.Ytbljihhelladbaa.shr Go.Proofs.Ytbljihhelladbaa.sh
set_option linter.unusedSimpArgs false
set_option linter.unusedVariables false
set_option pp.maxSteps 6000
def idV (l : List Int) : Value := .agg (l.map (Value.int .u8)).toArray
/-- the entries of a map of IDs that are all true -/
def IdKeys (es : List MapEntry) (seen : List (List Int)) : Prop := es.map (·.key) = seen.map idV ∧ (∀ e ∈ es, e.val = .bool true) ∧ ∀ s ∈ seen, s.length = 16
theorem IdKeys.nil : IdKeys [] [] := ⟨rfl, (fun e h => by cases h), (fun s h => by cases h)⟩
theorem IdKeys.push {es : List MapEntry} {seen : List (List Int)} (h : IdKeys es seen) {l : List Int} (hl : l.length = 16) (c : Nat) : IdKeys (es ++ [⟨idV l, .bool true, c⟩]) (seen ++ [l]) := by
  refine ⟨by rw [List.map_append, List.map_append, h.1]; rfl, fun e he => ?_, fun s hs => ?_⟩
  · rcases List.mem_append.1 he with he | he
    · exact h.2.1 e he
    · rw [List.mem_singleton] at he; rw [he]
  · rcases List.mem_append.1 hs with hs | hs
    · exact h.2.2 s hs
    · rw [List.mem_singleton] at hs; rw [hs]; exact hl
end Go.Proofs.Ytbljihhelladbaa.wr
namespace Go.Proofs.Ytbljihhelladbaa.wr
open Go.RowKit Go.Proofs.Ytbljihhelladbaa.st Go.Proofs.Ytbljihhelladbaa.hs Go.Proofs.Ytbljihhelladbaa.shr Go.Proofs.Ytbljihhelladbaa.sh
set_option linter.unusedSimpArgs false
set_option linter.unusedVariables false
set_option pp.maxSteps 6000
theorem owns_at {base m cap g : Nat} {e : TypeId} {size : Nat} {w : World} {xs : List Value} (h : w.ownsRow base e size (.slice (some ⟨g, 0, none⟩) m cap) m xs) : At w ⟨g, 0, none⟩ xs := fun j u hu => h.cells (g := g) rfl j u hu
end Go.Proofs.Ytbljihhelladbaa.wr
namespace Go.Proofs.Ytbljihhelladbaa.wr
open Go.RowKit Go.Proofs.Ytbljihhelladbaa.st Go.Proofs.Ytbljihhelladbaa.hs Go.Proofs.Ytbljihhelladbaa.shr Go.Proofs.Ytbljihhelladbaa.sh
set_option linter.unusedSimpArgs false
set_option linter.unusedVariables false
set_option pp.maxSteps 6000
/-- an own row of octets that is not empty -/
def Own8 (B : Nat) (w : World) (g c m : Nat) (L : List Int) : Prop := w.ownsRow B 5 1 (.slice (some ⟨g, 0, none⟩) m c) m (L.map (Value.int .u8))
theorem Own8.of {B m c : Nat} {w : World} {ao : Option Addr} {L : List Int} (h : Mine w B 5 1 (.slice ao m c) m (L.map (Value.int .u8))) (hm : 0 < m) : ∃ g, ao = some ⟨g, 0, none⟩ ∧ B ≤ g ∧ g < w.heap.size ∧ Own8 B w g c m L := by
  have h1 := mine_own h hm
  obtain ⟨g, cur, e, hg, hb, _⟩ := own_blk h1 hm
  subst e
  exact ⟨g, rfl, hg, hb.lt, h1⟩
theorem Own8.row {B m c g : Nat} {w : World} {L : List Int} (h : Own8 B w g c m L) : RowI .u8 w (some ⟨g, 0, none⟩) L := by
  obtain ⟨ao', cap', hv, _, hr⟩ := Mine.row (Or.inl h)
  injection hv with e1 e2 e3
  rw [← e1] at hr
  exact hr.i
theorem Own8.lt {B m c g : Nat} {w : World} {L : List Int} (h : Own8 B w g c m L) : B ≤ g ∧ g < w.heap.size := World.ownsRow.lt h g rfl
end Go.Proofs.Ytbljihhelladbaa.wr
namespace Go.Proofs.Ytbljihhelladbaa.wr
open Go.RowKit Go.Proofs.Ytbljihhelladbaa.st Go.Proofs.Ytbljihhelladbaa.hs Go.Proofs.Ytbljihhelladbaa.shr Go.Proofs.Ytbljihhelladbaa.sh
set_option linter.unusedSimpArgs false
set_option linter.unusedVariables false
set_option pp.maxSteps 6000
theorem ptCut {w : World} {a : Option Addr} {c : Nat} {L : List Int} (HP : Pt.Ok w ⟨a, c, L⟩) (l h m : Nat) (h1 : l ≤ h) (h2 : h ≤ L.length) (h3 : h ≤ m) (h4 : m ≤ c) : Pt.Ok w ⟨if m = l then a else a.map (·.add (l * 1)), m - l, (L.drop l).take (h - l)⟩ := by
  have hlen : ((L.drop l).take (h - l)).length = h - l := by rw [List.length_take, List.length_drop]; omega
  refine ⟨?_, by show ((L.drop l).take (h - l)).length ≤ m - l; rw [hlen]; omega, Nat.le_trans (by show m - l ≤ c; omega) HP.cap, fun x hx => HP.oct x (List.mem_of_mem_drop (List.mem_of_mem_take hx)), fun b e => ?_⟩
  · by_cases e : l = h
    · left; show (L.drop l).take (h - l) = []; rw [e, Nat.sub_self, List.take_zero]
    · obtain ⟨b, off, hao, hb, hc⟩ := HP.row.at (i := 0) (by show 0 < L.length; omega)
      dsimp only at hao
      right
      refine ⟨b, off + l, ?_, hb, fun i hi => ?_⟩
      · show (if m = l then a else a.map (·.add (l * 1))) = _
        rw [if_neg (by omega), hao, Nat.mul_one]
        show some (Addr.add _ _) = _
        rw [addr_add]
      · dsimp only at hi
        rw [hlen] at hi
        show w.cell? ⟨b, off + l + i, none⟩ = some (.int .u8 (((L.drop l).take (h - l)).getD i 0))
        have := hc (l + i) (by show l + i < L.length; omega)
        rw [Nat.add_assoc, this]
        simp [List.getD_eq_getElem?_getD, List.getElem?_take, hi]
  · dsimp only at e
    by_cases e2 : m = l
    · rw [if_pos e2] at e; exact HP.lt b e
    · rw [if_neg e2] at e
      cases a with
      | none => cases e
      | some a0 =>
        have h9 := HP.lt a0 rfl
        simp only [Option.map_some, Option.some.injEq] at e
        rw [← e]
        unfold Addr.add
        split <;> exact h9
theorem elem8 : Try.prog.underlying 69 = some (.slice (Try.prog.elem 69)) := by kernel_rfl
theorem size8e (w : World) : (sizeOf (Try.prog.elem 69)).run Try.prog w = .ok 1 w := by kernel_rfl
section
variable {w : World} {ops : Array Oper} {rest : List Oper} {o : Oper} {a : Act} {Q : Exit → Act → World → Prop}
end
end Go.Proofs.Ytbljihhelladbaa.wr
namespace Go.Proofs.Ytbljihhelladbaa.wr
open Go.RowKit Go.Proofs.Ytbljihhelladbaa.st Go.Proofs.Ytbljihhelladbaa.hs Go.Proofs.Ytbljihhelladbaa.shr Go.Proofs.Ytbljihhelladbaa.sh
set_option linter.unusedSimpArgs false
set_option linter.unusedVariables false
set_option pp.maxSteps 6000
/-- a slice that holds parts -/
structure PartsB (w : World) (base : Nat) (v : Value) (ps : List Pt) : Prop where
  own : w.ownsRow base 69 1 v ps.length (ps.map Pt.v)
  ok : ∀ x ∈ ps, x.Ok w ∧ ∀ b, x.a = some b → v.ownBlock ≠ some b.block
theorem PartsB.nil (w : World) (base : Nat) : PartsB w base (.slice none 0 0) [] := ⟨World.ownsRow_nil w base 69 1, fun x hx => by cases hx⟩
theorem PartsB.push {w w6 w7 : World} {base : Nat} {v v' : Value} {ps : List Pt} {y : Pt} (h : PartsB w base v ps) (hb : Below w.heap.size w w6) (hy : y.Ok w6) (hyb : ∀ b, y.a = some b → w.heap.size ≤ b.block)
    (hbase : base ≤ w.heap.size) (hgr : w6.grownBy w7 v.ownBlock) (hv' : v'.ownBlock = v.ownBlock ∨ v'.ownBlock = some w6.heap.size)
    (hown : w7.ownsRow base 69 1 v' (ps.length + 1) (ps.map Pt.v ++ [y.v])) : PartsB w7 base v' (ps ++ [y]) := by
  have hvw : ∀ k, v.ownBlock = some k → base ≤ k ∧ k < w.heap.size := fun k hk => h.own.lt k hk
  have hyv : ∀ b, y.a = some b → v.ownBlock ≠ some b.block := fun b e g => by
    have h1 := hvw _ g
    have h2 := hyb b e
    omega
  refine ⟨by rw [List.length_append, List.map_append]; exact hown, fun x hx => ?_⟩
  rcases List.mem_append.1 hx with hx | hx
  · obtain ⟨h1, h2⟩ := h.ok x hx
    refine ⟨ptGrown (h1.below hb) hgr (fun b e => h2 b e), fun b e => ?_⟩
    rcases hv' with g | g
    · rw [g]; exact h2 b e
    · rw [g]; intro g2; have g3 := Option.some.inj g2; have := h1.lt b e; have := hb.size; omega
  · rw [List.mem_singleton] at hx
    subst hx
    refine ⟨ptGrown hy hgr (fun b e => hyv b e), fun b e => ?_⟩
    rcases hv' with g | g
    · rw [g]; exact hyv b e
    · rw [g]; intro g2; have g3 := Option.some.inj g2; have := hy.lt b e; omega
theorem PartsB.below {w w' : World} {base : Nat} {v : Value} {ps : List Pt} (h : PartsB w base v ps) (hb : Below w.heap.size w w') : PartsB w' base v ps :=
  ⟨owns_up h.own hb, fun x hx => ⟨(h.ok x hx).1.below hb, (h.ok x hx).2⟩⟩
theorem PartsB.row {w : World} {base n c : Nat} {ao : Option Addr} {ps : List Pt} (h : PartsB w base (.slice ao n c) ps) : RowV w ao (ps.map Pt.v) := rowV_of_owns' h.own
end Go.Proofs.Ytbljihhelladbaa.wr
