/-
  Contract of keyref2.BlockOf. Conditions: a key of octets, octets that lie in memory.
-/
import Derived.Test.YtbljihhelladbaaTTsI
namespace Go.Proofs.Ytbljihhelladbaa.wr
open Go.RowKit Go.Proofs.Ytbljihhelladbaa.st Go.Proofs.Ytbljihhelladbaa.hs Go.Proofs.Ytbljihhelladbaa.shr Go.Proofs.Ytbljihhelladbaa.sh
set_option linter.unusedSimpArgs false
set_option linter.unusedVariables false
set_option pp.maxSteps 6000
/-- what a block's opening answers, whatever the text -/
def blockE (k h b : List Int) (i : Int) : Int := if 4096 < h.length then 5 else if lookE b ≠ 0 then lookE b else if i < 0 ∨ (mN b : Int) ≤ i then 4 else openE' k h b i.toNat
def blockR (k h b : List Int) (i : Int) : List Int := if blockE k h b i = 0 then openL k b i.toNat else []
def BlockPost (k h b : List Int) (i : Int) (w : World) (e : Ending) (w' : World) : Prop := Below w.heap.size w w' ∧ ∃ (ao : Option Addr) (n c : Nat), e = .returned (.tuple #[.slice ao n c, .int .i64 (blockE k h b i)]) ∧ Hid (n = (blockR k h b i).length) ∧ Pt.Ok w' ⟨ao, c, blockR k h b i⟩ ∧ (ao = none → c = 0)
theorem blockPost_bad {k h b : List Int} {i E : Int} {w w' : World} (hb : Below w.heap.size w w') (hE : blockE k h b i = E) (h0 : E ≠ 0) : BlockPost k h b i w (.returned (.tuple #[.slice none 0 0, .int .i64 E])) w' := by
  have hR : blockR k h b i = [] := by unfold blockR; rw [hE, if_neg h0]
  exact ⟨hb, none, 0, 0, by rw [hE], by rw [hR]; rfl, by rw [hR]; exact ptNil _, fun _ => rfl⟩
theorem blockPost_open {k h b : List Int} {i : Int} {j : Nat} {w w' : World} {e : Ending} (hij : i = (j : Int)) (hh : ¬ 4096 < h.length) (hl : lookE b = 0) (hj : j < mN b) (hp : OpenPost k h b j w e w') : BlockPost k h b i w e w' := by
  have e1 : i.toNat = j := by omega
  have hE : blockE k h b i = openE' k h b j := by unfold blockE; rw [if_neg hh, if_neg (fun g => g hl), if_neg (by omega), e1]
  have hR : blockR k h b i = openR k h b j := by unfold blockR openR; rw [hE, e1]
  obtain ⟨h1, ao, n, c, h2, h3, h4, h5⟩ := hp
  exact ⟨h1, ao, n, c, by rw [hE]; exact h2, by rw [hR]; exact h3, by rw [hR]; exact h4, h5⟩
set_option maxRecDepth 100000 in
set_option maxHeartbeats 8000000 in
theorem BlockOf_bad (k h l : List Int) (b off bc n : Nat) (ha : Option Addr) (hp hn : Nat) (j : Nat) (w : World) (hk : k.length = 32) (ok : Octs k) (hln : n = l.length) (HL : Pt.Ok w ⟨some ⟨b, off, none⟩, bc, l⟩) (hhn : hn = h.length) (HH : Pt.Ok w ⟨ha, hp, h⟩) (h0 : ha = none → hp = 0) (hh : hn ≤ 4096) (hE : lookE l = 0) (hj : j < mN l) (heq : ¬ tagB k h (l.take 32) (j : Int) (covO l j) = tagO l j) :
    Calls Try.prog 144 #[.agg (k.map (Value.int .u8)).toArray, .slice ha hn hp, .slice (some ⟨b, off, none⟩) n bc, .int .i64 j] w (OpenPost k h l j w) := by
  obtain ⟨B, HB⟩ : ∃ B, Hid (B = w.heap.size) := ⟨_, rfl⟩
  have hsz : w.heap.size = B := HB.out.symm
  have hbw : b < B := by rw [HB.out]; exact HL.lt _ rfl
  have hoL : Octs l := HL.oct
  obtain ⟨hnk, hns, hk16, hk65, hs26, hlen⟩ := look_nums hoL hE
  obtain ⟨hqs, hpl0, hpl1, hend, hj16, hmin, hfr⟩ := blk_places hoL hE hj
  have hcl := covO_length hoL hE hj
  obtain ⟨K, HK⟩ : ∃ K, Hid (K = k.map (Value.int .u8)) := ⟨_, rfl⟩
  have hKl : K.length = 32 := by rw [HK.out, List.length_map, hk]
  obtain ⟨cv, HCV⟩ : ∃ c, Hid (c = covO l j) := ⟨_, rfl⟩
  have oC : Octs cv := by rw [HCV.out]; exact covO_octs hoL j
  obtain ⟨f, HF⟩ : ∃ f, Hid (f = fromB l j) := ⟨_, rfl⟩
  obtain ⟨pl, HPL⟩ : ∃ f, Hid (f = plB l j) := ⟨_, rfl⟩
  obtain ⟨z, HZ⟩ : ∃ f, Hid (f = endB l j) := ⟨_, rfl⟩
  have hzf : z ≤ f + pl ∧ f + pl ≤ z := by rw [HZ.out, HF.out, HPL.out]; exact ⟨Nat.le_refl _, Nat.le_refl _⟩
  obtain ⟨Q, HQ⟩ : ∃ q, Hid (q = j * kN l) := ⟨_, rfl⟩
  obtain ⟨A, HA⟩ : ∃ q, Hid (q = j * (kN l + 16)) := ⟨_, rfl⟩
  have hAQ : A ≤ Q + 16 * j ∧ Q + 16 * j ≤ A := by rw [HA.out, HQ.out, Nat.mul_add]; omega
  have HPLM : Hid (pl = min (kN l) (sN l - Q)) := hid (by rw [HPL.out, HQ.out]; rfl)
  have HFA : Hid (f = 32 + A) := hid (by rw [HF.out, HA.out]; rfl)
  have hf0n : ¬ f = 0 := by rw [HFA.out]; omega
  have HCL : Hid (pl = cv.length) := hid (by rw [HCV.out, hcl, HPL.out])
  rw [← HPL.out] at hpl0 hpl1
  rw [← HZ.out, ← hln] at hend
  rw [← HQ.out] at hqs hfr
  rw [← hln] at hlen
  have hcap : n ≤ bc := by rw [hln]; exact HL.len
  have hmax : bc ≤ maxLen := HL.cap
  unfold maxLen at hmax
  obtain ⟨b', off', hao, hbw', hc⟩ := HL.row.at (i := 0) (by show 0 < l.length; omega)
  cases hao
  have hatT := seg_at (l := l) hc (k := z) (n := 16) (by show z + 16 ≤ l.length; omega)
  have hatN := seg_at (l := l) hc (k := 4) (n := 16) (by show 4 + 16 ≤ l.length; omega)
  obtain ⟨tg, HTG⟩ : ∃ t, Hid (t = tagO l j) := ⟨_, rfl⟩
  have htl : tg.length = 16 := by rw [HTG.out]; exact seg_length (by rw [← hln, ← HZ.out]; omega)
  have hatT' : At w ⟨b, off + z, none⟩ (tg.map (Value.int .u8)) := by rw [HTG.out]; unfold tagO; rw [← HZ.out]; exact hatT
  obtain ⟨TV, HTV⟩ : ∃ t, Hid (t = tg.map (Value.int .u8)) := ⟨_, rfl⟩
  have hTVl : TV.length = 16 := by rw [HTV.out, List.length_map, htl]
  have hTV1 : ∀ u ∈ TV, u.oneCell' = true := by rw [HTV.out]; exact ints_one _ _
  rw [← HTV.out] at hatT'
  obtain ⟨no, HNO⟩ : ∃ t, Hid (t = seg l 4 16) := ⟨_, rfl⟩
  have hnl : no.length = 16 := by rw [HNO.out]; exact seg_length (by omega)
  have ono : Octs no := by rw [HNO.out]; exact seg_octs hoL _ _
  obtain ⟨NV, HNV⟩ : ∃ t, Hid (t = no.map (Value.int .u8)) := ⟨_, rfl⟩
  have hNVl : NV.length = 16 := by rw [HNV.out, List.length_map, hnl]
  rw [← HNO.out, ← HNV.out] at hatN
  obtain ⟨fh, HFH⟩ : ∃ t, Hid (t = l.take 32) := ⟨_, rfl⟩
  have hfhl : fh.length = 32 := by rw [HFH.out, List.length_take]; omega
  obtain ⟨tc, HTC⟩ : ∃ t, Hid (t = tagB k h fh (j : Int) cv) := ⟨_, rfl⟩
  have htcl : tc.length = 16 := by rw [HTC.out]; exact tagB_length _ _ _ _ _
  obtain ⟨TC, HTCV⟩ : ∃ t, Hid (t = tc.map (Value.int .u8)) := ⟨_, rfl⟩
  have HLL := fun y (hb : Below B w y) => hid (HL.below (hsz ▸ hb))
  have HHH := fun y (hb : Below B w y) => hid (HH.below (hsz ▸ hb))
  have hPF : ∀ y, Pt.Ok y ⟨some ⟨b, off, none⟩, bc, l⟩ → Pt.Ok y ⟨some ⟨b, off, none⟩, bc, fh⟩ := fun y hy => by
    have h9 := ptCut hy 0 32 bc (by omega) (by show 32 ≤ l.length; omega) (by omega) (Nat.le_refl _)
    rw [List.drop_zero, Nat.sub_zero, Nat.sub_zero] at h9
    rw [HFH.out]
    by_cases hb0 : bc = 0
    · omega
    · rw [if_neg hb0] at h9
      simpa [Addr.add] using h9
  have hPC : ∀ (M : Nat), z ≤ M → M ≤ bc → ∀ y, Pt.Ok y ⟨some ⟨b, off, none⟩, bc, l⟩ → Pt.Ok y ⟨some ⟨b, off + f, none⟩, M - f, cv⟩ := fun M hM1 hM2 y hy => by
    have h9 := ptCut hy f z M (by omega) (by show z ≤ l.length; omega) hM1 hM2
    rw [if_neg (by omega)] at h9
    have e9 : z - f = pl := by omega
    rw [e9] at h9
    rw [HCV.out]; unfold covO; rw [← HF.out, ← HPL.out]
    simpa [Addr.add, hf0n] using h9
  have hbt := fun (M : Nat) (h1 : z ≤ M) (h2 : M ≤ bc) (y : World) (hb : Below B w y) => hid (RefBTag_any k h fh cv (j : Int) ha (some ⟨b, off, none⟩) (some ⟨b, off + f, none⟩) hp bc (M - f) hn 32 pl y hk ok ⟨by omega, by omega⟩ hhn hfhl.symm HCL.out (HHH y hb).out (hPF y (HLL y hb).out) (hPC M h1 h2 y (HLL y hb).out) h0 (fun e => by cases e) (fun e => by cases e) (by rw [← hhn, hfhl, ← HCL.out]; omega))
  simp only [← HTC.out, ← HTCV.out, ← HK.out] at hbt
  have hqq := fun w => hid (run_eq_tag w tg tc htl htcl)
  obtain ⟨kI, HkI⟩ : ∃ i, Hid (i = (kN l : Int)) := ⟨_, rfl⟩
  obtain ⟨sI, HsI⟩ : ∃ i, Hid (i = (sN l : Int)) := ⟨_, rfl⟩
  obtain ⟨jI, HjI⟩ : ∃ i, Hid (i = (j : Int)) := ⟨_, rfl⟩
  have hkI : kI ≤ 65536 ∧ 16 ≤ kI := by rw [HkI.out]; omega
  have hwA : RowKit.wrap64 (jI * (kI + 16)) = (A : Int) := by
    have e : jI * (kI + 16) = (A : Int) := by rw [HjI.out, HkI.out, HA.out]; simp
    rw [e]; unfold RowKit.wrap64; omega
  have hfA : (32 : Int) + (A : Int) = (f : Int) := by rw [HFA.out]; omega
  have hnot : ¬ z = f := by omega
  have heq' : ¬ tc = tg := by rw [HTC.out, HFH.out, HCV.out, HTG.out]; exact heq
  have hEq : openE' k h l j = if tc = tg then 0 else 13 := by unfold openE'; rw [HTC.out, HFH.out, HCV.out, HTG.out]
  have hEE : Hid (openE' k h l j = 13) := hid (by rw [hEq, if_neg heq'])
  have HRR : Hid (openR k h l j = []) := hid (by unfold openR; rw [hEE.out, if_neg (by decide)])
  have heqb : (tg == tc) = false := by simpa using (fun h => heq' (Eq.symm h) : ¬ tg = tc)
  rw [heqb] at hqq
  simp only [← HTCV.out, ← HTV.out] at hqq
  have HEG := hid (by kernel_rfl : Try.prog.eqGuardType Try.prog.depth 105 = false)
  have huK := Try.underlying23
  have hiK : (Try.prog.info? 23).map (·.size) = some K.length := by rw [hKl]; exact aggKey.2
  have huT := Try.underlying105
  have hiT : (Try.prog.info? 105).map (·.size) = some TV.length := by rw [hTVl]; exact aggTag.2
  have huN := Try.underlying25
  have hiN : (Try.prog.info? 25).map (·.size) = some NV.length := by rw [hNVl]; exact aggNo.2
  have hbo := fun (y : World) (hb : Below B w y) => hid (BlocksOf_any (some ⟨b, off, none⟩) bc n l y hln (HL.below (hsz ▸ hb)))
  have hbv : blocksV l = .tuple #[.int .i64 kI, .int .i64 (mN l : Int), .int .i64 0] := by unfold blocksV bkN mnN; rw [hE, if_pos rfl, if_pos rfl, HkI.out, hnk]; rfl
  rw [hbv] at hbo
  obtain ⟨m, Hm⟩ : ∃ m, Hid (m = mN l) := ⟨_, rfl⟩
  rw [← Hm.out] at hbo
  have hjm : j < m := by rw [Hm.out]; exact hj
  have hmb : m ≤ 16385 := by rw [Hm.out]; exact many_le hk16 hs26
  have hin := fun y => hid (In_b jI 0 ((m : Int) - 1) y)
  have hib : inB jI 0 ((m : Int) - 1) = true := by unfold inB; rw [HjI.out]; simp; omega
  rw [hib] at hin
  have hwm : IntKind.i64.wrap ((m : Int) - 1) = (m : Int) - 1 := IntWalk.i64_in _ (by omega)
  obtain ⟨G, HG⟩ : ∃ g, Hid (g = f + kN l) := ⟨_, rfl⟩
  obtain ⟨GI, HGI⟩ : ∃ g : Int, Hid (g = (G : Int)) := ⟨_, rfl⟩
  have hfk : (f : Int) + kI = GI := by rw [HGI.out, HkI.out, HG.out]; omega
  obtain ⟨H, HH2⟩ : ∃ g, Hid (g = G + 16) := ⟨_, rfl⟩
  obtain ⟨HI, HHI⟩ : ∃ g : Int, Hid (g = (H : Int)) := ⟨_, rfl⟩
  have hgh : GI + 16 = HI := by rw [HHI.out, HGI.out, HH2.out]; omega
  have hnb : n ≤ 1000000 := by have h9 := Hm.out; omega
  have hwG : RowKit.wrap64 GI = GI := by have h8 := HGI.out; have h9 := HG.out; unfold RowKit.wrap64; omega
  have hwH : RowKit.wrap64 HI = HI := by have h7 := HHI.out; have h8 := HH2.out; have h9 := HG.out; unfold RowKit.wrap64; omega
  obtain ⟨E, HE⟩ : ∃ g, Hid (g = z + 16) := ⟨_, rfl⟩
  have hmnn : min n H = E := by rw [HH2.out, HG.out, HE.out, HZ.out, HF.out, hln]; exact hmin
  have hmn : min (n : Int) HI = (E : Int) := by rw [HHI.out, ← hmnn]; omega
  have hEz : (E : Int) - 16 = (z : Int) := by rw [HE.out]; omega
  have hEn : E ≤ n := by rw [HE.out]; omega
  have hwz : IntKind.i64.wrap (z : Int) = (z : Int) := IntWalk.i64_in _ (by omega)
  have hfz : (f : Int) ≤ (z : Int) := by omega
  have hzE : (z : Int) ≤ (E : Int) := by rw [HE.out]; omega
  have hzb : (z : Int) ≤ (bc : Int) := by omega
  have hEb : (E : Int) ≤ (bc : Int) := by omega
  have hf0 : (0 : Int) ≤ (f : Int) := by omega
  have hz0 : (0 : Int) ≤ (z : Int) := by omega
  have hbz : ¬ bc = z := by rw [HE.out] at hEn; omega
  have hbf : ¬ bc = f := by rw [HE.out] at hEn; omega
  have hb4 : ¬ bc = 4 := by rw [HE.out] at hEn; omega
  have hb32 : (32 : Int) ≤ (bc : Int) := by omega
  have hb20 : (20 : Int) ≤ (bc : Int) := by omega
  have hzpl : z - f = pl := by omega
  have hEz16 : E - z = 16 := by rw [HE.out]; omega
  have hhI : ¬ (4096 : Int) < (hn : Int) := by omega
  have hAT := fun w a n cap h => run_arrayAtTag w a n cap h
  have hAN := fun w a n cap h => run_arrayAtNo w a n cap h
  have hzbc : z ≤ bc := by omega
  have hpc := fun y (hb : Below B w y) => hbt bc hzbc (Nat.le_refl _) y hb
  obtain ⟨YT, HYT⟩ : ∃ Z, Hid (Z = (List.replicate 16 (0 : Int)).map (Value.int .u8)) := ⟨_, rfl⟩
  have hzT := hid zeroTag
  rw [← HYT.out] at hzT
  have hYl : YT.length = 16 := by rw [HYT.out]; simp
  rw [← HK.out, ← HjI.out]
  simp only [← HjI.out] at hpc
  clear hf0n hbt HL HH hhn h0 hk hE hj hnk hns hk16 hk65 hs26 hlen hmin hfr hcl hEq heq heq' heqb hend hc hAQ hPC hPF hatT hj16 HHH hzf hln hbv hib hmnn hEn
  go_enter Try.func144, Try.ntmps144
  go_wp2_with (first | (refine wl_boxV rfl 23 _ rfl K rfl B hsz ?_; intro wb hKb hbb hsb) | (go_at_call 142; refine (hbo wb hbb).out.mono ?_; rintro e w' ⟨rfl, hw'⟩; subst hw') | (go_at_call 16; refine (hin _).out.mono ?_; rintro e w'' ⟨rfl, hw''⟩; subst hw''))
  refine wp_region_held_drew (S := (fun w' => w'.rangeAt b (off + z) TV)) (by kernel_rfl) (at_range (at_below hatT' hbb.drew hbw)) (fun hHeld => ?_)
  obtain ⟨x0, HX0⟩ : ∃ x, Hid (x = w'.drew) := ⟨_, rfl⟩
  rw [← HX0.out] at hHeld ⊢
  have hK0 : BlkV 23 x0 B K := by rw [HX0.out]; exact hKb
  have bb0 : Below B w x0 := by rw [HX0.out]; exact hbb.drew
  have hs0 : x0.heap.size = B + 1 := by rw [HX0.out]; exact hsb
  clear hKb hbb hsb
  refine tkP 0 rfl (by assumption) ⟨?_, ?_, ?_⟩
  rotate_left
  · intro w hSw; (try dsimp only at hSw); go_simp; (try with_reducible rfl)
  try simp only [Act.put, sArr, sZ, sS]
  refine tkP 1 rfl (by assumption) ⟨?_, ?_, ?_⟩
  rotate_left
  · intro w hSw; (try dsimp only at hSw); go_simp; (try with_reducible rfl)
  try simp only [Act.put, sArr, sZ, sS]
  refine tkP 2 rfl (by assumption) ⟨?_, ?_, ?_⟩
  rotate_left
  · intro w hSw; (try dsimp only at hSw); go_simp; (try with_reducible rfl)
  try simp only [Act.put, sArr, sZ, sS]
  refine tkP 3 rfl (by assumption) ⟨?_, ?_, ?_⟩
  rotate_left
  · intro w hSw; (try dsimp only at hSw); go_simp; (try with_reducible rfl)
  try simp only [Act.put, sArr, sZ, sS]
  refine tkP 4 rfl (by assumption) ⟨?_, ?_, ?_⟩
  rotate_left
  · intro w hSw; (try dsimp only at hSw); go_simp; (try with_reducible rfl)
  try simp only [Act.put, sArr, sZ, sS]
  refine tkP 5 rfl (by assumption) ⟨?_, ?_, ?_⟩
  rotate_left
  · intro w hSw; (try dsimp only at hSw); go_simp; (try with_reducible rfl)
  try simp only [Act.put, sArr, sZ, sS]
  refine tkP 6 rfl (by assumption) ⟨?_, ?_, ?_⟩
  rotate_left
  · intro w hSw; (try dsimp only at hSw); go_simp; (try with_reducible rfl)
  try simp only [Act.put, sArr, sZ, sS]
  refine tkP 7 rfl (by assumption) ⟨?_, ?_, ?_⟩
  rotate_left
  · intro w hSw; (try dsimp only at hSw); go_simp; (try with_reducible rfl)
  try simp only [Act.put, sArr, sZ, sS]
  refine tkP 8 rfl (by assumption) ⟨?_, ?_, ?_⟩
  rotate_left
  · intro w hSw; (try dsimp only at hSw); go_simp; (try with_reducible rfl)
  try simp only [Act.put, sArr, sZ, sS]
  refine tkP 9 rfl (by assumption) ⟨?_, ?_, ?_⟩
  rotate_left
  · intro w hSw; (try dsimp only at hSw); go_simp; (try with_reducible rfl)
  try simp only [Act.put, sArr, sZ, sS]
  refine tkP 10 rfl (by assumption) ⟨?_, ?_, ?_⟩
  rotate_left
  · intro w hSw; (try dsimp only at hSw); go_simp; (try with_reducible rfl)
  try simp only [Act.put, sArr, sZ, sS]
  refine tkR 11 rfl (yieldsIf_load_mid (by rfl) 105 _ rfl b (off + z) rfl TV _ (fun w hS => hS) huT rfl hiT) (by assumption) ?_
  try simp only [Act.put, sArr, sZ, sS]
  refine wpAnyH_ready (rs := [12]) (by kernel_rfl) (by simp) (cons_l rfl (fun K' hK' => ?_) AllReadyH.nil)
  refine step_allocV rfl 105 rfl YT hzT.out (B + 1) hs0 ?_
  intro x1 hT1 hbx1 hsx1
  have hK1 := hK0.below hbx1 (by omega)
  have bb1 := bb0.trans (hbx1.mono (by omega : B ≤ _))
  refine hK'.out _ _ (at_range (at_below hatT' bb1 hbw)) (fun hHeld => ?_)
  clear hK' K'
  try simp only [Act.put, sArr, sZ, sS]
  refine tkP 13 rfl (by assumption) ⟨?_, ?_, ?_⟩
  rotate_left
  · intro w hSw; (try dsimp only at hSw); go_simp; (try with_reducible rfl)
  try simp only [Act.put, sArr, sZ, sS]
  refine wpAnyH_ready (rs := [14]) (by kernel_rfl) (by simp) (cons_l rfl (fun K' hK' => ?_) AllReadyH.nil)
  refine step_storeV rfl 105 _ _ rfl 105 (B + 1) rfl TV rfl 16 aggTag hTVl YT hT1 hYl hTV1 ?_
  intro x2 hT2 hbx2 hsx2
  have hK2 := hK1.below hbx2 (by omega)
  have bb2 := bb1.trans (hbx2.mono (by omega : B ≤ _))
  refine hK'.out _ _ (at_range (at_below hatT' bb2 hbw)) (fun hHeld => ?_)
  clear hK' K'
  try simp only [Act.put, sArr, sZ, sS]
  refine wpAnyH_done (by kernel_rfl) ?_ _
  clear hHeld
  go_wp2_with fail
  refine wp_region_held_drew (S := (fun w' => BlkV 23 w' B K ∧ BlkV 105 w' (B + 1) TV)) (by kernel_rfl) ⟨hK2, hT2⟩ (fun hHeld => ?_)
  obtain ⟨y0, HY0⟩ : ∃ x, Hid (x = x2.drew) := ⟨_, rfl⟩
  rw [← HY0.out] at hHeld ⊢
  have hK3 : BlkV 23 y0 B K := by rw [HY0.out]; exact hK2
  have hT3 : BlkV 105 y0 (B + 1) TV := by rw [HY0.out]; exact hT2
  have bb3 : Below B w y0 := by rw [HY0.out]; exact bb2.drew
  have hs3 : B + 2 ≤ y0.heap.size := by rw [HY0.out]; show B + 2 ≤ x2.heap.size; omega
  refine tkR 0 rfl (yieldsIf_load_mid (by rfl) 105 _ rfl (B + 1) 0 rfl TV _ (fun w hS => at_range hS.2.at0) huT rfl hiT) (by assumption) ?_
  try simp only [Act.put, sArr, sZ, sS]
  refine tkR 1 rfl (yieldsIf_load_mid (by rfl) 23 _ rfl B 0 rfl K _ (fun w hS => at_range hS.1.at0) huK rfl hiK) (by assumption) ?_
  try simp only [Act.put, sArr, sZ, sS]
  refine tkP 2 rfl (by assumption) ⟨?_, ?_, ?_⟩
  rotate_left
  · intro w hSw; (try dsimp only at hSw); go_simp; (try with_reducible rfl)
  try simp only [Act.put, sArr, sZ, sS]
  refine tkP 3 rfl (by assumption) ⟨?_, ?_, ?_⟩
  rotate_left
  · intro w hSw; (try dsimp only at hSw); go_simp; (try with_reducible rfl)
  try simp only [Act.put, sArr, sZ, sS]
  refine tkP 4 rfl (by assumption) ⟨?_, ?_, ?_⟩
  rotate_left
  · intro w hSw; (try dsimp only at hSw); go_simp; (try with_reducible rfl)
  try simp only [Act.put, sArr, sZ, sS]
  refine tkP 5 rfl (by assumption) ⟨?_, ?_, ?_⟩
  rotate_left
  · intro w hSw; (try dsimp only at hSw); go_simp; (try with_reducible rfl)
  try simp only [Act.put, sArr, sZ, sS]
  refine tkP 6 rfl (by assumption) ⟨?_, ?_, ?_⟩
  rotate_left
  · intro w hSw; (try dsimp only at hSw); go_simp; (try with_reducible rfl)
  try simp only [Act.put, sArr, sZ, sS]
  refine wpAnyH_ready (rs := [7]) (by kernel_rfl) (by simp) (cons_l rfl (fun K' hK' => ?_) AllReadyH.nil)
  rw [if_pos (by rfl)]
  go_simp
  go_at_call 140
  refine ((hpc y0 bb3).out).mono ?_
  rintro e y1 ⟨rfl, hby1⟩
  have hK4 := hK3.below hby1 hK3.lt
  have hT4 := hT3.below hby1 hT3.lt
  have bb4 := bb3.trans (hby1.mono (Nat.le_trans (by omega : B ≤ B + 2) hs3))
  have hs4 := Nat.le_trans hs3 hby1.size
  refine hK'.out _ _ ⟨hK4, hT4⟩ (fun hHeld => ?_)
  clear hK' K'
  try simp only [Act.put, sArr, sZ, sS]
  refine tkR 8 rfl (yieldsIf_neM (by rfl) 105 _ _ _ rfl TV.toArray TC.toArray rfl rfl false (fun w => (hqq w).out) HEG.out) (by assumption) ?_
  try simp only [Act.put, sArr, sZ, sS]
  refine wpAnyH_done (by kernel_rfl) ?_ _
  clear hHeld
  go_wp2_with fail
  go_ret2
  exact ⟨by first | exact bb4 | (rw [← HB.out]; exact bb4), none, 0, 0, by rw [hEE.out]; rfl, by rw [HRR.out]; rfl, by rw [HRR.out]; exact ptNil _, fun _ => rfl⟩
set_option maxRecDepth 100000 in
set_option maxHeartbeats 8000000 in
theorem BlockOf_good (k h l : List Int) (b off bc n : Nat) (ha : Option Addr) (hp hn : Nat) (j : Nat) (w : World) (hk : k.length = 32) (ok : Octs k) (hln : n = l.length) (HL : Pt.Ok w ⟨some ⟨b, off, none⟩, bc, l⟩) (hhn : hn = h.length) (HH : Pt.Ok w ⟨ha, hp, h⟩) (h0 : ha = none → hp = 0) (hh : hn ≤ 4096) (hE : lookE l = 0) (hj : j < mN l) (heq : tagB k h (l.take 32) (j : Int) (covO l j) = tagO l j) :
    Calls Try.prog 144 #[.agg (k.map (Value.int .u8)).toArray, .slice ha hn hp, .slice (some ⟨b, off, none⟩) n bc, .int .i64 j] w (OpenPost k h l j w) := by
  obtain ⟨B, HB⟩ : ∃ B, Hid (B = w.heap.size) := ⟨_, rfl⟩
  have hsz : w.heap.size = B := HB.out.symm
  have hbw : b < B := by rw [HB.out]; exact HL.lt _ rfl
  have hoL : Octs l := HL.oct
  obtain ⟨hnk, hns, hk16, hk65, hs26, hlen⟩ := look_nums hoL hE
  obtain ⟨hqs, hpl0, hpl1, hend, hj16, hmin, hfr⟩ := blk_places hoL hE hj
  have hcl := covO_length hoL hE hj
  obtain ⟨K, HK⟩ : ∃ K, Hid (K = k.map (Value.int .u8)) := ⟨_, rfl⟩
  have hKl : K.length = 32 := by rw [HK.out, List.length_map, hk]
  obtain ⟨cv, HCV⟩ : ∃ c, Hid (c = covO l j) := ⟨_, rfl⟩
  have oC : Octs cv := by rw [HCV.out]; exact covO_octs hoL j
  obtain ⟨f, HF⟩ : ∃ f, Hid (f = fromB l j) := ⟨_, rfl⟩
  obtain ⟨pl, HPL⟩ : ∃ f, Hid (f = plB l j) := ⟨_, rfl⟩
  obtain ⟨z, HZ⟩ : ∃ f, Hid (f = endB l j) := ⟨_, rfl⟩
  have hzf : z ≤ f + pl ∧ f + pl ≤ z := by rw [HZ.out, HF.out, HPL.out]; exact ⟨Nat.le_refl _, Nat.le_refl _⟩
  obtain ⟨Q, HQ⟩ : ∃ q, Hid (q = j * kN l) := ⟨_, rfl⟩
  obtain ⟨A, HA⟩ : ∃ q, Hid (q = j * (kN l + 16)) := ⟨_, rfl⟩
  have hAQ : A ≤ Q + 16 * j ∧ Q + 16 * j ≤ A := by rw [HA.out, HQ.out, Nat.mul_add]; omega
  have HPLM : Hid (pl = min (kN l) (sN l - Q)) := hid (by rw [HPL.out, HQ.out]; rfl)
  have HFA : Hid (f = 32 + A) := hid (by rw [HF.out, HA.out]; rfl)
  have hf0n : ¬ f = 0 := by rw [HFA.out]; omega
  have HCL : Hid (pl = cv.length) := hid (by rw [HCV.out, hcl, HPL.out])
  rw [← HPL.out] at hpl0 hpl1
  rw [← HZ.out, ← hln] at hend
  rw [← HQ.out] at hqs hfr
  rw [← hln] at hlen
  have hcap : n ≤ bc := by rw [hln]; exact HL.len
  have hmax : bc ≤ maxLen := HL.cap
  unfold maxLen at hmax
  obtain ⟨b', off', hao, hbw', hc⟩ := HL.row.at (i := 0) (by show 0 < l.length; omega)
  cases hao
  have hatT := seg_at (l := l) hc (k := z) (n := 16) (by show z + 16 ≤ l.length; omega)
  have hatN := seg_at (l := l) hc (k := 4) (n := 16) (by show 4 + 16 ≤ l.length; omega)
  obtain ⟨tg, HTG⟩ : ∃ t, Hid (t = tagO l j) := ⟨_, rfl⟩
  have htl : tg.length = 16 := by rw [HTG.out]; exact seg_length (by rw [← hln, ← HZ.out]; omega)
  have hatT' : At w ⟨b, off + z, none⟩ (tg.map (Value.int .u8)) := by rw [HTG.out]; unfold tagO; rw [← HZ.out]; exact hatT
  obtain ⟨TV, HTV⟩ : ∃ t, Hid (t = tg.map (Value.int .u8)) := ⟨_, rfl⟩
  have hTVl : TV.length = 16 := by rw [HTV.out, List.length_map, htl]
  have hTV1 : ∀ u ∈ TV, u.oneCell' = true := by rw [HTV.out]; exact ints_one _ _
  rw [← HTV.out] at hatT'
  obtain ⟨no, HNO⟩ : ∃ t, Hid (t = seg l 4 16) := ⟨_, rfl⟩
  have hnl : no.length = 16 := by rw [HNO.out]; exact seg_length (by omega)
  have ono : Octs no := by rw [HNO.out]; exact seg_octs hoL _ _
  obtain ⟨NV, HNV⟩ : ∃ t, Hid (t = no.map (Value.int .u8)) := ⟨_, rfl⟩
  have hNVl : NV.length = 16 := by rw [HNV.out, List.length_map, hnl]
  rw [← HNO.out, ← HNV.out] at hatN
  obtain ⟨fh, HFH⟩ : ∃ t, Hid (t = l.take 32) := ⟨_, rfl⟩
  have hfhl : fh.length = 32 := by rw [HFH.out, List.length_take]; omega
  obtain ⟨tc, HTC⟩ : ∃ t, Hid (t = tagB k h fh (j : Int) cv) := ⟨_, rfl⟩
  have htcl : tc.length = 16 := by rw [HTC.out]; exact tagB_length _ _ _ _ _
  obtain ⟨TC, HTCV⟩ : ∃ t, Hid (t = tc.map (Value.int .u8)) := ⟨_, rfl⟩
  have HLL := fun y (hb : Below B w y) => hid (HL.below (hsz ▸ hb))
  have HHH := fun y (hb : Below B w y) => hid (HH.below (hsz ▸ hb))
  have hPF : ∀ y, Pt.Ok y ⟨some ⟨b, off, none⟩, bc, l⟩ → Pt.Ok y ⟨some ⟨b, off, none⟩, bc, fh⟩ := fun y hy => by
    have h9 := ptCut hy 0 32 bc (by omega) (by show 32 ≤ l.length; omega) (by omega) (Nat.le_refl _)
    rw [List.drop_zero, Nat.sub_zero, Nat.sub_zero] at h9
    rw [HFH.out]
    by_cases hb0 : bc = 0
    · omega
    · rw [if_neg hb0] at h9
      simpa [Addr.add] using h9
  have hPC : ∀ (M : Nat), z ≤ M → M ≤ bc → ∀ y, Pt.Ok y ⟨some ⟨b, off, none⟩, bc, l⟩ → Pt.Ok y ⟨some ⟨b, off + f, none⟩, M - f, cv⟩ := fun M hM1 hM2 y hy => by
    have h9 := ptCut hy f z M (by omega) (by show z ≤ l.length; omega) hM1 hM2
    rw [if_neg (by omega)] at h9
    have e9 : z - f = pl := by omega
    rw [e9] at h9
    rw [HCV.out]; unfold covO; rw [← HF.out, ← HPL.out]
    simpa [Addr.add, hf0n] using h9
  have hbt := fun (M : Nat) (h1 : z ≤ M) (h2 : M ≤ bc) (y : World) (hb : Below B w y) => hid (RefBTag_any k h fh cv (j : Int) ha (some ⟨b, off, none⟩) (some ⟨b, off + f, none⟩) hp bc (M - f) hn 32 pl y hk ok ⟨by omega, by omega⟩ hhn hfhl.symm HCL.out (HHH y hb).out (hPF y (HLL y hb).out) (hPC M h1 h2 y (HLL y hb).out) h0 (fun e => by cases e) (fun e => by cases e) (by rw [← hhn, hfhl, ← HCL.out]; omega))
  simp only [← HTC.out, ← HTCV.out, ← HK.out] at hbt
  have hqq := fun w => hid (run_eq_tag w tg tc htl htcl)
  obtain ⟨kI, HkI⟩ : ∃ i, Hid (i = (kN l : Int)) := ⟨_, rfl⟩
  obtain ⟨sI, HsI⟩ : ∃ i, Hid (i = (sN l : Int)) := ⟨_, rfl⟩
  obtain ⟨jI, HjI⟩ : ∃ i, Hid (i = (j : Int)) := ⟨_, rfl⟩
  have hkI : kI ≤ 65536 ∧ 16 ≤ kI := by rw [HkI.out]; omega
  have hwA : RowKit.wrap64 (jI * (kI + 16)) = (A : Int) := by
    have e : jI * (kI + 16) = (A : Int) := by rw [HjI.out, HkI.out, HA.out]; simp
    rw [e]; unfold RowKit.wrap64; omega
  have hfA : (32 : Int) + (A : Int) = (f : Int) := by rw [HFA.out]; omega
  have hnot : ¬ z = f := by omega
  have heq' : tc = tg := by rw [HTC.out, HFH.out, HCV.out, HTG.out]; exact heq
  have hEq : openE' k h l j = if tc = tg then 0 else 13 := by unfold openE'; rw [HTC.out, HFH.out, HCV.out, HTG.out]
  have hEE : Hid (openE' k h l j = 0) := hid (by rw [hEq, if_pos heq'])
  have HRR : Hid (openR k h l j = coverL k (nonB no (j : Int)) cv) := hid (by unfold openR; rw [hEE.out, if_pos rfl]; unfold openL; rw [HNO.out, HCV.out])
  have hnn := fun y => hid (RefNonce_any no hnl ono (j : Int) ⟨by omega, by omega⟩ y)
  have hco := fun (M : Nat) (h1 : z ≤ M) (h2 : M ≤ bc) (y : World) (hb : Below B w y) => hid (RefCover_any k (nonB no (j : Int)) cv (some ⟨b, off + f, none⟩) (M - f) pl y hk (nonB_length _ _) ok (nonB_octs _ _) HCL.out (hPC M h1 h2 y (HLL y hb).out) (by omega))
  obtain ⟨NB, HNB⟩ : ∃ t, Hid (t = (nonB no (j : Int)).map (Value.int .u8)) := ⟨_, rfl⟩
  obtain ⟨R, HR⟩ : ∃ t, Hid (t = coverL k (nonB no (j : Int)) cv) := ⟨_, rfl⟩
  have hRl : R.length = pl := by rw [HR.out, coverL_length]; exact HCL.out.symm
  have oR : Octs R := by rw [HR.out]; exact coverL_octs _ _ oC
  simp only [← HNB.out, ← HNV.out] at hnn
  simp only [← HNB.out, ← HR.out, ← HK.out] at hco
  rw [← HR.out] at HRR
  have heqb : (tg == tc) = true := by simpa using heq'.symm
  rw [heqb] at hqq
  simp only [← HTCV.out, ← HTV.out] at hqq
  have HEG := hid (by kernel_rfl : Try.prog.eqGuardType Try.prog.depth 105 = false)
  have huK := Try.underlying23
  have hiK : (Try.prog.info? 23).map (·.size) = some K.length := by rw [hKl]; exact aggKey.2
  have huT := Try.underlying105
  have hiT : (Try.prog.info? 105).map (·.size) = some TV.length := by rw [hTVl]; exact aggTag.2
  have huN := Try.underlying25
  have hiN : (Try.prog.info? 25).map (·.size) = some NV.length := by rw [hNVl]; exact aggNo.2
  have hbo := fun (y : World) (hb : Below B w y) => hid (BlocksOf_any (some ⟨b, off, none⟩) bc n l y hln (HL.below (hsz ▸ hb)))
  have hbv : blocksV l = .tuple #[.int .i64 kI, .int .i64 (mN l : Int), .int .i64 0] := by unfold blocksV bkN mnN; rw [hE, if_pos rfl, if_pos rfl, HkI.out, hnk]; rfl
  rw [hbv] at hbo
  obtain ⟨m, Hm⟩ : ∃ m, Hid (m = mN l) := ⟨_, rfl⟩
  rw [← Hm.out] at hbo
  have hjm : j < m := by rw [Hm.out]; exact hj
  have hmb : m ≤ 16385 := by rw [Hm.out]; exact many_le hk16 hs26
  have hin := fun y => hid (In_b jI 0 ((m : Int) - 1) y)
  have hib : inB jI 0 ((m : Int) - 1) = true := by unfold inB; rw [HjI.out]; simp; omega
  rw [hib] at hin
  have hwm : IntKind.i64.wrap ((m : Int) - 1) = (m : Int) - 1 := IntWalk.i64_in _ (by omega)
  obtain ⟨G, HG⟩ : ∃ g, Hid (g = f + kN l) := ⟨_, rfl⟩
  obtain ⟨GI, HGI⟩ : ∃ g : Int, Hid (g = (G : Int)) := ⟨_, rfl⟩
  have hfk : (f : Int) + kI = GI := by rw [HGI.out, HkI.out, HG.out]; omega
  obtain ⟨H, HH2⟩ : ∃ g, Hid (g = G + 16) := ⟨_, rfl⟩
  obtain ⟨HI, HHI⟩ : ∃ g : Int, Hid (g = (H : Int)) := ⟨_, rfl⟩
  have hgh : GI + 16 = HI := by rw [HHI.out, HGI.out, HH2.out]; omega
  have hnb : n ≤ 1000000 := by have h9 := Hm.out; omega
  have hwG : RowKit.wrap64 GI = GI := by have h8 := HGI.out; have h9 := HG.out; unfold RowKit.wrap64; omega
  have hwH : RowKit.wrap64 HI = HI := by have h7 := HHI.out; have h8 := HH2.out; have h9 := HG.out; unfold RowKit.wrap64; omega
  obtain ⟨E, HE⟩ : ∃ g, Hid (g = z + 16) := ⟨_, rfl⟩
  have hmnn : min n H = E := by rw [HH2.out, HG.out, HE.out, HZ.out, HF.out, hln]; exact hmin
  have hmn : min (n : Int) HI = (E : Int) := by rw [HHI.out, ← hmnn]; omega
  have hEz : (E : Int) - 16 = (z : Int) := by rw [HE.out]; omega
  have hEn : E ≤ n := by rw [HE.out]; omega
  have hwz : IntKind.i64.wrap (z : Int) = (z : Int) := IntWalk.i64_in _ (by omega)
  have hfz : (f : Int) ≤ (z : Int) := by omega
  have hzE : (z : Int) ≤ (E : Int) := by rw [HE.out]; omega
  have hzb : (z : Int) ≤ (bc : Int) := by omega
  have hEb : (E : Int) ≤ (bc : Int) := by omega
  have hf0 : (0 : Int) ≤ (f : Int) := by omega
  have hz0 : (0 : Int) ≤ (z : Int) := by omega
  have hbz : ¬ bc = z := by rw [HE.out] at hEn; omega
  have hbf : ¬ bc = f := by rw [HE.out] at hEn; omega
  have hb4 : ¬ bc = 4 := by rw [HE.out] at hEn; omega
  have hb32 : (32 : Int) ≤ (bc : Int) := by omega
  have hb20 : (20 : Int) ≤ (bc : Int) := by omega
  have hzpl : z - f = pl := by omega
  have hEz16 : E - z = 16 := by rw [HE.out]; omega
  have hhI : ¬ (4096 : Int) < (hn : Int) := by omega
  have hAT := fun w a n cap h => run_arrayAtTag w a n cap h
  have hAN := fun w a n cap h => run_arrayAtNo w a n cap h
  have hzbc : z ≤ bc := by omega
  have hpc := fun y (hb : Below B w y) => hbt bc hzbc (Nat.le_refl _) y hb
  obtain ⟨YT, HYT⟩ : ∃ Z, Hid (Z = (List.replicate 16 (0 : Int)).map (Value.int .u8)) := ⟨_, rfl⟩
  have hzT := hid zeroTag
  rw [← HYT.out] at hzT
  have hYl : YT.length = 16 := by rw [HYT.out]; simp
  rw [← HK.out, ← HjI.out]
  simp only [← HjI.out] at hpc
  have hpc2 := fun y (hb : Below B w y) => hco bc hzbc (Nat.le_refl _) y hb
  simp only [← HjI.out] at hnn
  clear hf0n hbt HL HH hhn h0 hk hE hj hnk hns hk16 hk65 hs26 hlen hmin hfr hcl hEq heq heq' heqb hend hc hAQ hPC hPF hatT hj16 HHH hzf hln hbv hib hmnn hEn hco
  go_enter Try.func144, Try.ntmps144
  go_wp2_with (first | (refine wl_boxV rfl 23 _ rfl K rfl B hsz ?_; intro wb hKb hbb hsb) | (go_at_call 142; refine (hbo wb hbb).out.mono ?_; rintro e w' ⟨rfl, hw'⟩; subst hw') | (go_at_call 16; refine (hin _).out.mono ?_; rintro e w'' ⟨rfl, hw''⟩; subst hw''))
  refine wp_region_held_drew (S := (fun w' => w'.rangeAt b (off + z) TV)) (by kernel_rfl) (at_range (at_below hatT' hbb.drew hbw)) (fun hHeld => ?_)
  obtain ⟨x0, HX0⟩ : ∃ x, Hid (x = w'.drew) := ⟨_, rfl⟩
  rw [← HX0.out] at hHeld ⊢
  have hK0 : BlkV 23 x0 B K := by rw [HX0.out]; exact hKb
  have bb0 : Below B w x0 := by rw [HX0.out]; exact hbb.drew
  have hs0 : x0.heap.size = B + 1 := by rw [HX0.out]; exact hsb
  clear hKb hbb hsb
  refine tkP 0 rfl (by assumption) ⟨?_, ?_, ?_⟩
  rotate_left
  · intro w hSw; (try dsimp only at hSw); go_simp; (try with_reducible rfl)
  try simp only [Act.put, sArr, sZ, sS]
  refine tkP 1 rfl (by assumption) ⟨?_, ?_, ?_⟩
  rotate_left
  · intro w hSw; (try dsimp only at hSw); go_simp; (try with_reducible rfl)
  try simp only [Act.put, sArr, sZ, sS]
  refine tkP 2 rfl (by assumption) ⟨?_, ?_, ?_⟩
  rotate_left
  · intro w hSw; (try dsimp only at hSw); go_simp; (try with_reducible rfl)
  try simp only [Act.put, sArr, sZ, sS]
  refine tkP 3 rfl (by assumption) ⟨?_, ?_, ?_⟩
  rotate_left
  · intro w hSw; (try dsimp only at hSw); go_simp; (try with_reducible rfl)
  try simp only [Act.put, sArr, sZ, sS]
  refine tkP 4 rfl (by assumption) ⟨?_, ?_, ?_⟩
  rotate_left
  · intro w hSw; (try dsimp only at hSw); go_simp; (try with_reducible rfl)
  try simp only [Act.put, sArr, sZ, sS]
  refine tkP 5 rfl (by assumption) ⟨?_, ?_, ?_⟩
  rotate_left
  · intro w hSw; (try dsimp only at hSw); go_simp; (try with_reducible rfl)
  try simp only [Act.put, sArr, sZ, sS]
  refine tkP 6 rfl (by assumption) ⟨?_, ?_, ?_⟩
  rotate_left
  · intro w hSw; (try dsimp only at hSw); go_simp; (try with_reducible rfl)
  try simp only [Act.put, sArr, sZ, sS]
  refine tkP 7 rfl (by assumption) ⟨?_, ?_, ?_⟩
  rotate_left
  · intro w hSw; (try dsimp only at hSw); go_simp; (try with_reducible rfl)
  try simp only [Act.put, sArr, sZ, sS]
  refine tkP 8 rfl (by assumption) ⟨?_, ?_, ?_⟩
  rotate_left
  · intro w hSw; (try dsimp only at hSw); go_simp; (try with_reducible rfl)
  try simp only [Act.put, sArr, sZ, sS]
  refine tkP 9 rfl (by assumption) ⟨?_, ?_, ?_⟩
  rotate_left
  · intro w hSw; (try dsimp only at hSw); go_simp; (try with_reducible rfl)
  try simp only [Act.put, sArr, sZ, sS]
  refine tkP 10 rfl (by assumption) ⟨?_, ?_, ?_⟩
  rotate_left
  · intro w hSw; (try dsimp only at hSw); go_simp; (try with_reducible rfl)
  try simp only [Act.put, sArr, sZ, sS]
  refine tkR 11 rfl (yieldsIf_load_mid (by rfl) 105 _ rfl b (off + z) rfl TV _ (fun w hS => hS) huT rfl hiT) (by assumption) ?_
  try simp only [Act.put, sArr, sZ, sS]
  refine wpAnyH_ready (rs := [12]) (by kernel_rfl) (by simp) (cons_l rfl (fun K' hK' => ?_) AllReadyH.nil)
  refine step_allocV rfl 105 rfl YT hzT.out (B + 1) hs0 ?_
  intro x1 hT1 hbx1 hsx1
  have hK1 := hK0.below hbx1 (by omega)
  have bb1 := bb0.trans (hbx1.mono (by omega : B ≤ _))
  refine hK'.out _ _ (at_range (at_below hatT' bb1 hbw)) (fun hHeld => ?_)
  clear hK' K'
  try simp only [Act.put, sArr, sZ, sS]
  refine tkP 13 rfl (by assumption) ⟨?_, ?_, ?_⟩
  rotate_left
  · intro w hSw; (try dsimp only at hSw); go_simp; (try with_reducible rfl)
  try simp only [Act.put, sArr, sZ, sS]
  refine wpAnyH_ready (rs := [14]) (by kernel_rfl) (by simp) (cons_l rfl (fun K' hK' => ?_) AllReadyH.nil)
  refine step_storeV rfl 105 _ _ rfl 105 (B + 1) rfl TV rfl 16 aggTag hTVl YT hT1 hYl hTV1 ?_
  intro x2 hT2 hbx2 hsx2
  have hK2 := hK1.below hbx2 (by omega)
  have bb2 := bb1.trans (hbx2.mono (by omega : B ≤ _))
  refine hK'.out _ _ (at_range (at_below hatT' bb2 hbw)) (fun hHeld => ?_)
  clear hK' K'
  try simp only [Act.put, sArr, sZ, sS]
  refine wpAnyH_done (by kernel_rfl) ?_ _
  clear hHeld
  go_wp2_with fail
  refine wp_region_held_drew (S := (fun w' => BlkV 23 w' B K ∧ BlkV 105 w' (B + 1) TV)) (by kernel_rfl) ⟨hK2, hT2⟩ (fun hHeld => ?_)
  obtain ⟨y0, HY0⟩ : ∃ x, Hid (x = x2.drew) := ⟨_, rfl⟩
  rw [← HY0.out] at hHeld ⊢
  have hK3 : BlkV 23 y0 B K := by rw [HY0.out]; exact hK2
  have hT3 : BlkV 105 y0 (B + 1) TV := by rw [HY0.out]; exact hT2
  have bb3 : Below B w y0 := by rw [HY0.out]; exact bb2.drew
  have hs3 : B + 2 ≤ y0.heap.size := by rw [HY0.out]; show B + 2 ≤ x2.heap.size; omega
  refine tkR 0 rfl (yieldsIf_load_mid (by rfl) 105 _ rfl (B + 1) 0 rfl TV _ (fun w hS => at_range hS.2.at0) huT rfl hiT) (by assumption) ?_
  try simp only [Act.put, sArr, sZ, sS]
  refine tkR 1 rfl (yieldsIf_load_mid (by rfl) 23 _ rfl B 0 rfl K _ (fun w hS => at_range hS.1.at0) huK rfl hiK) (by assumption) ?_
  try simp only [Act.put, sArr, sZ, sS]
  refine tkP 2 rfl (by assumption) ⟨?_, ?_, ?_⟩
  rotate_left
  · intro w hSw; (try dsimp only at hSw); go_simp; (try with_reducible rfl)
  try simp only [Act.put, sArr, sZ, sS]
  refine tkP 3 rfl (by assumption) ⟨?_, ?_, ?_⟩
  rotate_left
  · intro w hSw; (try dsimp only at hSw); go_simp; (try with_reducible rfl)
  try simp only [Act.put, sArr, sZ, sS]
  refine tkP 4 rfl (by assumption) ⟨?_, ?_, ?_⟩
  rotate_left
  · intro w hSw; (try dsimp only at hSw); go_simp; (try with_reducible rfl)
  try simp only [Act.put, sArr, sZ, sS]
  refine tkP 5 rfl (by assumption) ⟨?_, ?_, ?_⟩
  rotate_left
  · intro w hSw; (try dsimp only at hSw); go_simp; (try with_reducible rfl)
  try simp only [Act.put, sArr, sZ, sS]
  refine tkP 6 rfl (by assumption) ⟨?_, ?_, ?_⟩
  rotate_left
  · intro w hSw; (try dsimp only at hSw); go_simp; (try with_reducible rfl)
  try simp only [Act.put, sArr, sZ, sS]
  refine wpAnyH_ready (rs := [7]) (by kernel_rfl) (by simp) (cons_l rfl (fun K' hK' => ?_) AllReadyH.nil)
  rw [if_pos (by rfl)]
  go_simp
  go_at_call 140
  refine ((hpc y0 bb3).out).mono ?_
  rintro e y1 ⟨rfl, hby1⟩
  have hK4 := hK3.below hby1 hK3.lt
  have hT4 := hT3.below hby1 hT3.lt
  have bb4 := bb3.trans (hby1.mono (Nat.le_trans (by omega : B ≤ B + 2) hs3))
  have hs4 := Nat.le_trans hs3 hby1.size
  refine hK'.out _ _ ⟨hK4, hT4⟩ (fun hHeld => ?_)
  clear hK' K'
  try simp only [Act.put, sArr, sZ, sS]
  refine tkR 8 rfl (yieldsIf_neM (by rfl) 105 _ _ _ rfl TV.toArray TC.toArray rfl rfl true (fun w => (hqq w).out) HEG.out) (by assumption) ?_
  try simp only [Act.put, sArr, sZ, sS]
  refine wpAnyH_done (by kernel_rfl) ?_ _
  clear hHeld
  go_wp2_with fail
  refine wp_region_held_drew (S := (fun w' => BlkV 23 w' B K ∧ w'.rangeAt b (off + 4) NV)) (by kernel_rfl) ⟨hK4, at_range (at_below hatN bb4.drew hbw)⟩ (fun hHeld => ?_)
  obtain ⟨z0, HZ0⟩ : ∃ x, Hid (x = y1.drew) := ⟨_, rfl⟩
  rw [← HZ0.out] at hHeld ⊢
  have hK5 : BlkV 23 z0 B K := by rw [HZ0.out]; exact hK4
  have bb5 : Below B w z0 := by rw [HZ0.out]; exact bb4.drew
  have hs5 : B + 2 ≤ z0.heap.size := by rw [HZ0.out]; exact hs4
  refine tkR 0 rfl (yieldsIf_load_mid (by rfl) 23 _ rfl B 0 rfl K _ (fun w hS => at_range hS.1.at0) huK rfl hiK) (by assumption) ?_
  try simp only [Act.put, sArr, sZ, sS]
  refine tkP 1 rfl (by assumption) ⟨?_, ?_, ?_⟩
  rotate_left
  · intro w hSw; (try dsimp only at hSw); go_simp; (try with_reducible rfl)
  try simp only [Act.put, sArr, sZ, sS]
  refine tkP 2 rfl (by assumption) ⟨?_, ?_, ?_⟩
  rotate_left
  · intro w hSw; (try dsimp only at hSw); go_simp; (try with_reducible rfl)
  try simp only [Act.put, sArr, sZ, sS]
  refine tkP 3 rfl (by assumption) ⟨?_, ?_, ?_⟩
  rotate_left
  · intro w hSw; (try dsimp only at hSw); go_simp; (try with_reducible rfl)
  try simp only [Act.put, sArr, sZ, sS]
  refine tkR 4 rfl (yieldsIf_load_mid (by rfl) 25 _ rfl b (off + 4) rfl NV _ (fun w hS => hS.2) huN rfl hiN) (by assumption) ?_
  try simp only [Act.put, sArr, sZ, sS]
  refine tkP 5 rfl (by assumption) ⟨?_, ?_, ?_⟩
  rotate_left
  · intro w hSw; (try dsimp only at hSw); go_simp; (try with_reducible rfl)
  try simp only [Act.put, sArr, sZ, sS]
  refine tkP 7 rfl (by assumption) ⟨?_, ?_, ?_⟩
  rotate_left
  · intro w hSw; (try dsimp only at hSw); go_simp; (try with_reducible rfl)
  try simp only [Act.put, sArr, sZ, sS]
  refine wpAnyH_ready (rs := [6]) (by kernel_rfl) (by simp) (cons_l rfl (fun K' hK' => ?_) AllReadyH.nil)
  rw [if_pos (by rfl)]
  go_simp
  go_at_call 139
  refine ((hnn z0).out).mono ?_
  rintro e z1 ⟨rfl, hbz1⟩
  have hK6 := hK5.below hbz1 hK5.lt
  have bb6 := bb5.trans (hbz1.mono (Nat.le_trans (by omega : B ≤ B + 2) hs5))
  have hs6 := Nat.le_trans hs5 hbz1.size
  refine hK'.out _ _ ⟨hK6, at_range (at_below hatN bb6 hbw)⟩ (fun hHeld => ?_)
  clear hK' K'
  try simp only [Act.put, sArr, sZ, sS]
  refine wpAnyH_ready (rs := [8]) (by kernel_rfl) (by simp) (cons_l rfl (fun K' hK' => ?_) AllReadyH.nil)
  rw [if_pos (by rfl)]
  go_simp
  go_at_call 138
  refine ((hpc2 z1 bb6).out).mono ?_
  rintro e z2 ⟨ar, cr, rfl, hMr, hbz2⟩
  have hK7 := hK6.below hbz2 hK6.lt
  have bb7 := bb6.trans (hbz2.mono (Nat.le_trans (by omega : B ≤ B + 2) hs6))
  refine hK'.out _ _ ⟨hK7, at_range (at_below hatN bb7 hbw)⟩ (fun hHeld => ?_)
  clear hK' K'
  try simp only [Act.put, sArr, sZ, sS]
  refine tkP 9 rfl (by assumption) ⟨?_, ?_, ?_⟩
  rotate_left
  · intro w hSw; (try dsimp only at hSw); go_simp; (try with_reducible rfl)
  try simp only [Act.put, sArr, sZ, sS]
  refine tkP 10 rfl (by assumption) ⟨?_, ?_, ?_⟩
  rotate_left
  · intro w hSw; (try dsimp only at hSw); go_simp; (try with_reducible rfl)
  try simp only [Act.put, sArr, sZ, sS]
  refine wpAnyH_done (by kernel_rfl) ?_ _
  clear hHeld
  go_wp2_with fail
  go_ret2
  obtain ⟨hPr, hnr⟩ := mine_pt hMr hRl.symm hpl0 oR
  exact ⟨by first | exact bb7 | (rw [← HB.out]; exact bb7), ar, pl, cr, by rw [hEE.out]; rfl, by rw [HRR.out]; exact hRl.symm, by rw [HRR.out]; exact hPr, fun e => (hnr e).1⟩
set_option maxRecDepth 100000 in
set_option maxHeartbeats 8000000 in
theorem BlockOf_head (k h l : List Int) (bo : Option Addr) (bc n : Nat) (ha : Option Addr) (hp hn : Nat) (i : Int) (w : World) (hk : k.length = 32) (ok : Octs k) (hln : n = l.length) (HL : Pt.Ok w ⟨bo, bc, l⟩) (hhn : hn = h.length) (HH : Pt.Ok w ⟨ha, hp, h⟩) (h0 : ha = none → hp = 0) (hh : 4096 < h.length) :
    Calls Try.prog 144 #[.agg (k.map (Value.int .u8)).toArray, .slice ha hn hp, .slice bo n bc, .int .i64 i] w (BlockPost k h l i w) := by
  obtain ⟨B, HB⟩ : ∃ B, Hid (B = w.heap.size) := ⟨_, rfl⟩
  have hsz : w.heap.size = B := HB.out.symm
  obtain ⟨K, HK⟩ : ∃ K, Hid (K = k.map (Value.int .u8)) := ⟨_, rfl⟩
  have hKl : K.length = 32 := by rw [HK.out, List.length_map, hk]
  have hbo := fun (y : World) (hb : Below B w y) => hid (BlocksOf_any bo bc n l y hln (HL.below (hsz ▸ hb)))
  have hEE : blockE k h l i = 5 := by unfold blockE; rw [if_pos hh]
  have hI : (4096 : Int) < (hn : Int) := by omega
  have HEE := hid hEE
  rw [← HK.out]
  clear hEE hk ok hln HL hhn HH h0 hh
  go_enter Try.func144, Try.ntmps144
  go_wp2_with (first | (refine wl_boxV rfl 23 _ rfl K rfl B hsz ?_; intro wb hKb hbb hsb))
  go_ret2
  exact blockPost_bad (by first | exact hbb | (rw [← HB.out]; exact hbb)) HEE.out (by decide)
set_option maxRecDepth 100000 in
set_option maxHeartbeats 8000000 in
theorem BlockOf_look (k h l : List Int) (bo : Option Addr) (bc n : Nat) (ha : Option Addr) (hp hn : Nat) (i : Int) (w : World) (hk : k.length = 32) (ok : Octs k) (hln : n = l.length) (HL : Pt.Ok w ⟨bo, bc, l⟩) (hhn : hn = h.length) (HH : Pt.Ok w ⟨ha, hp, h⟩) (h0 : ha = none → hp = 0) (hh : ¬ 4096 < h.length) (hE : lookE l ≠ 0) :
    Calls Try.prog 144 #[.agg (k.map (Value.int .u8)).toArray, .slice ha hn hp, .slice bo n bc, .int .i64 i] w (BlockPost k h l i w) := by
  obtain ⟨B, HB⟩ : ∃ B, Hid (B = w.heap.size) := ⟨_, rfl⟩
  have hsz : w.heap.size = B := HB.out.symm
  obtain ⟨K, HK⟩ : ∃ K, Hid (K = k.map (Value.int .u8)) := ⟨_, rfl⟩
  have hKl : K.length = 32 := by rw [HK.out, List.length_map, hk]
  have hbo := fun (y : World) (hb : Below B w y) => hid (BlocksOf_any bo bc n l y hln (HL.below (hsz ▸ hb)))
  have hI : ¬ (4096 : Int) < (hn : Int) := by omega
  have hEE : blockE k h l i = lookE l := by unfold blockE; rw [if_neg hh, if_pos hE]
  rw [blocksV_bad (e := lookE l) rfl hE] at hbo
  obtain ⟨E, HE⟩ : ∃ E, Hid (E = lookE l) := ⟨_, rfl⟩
  rw [← HE.out] at hbo hEE hE
  have hE0 : ¬ E = 0 := hE
  have hE9 := hid hE
  have HEE := hid hEE
  rw [← HK.out]
  clear hEE hk ok hln HL hhn HH h0 hh hE
  go_enter Try.func144, Try.ntmps144
  go_wp2_with (first | (go_at_call 142; refine (hbo wb hbb).out.mono ?_; rintro e w' ⟨rfl, hw'⟩; subst hw') | (refine wl_boxV rfl 23 _ rfl K rfl B hsz ?_; intro wb hKb hbb hsb))
  go_ret2
  exact blockPost_bad (by first | exact hbb | (rw [← HB.out]; exact hbb)) HEE.out hE9.out
set_option maxRecDepth 100000 in
set_option maxHeartbeats 8000000 in
theorem BlockOf_range (k h l : List Int) (bo : Option Addr) (bc n : Nat) (ha : Option Addr) (hp hn : Nat) (i : Int) (w : World) (hk : k.length = 32) (ok : Octs k) (hln : n = l.length) (HL : Pt.Ok w ⟨bo, bc, l⟩) (hhn : hn = h.length) (HH : Pt.Ok w ⟨ha, hp, h⟩) (h0 : ha = none → hp = 0) (hh : ¬ 4096 < h.length) (hE : lookE l = 0) (hi : i < 0 ∨ (mN l : Int) ≤ i) :
    Calls Try.prog 144 #[.agg (k.map (Value.int .u8)).toArray, .slice ha hn hp, .slice bo n bc, .int .i64 i] w (BlockPost k h l i w) := by
  obtain ⟨B, HB⟩ : ∃ B, Hid (B = w.heap.size) := ⟨_, rfl⟩
  have hsz : w.heap.size = B := HB.out.symm
  obtain ⟨K, HK⟩ : ∃ K, Hid (K = k.map (Value.int .u8)) := ⟨_, rfl⟩
  have hKl : K.length = 32 := by rw [HK.out, List.length_map, hk]
  have hbo := fun (y : World) (hb : Below B w y) => hid (BlocksOf_any bo bc n l y hln (HL.below (hsz ▸ hb)))
  have hI : ¬ (4096 : Int) < (hn : Int) := by omega
  have hEE : blockE k h l i = 4 := by unfold blockE; rw [if_neg hh, if_neg (fun g => g hE), if_pos hi]
  have hbv : blocksV l = .tuple #[.int .i64 (blkN l), .int .i64 (mN l : Int), .int .i64 0] := by unfold blocksV bkN mnN; rw [hE, if_pos rfl, if_pos rfl]; rfl
  rw [hbv] at hbo
  obtain ⟨kI, HkI⟩ : ∃ m, Hid (m = blkN l) := ⟨_, rfl⟩
  obtain ⟨m, Hm⟩ : ∃ m, Hid (m = mN l) := ⟨_, rfl⟩
  obtain ⟨_, _, hk16, _, hs26, _⟩ := look_nums (show Octs l from HL.oct) hE
  have hmb : m ≤ 16385 := by rw [Hm.out]; exact many_le hk16 hs26
  rw [← Hm.out, ← HkI.out] at hbo
  rw [← Hm.out] at hi
  have hin := fun y => hid (In_b i 0 ((m : Int) - 1) y)
  have hib : inB i 0 ((m : Int) - 1) = false := by unfold inB; simp; omega
  rw [hib] at hin
  have hwm : IntKind.i64.wrap ((m : Int) - 1) = (m : Int) - 1 := IntWalk.i64_in _ (by omega)
  have HEE := hid hEE
  rw [← HK.out]
  clear hEE hk ok hln HL hhn HH h0 hh hE hi hib hbv hk16 hs26
  go_enter Try.func144, Try.ntmps144
  go_wp2_with (first | (go_at_call 16; refine (hin _).out.mono ?_; rintro e w'' ⟨rfl, hw''⟩; subst hw'') | (go_at_call 142; refine (hbo wb hbb).out.mono ?_; rintro e w' ⟨rfl, hw'⟩; subst hw') | (refine wl_boxV rfl 23 _ rfl K rfl B hsz ?_; intro wb hKb hbb hsb))
  go_ret2
  exact blockPost_bad (by first | exact hbb | (rw [← HB.out]; exact hbb)) HEE.out (by decide)
theorem BlockOf_any (k h l : List Int) (bo : Option Addr) (bc n : Nat) (ha : Option Addr) (hp hn : Nat) (i : Int) (w : World) (hk : k.length = 32) (ok : Octs k) (hln : n = l.length) (HL : Pt.Ok w ⟨bo, bc, l⟩) (hhn : hn = h.length) (HH : Pt.Ok w ⟨ha, hp, h⟩) (h0 : ha = none → hp = 0) :
    Calls Try.prog 144 #[.agg (k.map (Value.int .u8)).toArray, .slice ha hn hp, .slice bo n bc, .int .i64 i] w (BlockPost k h l i w) := by
  by_cases hh : 4096 < h.length
  · exact BlockOf_head k h l bo bc n ha hp hn i w hk ok hln HL hhn HH h0 hh
  by_cases hE : lookE l = 0
  · by_cases hi : i < 0 ∨ (mN l : Int) ≤ i
    · exact BlockOf_range k h l bo bc n ha hp hn i w hk ok hln HL hhn HH h0 hh hE hi
    · obtain ⟨j, hj⟩ : ∃ j : Nat, i = (j : Int) := ⟨i.toNat, by omega⟩
      have hjm : j < mN l := by omega
      subst hj
      have hlen := (look_nums (show Octs l from HL.oct) hE).2.2.2.2.2
      obtain ⟨b, off, hao, _, _⟩ := HL.row.at (i := 0) (by show 0 < l.length; omega)
      cases hao
      by_cases heq : tagB k h (l.take 32) (j : Int) (covO l j) = tagO l j
      · exact (BlockOf_good k h l b off bc n ha hp hn j w hk ok hln HL hhn HH h0 (by omega) hE hjm heq).mono fun e w' hp => blockPost_open rfl hh hE hjm hp
      · exact (BlockOf_bad k h l b off bc n ha hp hn j w hk ok hln HL hhn HH h0 (by omega) hE hjm heq).mono fun e w' hp => blockPost_open rfl hh hE hjm hp
  · exact BlockOf_look k h l bo bc n ha hp hn i w hk ok hln HL hhn HH h0 hh hE
end Go.Proofs.Ytbljihhelladbaa.wr
