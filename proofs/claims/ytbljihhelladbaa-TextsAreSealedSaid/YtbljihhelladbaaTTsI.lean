/-
  The places of a block in a text; contract of wrap.sealed.open. Conditions: a text in which nothing is wrong, a block that there is.
-/
import Derived.Test.YtbljihhelladbaaTTsH
namespace Go.Proofs.Ytbljihhelladbaa.wr
open Go.RowKit Go.Proofs.Ytbljihhelladbaa.st Go.Proofs.Ytbljihhelladbaa.hs Go.Proofs.Ytbljihhelladbaa.shr Go.Proofs.Ytbljihhelladbaa.sh
set_option linter.unusedSimpArgs false
set_option linter.unusedVariables false
set_option pp.maxSteps 6000
def kN (b : List Int) : Nat := (blkN b).toNat
def sN (b : List Int) : Nat := (sizN b).toNat
def mN (b : List Int) : Nat := manyT (sN b) (kN b)
def fromB (b : List Int) (j : Nat) : Nat := 32 + j * (kN b + 16)
def plB (b : List Int) (j : Nat) : Nat := min (kN b) (sN b - j * kN b)
def endB (b : List Int) (j : Nat) : Nat := fromB b j + plB b j
def covO (b : List Int) (j : Nat) : List Int := (b.drop (fromB b j)).take (plB b j)
def tagO (b : List Int) (j : Nat) : List Int := seg b (endB b j) 16
/-- what a block's opening says, and gives -/
def openE' (k h b : List Int) (j : Nat) : Int := if tagB k h (b.take 32) (j : Int) (covO b j) = tagO b j then 0 else 13
def openL (k b : List Int) (j : Nat) : List Int := coverL k (nonB (seg b 4 16) (j : Int)) (covO b j)
def openR (k h b : List Int) (j : Nat) : List Int := if openE' k h b j = 0 then openL k b j else []
theorem look_nums {b : List Int} (ho : Octs b) (h : lookE b = 0) : blkN b = (kN b : Int) ∧ sizN b = (sN b : Int) ∧ 16 ≤ kN b ∧ kN b ≤ 65536 ∧ sN b ≤ 262144 ∧ b.length = 32 + sN b + 16 * mN b := by
  obtain ⟨h1, _, h3, h4, _, h6, h7⟩ := lookE_zero h
  have hs : 0 ≤ sizN b := (numL4_b ho 28).1
  have e1 : blkN b = (kN b : Int) := by unfold kN; omega
  have e2 : sizN b = (sN b : Int) := by unfold sN; omega
  refine ⟨e1, e2, by omega, by omega, by omega, ?_⟩
  rw [h7]; unfold wholeN mN sN kN; rfl
theorem lt_many {s k j : Nat} (hk : 0 < k) (h : j < manyT s k) : j * k < s := by
  have h1 : (j + 1) * k ≤ manyT s k * k := Nat.mul_le_mul_right k h
  have h2 : manyT s k * k ≤ s + k - 1 := Nat.div_mul_le_self _ _
  rw [Nat.succ_mul] at h1
  omega
theorem many_ge {s k : Nat} (hk : 0 < k) : s ≤ manyT s k * k := by
  unfold manyT
  have h1 := Nat.div_add_mod (s + k - 1) k
  have h2 := Nat.mod_lt (s + k - 1) hk
  rw [Nat.mul_comm] at h1
  omega
theorem blk_places {b : List Int} (ho : Octs b) (h : lookE b = 0) {j : Nat} (hj : j < mN b) :
    j * kN b < sN b ∧ 0 < plB b j ∧ plB b j ≤ 65536 ∧ endB b j + 16 ≤ b.length ∧ j ≤ 16385 ∧ min b.length (fromB b j + kN b + 16) = endB b j + 16 ∧ fromB b j = 32 + (j * kN b + 16 * j) := by
  obtain ⟨_, _, h1, h2, h3, h4⟩ := look_nums ho h
  have hq := lt_many (by omega) hj
  have hmj : mN b ≤ 16385 := many_le h1 h3
  have hA : j * (kN b + 16) = j * kN b + 16 * j := by rw [Nat.mul_add]; omega
  obtain ⟨Q, hQ⟩ : ∃ Q, Q = j * kN b := ⟨_, rfl⟩
  have hf : fromB b j = 32 + (Q + 16 * j) := by unfold fromB; rw [hA, hQ]
  have hp : plB b j = min (kN b) (sN b - Q) := by unfold plB; rw [hQ]
  have he : endB b j = fromB b j + plB b j := rfl
  rw [← hQ] at hq ⊢
  by_cases hl : j + 1 < mN b
  · have h5 := lt_many (k := kN b) (by omega) hl
    rw [Nat.succ_mul, ← hQ] at h5
    exact ⟨hq, by omega, by omega, by omega, by omega, by omega, by omega⟩
  · have h5 : j + 1 = mN b := by omega
    have h6 := many_ge (s := sN b) (k := kN b) (by omega)
    have h7 : manyT (sN b) (kN b) * kN b = Q + kN b := by rw [show manyT (sN b) (kN b) = j + 1 from h5.symm, Nat.succ_mul, hQ]
    rw [h7] at h6
    exact ⟨hq, by omega, by omega, by omega, by omega, by omega, by omega⟩
theorem covO_length {b : List Int} (ho : Octs b) (h : lookE b = 0) {j : Nat} (hj : j < mN b) : (covO b j).length = plB b j := by
  obtain ⟨_, _, _, h4, _, _, h7⟩ := blk_places ho h hj
  unfold covO
  rw [List.length_take, List.length_drop]
  unfold endB at h4
  omega
theorem covO_octs {b : List Int} (ho : Octs b) (j : Nat) : Octs (covO b j) := fun c hc => ho c (List.mem_of_mem_drop (List.mem_of_mem_take hc))
theorem openR_len {k h b : List Int} (ho : Octs b) (hl : lookE b = 0) {j : Nat} (hj : j < mN b) : (openR k h b j).length ≤ 65536 := by
  unfold openR openL
  split
  · rw [coverL_length, covO_length ho hl hj]; exact (blk_places ho hl hj).2.2.1
  · exact Nat.zero_le _
theorem ptNil (w : World) : Pt.Ok w ⟨none, 0, []⟩ := ⟨Or.inl rfl, Nat.le_refl _, Nat.zero_le _, (fun c hc => by cases hc), fun b e => by cases e⟩
/-- what an opening of a block gives -/
def OpenPost (k h b : List Int) (j : Nat) (w : World) (e : Ending) (w' : World) : Prop := Below w.heap.size w w' ∧ ∃ (ao : Option Addr) (n c : Nat), e = .returned (.tuple #[.slice ao n c, .int .i64 (openE' k h b j)]) ∧ Hid (n = (openR k h b j).length) ∧ Pt.Ok w' ⟨ao, c, openR k h b j⟩ ∧ (ao = none → c = 0)
set_option maxRecDepth 100000 in
set_option maxHeartbeats 8000000 in
theorem open_bad (k h l : List Int) (b off bc n : Nat) (ha : Option Addr) (hp hn : Nat) (j : Nat) (w : World) (hk : k.length = 32) (ok : Octs k) (hln : n = l.length) (HL : Pt.Ok w ⟨some ⟨b, off, none⟩, bc, l⟩) (hhn : hn = h.length) (HH : Pt.Ok w ⟨ha, hp, h⟩) (h0 : ha = none → hp = 0) (hh : hn ≤ 4096) (hE : lookE l = 0) (hj : j < mN l) (heq : ¬ tagB k h (l.take 32) (j : Int) (covO l j) = tagO l j) :
    Calls Try.prog 190 #[.agg [.slice (some ⟨b, off, none⟩) n bc, .int .i64 (blkN l), .int .i64 (sizN l)].toArray, .agg (k.map (Value.int .u8)).toArray, .slice ha hn hp, .int .i64 j] w (OpenPost k h l j w) := by
  obtain ⟨B, HB⟩ : ∃ B, Hid (B = w.heap.size) := ⟨_, rfl⟩
  have hsz : w.heap.size = B := HB.out.symm
  have hbw : b < B := by rw [HB.out]; exact HL.lt _ rfl
  have hoL : Octs l := HL.oct
  obtain ⟨hnk, hns, hk16, hk65, hs26, hlen⟩ := look_nums hoL hE
  obtain ⟨hqs, hpl0, hpl1, hend, hj16, hmin, hfr⟩ := blk_places hoL hE hj
  have hcl := covO_length hoL hE hj
  obtain ⟨K, HK⟩ : ∃ K, Hid (K = k.map (Value.int .u8)) := ⟨_, rfl⟩
  have hKl : K.length = 32 := by rw [HK.out, List.length_map, hk]
  obtain ⟨cv, HCV⟩ : ∃ c, Hid (c = covO l j) := ⟨_, rfl⟩
  have oC : Octs cv := by rw [HCV.out]; exact covO_octs hoL j
  obtain ⟨f, HF⟩ : ∃ f, Hid (f = fromB l j) := ⟨_, rfl⟩
  obtain ⟨pl, HPL⟩ : ∃ f, Hid (f = plB l j) := ⟨_, rfl⟩
  obtain ⟨z, HZ⟩ : ∃ f, Hid (f = endB l j) := ⟨_, rfl⟩
  have hzf : z ≤ f + pl ∧ f + pl ≤ z := by rw [HZ.out, HF.out, HPL.out]; exact ⟨Nat.le_refl _, Nat.le_refl _⟩
  obtain ⟨Q, HQ⟩ : ∃ q, Hid (q = j * kN l) := ⟨_, rfl⟩
  obtain ⟨A, HA⟩ : ∃ q, Hid (q = j * (kN l + 16)) := ⟨_, rfl⟩
  have hAQ : A ≤ Q + 16 * j ∧ Q + 16 * j ≤ A := by rw [HA.out, HQ.out, Nat.mul_add]; omega
  have HPLM : Hid (pl = min (kN l) (sN l - Q)) := hid (by rw [HPL.out, HQ.out]; rfl)
  have HFA : Hid (f = 32 + A) := hid (by rw [HF.out, HA.out]; rfl)
  have hf0n : ¬ f = 0 := by rw [HFA.out]; omega
  have HCL : Hid (pl = cv.length) := hid (by rw [HCV.out, hcl, HPL.out])
  rw [← HPL.out] at hpl0 hpl1
  rw [← HZ.out, ← hln] at hend
  rw [← HQ.out] at hqs hfr
  rw [← hln] at hlen
  have hcap : n ≤ bc := by rw [hln]; exact HL.len
  have hmax : bc ≤ maxLen := HL.cap
  unfold maxLen at hmax
  obtain ⟨b', off', hao, hbw', hc⟩ := HL.row.at (i := 0) (by show 0 < l.length; omega)
  cases hao
  have hatT := seg_at (l := l) hc (k := z) (n := 16) (by show z + 16 ≤ l.length; omega)
  have hatN := seg_at (l := l) hc (k := 4) (n := 16) (by show 4 + 16 ≤ l.length; omega)
  obtain ⟨tg, HTG⟩ : ∃ t, Hid (t = tagO l j) := ⟨_, rfl⟩
  have htl : tg.length = 16 := by rw [HTG.out]; exact seg_length (by rw [← hln, ← HZ.out]; omega)
  have hatT' : At w ⟨b, off + z, none⟩ (tg.map (Value.int .u8)) := by rw [HTG.out]; unfold tagO; rw [← HZ.out]; exact hatT
  obtain ⟨TV, HTV⟩ : ∃ t, Hid (t = tg.map (Value.int .u8)) := ⟨_, rfl⟩
  have hTVl : TV.length = 16 := by rw [HTV.out, List.length_map, htl]
  have hTV1 : ∀ u ∈ TV, u.oneCell' = true := by rw [HTV.out]; exact ints_one _ _
  rw [← HTV.out] at hatT'
  obtain ⟨no, HNO⟩ : ∃ t, Hid (t = seg l 4 16) := ⟨_, rfl⟩
  have hnl : no.length = 16 := by rw [HNO.out]; exact seg_length (by omega)
  have ono : Octs no := by rw [HNO.out]; exact seg_octs hoL _ _
  obtain ⟨NV, HNV⟩ : ∃ t, Hid (t = no.map (Value.int .u8)) := ⟨_, rfl⟩
  have hNVl : NV.length = 16 := by rw [HNV.out, List.length_map, hnl]
  rw [← HNO.out, ← HNV.out] at hatN
  obtain ⟨fh, HFH⟩ : ∃ t, Hid (t = l.take 32) := ⟨_, rfl⟩
  have hfhl : fh.length = 32 := by rw [HFH.out, List.length_take]; omega
  obtain ⟨tc, HTC⟩ : ∃ t, Hid (t = tagB k h fh (j : Int) cv) := ⟨_, rfl⟩
  have htcl : tc.length = 16 := by rw [HTC.out]; exact tagB_length _ _ _ _ _
  obtain ⟨TC, HTCV⟩ : ∃ t, Hid (t = tc.map (Value.int .u8)) := ⟨_, rfl⟩
  have HLL := fun y (hb : Below B w y) => hid (HL.below (hsz ▸ hb))
  have HHH := fun y (hb : Below B w y) => hid (HH.below (hsz ▸ hb))
  have hPF : ∀ y, Pt.Ok y ⟨some ⟨b, off, none⟩, bc, l⟩ → Pt.Ok y ⟨some ⟨b, off, none⟩, bc, fh⟩ := fun y hy => by
    have h9 := ptCut hy 0 32 bc (by omega) (by show 32 ≤ l.length; omega) (by omega) (Nat.le_refl _)
    rw [List.drop_zero, Nat.sub_zero, Nat.sub_zero] at h9
    rw [HFH.out]
    by_cases hb0 : bc = 0
    · omega
    · rw [if_neg hb0] at h9
      simpa [Addr.add] using h9
  have hPC : ∀ (M : Nat), z ≤ M → M ≤ bc → ∀ y, Pt.Ok y ⟨some ⟨b, off, none⟩, bc, l⟩ → Pt.Ok y ⟨some ⟨b, off + f, none⟩, M - f, cv⟩ := fun M hM1 hM2 y hy => by
    have h9 := ptCut hy f z M (by omega) (by show z ≤ l.length; omega) hM1 hM2
    rw [if_neg (by omega)] at h9
    have e9 : z - f = pl := by omega
    rw [e9] at h9
    rw [HCV.out]; unfold covO; rw [← HF.out, ← HPL.out]
    simpa [Addr.add, hf0n] using h9
  have hbt := fun (M : Nat) (h1 : z ≤ M) (h2 : M ≤ bc) (y : World) (hb : Below B w y) => hid (BTag_any k h fh cv (j : Int) ha (some ⟨b, off, none⟩) (some ⟨b, off + f, none⟩) hp bc (M - f) hn 32 pl y hk ok ⟨by omega, by omega⟩ hhn hfhl.symm HCL.out (HHH y hb).out (hPF y (HLL y hb).out) (hPC M h1 h2 y (HLL y hb).out) h0 (fun e => by cases e) (fun e => by cases e) (by rw [← hhn, hfhl, ← HCL.out]; omega))
  simp only [← HTC.out, ← HTCV.out, ← HK.out] at hbt
  have hqq := fun w => hid (run_eq_tag w tc tg htcl htl)
  obtain ⟨kI, HkI⟩ : ∃ i, Hid (i = (kN l : Int)) := ⟨_, rfl⟩
  obtain ⟨sI, HsI⟩ : ∃ i, Hid (i = (sN l : Int)) := ⟨_, rfl⟩
  obtain ⟨jI, HjI⟩ : ∃ i, Hid (i = (j : Int)) := ⟨_, rfl⟩
  have hkI : kI ≤ 65536 ∧ 16 ≤ kI := by rw [HkI.out]; omega
  have hwA : RowKit.wrap64 (jI * (kI + 16)) = (A : Int) := by
    have e : jI * (kI + 16) = (A : Int) := by rw [HjI.out, HkI.out, HA.out]; simp
    rw [e]; unfold RowKit.wrap64; omega
  have hfA : (32 : Int) + (A : Int) = (f : Int) := by rw [HFA.out]; omega
  have hnot : ¬ z = f := by omega
  have heq' : ¬ tc = tg := by rw [HTC.out, HFH.out, HCV.out, HTG.out]; exact heq
  have hEq : openE' k h l j = if tc = tg then 0 else 13 := by unfold openE'; rw [HTC.out, HFH.out, HCV.out, HTG.out]
  have hEE : Hid (openE' k h l j = 13) := hid (by rw [hEq, if_neg heq'])
  have HRR : Hid (openR k h l j = []) := hid (by unfold openR; rw [hEE.out, if_neg (by decide)])
  have heqb : (tc == tg) = false := by simpa using heq'
  rw [heqb] at hqq
  simp only [← HTCV.out, ← HTV.out] at hqq
  have HEG := hid (by kernel_rfl : Try.prog.eqGuardType Try.prog.depth 105 = false)
  have huK := Try.underlying23
  have hiK : (Try.prog.info? 23).map (·.size) = some K.length := by rw [hKl]; exact aggKey.2
  have huT := Try.underlying105
  have hiT : (Try.prog.info? 105).map (·.size) = some TV.length := by rw [hTVl]; exact aggTag.2
  have huN := Try.underlying25
  have hiN : (Try.prog.info? 25).map (·.size) = some NV.length := by rw [hNVl]; exact aggNo.2
  have hQs : Q ≤ sN l := by omega
  have hwQ : RowKit.wrap64 (jI * kI) = (Q : Int) := by
    have e : jI * kI = (Q : Int) := by rw [HjI.out, HkI.out, HQ.out]; simp
    rw [e]; unfold RowKit.wrap64; omega
  obtain ⟨r, Hr⟩ : ∃ r, Hid (r = sN l - Q) := ⟨_, rfl⟩
  have hr : sI - (Q : Int) = (r : Int) := by rw [HsI.out, Hr.out]; omega
  have hrb : r ≤ 262144 := by rw [Hr.out]; omega
  have hmn : min kI (r : Int) = (pl : Int) := by rw [HkI.out, HPLM.out, Hr.out]; omega
  have hzI : (f : Int) + (pl : Int) = (z : Int) := by omega
  have hfz : (f : Int) ≤ (z : Int) := by omega
  have hzb : (z : Int) ≤ (bc : Int) := by omega
  have hz16 : (z : Int) + 16 ≤ (bc : Int) := by omega
  have hzz : (z : Int) ≤ (z : Int) + 16 := by omega
  have hwz : IntKind.i64.wrap ((z : Int) + 16) = (z : Int) + 16 := IntWalk.i64_in _ (by omega)
  have hf0 : (0 : Int) ≤ (f : Int) := by omega
  have hz0 : (0 : Int) ≤ (z : Int) := by omega
  have hbz : ¬ bc = z := by omega
  have hb4 : ¬ bc = 4 := by omega
  have hb32 : (32 : Int) ≤ (bc : Int) := by omega
  have hb20 : (20 : Int) ≤ (bc : Int) := by omega
  have hbf0 : ¬ bc = 0 := by omega
  have hzpl : z - f = pl := by omega
  have hz16n : z + 16 - z = 16 := by omega
  have hzi : ((z : Int) + 16).toNat = z + 16 := by omega
  have hAT := fun w a n cap h => run_arrayAtTag w a n cap h
  have hAN := fun w a n cap h => run_arrayAtNo w a n cap h
  have hpc := fun y (hb : Below B w y) => hbt z (Nat.le_refl _) (by omega) y hb
  obtain ⟨CS, HCS⟩ : ∃ C : List Value, Hid (C = [.slice (some ⟨b, off, none⟩) n bc, .int .i64 (blkN l), .int .i64 (sizN l)]) := ⟨_, rfl⟩
  have hc0 : Hid (CS[0]? = some (.slice (some ⟨b, off, none⟩) n bc)) := hid (by rw [HCS.out]; rfl)
  have hc1 : Hid (CS[1]? = some (.int .i64 kI)) := hid (by rw [HCS.out, HkI.out, ← hnk]; rfl)
  have hc2 : Hid (CS[2]? = some (.int .i64 sI)) := hid (by rw [HCS.out, HsI.out, ← hns]; rfl)
  rw [← HCS.out, ← HK.out, ← HjI.out]
  simp only [← HjI.out] at hpc
  simp only [hzpl] at hpc
  clear hf0n hbt HL HH hhn h0 hk hE hj hnk hns hk16 hk65 hs26 hlen hqs hmin hfr hcl hEq heq heq' heqb hend hc hAQ hPC hPF hatT hj16 HHH hzf hQs
  go_enter Try.func190, Try.ntmps190
  go_wp2_with (first | (refine wl_boxV rfl 227 _ rfl CS rfl B hsz ?_; intro wa hSa hba hsa; have c0a := (hSa.cell 0).trans hc0.out; have c1a := (hSa.cell 1).trans hc1.out; have c2a := (hSa.cell 2).trans hc2.out) | (refine wl_boxV rfl 23 _ rfl K rfl (B + 1) hsa ?_; intro wb hKb hbb hsb; have hSb := hSa.below hbb (by omega); have bbb := hba.trans (hbb.mono (by omega : B ≤ _)); have c0b := (hSb.cell 0).trans hc0.out; have c1b := (hSb.cell 1).trans hc1.out; have c2b := (hSb.cell 2).trans hc2.out; clear c0a c1a c2a hSa))
  refine wp_region_held_drew (S := (fun w' => BlkV 23 w' (B + 1) K ∧ w'.cell? ⟨B, 0, none⟩ = some (.slice (some ⟨b, off, none⟩) n bc) ∧ w'.rangeAt b (off + z) TV)) (by kernel_rfl) ⟨hKb, c0b, at_range (at_below hatT' bbb.drew hbw)⟩ (fun hHeld => ?_)
  obtain ⟨x0, HX0⟩ : ∃ x, Hid (x = wb.drew) := ⟨_, rfl⟩
  rw [← HX0.out] at hHeld ⊢
  have hK0 : BlkV 23 x0 (B + 1) K := by rw [HX0.out]; exact hKb
  have hS0 : BlkV 227 x0 B CS := by rw [HX0.out]; exact hSb
  have bb0 : Below B w x0 := by rw [HX0.out]; exact bbb.drew
  have hs0 : B + 2 ≤ x0.heap.size := by rw [HX0.out]; show B + 2 ≤ wb.heap.size; omega
  have hc00 := (hS0.cell 0).trans hc0.out
  clear hKb hSb bbb hsb hsa c0b c1b c2b hba hbb
  refine tkR 0 rfl (yieldsIf_load_mid (by rfl) 23 _ rfl (B + 1) 0 rfl K _ (fun w hS => at_range hS.1.at0) huK rfl hiK) (by assumption) ?_
  try simp only [Act.put, sArr, sZ, sS]
  refine tkP 1 rfl (by assumption) ⟨?_, ?_, ?_⟩
  rotate_left
  · intro w hSw; (try dsimp only at hSw); go_simp; (try with_reducible rfl)
  try simp only [Act.put, sArr, sZ, sS]
  refine tkP 2 rfl (by assumption) ⟨?_, ?_, ?_⟩
  rotate_left
  · intro w hSw; (try dsimp only at hSw); go_simp; (try with_reducible rfl)
  try simp only [Act.put, sArr, sZ, sS]
  refine tkP 3 rfl (by assumption) ⟨?_, ?_, ?_⟩
  rotate_left
  · intro w hSw; (try dsimp only at hSw); go_simp; (try with_reducible rfl)
  try simp only [Act.put, sArr, sZ, sS]
  refine tkP 4 rfl (by assumption) ⟨?_, ?_, ?_⟩
  rotate_left
  · intro w hSw; (try dsimp only at hSw); go_simp; (try with_reducible rfl)
  try simp only [Act.put, sArr, sZ, sS]
  refine tkP 5 rfl (by assumption) ⟨?_, ?_, ?_⟩
  rotate_left
  · intro w hSw; (try dsimp only at hSw); go_simp; (try with_reducible rfl)
  try simp only [Act.put, sArr, sZ, sS]
  refine tkP 6 rfl (by assumption) ⟨?_, ?_, ?_⟩
  rotate_left
  · intro w hSw; (try dsimp only at hSw); go_simp; (try with_reducible rfl)
  try simp only [Act.put, sArr, sZ, sS]
  refine tkP 8 rfl (by assumption) ⟨?_, ?_, ?_⟩
  rotate_left
  · intro w hSw; (try dsimp only at hSw); go_simp; (try with_reducible rfl)
  try simp only [Act.put, sArr, sZ, sS]
  refine tkP 9 rfl (by assumption) ⟨?_, ?_, ?_⟩
  rotate_left
  · intro w hSw; (try dsimp only at hSw); go_simp; (try with_reducible rfl)
  try simp only [Act.put, sArr, sZ, sS]
  refine tkP 10 rfl (by assumption) ⟨?_, ?_, ?_⟩
  rotate_left
  · intro w hSw; (try dsimp only at hSw); go_simp; (try with_reducible rfl)
  try simp only [Act.put, sArr, sZ, sS]
  refine tkP 11 rfl (by assumption) ⟨?_, ?_, ?_⟩
  rotate_left
  · intro w hSw; (try dsimp only at hSw); go_simp; (try with_reducible rfl)
  try simp only [Act.put, sArr, sZ, sS]
  refine tkP 12 rfl (by assumption) ⟨?_, ?_, ?_⟩
  rotate_left
  · intro w hSw; (try dsimp only at hSw); go_simp; (try with_reducible rfl)
  try simp only [Act.put, sArr, sZ, sS]
  refine tkP 13 rfl (by assumption) ⟨?_, ?_, ?_⟩
  rotate_left
  · intro w hSw; (try dsimp only at hSw); go_simp; (try with_reducible rfl)
  try simp only [Act.put, sArr, sZ, sS]
  refine tkP 14 rfl (by assumption) ⟨?_, ?_, ?_⟩
  rotate_left
  · intro w hSw; (try dsimp only at hSw); go_simp; (try with_reducible rfl)
  try simp only [Act.put, sArr, sZ, sS]
  refine tkR 15 rfl (yieldsIf_load_mid (by rfl) 105 _ rfl b (off + z) rfl TV _ (fun w hS => hS.2.2) huT rfl hiT) (by assumption) ?_
  try simp only [Act.put, sArr, sZ, sS]
  refine wpAnyH_ready (rs := [7]) (by kernel_rfl) (by simp) (cons_l rfl (fun K' hK' => ?_) AllReadyH.nil)
  rw [if_pos (by rfl)]
  go_simp
  go_at_call 136
  refine ((hpc x0 bb0).out).mono ?_
  rintro e x1 ⟨rfl, hbx1⟩
  have hK1 := hK0.below hbx1 hK0.lt
  have hS1 := hS0.below hbx1 hS0.lt
  have bb1 := bb0.trans (hbx1.mono (Nat.le_trans (by omega : B ≤ B + 2) hs0))
  have hs1 := Nat.le_trans hs0 hbx1.size
  have hc01 := (hS1.cell 0).trans hc0.out
  refine hK'.out _ _ ⟨hK1, hc01, at_range (at_below hatT' bb1 hbw)⟩ (fun hHeld => ?_)
  clear hK' K'
  try simp only [Act.put, sArr, sZ, sS]
  refine tkR 16 rfl (yieldsIf_neM (by rfl) 105 _ _ _ rfl TC.toArray TV.toArray rfl rfl false (fun w => (hqq w).out) HEG.out) (by assumption) ?_
  try simp only [Act.put, sArr, sZ, sS]
  refine wpAnyH_done (by kernel_rfl) ?_ _
  clear hHeld
  go_wp2_with fail
  go_ret2
  exact ⟨by first | exact bb1 | (rw [← HB.out]; exact bb1), none, 0, 0, by rw [hEE.out]; rfl, by rw [HRR.out]; rfl, by rw [HRR.out]; exact ptNil _, fun _ => rfl⟩
set_option maxRecDepth 100000 in
set_option maxHeartbeats 8000000 in
theorem open_good (k h l : List Int) (b off bc n : Nat) (ha : Option Addr) (hp hn : Nat) (j : Nat) (w : World) (hk : k.length = 32) (ok : Octs k) (hln : n = l.length) (HL : Pt.Ok w ⟨some ⟨b, off, none⟩, bc, l⟩) (hhn : hn = h.length) (HH : Pt.Ok w ⟨ha, hp, h⟩) (h0 : ha = none → hp = 0) (hh : hn ≤ 4096) (hE : lookE l = 0) (hj : j < mN l) (heq : tagB k h (l.take 32) (j : Int) (covO l j) = tagO l j) :
    Calls Try.prog 190 #[.agg [.slice (some ⟨b, off, none⟩) n bc, .int .i64 (blkN l), .int .i64 (sizN l)].toArray, .agg (k.map (Value.int .u8)).toArray, .slice ha hn hp, .int .i64 j] w (OpenPost k h l j w) := by
  obtain ⟨B, HB⟩ : ∃ B, Hid (B = w.heap.size) := ⟨_, rfl⟩
  have hsz : w.heap.size = B := HB.out.symm
  have hbw : b < B := by rw [HB.out]; exact HL.lt _ rfl
  have hoL : Octs l := HL.oct
  obtain ⟨hnk, hns, hk16, hk65, hs26, hlen⟩ := look_nums hoL hE
  obtain ⟨hqs, hpl0, hpl1, hend, hj16, hmin, hfr⟩ := blk_places hoL hE hj
  have hcl := covO_length hoL hE hj
  obtain ⟨K, HK⟩ : ∃ K, Hid (K = k.map (Value.int .u8)) := ⟨_, rfl⟩
  have hKl : K.length = 32 := by rw [HK.out, List.length_map, hk]
  obtain ⟨cv, HCV⟩ : ∃ c, Hid (c = covO l j) := ⟨_, rfl⟩
  have oC : Octs cv := by rw [HCV.out]; exact covO_octs hoL j
  obtain ⟨f, HF⟩ : ∃ f, Hid (f = fromB l j) := ⟨_, rfl⟩
  obtain ⟨pl, HPL⟩ : ∃ f, Hid (f = plB l j) := ⟨_, rfl⟩
  obtain ⟨z, HZ⟩ : ∃ f, Hid (f = endB l j) := ⟨_, rfl⟩
  have hzf : z ≤ f + pl ∧ f + pl ≤ z := by rw [HZ.out, HF.out, HPL.out]; exact ⟨Nat.le_refl _, Nat.le_refl _⟩
  obtain ⟨Q, HQ⟩ : ∃ q, Hid (q = j * kN l) := ⟨_, rfl⟩
  obtain ⟨A, HA⟩ : ∃ q, Hid (q = j * (kN l + 16)) := ⟨_, rfl⟩
  have hAQ : A ≤ Q + 16 * j ∧ Q + 16 * j ≤ A := by rw [HA.out, HQ.out, Nat.mul_add]; omega
  have HPLM : Hid (pl = min (kN l) (sN l - Q)) := hid (by rw [HPL.out, HQ.out]; rfl)
  have HFA : Hid (f = 32 + A) := hid (by rw [HF.out, HA.out]; rfl)
  have hf0n : ¬ f = 0 := by rw [HFA.out]; omega
  have HCL : Hid (pl = cv.length) := hid (by rw [HCV.out, hcl, HPL.out])
  rw [← HPL.out] at hpl0 hpl1
  rw [← HZ.out, ← hln] at hend
  rw [← HQ.out] at hqs hfr
  rw [← hln] at hlen
  have hcap : n ≤ bc := by rw [hln]; exact HL.len
  have hmax : bc ≤ maxLen := HL.cap
  unfold maxLen at hmax
  obtain ⟨b', off', hao, hbw', hc⟩ := HL.row.at (i := 0) (by show 0 < l.length; omega)
  cases hao
  have hatT := seg_at (l := l) hc (k := z) (n := 16) (by show z + 16 ≤ l.length; omega)
  have hatN := seg_at (l := l) hc (k := 4) (n := 16) (by show 4 + 16 ≤ l.length; omega)
  obtain ⟨tg, HTG⟩ : ∃ t, Hid (t = tagO l j) := ⟨_, rfl⟩
  have htl : tg.length = 16 := by rw [HTG.out]; exact seg_length (by rw [← hln, ← HZ.out]; omega)
  have hatT' : At w ⟨b, off + z, none⟩ (tg.map (Value.int .u8)) := by rw [HTG.out]; unfold tagO; rw [← HZ.out]; exact hatT
  obtain ⟨TV, HTV⟩ : ∃ t, Hid (t = tg.map (Value.int .u8)) := ⟨_, rfl⟩
  have hTVl : TV.length = 16 := by rw [HTV.out, List.length_map, htl]
  have hTV1 : ∀ u ∈ TV, u.oneCell' = true := by rw [HTV.out]; exact ints_one _ _
  rw [← HTV.out] at hatT'
  obtain ⟨no, HNO⟩ : ∃ t, Hid (t = seg l 4 16) := ⟨_, rfl⟩
  have hnl : no.length = 16 := by rw [HNO.out]; exact seg_length (by omega)
  have ono : Octs no := by rw [HNO.out]; exact seg_octs hoL _ _
  obtain ⟨NV, HNV⟩ : ∃ t, Hid (t = no.map (Value.int .u8)) := ⟨_, rfl⟩
  have hNVl : NV.length = 16 := by rw [HNV.out, List.length_map, hnl]
  rw [← HNO.out, ← HNV.out] at hatN
  obtain ⟨fh, HFH⟩ : ∃ t, Hid (t = l.take 32) := ⟨_, rfl⟩
  have hfhl : fh.length = 32 := by rw [HFH.out, List.length_take]; omega
  obtain ⟨tc, HTC⟩ : ∃ t, Hid (t = tagB k h fh (j : Int) cv) := ⟨_, rfl⟩
  have htcl : tc.length = 16 := by rw [HTC.out]; exact tagB_length _ _ _ _ _
  obtain ⟨TC, HTCV⟩ : ∃ t, Hid (t = tc.map (Value.int .u8)) := ⟨_, rfl⟩
  have HLL := fun y (hb : Below B w y) => hid (HL.below (hsz ▸ hb))
  have HHH := fun y (hb : Below B w y) => hid (HH.below (hsz ▸ hb))
  have hPF : ∀ y, Pt.Ok y ⟨some ⟨b, off, none⟩, bc, l⟩ → Pt.Ok y ⟨some ⟨b, off, none⟩, bc, fh⟩ := fun y hy => by
    have h9 := ptCut hy 0 32 bc (by omega) (by show 32 ≤ l.length; omega) (by omega) (Nat.le_refl _)
    rw [List.drop_zero, Nat.sub_zero, Nat.sub_zero] at h9
    rw [HFH.out]
    by_cases hb0 : bc = 0
    · omega
    · rw [if_neg hb0] at h9
      simpa [Addr.add] using h9
  have hPC : ∀ (M : Nat), z ≤ M → M ≤ bc → ∀ y, Pt.Ok y ⟨some ⟨b, off, none⟩, bc, l⟩ → Pt.Ok y ⟨some ⟨b, off + f, none⟩, M - f, cv⟩ := fun M hM1 hM2 y hy => by
    have h9 := ptCut hy f z M (by omega) (by show z ≤ l.length; omega) hM1 hM2
    rw [if_neg (by omega)] at h9
    have e9 : z - f = pl := by omega
    rw [e9] at h9
    rw [HCV.out]; unfold covO; rw [← HF.out, ← HPL.out]
    simpa [Addr.add, hf0n] using h9
  have hbt := fun (M : Nat) (h1 : z ≤ M) (h2 : M ≤ bc) (y : World) (hb : Below B w y) => hid (BTag_any k h fh cv (j : Int) ha (some ⟨b, off, none⟩) (some ⟨b, off + f, none⟩) hp bc (M - f) hn 32 pl y hk ok ⟨by omega, by omega⟩ hhn hfhl.symm HCL.out (HHH y hb).out (hPF y (HLL y hb).out) (hPC M h1 h2 y (HLL y hb).out) h0 (fun e => by cases e) (fun e => by cases e) (by rw [← hhn, hfhl, ← HCL.out]; omega))
  simp only [← HTC.out, ← HTCV.out, ← HK.out] at hbt
  have hqq := fun w => hid (run_eq_tag w tc tg htcl htl)
  obtain ⟨kI, HkI⟩ : ∃ i, Hid (i = (kN l : Int)) := ⟨_, rfl⟩
  obtain ⟨sI, HsI⟩ : ∃ i, Hid (i = (sN l : Int)) := ⟨_, rfl⟩
  obtain ⟨jI, HjI⟩ : ∃ i, Hid (i = (j : Int)) := ⟨_, rfl⟩
  have hkI : kI ≤ 65536 ∧ 16 ≤ kI := by rw [HkI.out]; omega
  have hwA : RowKit.wrap64 (jI * (kI + 16)) = (A : Int) := by
    have e : jI * (kI + 16) = (A : Int) := by rw [HjI.out, HkI.out, HA.out]; simp
    rw [e]; unfold RowKit.wrap64; omega
  have hfA : (32 : Int) + (A : Int) = (f : Int) := by rw [HFA.out]; omega
  have hnot : ¬ z = f := by omega
  have heq' : tc = tg := by rw [HTC.out, HFH.out, HCV.out, HTG.out]; exact heq
  have hEq : openE' k h l j = if tc = tg then 0 else 13 := by unfold openE'; rw [HTC.out, HFH.out, HCV.out, HTG.out]
  have hEE : Hid (openE' k h l j = 0) := hid (by rw [hEq, if_pos heq'])
  have HRR : Hid (openR k h l j = coverL k (nonB no (j : Int)) cv) := hid (by unfold openR; rw [hEE.out, if_pos rfl]; unfold openL; rw [HNO.out, HCV.out])
  have hnn := fun y => hid (Nonce_any no hnl ono (j : Int) ⟨by omega, by omega⟩ y)
  have hco := fun (M : Nat) (h1 : z ≤ M) (h2 : M ≤ bc) (y : World) (hb : Below B w y) => hid (Cover_any k (nonB no (j : Int)) cv (some ⟨b, off + f, none⟩) (M - f) pl y hk (nonB_length _ _) ok (nonB_octs _ _) HCL.out (hPC M h1 h2 y (HLL y hb).out) (by omega))
  obtain ⟨NB, HNB⟩ : ∃ t, Hid (t = (nonB no (j : Int)).map (Value.int .u8)) := ⟨_, rfl⟩
  obtain ⟨R, HR⟩ : ∃ t, Hid (t = coverL k (nonB no (j : Int)) cv) := ⟨_, rfl⟩
  have hRl : R.length = pl := by rw [HR.out, coverL_length]; exact HCL.out.symm
  have oR : Octs R := by rw [HR.out]; exact coverL_octs _ _ oC
  simp only [← HNB.out, ← HNV.out] at hnn
  simp only [← HNB.out, ← HR.out, ← HK.out] at hco
  rw [← HR.out] at HRR
  have heqb : (tc == tg) = true := by simpa using heq'
  rw [heqb] at hqq
  simp only [← HTCV.out, ← HTV.out] at hqq
  have HEG := hid (by kernel_rfl : Try.prog.eqGuardType Try.prog.depth 105 = false)
  have huK := Try.underlying23
  have hiK : (Try.prog.info? 23).map (·.size) = some K.length := by rw [hKl]; exact aggKey.2
  have huT := Try.underlying105
  have hiT : (Try.prog.info? 105).map (·.size) = some TV.length := by rw [hTVl]; exact aggTag.2
  have huN := Try.underlying25
  have hiN : (Try.prog.info? 25).map (·.size) = some NV.length := by rw [hNVl]; exact aggNo.2
  have hQs : Q ≤ sN l := by omega
  have hwQ : RowKit.wrap64 (jI * kI) = (Q : Int) := by
    have e : jI * kI = (Q : Int) := by rw [HjI.out, HkI.out, HQ.out]; simp
    rw [e]; unfold RowKit.wrap64; omega
  obtain ⟨r, Hr⟩ : ∃ r, Hid (r = sN l - Q) := ⟨_, rfl⟩
  have hr : sI - (Q : Int) = (r : Int) := by rw [HsI.out, Hr.out]; omega
  have hrb : r ≤ 262144 := by rw [Hr.out]; omega
  have hmn : min kI (r : Int) = (pl : Int) := by rw [HkI.out, HPLM.out, Hr.out]; omega
  have hzI : (f : Int) + (pl : Int) = (z : Int) := by omega
  have hfz : (f : Int) ≤ (z : Int) := by omega
  have hzb : (z : Int) ≤ (bc : Int) := by omega
  have hz16 : (z : Int) + 16 ≤ (bc : Int) := by omega
  have hzz : (z : Int) ≤ (z : Int) + 16 := by omega
  have hwz : IntKind.i64.wrap ((z : Int) + 16) = (z : Int) + 16 := IntWalk.i64_in _ (by omega)
  have hf0 : (0 : Int) ≤ (f : Int) := by omega
  have hz0 : (0 : Int) ≤ (z : Int) := by omega
  have hbz : ¬ bc = z := by omega
  have hb4 : ¬ bc = 4 := by omega
  have hb32 : (32 : Int) ≤ (bc : Int) := by omega
  have hb20 : (20 : Int) ≤ (bc : Int) := by omega
  have hbf0 : ¬ bc = 0 := by omega
  have hzpl : z - f = pl := by omega
  have hz16n : z + 16 - z = 16 := by omega
  have hzi : ((z : Int) + 16).toNat = z + 16 := by omega
  have hAT := fun w a n cap h => run_arrayAtTag w a n cap h
  have hAN := fun w a n cap h => run_arrayAtNo w a n cap h
  have hpc := fun y (hb : Below B w y) => hbt z (Nat.le_refl _) (by omega) y hb
  obtain ⟨CS, HCS⟩ : ∃ C : List Value, Hid (C = [.slice (some ⟨b, off, none⟩) n bc, .int .i64 (blkN l), .int .i64 (sizN l)]) := ⟨_, rfl⟩
  have hc0 : Hid (CS[0]? = some (.slice (some ⟨b, off, none⟩) n bc)) := hid (by rw [HCS.out]; rfl)
  have hc1 : Hid (CS[1]? = some (.int .i64 kI)) := hid (by rw [HCS.out, HkI.out, ← hnk]; rfl)
  have hc2 : Hid (CS[2]? = some (.int .i64 sI)) := hid (by rw [HCS.out, HsI.out, ← hns]; rfl)
  rw [← HCS.out, ← HK.out, ← HjI.out]
  simp only [← HjI.out] at hpc
  have hpc2 := fun y (hb : Below B w y) => hco z (Nat.le_refl _) (by omega) y hb
  simp only [hzpl] at hpc2
  simp only [← HjI.out] at hnn
  simp only [hzpl] at hpc
  clear hf0n hbt HL HH hhn h0 hk hE hj hnk hns hk16 hk65 hs26 hlen hqs hmin hfr hcl hEq heq heq' heqb hend hc hAQ hPC hPF hatT hj16 HHH hzf hQs
  clear hco
  go_enter Try.func190, Try.ntmps190
  go_wp2_with (first | (refine wl_boxV rfl 227 _ rfl CS rfl B hsz ?_; intro wa hSa hba hsa; have c0a := (hSa.cell 0).trans hc0.out; have c1a := (hSa.cell 1).trans hc1.out; have c2a := (hSa.cell 2).trans hc2.out) | (refine wl_boxV rfl 23 _ rfl K rfl (B + 1) hsa ?_; intro wb hKb hbb hsb; have hSb := hSa.below hbb (by omega); have bbb := hba.trans (hbb.mono (by omega : B ≤ _)); have c0b := (hSb.cell 0).trans hc0.out; have c1b := (hSb.cell 1).trans hc1.out; have c2b := (hSb.cell 2).trans hc2.out; clear c0a c1a c2a hSa))
  refine wp_region_held_drew (S := (fun w' => BlkV 23 w' (B + 1) K ∧ w'.cell? ⟨B, 0, none⟩ = some (.slice (some ⟨b, off, none⟩) n bc) ∧ w'.rangeAt b (off + z) TV)) (by kernel_rfl) ⟨hKb, c0b, at_range (at_below hatT' bbb.drew hbw)⟩ (fun hHeld => ?_)
  obtain ⟨x0, HX0⟩ : ∃ x, Hid (x = wb.drew) := ⟨_, rfl⟩
  rw [← HX0.out] at hHeld ⊢
  have hK0 : BlkV 23 x0 (B + 1) K := by rw [HX0.out]; exact hKb
  have hS0 : BlkV 227 x0 B CS := by rw [HX0.out]; exact hSb
  have bb0 : Below B w x0 := by rw [HX0.out]; exact bbb.drew
  have hs0 : B + 2 ≤ x0.heap.size := by rw [HX0.out]; show B + 2 ≤ wb.heap.size; omega
  have hc00 := (hS0.cell 0).trans hc0.out
  clear hKb hSb bbb hsb hsa c0b c1b c2b hba hbb
  refine tkR 0 rfl (yieldsIf_load_mid (by rfl) 23 _ rfl (B + 1) 0 rfl K _ (fun w hS => at_range hS.1.at0) huK rfl hiK) (by assumption) ?_
  try simp only [Act.put, sArr, sZ, sS]
  refine tkP 1 rfl (by assumption) ⟨?_, ?_, ?_⟩
  rotate_left
  · intro w hSw; (try dsimp only at hSw); go_simp; (try with_reducible rfl)
  try simp only [Act.put, sArr, sZ, sS]
  refine tkP 2 rfl (by assumption) ⟨?_, ?_, ?_⟩
  rotate_left
  · intro w hSw; (try dsimp only at hSw); go_simp; (try with_reducible rfl)
  try simp only [Act.put, sArr, sZ, sS]
  refine tkP 3 rfl (by assumption) ⟨?_, ?_, ?_⟩
  rotate_left
  · intro w hSw; (try dsimp only at hSw); go_simp; (try with_reducible rfl)
  try simp only [Act.put, sArr, sZ, sS]
  refine tkP 4 rfl (by assumption) ⟨?_, ?_, ?_⟩
  rotate_left
  · intro w hSw; (try dsimp only at hSw); go_simp; (try with_reducible rfl)
  try simp only [Act.put, sArr, sZ, sS]
  refine tkP 5 rfl (by assumption) ⟨?_, ?_, ?_⟩
  rotate_left
  · intro w hSw; (try dsimp only at hSw); go_simp; (try with_reducible rfl)
  try simp only [Act.put, sArr, sZ, sS]
  refine tkP 6 rfl (by assumption) ⟨?_, ?_, ?_⟩
  rotate_left
  · intro w hSw; (try dsimp only at hSw); go_simp; (try with_reducible rfl)
  try simp only [Act.put, sArr, sZ, sS]
  refine tkP 8 rfl (by assumption) ⟨?_, ?_, ?_⟩
  rotate_left
  · intro w hSw; (try dsimp only at hSw); go_simp; (try with_reducible rfl)
  try simp only [Act.put, sArr, sZ, sS]
  refine tkP 9 rfl (by assumption) ⟨?_, ?_, ?_⟩
  rotate_left
  · intro w hSw; (try dsimp only at hSw); go_simp; (try with_reducible rfl)
  try simp only [Act.put, sArr, sZ, sS]
  refine tkP 10 rfl (by assumption) ⟨?_, ?_, ?_⟩
  rotate_left
  · intro w hSw; (try dsimp only at hSw); go_simp; (try with_reducible rfl)
  try simp only [Act.put, sArr, sZ, sS]
  refine tkP 11 rfl (by assumption) ⟨?_, ?_, ?_⟩
  rotate_left
  · intro w hSw; (try dsimp only at hSw); go_simp; (try with_reducible rfl)
  try simp only [Act.put, sArr, sZ, sS]
  refine tkP 12 rfl (by assumption) ⟨?_, ?_, ?_⟩
  rotate_left
  · intro w hSw; (try dsimp only at hSw); go_simp; (try with_reducible rfl)
  try simp only [Act.put, sArr, sZ, sS]
  refine tkP 13 rfl (by assumption) ⟨?_, ?_, ?_⟩
  rotate_left
  · intro w hSw; (try dsimp only at hSw); go_simp; (try with_reducible rfl)
  try simp only [Act.put, sArr, sZ, sS]
  refine tkP 14 rfl (by assumption) ⟨?_, ?_, ?_⟩
  rotate_left
  · intro w hSw; (try dsimp only at hSw); go_simp; (try with_reducible rfl)
  try simp only [Act.put, sArr, sZ, sS]
  refine tkR 15 rfl (yieldsIf_load_mid (by rfl) 105 _ rfl b (off + z) rfl TV _ (fun w hS => hS.2.2) huT rfl hiT) (by assumption) ?_
  try simp only [Act.put, sArr, sZ, sS]
  refine wpAnyH_ready (rs := [7]) (by kernel_rfl) (by simp) (cons_l rfl (fun K' hK' => ?_) AllReadyH.nil)
  rw [if_pos (by rfl)]
  go_simp
  go_at_call 136
  refine ((hpc x0 bb0).out).mono ?_
  rintro e x1 ⟨rfl, hbx1⟩
  have hK1 := hK0.below hbx1 hK0.lt
  have hS1 := hS0.below hbx1 hS0.lt
  have bb1 := bb0.trans (hbx1.mono (Nat.le_trans (by omega : B ≤ B + 2) hs0))
  have hs1 := Nat.le_trans hs0 hbx1.size
  have hc01 := (hS1.cell 0).trans hc0.out
  refine hK'.out _ _ ⟨hK1, hc01, at_range (at_below hatT' bb1 hbw)⟩ (fun hHeld => ?_)
  clear hK' K'
  try simp only [Act.put, sArr, sZ, sS]
  refine tkR 16 rfl (yieldsIf_neM (by rfl) 105 _ _ _ rfl TC.toArray TV.toArray rfl rfl true (fun w => (hqq w).out) HEG.out) (by assumption) ?_
  try simp only [Act.put, sArr, sZ, sS]
  refine wpAnyH_done (by kernel_rfl) ?_ _
  clear hHeld
  go_wp2_with fail
  refine wp_region_held_drew (S := (fun w' => BlkV 23 w' (B + 1) K ∧ w'.cell? ⟨B, 0, none⟩ = some (.slice (some ⟨b, off, none⟩) n bc) ∧ w'.rangeAt b (off + 4) NV)) (by kernel_rfl) ⟨hK1, hc01, at_range (at_below hatN bb1.drew hbw)⟩ (fun hHeld => ?_)
  obtain ⟨y0, HY0⟩ : ∃ x, Hid (x = x1.drew) := ⟨_, rfl⟩
  rw [← HY0.out] at hHeld ⊢
  have hK2 : BlkV 23 y0 (B + 1) K := by rw [HY0.out]; exact hK1
  have hS2 : BlkV 227 y0 B CS := by rw [HY0.out]; exact hS1
  have bb2 : Below B w y0 := by rw [HY0.out]; exact bb1.drew
  have hs2 : B + 2 ≤ y0.heap.size := by rw [HY0.out]; exact hs1
  have hc02 := (hS2.cell 0).trans hc0.out
  refine tkR 0 rfl (yieldsIf_load_mid (by rfl) 23 _ rfl (B + 1) 0 rfl K _ (fun w hS => at_range hS.1.at0) huK rfl hiK) (by assumption) ?_
  try simp only [Act.put, sArr, sZ, sS]
  refine tkP 1 rfl (by assumption) ⟨?_, ?_, ?_⟩
  rotate_left
  · intro w hSw; (try dsimp only at hSw); go_simp; (try with_reducible rfl)
  try simp only [Act.put, sArr, sZ, sS]
  refine tkP 2 rfl (by assumption) ⟨?_, ?_, ?_⟩
  rotate_left
  · intro w hSw; (try dsimp only at hSw); go_simp; (try with_reducible rfl)
  try simp only [Act.put, sArr, sZ, sS]
  refine tkP 3 rfl (by assumption) ⟨?_, ?_, ?_⟩
  rotate_left
  · intro w hSw; (try dsimp only at hSw); go_simp; (try with_reducible rfl)
  try simp only [Act.put, sArr, sZ, sS]
  refine tkP 4 rfl (by assumption) ⟨?_, ?_, ?_⟩
  rotate_left
  · intro w hSw; (try dsimp only at hSw); go_simp; (try with_reducible rfl)
  try simp only [Act.put, sArr, sZ, sS]
  refine tkR 5 rfl (yieldsIf_load_mid (by rfl) 25 _ rfl b (off + 4) rfl NV _ (fun w hS => hS.2.2) huN rfl hiN) (by assumption) ?_
  try simp only [Act.put, sArr, sZ, sS]
  refine tkP 6 rfl (by assumption) ⟨?_, ?_, ?_⟩
  rotate_left
  · intro w hSw; (try dsimp only at hSw); go_simp; (try with_reducible rfl)
  try simp only [Act.put, sArr, sZ, sS]
  refine tkP 8 rfl (by assumption) ⟨?_, ?_, ?_⟩
  rotate_left
  · intro w hSw; (try dsimp only at hSw); go_simp; (try with_reducible rfl)
  try simp only [Act.put, sArr, sZ, sS]
  refine wpAnyH_ready (rs := [7]) (by kernel_rfl) (by simp) (cons_l rfl (fun K' hK' => ?_) AllReadyH.nil)
  rw [if_pos (by rfl)]
  go_simp
  go_at_call 135
  refine ((hnn y0).out).mono ?_
  rintro e y1 ⟨rfl, hby1⟩
  have hK3 := hK2.below hby1 hK2.lt
  have hS3 := hS2.below hby1 hS2.lt
  have bb3 := bb2.trans (hby1.mono (Nat.le_trans (by omega : B ≤ B + 2) hs2))
  have hs3 := Nat.le_trans hs2 hby1.size
  have hc03 := (hS3.cell 0).trans hc0.out
  refine hK'.out _ _ ⟨hK3, hc03, at_range (at_below hatN bb3 hbw)⟩ (fun hHeld => ?_)
  clear hK' K'
  try simp only [Act.put, sArr, sZ, sS]
  refine wpAnyH_ready (rs := [9]) (by kernel_rfl) (by simp) (cons_l rfl (fun K' hK' => ?_) AllReadyH.nil)
  rw [if_pos (by rfl)]
  go_simp
  go_at_call 134
  refine ((hpc2 y1 bb3).out).mono ?_
  rintro e y2 ⟨ar, cr, rfl, hMr, hby2⟩
  have hK4 := hK3.below hby2 hK3.lt
  have hS4 := hS3.below hby2 hS3.lt
  have bb4 := bb3.trans (hby2.mono (Nat.le_trans (by omega : B ≤ B + 2) hs3))
  have hc04 := (hS4.cell 0).trans hc0.out
  refine hK'.out _ _ ⟨hK4, hc04, at_range (at_below hatN bb4 hbw)⟩ (fun hHeld => ?_)
  clear hK' K'
  try simp only [Act.put, sArr, sZ, sS]
  refine tkP 10 rfl (by assumption) ⟨?_, ?_, ?_⟩
  rotate_left
  · intro w hSw; (try dsimp only at hSw); go_simp; (try with_reducible rfl)
  try simp only [Act.put, sArr, sZ, sS]
  refine tkP 11 rfl (by assumption) ⟨?_, ?_, ?_⟩
  rotate_left
  · intro w hSw; (try dsimp only at hSw); go_simp; (try with_reducible rfl)
  try simp only [Act.put, sArr, sZ, sS]
  refine tkP 12 rfl (by assumption) ⟨?_, ?_, ?_⟩
  rotate_left
  · intro w hSw; (try dsimp only at hSw); go_simp; (try with_reducible rfl)
  try simp only [Act.put, sArr, sZ, sS]
  refine tkP 13 rfl (by assumption) ⟨?_, ?_, ?_⟩
  rotate_left
  · intro w hSw; (try dsimp only at hSw); go_simp; (try with_reducible rfl)
  try simp only [Act.put, sArr, sZ, sS]
  refine wpAnyH_done (by kernel_rfl) ?_ _
  clear hHeld
  go_wp2_with fail
  go_ret2
  obtain ⟨hPr, hnr⟩ := mine_pt hMr hRl.symm hpl0 oR
  exact ⟨by first | exact bb4 | (rw [← HB.out]; exact bb4), ar, pl, cr, by rw [hEE.out]; rfl, by rw [HRR.out]; exact hRl.symm, by rw [HRR.out]; exact hPr, fun e => (hnr e).1⟩
end Go.Proofs.Ytbljihhelladbaa.wr
