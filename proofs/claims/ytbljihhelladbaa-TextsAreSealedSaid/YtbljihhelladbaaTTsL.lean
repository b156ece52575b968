/-
  Contract of wrap.OpenText. Conditions: a key of octets, octets that lie in memory. Contract of keylaw2.opened: it says true. Conditions: a key of octets, octets that lie in memory.
-/
import Derived.Test.YtbljihhelladbaaTTsK
namespace Go.Proofs.Ytbljihhelladbaa.wr
open Go.RowKit Go.Proofs.Ytbljihhelladbaa.st Go.Proofs.Ytbljihhelladbaa.hs Go.Proofs.Ytbljihhelladbaa.shr Go.Proofs.Ytbljihhelladbaa.sh
set_option linter.unusedSimpArgs false
set_option linter.unusedVariables false
set_option pp.maxSteps 6000
/-- what an opening of the text gives -/
def TextPost (k h b : List Int) (w : World) (e : Ending) (w' : World) : Prop := Below w.heap.size w w' ∧ ∃ (ao : Option Addr) (n c : Nat), e = .returned (.tuple #[.slice ao n c, .int .i64 (openTE k h b)]) ∧ Hid (n = (openTR k h b).length) ∧ RowI .u8 w' ao (openTR k h b)
theorem textPost_bad {k h b : List Int} {E : Int} {w w' : World} (hb : Below w.heap.size w w') (hE : openTE k h b = E) (h0 : E ≠ 0) : TextPost k h b w (.returned (.tuple #[.slice none 0 0, .int .i64 E])) w' := by
  have hR : openTR k h b = [] := by unfold openTR; rw [hE, if_neg h0]
  exact ⟨hb, none, 0, 0, by rw [hE], by rw [hR]; rfl, by rw [hR]; exact Or.inl rfl⟩
theorem openTR_octs {k h b : List Int} (ho : Octs b) : Octs (openTR k h b) := by
  unfold openTR
  split
  · exact textT_octs k ho _
  · exact fun c hc => by cases hc
theorem errT_at {k h b : List Int} {j : Nat} {E : Int} (hj : j < mN b) (h0 : errT k h b j = 0) (hE : openE' k h b j = E) (hE0 : E ≠ 0) : errT k h b (mN b) = E := by
  have h1 : errT k h b (j + 1) = E := by
    show (if errT k h b j ≠ 0 then errT k h b j else openE' k h b j) = E
    rw [if_neg (fun g => g h0), hE]
  rw [errT_keep (by rw [h1]; exact hE0) (mN b) hj, h1]
theorem errT_next {k h b : List Int} {j : Nat} (h0 : errT k h b j = 0) (hE : openE' k h b j = 0) : errT k h b (j + 1) = 0 := by
  show (if errT k h b j ≠ 0 then errT k h b j else openE' k h b j) = 0
  rw [if_neg (fun g => g h0), hE]
set_option maxRecDepth 100000 in
set_option maxHeartbeats 4000000 in
theorem OpenText_look (k h l : List Int) (bo : Option Addr) (bc n : Nat) (ha : Option Addr) (hp hn : Nat) (w : World) (hk : k.length = 32) (ok : Octs k) (hln : n = l.length) (HL : Pt.Ok w ⟨bo, bc, l⟩) (hhn : hn = h.length) (HH : Pt.Ok w ⟨ha, hp, h⟩) (h0 : ha = none → hp = 0) (hE : lookWE h l ≠ 0) :
    Calls Try.prog 145 #[.agg (k.map (Value.int .u8)).toArray, .slice ha hn hp, .slice bo n bc] w (TextPost k h l w) := by
  obtain ⟨B, HB⟩ : ∃ B, Hid (B = w.heap.size) := ⟨_, rfl⟩
  have hsz : w.heap.size = B := HB.out.symm
  obtain ⟨K, HK⟩ : ∃ K, Hid (K = k.map (Value.int .u8)) := ⟨_, rfl⟩
  have hKl : K.length = 32 := by rw [HK.out, List.length_map, hk]
  obtain ⟨Z, HZ⟩ : ∃ Z, Hid (Z = se0) := ⟨_, rfl⟩
  have hz := hid zeroSe
  rw [← HZ.out] at hz
  have hZl : Z.length = 3 := by rw [HZ.out]; rfl
  have hlw := fun (y : World) (hb : Below B w y) => hid (lookWith_any h l bo bc n ha hp hn y hln (HL.below (hsz ▸ hb)) hhn)
  obtain ⟨C, HC⟩ : ∃ C, Hid (C = seW h bo n bc l) := ⟨_, rfl⟩
  have hCl : C.length = 3 := by rw [HC.out]; exact seW_len _ _ _ _ _
  have hC1 : ∀ u ∈ C, u.oneCell' = true := by rw [HC.out]; exact seW_one _ _ _ _ _
  simp only [← HC.out] at hlw
  have hEE : Hid (openTE k h l = lookWE h l) := hid (by unfold openTE; rw [if_pos hE])
  obtain ⟨E, HE⟩ : ∃ E, Hid (E = lookWE h l) := ⟨_, rfl⟩
  rw [← HE.out] at hEE hE
  simp only [← HE.out] at hlw
  have hE0 : ¬ E = 0 := hE
  have hE9 := hid hE
  rw [← HK.out]
  clear hk hln HL hhn HH h0 hE
  go_enter Try.func145, Try.ntmps145
  go_wp2_with (first | (refine wl_storeV rfl 227 _ _ rfl 227 g rfl C rfl 3 aggSe hCl Z hT2 hZl hC1 ?_; intro w3 hT3 hb3 hs3; have hK3 := hK2.below hb3 (by omega); have bb3 := bb2.trans (hb3.mono (by omega : B ≤ _)); have hsg : B ≤ w3.heap.size := (by have := hT3.lt; omega)) | (refine wl_allocV rfl 227 rfl Z hz.out g Hg.out ?_; intro w2 hT2 hb2 hs2; have hK2 := hK1.below hb2 (by omega); have bb2 := bb1.trans (hb2.mono (by omega : B ≤ _))) | (go_at_call 189; refine (hlw wb hbb).out.mono ?_; rintro e w1 ⟨rfl, hb1⟩; have hK1 := hKb.below hb1 hKb.lt; have bb1 := hbb.trans (hb1.mono (by omega : B ≤ _)); obtain ⟨g, Hg⟩ : ∃ g, Hid (w1.heap.size = g) := ⟨_, rfl⟩; have hgB : B + 1 ≤ g := (by rw [← Hg.out]; have := hb1.size; omega)) | (refine wl_boxV rfl 23 _ rfl K rfl B hsz ?_; intro wb hKb hbb hsb))
  go_ret2
  exact textPost_bad (by first | exact bb3 | (rw [← HB.out]; exact bb3)) hEE.out hE9.out
set_option maxRecDepth 100000 in
set_option maxHeartbeats 4000000 in
theorem OpenText_main (k h l : List Int) (bo : Option Addr) (bc n : Nat) (ha : Option Addr) (hp hn : Nat) (w : World) (hk : k.length = 32) (ok : Octs k) (hln : n = l.length) (HL : Pt.Ok w ⟨bo, bc, l⟩) (hhn : hn = h.length) (HH : Pt.Ok w ⟨ha, hp, h⟩) (h0 : ha = none → hp = 0) (hE : lookWE h l = 0) :
    Calls Try.prog 145 #[.agg (k.map (Value.int .u8)).toArray, .slice ha hn hp, .slice bo n bc] w (TextPost k h l w) := by
  obtain ⟨B, HB⟩ : ∃ B, Hid (B = w.heap.size) := ⟨_, rfl⟩
  have hsz : w.heap.size = B := HB.out.symm
  obtain ⟨K, HK⟩ : ∃ K, Hid (K = k.map (Value.int .u8)) := ⟨_, rfl⟩
  have hKl : K.length = 32 := by rw [HK.out, List.length_map, hk]
  obtain ⟨Z, HZ⟩ : ∃ Z, Hid (Z = se0) := ⟨_, rfl⟩
  have hz := hid zeroSe
  rw [← HZ.out] at hz
  have hZl : Z.length = 3 := by rw [HZ.out]; rfl
  have hlw := fun (y : World) (hb : Below B w y) => hid (lookWith_any h l bo bc n ha hp hn y hln (HL.below (hsz ▸ hb)) hhn)
  obtain ⟨C, HC⟩ : ∃ C, Hid (C = seW h bo n bc l) := ⟨_, rfl⟩
  have hCl : C.length = 3 := by rw [HC.out]; exact seW_len _ _ _ _ _
  have hC1 : ∀ u ∈ C, u.oneCell' = true := by rw [HC.out]; exact seW_one _ _ _ _ _
  simp only [← HC.out] at hlw
  have hoL : Octs l := HL.oct
  obtain ⟨hh, hL, hSW⟩ := seW_zero hE hoL bo n bc
  obtain ⟨_, _, hk1, hk2, hs1, _⟩ := look_nums hoL hL
  have hl0 := hid hE
  simp only [hE] at hlw
  have hCE : C = [.slice bo n bc, .int .i64 (kN l : Int), .int .i64 (sN l : Int)] := by rw [HC.out, hSW]
  have hma := fun y => hid (many_any bo n bc (sN l) (kN l) y (by omega) (by omega) (by omega))
  simp only [← hCE] at hma
  obtain ⟨M, HM⟩ : ∃ m, Hid (m = mN l) := ⟨_, rfl⟩
  have hmm : manyT (sN l) (kN l) = M := HM.out.symm
  rw [hmm] at hma
  have hMb : M ≤ 16385 := by rw [← hmm]; exact many_le hk1 hs1
  have hop := fun (j : Nat) (hj : j < M) (y : World) (hb : Below B w y) => hid (opnB_any k h l bo bc n ha hp hn j y hk ok hln (HL.below (hsz ▸ hb)) hhn (HH.below (hsz ▸ hb)) h0 hh hL (by rw [← HM.out]; exact hj))
  simp only [← hCE, ← HK.out] at hop
  unfold OpenPost at hop
  have HBAD := hid (fun (j : Nat) (E : Int) (hj : j < M) (h0 : errT k h l j = 0) (hE : openE' k h l j = E) (hE0 : E ≠ 0) => (by unfold openTE; rw [if_neg (fun g => g hl0.out)]; exact errT_at (by rw [← HM.out]; exact hj) h0 hE hE0 : openTE k h l = E))
  have HGOOD := hid (fun (h0 : errT k h l M = 0) => (by
    have e : openTE k h l = 0 := by unfold openTE; rw [if_neg (fun g => g hl0.out), ← HM.out, h0]
    exact ⟨e, by unfold openTR; rw [if_pos e, ← HM.out]⟩ : openTE k h l = 0 ∧ openTR k h l = textT k l M))
  have hol := hid (fun (j : Nat) (hj : j < M) => (openR_len hoL hL (by rw [← HM.out]; exact hj) : (openR k h l j).length ≤ 65536))
  rw [← HK.out]
  clear hk hln HL hhn HH h0 hE hh hL hSW hCE hk1 hk2 hs1 hmm
  go_enter Try.func145, Try.ntmps145
  go_wp2_with (first | (go_at_call 188; refine (hma w3).out.mono ?_; rintro e w4 ⟨rfl, hb4⟩; have hK4 := hK3.below hb4 hK3.lt; have hT4 := hT3.below hb4 hT3.lt; have bb4 := bb3.trans (hb4.mono hsg); have hsg4 := Nat.le_trans hsg hb4.size) | (refine wl_loadG (by rfl) 227 _ rfl ⟨g, 0, none⟩ rfl 3 C hCl aggSe hT3.at0 ?_) | (refine wl_storeV rfl 227 _ _ rfl 227 g rfl C rfl 3 aggSe hCl Z hT2 hZl hC1 ?_; intro w3 hT3 hb3 hs3; have hK3 := hK2.below hb3 (by omega); have bb3 := bb2.trans (hb3.mono (by omega : B ≤ _)); have hsg : B ≤ w3.heap.size := (by have := hT3.lt; omega)) | (refine wl_allocV rfl 227 rfl Z hz.out g Hg.out ?_; intro w2 hT2 hb2 hs2; have hK2 := hK1.below hb2 (by omega); have bb2 := bb1.trans (hb2.mono (by omega : B ≤ _))) | (go_at_call 189; refine (hlw wb hbb).out.mono ?_; rintro e w1 ⟨rfl, hb1⟩; have hK1 := hKb.below hb1 hKb.lt; have bb1 := hbb.trans (hb1.mono (by omega : B ≤ _)); obtain ⟨g, Hg⟩ : ∃ g, Hid (w1.heap.size = g) := ⟨_, rfl⟩; have hgB : B + 1 ≤ g := (by rw [← Hg.out]; have := hb1.size; omega)) | (refine wl_boxV rfl 23 _ rfl K rfl B hsz ?_; intro wb hKb hbb hsb))
  obtain ⟨G, HG⟩ : ∃ G, Hid (G = w4.heap.size) := ⟨_, rfl⟩
  have hgG : g < G := by rw [HG.out]; exact hT4.lt
  have hBG : B < G := by rw [HG.out]; exact hK4.lt
  go_loopw [10, 25] (fun v i wr => ∃ (j m vc : Nat) (vo : Option Addr), j ≤ M ∧ i = .int .i64 j ∧ v = .slice vo m vc ∧ Hid (m = (textT k l j).length) ∧ m ≤ 65536 * j ∧ Mine wr G 5 1 (.slice vo m vc) m ((textT k l j).map (Value.int .u8)) ∧ Hid (errT k h l j = 0) ∧ BlkV 23 wr B K ∧ BlkV 227 wr g C ∧ Below B w wr ∧ G ≤ wr.heap.size) (fun _ i _ => M - (intOf i).toNat)
  case atStart => exact ⟨0, 0, 0, none, Nat.zero_le _, rfl, rfl, hid rfl, Nat.zero_le _, Mine.nil _ _ _ _, hid rfl, hK4, hT4, bb4, by rw [HG.out]; exact Nat.le_refl _⟩
  case round =>
    obtain ⟨j, m, vc, vo, hj, rfl, rfl, HMM, hm, hM, HER, hKr, hTr, bbr, hGr⟩ := hrel
    have hBr : B ≤ wr.heap.size := by omega
    by_cases hjM : j < M
    · have hjI : (j : Int) < (M : Int) := by omega
      obtain ⟨E, HE⟩ : ∃ E, Hid (E = openE' k h l j) := ⟨_, rfl⟩
      have hopj := fun (y : World) (hb : Below B w y) => hop j hjM y hb
      simp only [← HE.out] at hopj
      by_cases hE0 : E = 0
      · have hR : openR k h l j = openL k l j := by unfold openR; rw [← HE.out, if_pos hE0]
        obtain ⟨X, HX⟩ : ∃ X, Hid (X = openL k l j) := ⟨_, rfl⟩
        have hXl : X.length ≤ 65536 := by rw [HX.out, ← hR]; exact hol.out j hjM
        simp only [hR, ← HX.out] at hopj
        obtain ⟨T, HT⟩ : ∃ T, Hid (T = textT k l j) := ⟨_, rfl⟩
        have HS : Hid (textT k l (j + 1) = T ++ X) := hid (by rw [textT_succ, HT.out, HX.out])
        rw [← HT.out] at HMM hM
        have HN := hid (errT_next HER.out (by rw [← HE.out, hE0]))
        subst hE0
        clear hR hop
        go_wp2_with (first | (at_builtin; refine wl_appendS rfl _ _ 69 rfl 5 (.int .u8 0) 1 1 Try.underlying69 info8 rfl (by decide) G (.slice vo m vc) m _ rfl (Mine.belowAll hM hb5) ao5 n5 c5 rfl hno5 (X.map (Value.int .u8)) (by rw [List.length_map, hn5.out, Nat.mul_one]) hP5.row.v (ints_one _ _) (by unfold maxLen; omega) (by omega) hG5 (m + n5) rfl ?_; intro ao6 c6 w6 row6 hc6 hM6 hv6 hg6 hr6) | (go_at_call 190; refine (hopj wr bbr).out.mono ?_; rintro e w5 ⟨hb5, ao5, n5, c5, rfl, hn5, hP5, hno5⟩; have bb5 := bbr.trans (hb5.mono hBr); have hK5 := hKr.below hb5 hKr.lt; have hT5 := hTr.below hb5 hTr.lt; have hG5 := Nat.le_trans hGr hb5.size; have hn6 : n5 ≤ 65536 := (by rw [hn5.out]; exact hXl)) | (refine wl_loadG (by rfl) 23 _ rfl ⟨B, 0, none⟩ rfl 32 K hKl aggKey hKr.at0 ?_) | (refine wl_loadG (by rfl) 227 _ rfl ⟨g, 0, none⟩ rfl 3 C hCl aggSe hTr.at0 ?_))
        have hb6 : Below G wr wr := Below.refl _ _
        go_roundw
        case rel =>
          rw [← List.map_append] at hM6
          exact ⟨j + 1, m + n5, c6, ao6, by omega, by go_num, rfl, hid (by rw [HS.out, List.length_append, ← HMM.out, ← hn5.out]), by omega, by rw [HS.out]; exact hM6, HN, hK5.grown hg6 (by intro e; have := (hr6 _ e).1; omega), hT5.grown hg6 (by intro e; have := (hr6 _ e).1; omega), bb5.grown hg6 (by omega) (fun k hk => by have := (hr6 k hk).1; omega), Nat.le_trans hG5 hg6.size⟩
        case measure => simp [intOf] <;> omega
      · have HEE := hid (HBAD.out j E hjM HER.out HE.out.symm hE0)
        have hE9 := hid hE0
        clear hop
        go_wp2_with (first | (go_at_call 190; refine (hopj wr bbr).out.mono ?_; rintro e w5 ⟨hb5, ao5, n5, c5, rfl, hn5, hP5, hno5⟩; have bb5 := bbr.trans (hb5.mono hBr); have hK5 := hKr.below hb5 hKr.lt; have hT5 := hTr.below hb5 hTr.lt; have hG5 := Nat.le_trans hGr hb5.size) | (refine wl_loadG (by rfl) 23 _ rfl ⟨B, 0, none⟩ rfl 32 K hKl aggKey hKr.at0 ?_) | (refine wl_loadG (by rfl) 227 _ rfl ⟨g, 0, none⟩ rfl 3 C hCl aggSe hTr.at0 ?_))
        go_ret2
        exact textPost_bad (by first | exact bb5 | (rw [← HB.out]; exact bb5)) HEE.out hE9.out
    · obtain rfl : j = M := by omega
      obtain ⟨e1, e2⟩ := HGOOD.out HER.out
      replace e1 := hid e1
      replace e2 := hid e2
      clear hop
      go_wp2_with fail
      go_ret2
      obtain ⟨ao2, c2, e3, _, h3⟩ := hM.row
      cases e3
      exact ⟨by first | exact bbr | (rw [← HB.out]; exact bbr), vo, m, vc, by rw [e1.out]; rfl, hid (by rw [e2.out]; exact HMM.out), by rw [e2.out]; exact RowV.i h3⟩
theorem OpenText_any (k h l : List Int) (bo : Option Addr) (bc n : Nat) (ha : Option Addr) (hp hn : Nat) (w : World) (hk : k.length = 32) (ok : Octs k) (hln : n = l.length) (HL : Pt.Ok w ⟨bo, bc, l⟩) (hhn : hn = h.length) (HH : Pt.Ok w ⟨ha, hp, h⟩) (h0 : ha = none → hp = 0) :
    Calls Try.prog 145 #[.agg (k.map (Value.int .u8)).toArray, .slice ha hn hp, .slice bo n bc] w (TextPost k h l w) := by
  by_cases hE : lookWE h l = 0
  · exact OpenText_main k h l bo bc n ha hp hn w hk ok hln HL hhn HH h0 hE
  · exact OpenText_look k h l bo bc n ha hp hn w hk ok hln HL hhn HH h0 hE
end Go.Proofs.Ytbljihhelladbaa.wr
namespace Go.Proofs.Ytbljihhelladbaa.wr
open Go.RowKit Go.Proofs.Ytbljihhelladbaa.st Go.Proofs.Ytbljihhelladbaa.hs Go.Proofs.Ytbljihhelladbaa.shr Go.Proofs.Ytbljihhelladbaa.sh
set_option linter.unusedSimpArgs false
set_option linter.unusedVariables false
set_option pp.maxSteps 6000
theorem block_at {k h b : List Int} {j : Nat} (hh : ¬ 4096 < h.length) (hl : lookE b = 0) (hj : j < mN b) : blockE k h b (j : Int) = openE' k h b j ∧ blockR k h b (j : Int) = openR k h b j := by
  have e1 : ((j : Int)).toNat = j := by omega
  have hE : blockE k h b (j : Int) = openE' k h b j := by unfold blockE; rw [if_neg hh, if_neg (fun g => g hl), if_neg (by omega), e1]
  exact ⟨hE, by unfold blockR openR; rw [hE, e1]⟩
theorem errT_step {k h b : List Int} {j : Nat} (h0 : errT k h b j = 0) : errT k h b (j + 1) = openE' k h b j := by
  show (if errT k h b j ≠ 0 then errT k h b j else openE' k h b j) = _
  rw [if_neg (fun g => g h0)]
theorem blockR_octs {k h b : List Int} (ho : Octs b) (i : Int) : Octs (blockR k h b i) := by
  unfold blockR openL
  split
  · exact coverL_octs _ _ (covO_octs ho _)
  · exact fun c hc => by cases hc
theorem first_look (h b : List Int) {hn : Nat} (hhn : hn = h.length) : firstE2 (whenE (decide ((4096 : Int) < (hn : Int))) 5) (lookE b) = lookWE h b := by
  unfold lookWE
  by_cases hh : 4096 < h.length
  · rw [if_pos hh, decide_eq_true (by omega)]; rfl
  · rw [if_neg hh, decide_eq_false (by omega)]; rfl
theorem openTR_bad {k h b : List Int} (hE : openTE k h b ≠ 0) : openTR k h b = [] := by unfold openTR; rw [if_neg hE]
set_option maxRecDepth 100000 in
set_option maxHeartbeats 4000000 in
theorem opened_bad (k h l : List Int) (bo : Option Addr) (bc n : Nat) (ha : Option Addr) (hp hn : Nat) (i : Int) (w : World) (hk : k.length = 32) (ok : Octs k) (hln : n = l.length) (HL : Pt.Ok w ⟨bo, bc, l⟩) (hhn : hn = h.length) (HH : Pt.Ok w ⟨ha, hp, h⟩) (h0 : ha = none → hp = 0) (hE : lookWE h l ≠ 0) :
    Calls Try.prog 78 #[.agg (k.map (Value.int .u8)).toArray, .slice ha hn hp, .slice bo n bc, .int .i64 i] w fun e w' => e = .returned (.bool true) ∧ Below w.heap.size w w' := by
  obtain ⟨B, HB⟩ : ∃ B, Hid (B = w.heap.size) := ⟨_, rfl⟩
  have hsz : w.heap.size = B := HB.out.symm
  obtain ⟨K, HK⟩ : ∃ K, Hid (K = k.map (Value.int .u8)) := ⟨_, rfl⟩
  have hKl : K.length = 32 := by rw [HK.out, List.length_map, hk]
  have hoL : Octs l := HL.oct
  have hbl := fun (y : World) (hb : Below B w y) => hid (Blocks_any bo bc n l y hln (HL.below (hsz ▸ hb)))
  have hbo := fun (y : World) (hb : Below B w y) => hid (BlocksOf_any bo bc n l y hln (HL.below (hsz ▸ hb)))
  have hbk := fun (y : World) (hb : Below B w y) => hid (Block_any k h l bo bc n ha hp hn i y hk ok hln (HL.below (hsz ▸ hb)) hhn (HH.below (hsz ▸ hb)) h0)
  have hbf := fun (y : World) (hb : Below B w y) => hid (BlockOf_any k h l bo bc n ha hp hn i y hk ok hln (HL.below (hsz ▸ hb)) hhn (HH.below (hsz ▸ hb)) h0)
  have hot := fun (y : World) (hb : Below B w y) => hid (OpenText_any k h l bo bc n ha hp hn y hk ok hln (HL.below (hsz ▸ hb)) hhn (HH.below (hsz ▸ hb)) h0)
  unfold blocksV at hbl hbo
  unfold BlockPost at hbk hbf
  unfold TextPost at hot
  have HFL := hid (first_look h l hhn)
  obtain ⟨R, HR⟩ : ∃ R, Hid (R = blockR k h l i) := ⟨_, rfl⟩
  have oR : Octs R := by rw [HR.out]; exact blockR_octs hoL i
  obtain ⟨BE, HBE⟩ : ∃ R, Hid (R = blockE k h l i) := ⟨_, rfl⟩
  obtain ⟨T, HT⟩ : ∃ R, Hid (R = openTR k h l) := ⟨_, rfl⟩
  have oT : Octs T := by rw [HT.out]; exact openTR_octs hoL
  obtain ⟨TE, HTE⟩ : ∃ R, Hid (R = openTE k h l) := ⟨_, rfl⟩
  simp only [← HK.out, ← HR.out, ← HBE.out] at hbk hbf
  simp only [← HK.out, ← HT.out, ← HTE.out] at hot
  obtain ⟨A1, HA1⟩ : ∃ R, Hid (R = bkN l) := ⟨_, rfl⟩
  obtain ⟨A2, HA2⟩ : ∃ R, Hid (R = mnN l) := ⟨_, rfl⟩
  obtain ⟨E0, HE0⟩ : ∃ R, Hid (R = lookE l) := ⟨_, rfl⟩
  simp only [← HA1.out, ← HA2.out, ← HE0.out] at hbl hbo
  rw [← HE0.out] at HFL
  obtain ⟨L, HL8⟩ : ∃ R, Hid (R = lookWE h l) := ⟨_, rfl⟩
  rw [← HL8.out] at HFL hE
  have hTL : TE = L := by rw [HTE.out]; unfold openTE; rw [if_pos (by rw [← HL8.out]; exact hE), HL8.out]
  have hT0 : T = [] := by rw [HT.out]; exact openTR_bad (by rw [← HTE.out, hTL]; exact hE)
  subst hTL
  subst hT0
  have hE1 : ¬ TE = 0 := hE
  have hd1 : decide (TE = 0) = false := decide_eq_false hE1
  rw [← HK.out]
  clear hk hln HL hhn HH h0 hE
  go_enter Try.func78, Try.ntmps78
  go_wp2_with (first | (go_at_call 23; refine (First_two _ _ _ _ rfl).mono ?_; rintro e wx ⟨rfl, hwx⟩; subst wx; rw [HFL.out]) | (go_at_call 21; refine (When_any _ _ _).mono ?_; rintro e wx ⟨rfl, hwx⟩; subst wx) | (go_at_call 145; refine (hot w3 bb3).out.mono ?_; rintro e w4 ⟨hb4, at_, nt, ct, rfl, hnt, hTr⟩; have hK4 := hK3.below hb4 hK3.lt; have bb4 := bb3.trans (hb4.mono (Nat.le_of_lt hK3.lt))) | (refine wl_loadG (by rfl) 23 _ rfl ⟨B, 0, none⟩ rfl 32 K hKl aggKey hK3.at0 ?_) | (go_at_call 44; refine (Equal_any ap aq cp cq np nq R R w3 hnp.out hnq.out (hPp.below hb3).row hPq.row oR oR).mono ?_; rintro e wx ⟨rfl, hwx⟩; subst wx) | (go_at_call 144; refine (hbf w2 bb2).out.mono ?_; rintro e w3 ⟨hb3, aq, nq, cq, rfl, hnq, hPq, hq0⟩; have hK3 := hK2.below hb3 hK2.lt; have bb3 := bb2.trans (hb3.mono (Nat.le_of_lt hK2.lt))) | (refine wl_loadG (by rfl) 23 _ rfl ⟨B, 0, none⟩ rfl 32 K hKl aggKey hK2.at0 ?_) | (go_at_call 143; refine (hbk w1 bb1).out.mono ?_; rintro e w2 ⟨hb2, ap, np, cp, rfl, hnp, hPp, hp0⟩; have hK2 := hK1.below hb2 hK1.lt; have bb2 := bb1.trans (hb2.mono (Nat.le_of_lt hK1.lt))) | (refine wl_loadG (by rfl) 23 _ rfl ⟨B, 0, none⟩ rfl 32 K hKl aggKey hK1.at0 ?_) | (go_at_call 142; refine (hbo w1 bb1).out.mono ?_; rintro e wx ⟨rfl, hwx⟩; subst wx) | (go_at_call 141; refine (hbl w0 bb0).out.mono ?_; rintro e w1 ⟨rfl, hb1⟩; have hK1 := hK0.below hb1 hK0.lt; have bb1 := bb0.trans (hb1.mono (Nat.le_of_lt hK0.lt))) | (refine wl_boxV rfl 23 _ rfl K rfl B hsz ?_; intro w0 hK0 bb0 hs0))
  obtain ⟨G, HG⟩ : ∃ G : World, Hid (G = w4.alloc (.cells #[.int .i64 (whenE (decide ((4096 : Int) < (hn : Int))) 5), .int .i64 E0] 27)) := ⟨_, rfl⟩
  rw [← HG.out]
  have hbG : Below w4.heap.size w4 G := by rw [HG.out]; exact (Below.refl _ _).alloc (Nat.le_refl _) _
  have hKG := hK4.below hbG hK4.lt
  have bbG := bb4.trans (hbG.mono (Nat.le_of_lt hK4.lt))
  have hTG : RowI .u8 G at_ _ := hTr.below hbG
  go_loopw [14, 19, 20] (fun f v i wr => f = .int .i64 TE ∧ v = .slice none 0 0 ∧ i = .int .i64 0 ∧ wr = G) (fun _ _ _ _ => 0)
  case atStart => exact ⟨rfl, rfl, rfl, rfl⟩
  case round =>
    obtain ⟨rfl, rfl, rfl, rfl⟩ := hrel
    have hnt0 : nt = 0 := hnt.out
    subst hnt0
    go_wp2_with fail
    go_ret
    exact ⟨rfl, by first | exact bbG | (rw [← HB.out]; exact bbG)⟩
set_option maxRecDepth 100000 in
set_option maxHeartbeats 4000000 in
theorem opened_ok (k h l : List Int) (bo : Option Addr) (bc n : Nat) (ha : Option Addr) (hp hn : Nat) (i : Int) (w : World) (hk : k.length = 32) (ok : Octs k) (hln : n = l.length) (HL : Pt.Ok w ⟨bo, bc, l⟩) (hhn : hn = h.length) (HH : Pt.Ok w ⟨ha, hp, h⟩) (h0 : ha = none → hp = 0) (hE : lookWE h l = 0) :
    Calls Try.prog 78 #[.agg (k.map (Value.int .u8)).toArray, .slice ha hn hp, .slice bo n bc, .int .i64 i] w fun e w' => e = .returned (.bool true) ∧ Below w.heap.size w w' := by
  obtain ⟨B, HB⟩ : ∃ B, Hid (B = w.heap.size) := ⟨_, rfl⟩
  have hsz : w.heap.size = B := HB.out.symm
  obtain ⟨K, HK⟩ : ∃ K, Hid (K = k.map (Value.int .u8)) := ⟨_, rfl⟩
  have hKl : K.length = 32 := by rw [HK.out, List.length_map, hk]
  have hoL : Octs l := HL.oct
  have hbl := fun (y : World) (hb : Below B w y) => hid (Blocks_any bo bc n l y hln (HL.below (hsz ▸ hb)))
  have hbo := fun (y : World) (hb : Below B w y) => hid (BlocksOf_any bo bc n l y hln (HL.below (hsz ▸ hb)))
  have hbk := fun (y : World) (hb : Below B w y) => hid (Block_any k h l bo bc n ha hp hn i y hk ok hln (HL.below (hsz ▸ hb)) hhn (HH.below (hsz ▸ hb)) h0)
  have hbf := fun (y : World) (hb : Below B w y) => hid (BlockOf_any k h l bo bc n ha hp hn i y hk ok hln (HL.below (hsz ▸ hb)) hhn (HH.below (hsz ▸ hb)) h0)
  have hot := fun (y : World) (hb : Below B w y) => hid (OpenText_any k h l bo bc n ha hp hn y hk ok hln (HL.below (hsz ▸ hb)) hhn (HH.below (hsz ▸ hb)) h0)
  unfold blocksV at hbl hbo
  unfold BlockPost at hbk hbf
  unfold TextPost at hot
  have HFL := hid (first_look h l hhn)
  obtain ⟨R, HR⟩ : ∃ R, Hid (R = blockR k h l i) := ⟨_, rfl⟩
  have oR : Octs R := by rw [HR.out]; exact blockR_octs hoL i
  obtain ⟨BE, HBE⟩ : ∃ R, Hid (R = blockE k h l i) := ⟨_, rfl⟩
  obtain ⟨T, HT⟩ : ∃ R, Hid (R = openTR k h l) := ⟨_, rfl⟩
  have oT : Octs T := by rw [HT.out]; exact openTR_octs hoL
  obtain ⟨TE, HTE⟩ : ∃ R, Hid (R = openTE k h l) := ⟨_, rfl⟩
  simp only [← HK.out, ← HR.out, ← HBE.out] at hbk hbf
  simp only [← HK.out, ← HT.out, ← HTE.out] at hot
  obtain ⟨A1, HA1⟩ : ∃ R, Hid (R = bkN l) := ⟨_, rfl⟩
  obtain ⟨A2, HA2⟩ : ∃ R, Hid (R = mnN l) := ⟨_, rfl⟩
  obtain ⟨E0, HE0⟩ : ∃ R, Hid (R = lookE l) := ⟨_, rfl⟩
  simp only [← HA1.out, ← HA2.out, ← HE0.out] at hbl hbo
  rw [← HE0.out] at HFL
  obtain ⟨hh, hl, _⟩ := seW_zero hE hoL bo n bc
  rw [hE] at HFL
  obtain ⟨_, _, hk1, hk2, hs1, _⟩ := look_nums hoL hl
  obtain ⟨M, HM⟩ : ∃ m, Hid (m = mN l) := ⟨_, rfl⟩
  have hMb : M ≤ 16385 := by rw [HM.out]; exact many_le hk1 hs1
  have hA2 : A2 = (M : Int) := by rw [HA2.out, HM.out]; unfold mnN; rw [if_pos hl]; rfl
  subst hA2
  have hbj := fun (j : Nat) (hj : j < M) (y : World) (hb : Below B w y) => hid (BlockOf_any k h l bo bc n ha hp hn (j : Int) y hk ok hln (HL.below (hsz ▸ hb)) hhn (HH.below (hsz ▸ hb)) h0)
  simp only [← HK.out] at hbj
  unfold BlockPost at hbj
  have HAT := hid (fun (j : Nat) (hj : j < M) => block_at (k := k) hh hl (by rw [← HM.out]; exact hj))
  have hol := hid (fun (j : Nat) (hj : j < M) => (openR_len hoL hl (by rw [← HM.out]; exact hj) : (openR k h l j).length ≤ 65536))
  have HTT := hid (fun (F : Int) (j : Nat) (hj : j ≤ M) (hF : F = errT k h l j) (hF0 : F ≠ 0) => (by
    have e : TE = F := by
      rw [HTE.out]; unfold openTE
      rw [if_neg (fun g => g hE), errT_keep (by rw [← hF]; exact hF0) (mN l) (by rw [← HM.out]; exact hj), hF]
    exact ⟨e, by rw [HT.out]; exact openTR_bad (by rw [← HTE.out, e]; exact hF0)⟩ : TE = F ∧ T = []))
  have HTZ := hid (fun (hF : errT k h l M = 0) => (by
    have e : TE = 0 := by rw [HTE.out]; unfold openTE; rw [if_neg (fun g => g hE), ← HM.out, hF]
    exact ⟨e, by rw [HT.out]; unfold openTR; rw [if_pos (by rw [← HTE.out, e]), ← HM.out]⟩ : TE = 0 ∧ T = textT k l M))
  rw [← HK.out]
  have hoL9 := hid hoL
  clear hk hln HL hhn HH h0 hE hh hl hk1 hk2 hs1 hoL
  go_enter Try.func78, Try.ntmps78
  go_wp2_with (first | (go_at_call 23; refine (First_two _ _ _ _ rfl).mono ?_; rintro e wx ⟨rfl, hwx⟩; subst wx; rw [HFL.out]) | (go_at_call 21; refine (When_any _ _ _).mono ?_; rintro e wx ⟨rfl, hwx⟩; subst wx) | (go_at_call 145; refine (hot w3 bb3).out.mono ?_; rintro e w4 ⟨hb4, at_, nt, ct, rfl, hnt, hTr⟩; have hK4 := hK3.below hb4 hK3.lt; have bb4 := bb3.trans (hb4.mono (Nat.le_of_lt hK3.lt))) | (refine wl_loadG (by rfl) 23 _ rfl ⟨B, 0, none⟩ rfl 32 K hKl aggKey hK3.at0 ?_) | (go_at_call 44; refine (Equal_any ap aq cp cq np nq R R w3 hnp.out hnq.out (hPp.below hb3).row hPq.row oR oR).mono ?_; rintro e wx ⟨rfl, hwx⟩; subst wx) | (go_at_call 144; refine (hbf w2 bb2).out.mono ?_; rintro e w3 ⟨hb3, aq, nq, cq, rfl, hnq, hPq, hq0⟩; have hK3 := hK2.below hb3 hK2.lt; have bb3 := bb2.trans (hb3.mono (Nat.le_of_lt hK2.lt))) | (refine wl_loadG (by rfl) 23 _ rfl ⟨B, 0, none⟩ rfl 32 K hKl aggKey hK2.at0 ?_) | (go_at_call 143; refine (hbk w1 bb1).out.mono ?_; rintro e w2 ⟨hb2, ap, np, cp, rfl, hnp, hPp, hp0⟩; have hK2 := hK1.below hb2 hK1.lt; have bb2 := bb1.trans (hb2.mono (Nat.le_of_lt hK1.lt))) | (refine wl_loadG (by rfl) 23 _ rfl ⟨B, 0, none⟩ rfl 32 K hKl aggKey hK1.at0 ?_) | (go_at_call 142; refine (hbo w1 bb1).out.mono ?_; rintro e wx ⟨rfl, hwx⟩; subst wx) | (go_at_call 141; refine (hbl w0 bb0).out.mono ?_; rintro e w1 ⟨rfl, hb1⟩; have hK1 := hK0.below hb1 hK0.lt; have bb1 := bb0.trans (hb1.mono (Nat.le_of_lt hK0.lt))) | (refine wl_boxV rfl 23 _ rfl K rfl B hsz ?_; intro w0 hK0 bb0 hs0))
  obtain ⟨G, HG⟩ : ∃ G : World, Hid (G = w4.alloc (.cells #[.int .i64 (whenE (decide ((4096 : Int) < (hn : Int))) 5), .int .i64 E0] 27)) := ⟨_, rfl⟩
  rw [← HG.out]
  have hbG : Below w4.heap.size w4 G := by rw [HG.out]; exact (Below.refl _ _).alloc (Nat.le_refl _) _
  have hKG := hK4.below hbG hK4.lt
  have bbG := bb4.trans (hbG.mono (Nat.le_of_lt hK4.lt))
  have hTG : RowI .u8 G at_ _ := hTr.below hbG
  obtain ⟨S, HS⟩ : ∃ S, Hid (S = G.heap.size) := ⟨_, rfl⟩
  have hBS : B < S := by rw [HS.out]; exact hKG.lt
  go_loopw [14, 19, 20] (fun f v i wr => ∃ (j m vc : Nat) (vo : Option Addr) (F : Int), f = .int .i64 F ∧ v = .slice vo m vc ∧ i = .int .i64 j ∧ j ≤ M ∧ Hid (F = errT k h l j) ∧ m ≤ 65536 * j ∧ (F = 0 → Hid (m = (textT k l j).length) ∧ Mine wr S 5 1 (.slice vo m vc) m ((textT k l j).map (Value.int .u8))) ∧ Below S G wr ∧ Below B w wr) (fun _ _ i _ => M - (intOf i).toNat)
  case atStart => exact ⟨0, 0, 0, none, 0, rfl, rfl, rfl, Nat.zero_le _, hid rfl, Nat.zero_le _, fun _ => ⟨hid rfl, Mine.nil _ _ _ _⟩, Below.refl _ _, bbG⟩
  case round =>
    obtain ⟨j, m, vc, vo, F, rfl, rfl, rfl, hj, HF, hm, HM1, hbr, bbr⟩ := hrel
    have hSr : S ≤ wr.heap.size := by have := hbr.size; rw [← HS.out] at this; exact this
    have hKr : BlkV 23 wr B K := hKG.below hbr hBS
    by_cases hF0 : F = 0
    · subst hF0
      obtain ⟨hml, hMi⟩ := HM1 rfl
      clear HM1
      by_cases hjM : j < M
      · have hjI : (j : Int) < (M : Int) := by omega
        obtain ⟨E, HE⟩ : ∃ E, Hid (E = openE' k h l j) := ⟨_, rfl⟩
        obtain ⟨X, HX⟩ : ∃ X, Hid (X = openR k h l j) := ⟨_, rfl⟩
        have hXl : X.length ≤ 65536 := by rw [HX.out]; exact hol.out j hjM
        have hbjj := fun (y : World) (hb : Below B w y) => hbj j hjM y hb
        simp only [(HAT.out j hjM).1, (HAT.out j hjM).2, ← HE.out, ← HX.out] at hbjj
        obtain ⟨Y, HY⟩ : ∃ Y, Hid (Y = textT k l j) := ⟨_, rfl⟩
        have HN : Hid (E = errT k h l (j + 1)) := hid (by rw [errT_step HF.out.symm]; exact HE.out)
        have HS1 := hid (fun (hE0 : E = 0) => (by rw [textT_succ, HY.out, HX.out]; unfold openR; rw [← HE.out, if_pos hE0] : textT k l (j + 1) = Y ++ X))
        rw [← HY.out] at hml hMi
        clear hbj
        go_wp2_with (first | (at_builtin; refine wl_appendS rfl _ _ 69 rfl 5 (.int .u8 0) 1 1 Try.underlying69 info8 rfl (by decide) S (.slice vo m vc) m _ rfl (Mine.belowAll hMi hb5) ao5 n5 c5 rfl hno5 (X.map (Value.int .u8)) (by rw [List.length_map, hn5.out, Nat.mul_one]) hP5.row.v (ints_one _ _) (by unfold maxLen; omega) (by omega) hS5 (m + n5) rfl ?_; intro ao6 c6 w6 row6 hc6 hM6 hv6 hg6 hr6) | (go_at_call 144; refine (hbjj wr bbr).out.mono ?_; rintro e w5 ⟨hb5, ao5, n5, c5, rfl, hn5, hP5, hno5⟩; have hn6 : n5 ≤ 65536 := (by rw [hn5.out]; exact hXl); have hS5 := Nat.le_trans hSr hb5.size) | (refine wl_loadG (by rfl) 23 _ rfl ⟨B, 0, none⟩ rfl 32 K hKl aggKey hKr.at0 ?_))
        go_roundw
        case rel =>
          rw [← List.map_append] at hM6
          exact ⟨j + 1, m + n5, c6, ao6, E, rfl, rfl, by go_num, by omega, HN, by omega, fun e => ⟨hid (by rw [HS1.out e, List.length_append, ← hml.out, ← hn5.out]), by rw [HS1.out e]; exact hM6⟩, (hbr.trans (hb5.mono hSr)).grown hg6 hS5 (fun k hk => (hr6 k hk).1), (bbr.trans (hb5.mono (by omega))).grown hg6 (by omega) (fun k hk => by have := (hr6 k hk).1; omega)⟩
        case measure => simp [intOf] <;> omega
      · obtain rfl : j = M := by omega
        obtain ⟨e1, e2⟩ := HTZ.out HF.out.symm
        subst e1
        have HT2 := hid e2
        obtain ⟨ao2, c2, e3, _, h3⟩ := hMi.row
        cases e3
        have hRx : RowI .u8 wr vo (textT k l j) := RowV.i h3
        rw [← HT2.out] at hRx hml
        have hRt : RowI .u8 wr at_ T := hTG.below (by rw [← HS.out]; exact hbr)
        clear hbj e2 h3
        go_wp2_with (go_at_call 44; refine (Equal_any at_ vo ct vc nt m T T wr hnt.out hml.out hRt hRx oT oT).mono ?_; rintro e wx ⟨rfl, hwx⟩; subst wx)
        go_ret
        exact ⟨by simp, by first | exact bbr | (rw [← HB.out]; exact bbr)⟩
    · obtain ⟨e1, e2⟩ := HTT.out F j hj HF.out hF0
      subst e2
      subst e1
      have hnt0 : nt = 0 := hnt.out
      subst hnt0
      have hd1 : decide (TE = 0) = false := decide_eq_false hF0
      clear hbj HM1
      go_wp2_with fail
      go_ret
      exact ⟨by simp, by first | exact bbr | (rw [← HB.out]; exact bbr)⟩
theorem opened_any (k h l : List Int) (bo : Option Addr) (bc n : Nat) (ha : Option Addr) (hp hn : Nat) (i : Int) (w : World) (hk : k.length = 32) (ok : Octs k) (hln : n = l.length) (HL : Pt.Ok w ⟨bo, bc, l⟩) (hhn : hn = h.length) (HH : Pt.Ok w ⟨ha, hp, h⟩) (h0 : ha = none → hp = 0) :
    Calls Try.prog 78 #[.agg (k.map (Value.int .u8)).toArray, .slice ha hn hp, .slice bo n bc, .int .i64 i] w fun e w' => e = .returned (.bool true) ∧ Below w.heap.size w w' := by
  by_cases hE : lookWE h l = 0
  · exact opened_ok k h l bo bc n ha hp hn i w hk ok hln HL hhn HH h0 hE
  · exact opened_bad k h l bo bc n ha hp hn i w hk ok hln HL hhn HH h0 hE
end Go.Proofs.Ytbljihhelladbaa.wr
