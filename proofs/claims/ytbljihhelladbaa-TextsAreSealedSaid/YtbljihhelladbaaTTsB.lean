/-
  Contracts of blockTag, of package wrap and of keyref2. Conditions: keys and nonces of octets; texts that together have at most 2^20 octets.
-/
import Derived.Test.YtbljihhelladbaaTTsA
namespace Go.Proofs.Ytbljihhelladbaa.wr
open Go.RowKit Go.Proofs.Ytbljihhelladbaa.st Go.Proofs.Ytbljihhelladbaa.hs Go.Proofs.Ytbljihhelladbaa.shr Go.Proofs.Ytbljihhelladbaa.sh
set_option linter.unusedSimpArgs false
set_option linter.unusedVariables false
set_option pp.maxSteps 6000
set_option maxRecDepth 100000 in
set_option maxHeartbeats 8000000 in
theorem BTag_any (k h f c : List Int) (i : Int) (ha fa ca : Option Addr) (hp fp cp hn fn cn : Nat) (w : World) (hk : k.length = 32) (ok : Octs k) (hi : 0 ≤ i ∧ i ≤ 4611686018427387904) (hhn : hn = h.length) (hfn : fn = f.length) (hcn : cn = c.length) (HH : Pt.Ok w ⟨ha, hp, h⟩) (HF : Pt.Ok w ⟨fa, fp, f⟩) (HC : Pt.Ok w ⟨ca, cp, c⟩) (h0 : ha = none → hp = 0) (f0 : fa = none → fp = 0) (c0 : ca = none → cp = 0) (hlen : h.length + f.length + c.length ≤ 1000000) :
    Calls Try.prog 136 #[.agg (k.map (Value.int .u8)).toArray, .slice ha hn hp, .slice fa fn fp, .int .i64 i, .slice ca cn cp] w fun e w' => e = .returned (.agg ((tagB k h f i c).map (Value.int .u8)).toArray) ∧ Below w.heap.size w w' := by
  obtain ⟨B, HB⟩ : ∃ B, Hid (B = w.heap.size) := ⟨_, rfl⟩
  have hsz : w.heap.size = B := HB.out.symm
  obtain ⟨Z, HZ⟩ : ∃ Z, Hid (Z = zSum) := ⟨_, rfl⟩
  have hz := hid zeroSumZ
  rw [← HZ.out] at hz
  have hZl : Z.length = 32 := by rw [HZ.out]; simp [zSum]
  obtain ⟨K, HK⟩ : ∃ K, Hid (K = k.map (Value.int .u8)) := ⟨_, rfl⟩
  have hKl : K.length = 32 := by rw [HK.out, List.length_map, hk]
  obtain ⟨Y, HY⟩ : ∃ Z, Hid (Z = (List.replicate 16 (0 : Int)).map (Value.int .u8)) := ⟨_, rfl⟩
  have hz16 := hid zeroTag
  rw [← HY.out] at hz16
  have hYl : Y.length = 16 := by rw [HY.out]; simp
  obtain ⟨s, Hs⟩ : ∃ s, Hid (s = tagM h f i c) := ⟨_, rfl⟩
  have hsl : s.length = 32 := by rw [Hs.out]; exact sumL_length _ _
  have os : Octs s := by rw [Hs.out]; exact sumL_octs _ _
  obtain ⟨S, HS⟩ : ∃ S : List Value, Hid (S = s.map (Value.int .u8)) := ⟨_, rfl⟩
  have hSl : S.length = 32 := by rw [HS.out, List.length_map, hsl]
  have hS1 : ∀ u ∈ S, u.oneCell' = true := by rw [HS.out]; exact ints_one _ _
  obtain ⟨N, HN⟩ : ∃ S : List Value, Hid (S = (tagB k h f i c).map (Value.int .u8)) := ⟨_, rfl⟩
  have hNl : N.length = 16 := by rw [HN.out, List.length_map, tagB_length]
  have hN1 : ∀ u ∈ N, u.oneCell' = true := by rw [HN.out]; exact ints_one _ _
  have halS : Try.prog.arrayLen 73 = 32 := by kernel_rfl
  have huK := Try.underlying23
  have hiK : (Try.prog.info? 23).map (·.size) = some K.length := by rw [hKl]; exact aggKey.2
  have HHH := fun y (hb : Below B w y) => hid (HH.below (hsz ▸ hb))
  have HFF := fun y (hb : Below B w y) => hid (HF.below (hsz ▸ hb))
  have HCC := fun y (hb : Below B w y) => hid (HC.below (hsz ▸ hb))
  have HL := hid hlen
  have HSS := hid hsl
  have hpl := fun y => hid (PutLong_any none 0 0 [] i y rfl (RowI.nil _ _ _) (fun b h => by cases h) (fun _ => rfl) (by decide) hi)
  simp only [List.nil_append, Nat.zero_add] at hpl
  have hsum := fun (y : World) (hb : Below B w y) (D c8 : Nat) (a8 : Option Addr) (h8 : Pt.Ok y ⟨a8, c8, o8 i⟩) (hD : BlkV 69 y D [.slice ha hn hp, .slice fa fn fp, .slice a8 8 c8, .slice ca cn cp]) => hid (sums_in 0 oct0 (some ⟨D, 0, none⟩) 4 4 [⟨ha, hp, h⟩, ⟨fa, fp, f⟩, ⟨a8, c8, o8 i⟩, ⟨ca, cp, c⟩] y rfl (by decide) (by
    have hD' : BlkV 69 y D [Pt.v ⟨ha, hp, h⟩, Pt.v ⟨fa, fp, f⟩, Pt.v ⟨a8, c8, o8 i⟩, Pt.v ⟨ca, cp, c⟩] := by unfold Pt.v; simp only [o8_length, ← hhn, ← hfn, ← hcn]; exact hD
    exact four_row hD') (fun x hx => by
      simp only [List.mem_cons, List.not_mem_nil, or_false] at hx
      rcases hx with rfl | rfl | rfl | rfl
      · exact (HHH y hb).out
      · exact (HFF y hb).out
      · exact h8
      · exact (HCC y hb).out) (by rw [framed_frm]; show (frm [h, f, o8 i, c]).length ≤ _; rw [frm4_length]; have := HL.out; omega))
  simp only [framed_frm, List.map_cons, List.map_nil] at hsum
  have hse : sumL 0 (frm [h, f, o8 i, c]) = s := Hs.out.symm
  simp only [hse, ← HS.out] at hsum
  have htg := fun (y : World) (g : Nat) (hE : BlkV 73 y g S) => hid (TagOf_in k hk ok (some ⟨g, 0, none⟩) 32 32 s y HSS.out.symm (pt_of HS.out hE HSS.out (by decide) os) (by decide))
  have hte : tagL k s = tagB k h f i c := by rw [Hs.out]; rfl
  simp only [hte, ← HN.out, ← HK.out] at htg
  rw [← HK.out, ← HN.out]
  clear hte hse hk hhn hfn hcn hlen hsl HH HF HC h0 f0 c0
  go_enter Try.func136, Try.ntmps136
  go_wp2_with (first | (refine wl_storeG rfl 73 _ _ rfl 73 g4 rfl S rfl 32 aggSumT hSl Z hT4 hZl hS1 ?_; intro x5 hT5 hbx5 hgx5 hsx5; have hA5 := hA4.grown hgx5 (by intro e; injection e with e; omega); have hR5 := hR4.grown hgx5 (by intro e; injection e with e; omega); have bb5 := bb4.trans (hbx5.mono (by omega : B ≤ _)); have hs5 : B + 2 ≤ x5.heap.size := (by rw [hsx5]; exact hs4); clear hsx5) | (obtain ⟨g4, Hg4, hg4⟩ : ∃ g, Hid (x3.heap.size = g) ∧ B + 2 ≤ g := ⟨_, rfl, hs3⟩; refine wl_allocV rfl 73 rfl Z hz.out g4 Hg4.out ?_; intro x4 hT4 hbx4 hsx4; have hbf4 : Below x3.heap.size x3 x4 := (by rw [Hg4.out]; exact hbx4); have hA4 := hA3.below hbf4 hA3.lt; have hR4 := hR3.below hbf4 hR3.lt; have bb4 := bb3.trans (hbf4.mono (Nat.le_trans (by omega : B ≤ B + 2) hs3)); have hs4 := Nat.le_trans hs3 hbf4.size; clear hsx4 hbx4) | (go_at_call 114; refine ((hsum x2 bb2 g2 c8 a8 hP2 hD2).out).mono ?_; rintro e x3 ⟨rfl, hbf3⟩; have hA3 := hA2.below hbf3 hA2.lt; have hR3 := hR2.below hbf3 hR2.lt; have bb3 := bb2.trans (hbf3.mono (Nat.le_trans (by omega : B ≤ B + 2) hs2)); have hs3 := Nat.le_trans hs2 hbf3.size) | (obtain ⟨g2, Hg2, hg2⟩ : ∃ g, Hid (x1.heap.size = g) ∧ B + 2 ≤ g := ⟨_, rfl, hs1⟩; refine wl_lit rfl 82 69 4 _ rfl Try.underlying82 (.slice none 0 0) 1 24 ck.infoBB (by decide) (by decide) [.slice ha hn hp, .slice fa fn fp, .slice a8 8 c8, .slice ca cn cp] (by kernel_rfl) g2 Hg2.out ?_; intro x2 hD2 hbx2 hsx2; have hbf2 : Below x1.heap.size x1 x2 := (by rw [Hg2.out]; exact hbx2); have hA2 := hA1.below hbf2 hA1.lt; have hR2 := hR1.below hbf2 hR1.lt; have hP2 := hP1.below hbf2; have bb2 := bb1.trans (hbf2.mono (Nat.le_trans (by omega : B ≤ B + 2) hs1)); have hs2 := Nat.le_trans hs1 hbf2.size; clear hsx2 hbx2) | (go_at_call 131; refine ((hpl x0).out).mono ?_; rintro e x1 ⟨a8, c8, rfl, hM1, hbf1⟩; have hA1 := hA0.below hbf1 hA0.lt; have hR1 := hR0.below hbf1 hR0.lt; have bb1 := bb0.trans (hbf1.mono (Nat.le_trans (by omega : B ≤ B + 2) hs0)); have hs1 := Nat.le_trans hs0 hbf1.size; have hP1 := (mine_pt hM1 (by rfl) (by decide) (o8_octs i)).1) | (refine wl_allocV rfl 105 rfl Y hz16.out (B + 1) hsa ?_; intro x0 hR0 hbb hsb; have hA0 := hAa.below hbb (by omega); have bb0 := hba.trans (hbb.mono (by omega : B ≤ _)); have hs0 : B + 2 ≤ x0.heap.size := (by omega); clear hAa hba hbb hsa hsb) | (refine wl_boxV rfl 23 _ rfl K rfl B hsz ?_; intro wa hAa hba hsa))
  refine wp_region_held_drew (S := (fun w' => BlkV 23 w' B K)) (by kernel_rfl) hA5 (fun hHeld => ?_)
  obtain ⟨x6, HX⟩ : ∃ x, Hid (x = x5.drew) := ⟨_, rfl⟩
  rw [← HX.out] at hHeld ⊢
  have hA6 : BlkV 23 x6 B K := by rw [HX.out]; exact hA5
  have hR6 : BlkV 105 x6 (B + 1) Y := by rw [HX.out]; exact hR5
  have hT6 : BlkV 73 x6 g4 S := by rw [HX.out]; exact hT5
  have bb6 : Below B w x6 := by rw [HX.out]; exact bb5.drew
  have hs6 : B + 2 ≤ x6.heap.size := by rw [HX.out]; exact hs5
  refine tkR 0 rfl (yieldsIf_load_mid (by rfl) 23 _ rfl B 0 rfl K _ (fun w hS => at_range hS.at0) huK rfl hiK) (by assumption) ?_
  try simp only [Act.put, sArr, sZ, sS]
  refine tkP 1 rfl (by assumption) ⟨?_, ?_, ?_⟩
  rotate_left
  · intro w hSw; (try dsimp only at hSw); go_simp; (try with_reducible rfl)
  try simp only [Act.put, sArr, sZ, sS]
  refine wpAnyH_ready (rs := [2, 6]) (by kernel_rfl) (by simp) (cons_l rfl (fun K' hK' => ?_) (cons_l rfl (fun K' hK' => ?_) AllReadyH.nil))
  · rw [if_pos (by rfl)]
    go_simp
    go_at_call 185
    refine ((htg x6 g4 hT6).out).mono ?_
    rintro e x7 ⟨rfl, hbf7⟩
    have hA7 := hA6.below hbf7 hA6.lt
    have hR7 := hR6.below hbf7 hR6.lt
    have hT7 := hT6.below hbf7 hT6.lt
    have bb7 := bb6.trans (hbf7.mono (Nat.le_trans (by omega : B ≤ B + 2) hs6))
    have hs7 := Nat.le_trans hs6 hbf7.size
    refine hK'.out _ _ hA7 (fun hHeld => ?_)
    clear hK' K'
    try simp only [Act.put, sArr, sZ, sS]
    refine tkP 3 rfl (by assumption) ⟨?_, ?_, ?_⟩
    rotate_left
    · intro w hSw; (try dsimp only at hSw); go_simp; (try with_reducible rfl)
    try simp only [Act.put, sArr, sZ, sS]
    refine tkP 4 rfl (by assumption) ⟨?_, ?_, ?_⟩
    rotate_left
    · intro w hSw; (try dsimp only at hSw); go_simp; (try with_reducible rfl)
    try simp only [Act.put, sArr, sZ, sS]
    refine tkP 5 rfl (by assumption) ⟨?_, ?_, ?_⟩
    rotate_left
    · intro w hSw; (try dsimp only at hSw); go_simp; (try with_reducible rfl)
    try simp only [Act.put, sArr, sZ, sS]
    refine wpAnyH_ready (rs := [6]) (by kernel_rfl) (by simp) (cons_l rfl (fun K' hK' => ?_) AllReadyH.nil)
    obtain ⟨g8, Hg8, hg8⟩ : ∃ g, Hid (x7.heap.size = g) ∧ B + 2 ≤ g := ⟨_, rfl, hs7⟩
    refine step_allocV rfl 105 rfl Y hz16.out g8 Hg8.out ?_
    intro x8 hV8 hbx8 hsx8
    have hbf8 : Below x7.heap.size x7 x8 := (by rw [Hg8.out]; exact hbx8)
    have hA8 := hA7.below hbf8 hA7.lt
    have hR8 := hR7.below hbf8 hR7.lt
    have hT8 := hT7.below hbf8 hT7.lt
    have bb8 := bb7.trans (hbf8.mono (Nat.le_trans (by omega : B ≤ B + 2) hs7))
    have hs8 := Nat.le_trans hs7 hbf8.size
    clear hsx8 hbx8
    refine hK'.out _ _ hA8 (fun hHeld => ?_)
    clear hK' K'
    try simp only [Act.put, sArr, sZ, sS]
    refine wpAnyH_ready (rs := [7]) (by kernel_rfl) (by simp) (cons_l rfl (fun K' hK' => ?_) AllReadyH.nil)
    refine ck.step_storeG rfl 105 _ _ rfl 105 g8 rfl N rfl 16 aggTag hNl Y hV8 hYl hN1 ?_
    intro x9 hV9 hbx9 hgx9 hsx9
    have hA9 := hA8.grown hgx9 (by intro e; injection e with e; omega)
    have hR9 := hR8.grown hgx9 (by intro e; injection e with e; omega)
    have bb9 := bb8.trans (hbx9.mono (by omega : B ≤ _))
    have hs9 : B + 2 ≤ x9.heap.size := (by rw [hsx9]; exact hs8)
    clear hsx9
    refine hK'.out _ _ hA9 (fun hHeld => ?_)
    clear hK' K'
    try simp only [Act.put, sArr, sZ, sS]
    refine tkP 8 rfl (by assumption) ⟨?_, ?_, ?_⟩
    rotate_left
    · intro w hSw; (try dsimp only at hSw); go_simp; (try with_reducible rfl)
    try simp only [Act.put, sArr, sZ, sS]
    refine wpAnyH_done (by kernel_rfl) ?_ _
    clear hHeld
    go_wp2_with (first | (refine wl_storeV rfl 105 _ _ rfl 105 (B + 1) rfl N rfl 16 aggTag hNl Y hR9 hYl hN1 ?_; intro wF hRF hbF hsF) | (refine wl_load rfl 105 _ rfl ⟨g8, 0, none⟩ rfl N (by rw [hNl]; exact aggTag) hV9.at0 ?_))
    (try simp only [Exit.inBlock, Exit.then]); refine bodyPost_ret (results_cell rfl _ _ _ _ rfl N (by rw [hNl]; exact aggTag) hRF.at0) rfl ?_
    exact ⟨rfl, by first | exact bb9.trans (hbF.mono (by omega)) | (rw [hsz]; exact bb9.trans (hbF.mono (by omega)))⟩
  · obtain ⟨g7, Hg7, hg7⟩ : ∃ g, Hid (x6.heap.size = g) ∧ B + 2 ≤ g := ⟨_, rfl, hs6⟩
    refine step_allocV rfl 105 rfl Y hz16.out g7 Hg7.out ?_
    intro x7 hV7 hbx7 hsx7
    have hbf7 : Below x6.heap.size x6 x7 := (by rw [Hg7.out]; exact hbx7)
    have hA7 := hA6.below hbf7 hA6.lt
    have hR7 := hR6.below hbf7 hR6.lt
    have hT7 := hT6.below hbf7 hT6.lt
    have bb7 := bb6.trans (hbf7.mono (Nat.le_trans (by omega : B ≤ B + 2) hs6))
    have hs7 := Nat.le_trans hs6 hbf7.size
    clear hsx7 hbx7
    refine hK'.out _ _ hA7 (fun hHeld => ?_)
    clear hK' K'
    try simp only [Act.put, sArr, sZ, sS]
    refine wpAnyH_ready (rs := [2]) (by kernel_rfl) (by simp) (cons_l rfl (fun K' hK' => ?_) AllReadyH.nil)
    rw [if_pos (by rfl)]
    go_simp
    go_at_call 185
    refine ((htg x7 g4 hT7).out).mono ?_
    rintro e x8 ⟨rfl, hbf8⟩
    have hA8 := hA7.below hbf8 hA7.lt
    have hR8 := hR7.below hbf8 hR7.lt
    have hT8 := hT7.below hbf8 hT7.lt
    have hV8 := hV7.below hbf8 hV7.lt
    have bb8 := bb7.trans (hbf8.mono (Nat.le_trans (by omega : B ≤ B + 2) hs7))
    have hs8 := Nat.le_trans hs7 hbf8.size
    refine hK'.out _ _ hA8 (fun hHeld => ?_)
    clear hK' K'
    try simp only [Act.put, sArr, sZ, sS]
    refine tkP 3 rfl (by assumption) ⟨?_, ?_, ?_⟩
    rotate_left
    · intro w hSw; (try dsimp only at hSw); go_simp; (try with_reducible rfl)
    try simp only [Act.put, sArr, sZ, sS]
    refine tkP 4 rfl (by assumption) ⟨?_, ?_, ?_⟩
    rotate_left
    · intro w hSw; (try dsimp only at hSw); go_simp; (try with_reducible rfl)
    try simp only [Act.put, sArr, sZ, sS]
    refine tkP 5 rfl (by assumption) ⟨?_, ?_, ?_⟩
    rotate_left
    · intro w hSw; (try dsimp only at hSw); go_simp; (try with_reducible rfl)
    try simp only [Act.put, sArr, sZ, sS]
    refine wpAnyH_ready (rs := [7]) (by kernel_rfl) (by simp) (cons_l rfl (fun K' hK' => ?_) AllReadyH.nil)
    refine ck.step_storeG rfl 105 _ _ rfl 105 g7 rfl N rfl 16 aggTag hNl Y hV8 hYl hN1 ?_
    intro x9 hV9 hbx9 hgx9 hsx9
    have hA9 := hA8.grown hgx9 (by intro e; injection e with e; omega)
    have hR9 := hR8.grown hgx9 (by intro e; injection e with e; omega)
    have bb9 := bb8.trans (hbx9.mono (by omega : B ≤ _))
    have hs9 : B + 2 ≤ x9.heap.size := (by rw [hsx9]; exact hs8)
    clear hsx9
    refine hK'.out _ _ hA9 (fun hHeld => ?_)
    clear hK' K'
    try simp only [Act.put, sArr, sZ, sS]
    refine tkP 8 rfl (by assumption) ⟨?_, ?_, ?_⟩
    rotate_left
    · intro w hSw; (try dsimp only at hSw); go_simp; (try with_reducible rfl)
    try simp only [Act.put, sArr, sZ, sS]
    refine wpAnyH_done (by kernel_rfl) ?_ _
    clear hHeld
    go_wp2_with (first | (refine wl_storeV rfl 105 _ _ rfl 105 (B + 1) rfl N rfl 16 aggTag hNl Y hR9 hYl hN1 ?_; intro wF hRF hbF hsF) | (refine wl_load rfl 105 _ rfl ⟨g7, 0, none⟩ rfl N (by rw [hNl]; exact aggTag) hV9.at0 ?_))
    (try simp only [Exit.inBlock, Exit.then]); refine bodyPost_ret (results_cell rfl _ _ _ _ rfl N (by rw [hNl]; exact aggTag) hRF.at0) rfl ?_
    exact ⟨rfl, by first | exact bb9.trans (hbF.mono (by omega)) | (rw [hsz]; exact bb9.trans (hbF.mono (by omega)))⟩
set_option maxRecDepth 100000 in
set_option maxHeartbeats 8000000 in
theorem RefBTag_any (k h f c : List Int) (i : Int) (ha fa ca : Option Addr) (hp fp cp hn fn cn : Nat) (w : World) (hk : k.length = 32) (ok : Octs k) (hi : 0 ≤ i ∧ i ≤ 4611686018427387904) (hhn : hn = h.length) (hfn : fn = f.length) (hcn : cn = c.length) (HH : Pt.Ok w ⟨ha, hp, h⟩) (HF : Pt.Ok w ⟨fa, fp, f⟩) (HC : Pt.Ok w ⟨ca, cp, c⟩) (h0 : ha = none → hp = 0) (f0 : fa = none → fp = 0) (c0 : ca = none → cp = 0) (hlen : h.length + f.length + c.length ≤ 1000000) :
    Calls Try.prog 140 #[.agg (k.map (Value.int .u8)).toArray, .slice ha hn hp, .slice fa fn fp, .slice ca cn cp, .int .i64 i] w fun e w' => e = .returned (.agg ((tagB k h f i c).map (Value.int .u8)).toArray) ∧ Below w.heap.size w w' := by
  obtain ⟨B, HB⟩ : ∃ B, Hid (B = w.heap.size) := ⟨_, rfl⟩
  have hsz : w.heap.size = B := HB.out.symm
  obtain ⟨Z, HZ⟩ : ∃ Z, Hid (Z = zSum) := ⟨_, rfl⟩
  have hz := hid zeroSumZ
  rw [← HZ.out] at hz
  have hZl : Z.length = 32 := by rw [HZ.out]; simp [zSum]
  obtain ⟨K, HK⟩ : ∃ K, Hid (K = k.map (Value.int .u8)) := ⟨_, rfl⟩
  have hKl : K.length = 32 := by rw [HK.out, List.length_map, hk]
  obtain ⟨Y, HY⟩ : ∃ Z, Hid (Z = (List.replicate 16 (0 : Int)).map (Value.int .u8)) := ⟨_, rfl⟩
  have hz16 := hid zeroTag
  rw [← HY.out] at hz16
  have hYl : Y.length = 16 := by rw [HY.out]; simp
  obtain ⟨s, Hs⟩ : ∃ s, Hid (s = tagM h f i c) := ⟨_, rfl⟩
  have hsl : s.length = 32 := by rw [Hs.out]; exact sumL_length _ _
  have os : Octs s := by rw [Hs.out]; exact sumL_octs _ _
  obtain ⟨S, HS⟩ : ∃ S : List Value, Hid (S = s.map (Value.int .u8)) := ⟨_, rfl⟩
  have hSl : S.length = 32 := by rw [HS.out, List.length_map, hsl]
  have hS1 : ∀ u ∈ S, u.oneCell' = true := by rw [HS.out]; exact ints_one _ _
  obtain ⟨N, HN⟩ : ∃ S : List Value, Hid (S = (tagB k h f i c).map (Value.int .u8)) := ⟨_, rfl⟩
  have hNl : N.length = 16 := by rw [HN.out, List.length_map, tagB_length]
  have hN1 : ∀ u ∈ N, u.oneCell' = true := by rw [HN.out]; exact ints_one _ _
  have halS : Try.prog.arrayLen 73 = 32 := by kernel_rfl
  have huK := Try.underlying23
  have hiK : (Try.prog.info? 23).map (·.size) = some K.length := by rw [hKl]; exact aggKey.2
  have HHH := fun y (hb : Below B w y) => hid (HH.below (hsz ▸ hb))
  have HFF := fun y (hb : Below B w y) => hid (HF.below (hsz ▸ hb))
  have HCC := fun y (hb : Below B w y) => hid (HC.below (hsz ▸ hb))
  have HL := hid hlen
  have HSS := hid hsl
  have hpl := fun y => hid (Octets_any i 8 y (by decide))
  simp only [octN_eight] at hpl
  obtain ⟨F, HFr⟩ : ∃ F, Hid (F = frm [h, f, o8 i, c]) := ⟨_, rfl⟩
  obtain ⟨m, Hm⟩ : ∃ m, Hid (m = F.length) := ⟨_, rfl⟩
  have hm1 : m ≤ 1000024 := by rw [Hm.out, HFr.out, frm4_length]; omega
  have hm0 : 0 < m := by rw [Hm.out, HFr.out, frm4_length]; omega
  have oF : Octs F := by rw [HFr.out]; exact frm_octs _ (fun l hl => by
      simp only [List.mem_cons, List.not_mem_nil, or_false] at hl
      rcases hl with rfl | rfl | rfl | rfl
      · exact HH.oct
      · exact HF.oct
      · exact o8_octs i
      · exact HC.oct)
  have hfr := fun (y : World) (hb : Below B w y) (D c8 : Nat) (a8 : Option Addr) (h8 : Pt.Ok y ⟨a8, c8, o8 i⟩) (hD : BlkV 69 y D [.slice ha hn hp, .slice fa fn fp, .slice a8 8 c8, .slice ca cn cp]) (h80 : a8 = none → c8 = 0) => hid (framedR (some ⟨D, 0, none⟩) 4 4 [⟨ha, hp, h⟩, ⟨fa, fp, f⟩, ⟨a8, c8, o8 i⟩, ⟨ca, cp, c⟩] y rfl (by decide) (by
    have hD' : BlkV 69 y D [Pt.v ⟨ha, hp, h⟩, Pt.v ⟨fa, fp, f⟩, Pt.v ⟨a8, c8, o8 i⟩, Pt.v ⟨ca, cp, c⟩] := by unfold Pt.v; simp only [o8_length, ← hhn, ← hfn, ← hcn]; exact hD
    exact four_row hD') (fun x hx => by
      simp only [List.mem_cons, List.not_mem_nil, or_false] at hx
      rcases hx with rfl | rfl | rfl | rfl
      · exact (HHH y hb).out
      · exact (HFF y hb).out
      · exact h8
      · exact (HCC y hb).out) (fun x hx => by
      simp only [List.mem_cons, List.not_mem_nil, or_false] at hx
      rcases hx with rfl | rfl | rfl | rfl
      · exact h0
      · exact f0
      · exact h80
      · exact c0) (by rw [framed_frm]; show (frm [h, f, o8 i, c]).length ≤ _; rw [frm4_length]; have := HL.out; omega))
  simp only [framed_frm, List.map_cons, List.map_nil, ← HFr.out, ← Hm.out] at hfr
  have hsum := fun (y : World) (a : Option Addr) (c' : Nat) (hP : Pt.Ok y ⟨a, c', F⟩) (hh : a = none → c' = 0 ∧ m = 0) => hid (sumR 0 oct0 a c' m F y Hm.out hP hh (by omega))
  have hse : sumL 0 F = s := by rw [HFr.out]; exact Hs.out.symm
  simp only [hse, ← HS.out] at hsum
  have htg := fun (y : World) (g : Nat) (hE : BlkV 73 y g S) => hid (RefTag_any k hk ok (some ⟨g, 0, none⟩) 32 32 s y HSS.out.symm (pt_of HS.out hE HSS.out (by decide) os) (fun hh => by cases hh) (by decide))
  have hte : tagL k s = tagB k h f i c := by rw [Hs.out]; rfl
  simp only [hte, ← HN.out, ← HK.out] at htg
  rw [← HK.out, ← HN.out]
  clear hte hse hk hhn hfn hcn hlen hsl HH HF HC h0 f0 c0
  go_enter Try.func140, Try.ntmps140
  go_wp2_with (first | (refine wl_storeG rfl 73 _ _ rfl 73 g5 rfl S rfl 32 aggSumT hSl Z hT5 hZl hS1 ?_; intro x6 hT6 hbx6 hgx6 hsx6; have hA6 := hA5.grown hgx6 (by intro e; injection e with e; omega); have hR6 := hR5.grown hgx6 (by intro e; injection e with e; omega); have bb6 := bb5.trans (hbx6.mono (by omega : B ≤ _)); have hs6 : B + 2 ≤ x6.heap.size := (by rw [hsx6]; exact hs5); clear hsx6) | (obtain ⟨g5, Hg5, hg5⟩ : ∃ g, Hid (x4.heap.size = g) ∧ B + 2 ≤ g := ⟨_, rfl, hs4⟩; refine wl_allocV rfl 73 rfl Z hz.out g5 Hg5.out ?_; intro x5 hT5 hbx5 hsx5; have hbf5 : Below x4.heap.size x4 x5 := (by rw [Hg5.out]; exact hbx5); have hA5 := hA4.below hbf5 hA4.lt; have hR5 := hR4.below hbf5 hR4.lt; have bb5 := bb4.trans (hbf5.mono (Nat.le_trans (by omega : B ≤ B + 2) hs4)); have hs5 := Nat.le_trans hs4 hbf5.size; clear hsx5 hbx5) | (go_at_call 51; refine ((hsum x3 af cf hQ3 hnf).out).mono ?_; rintro e x4 ⟨rfl, hbf4⟩; have hA4 := hA3.below hbf4 hA3.lt; have hR4 := hR3.below hbf4 hR3.lt; have bb4 := bb3.trans (hbf4.mono (Nat.le_trans (by omega : B ≤ B + 2) hs3)); have hs4 := Nat.le_trans hs3 hbf4.size) | (go_at_call 52; refine ((hfr x2 bb2 g2 8 a8 hP2 hD2 hn8).out).mono ?_; rintro e x3 ⟨af, cf, rfl, hM3, hbf3⟩; have hA3 := hA2.below hbf3 hA2.lt; have hR3 := hR2.below hbf3 hR2.lt; have bb3 := bb2.trans (hbf3.mono (Nat.le_trans (by omega : B ≤ B + 2) hs2)); have hs3 := Nat.le_trans hs2 hbf3.size; obtain ⟨hQ3, hnf⟩ := mine_pt hM3 Hm.out hm0 oF) | (obtain ⟨g2, Hg2, hg2⟩ : ∃ g, Hid (x1.heap.size = g) ∧ B + 2 ≤ g := ⟨_, rfl, hs1⟩; refine wl_lit rfl 82 69 4 _ rfl Try.underlying82 (.slice none 0 0) 1 24 ck.infoBB (by decide) (by decide) [.slice ha hn hp, .slice fa fn fp, .slice a8 8 8, .slice ca cn cp] (by kernel_rfl) g2 Hg2.out ?_; intro x2 hD2 hbx2 hsx2; have hbf2 : Below x1.heap.size x1 x2 := (by rw [Hg2.out]; exact hbx2); have hA2 := hA1.below hbf2 hA1.lt; have hR2 := hR1.below hbf2 hR1.lt; have hP2 := hP1.below hbf2; have bb2 := bb1.trans (hbf2.mono (Nat.le_trans (by omega : B ≤ B + 2) hs1)); have hs2 := Nat.le_trans hs1 hbf2.size; clear hsx2 hbx2) | (go_at_call 112; refine ((hpl x0).out).mono ?_; rintro e x1 ⟨rfl, hI1, hbf1⟩; have hA1 := hA0.below hbf1 hA0.lt; have hR1 := hR0.below hbf1 hR0.lt; have bb1 := bb0.trans (hbf1.mono (Nat.le_trans (by omega : B ≤ B + 2) hs0)); have hs1 := Nat.le_trans hs0 hbf1.size; have hP1 : Pt.Ok x1 ⟨some ⟨x0.heap.size, 0, none⟩, 8, o8 i⟩ := (pt_of rfl hI1 (o8_length i) (by decide) (o8_octs i)); obtain ⟨a8, Ha8, hn8⟩ : ∃ a, Hid (a = (some ⟨x0.heap.size, 0, none⟩ : Option Addr)) ∧ (a = none → (8 : Nat) = 0) := ⟨_, rfl, fun h => (by cases h)⟩; rw [← Ha8.out] at hP1 ⊢) | (refine wl_allocV rfl 105 rfl Y hz16.out (B + 1) hsa ?_; intro x0 hR0 hbb hsb; have hA0 := hAa.below hbb (by omega); have bb0 := hba.trans (hbb.mono (by omega : B ≤ _)); have hs0 : B + 2 ≤ x0.heap.size := (by omega); clear hAa hba hbb hsa hsb) | (refine wl_boxV rfl 23 _ rfl K rfl B hsz ?_; intro wa hAa hba hsa))
  refine wp_region_held_drew (S := (fun w' => BlkV 23 w' B K)) (by kernel_rfl) hA6 (fun hHeld => ?_)
  obtain ⟨x7, HX⟩ : ∃ x, Hid (x = x6.drew) := ⟨_, rfl⟩
  rw [← HX.out] at hHeld ⊢
  have hA7 : BlkV 23 x7 B K := by rw [HX.out]; exact hA6
  have hR7 : BlkV 105 x7 (B + 1) Y := by rw [HX.out]; exact hR6
  have hT7 : BlkV 73 x7 g5 S := by rw [HX.out]; exact hT6
  have bb7 : Below B w x7 := by rw [HX.out]; exact bb6.drew
  have hs7 : B + 2 ≤ x7.heap.size := by rw [HX.out]; exact hs6
  refine tkR 0 rfl (yieldsIf_load_mid (by rfl) 23 _ rfl B 0 rfl K _ (fun w hS => at_range hS.at0) huK rfl hiK) (by assumption) ?_
  try simp only [Act.put, sArr, sZ, sS]
  refine tkP 1 rfl (by assumption) ⟨?_, ?_, ?_⟩
  rotate_left
  · intro w hSw; (try dsimp only at hSw); go_simp; (try with_reducible rfl)
  try simp only [Act.put, sArr, sZ, sS]
  refine wpAnyH_ready (rs := [2]) (by kernel_rfl) (by simp) (cons_l rfl (fun K' hK' => ?_) AllReadyH.nil)
  rw [if_pos (by rfl)]
  go_simp
  go_at_call 186
  refine ((htg x7 g5 hT7).out).mono ?_
  rintro e x8 ⟨rfl, hbf8⟩
  have hA8 := hA7.below hbf8 hA7.lt
  have hR8 := hR7.below hbf8 hR7.lt
  have hT8 := hT7.below hbf8 hT7.lt
  have bb8 := bb7.trans (hbf8.mono (Nat.le_trans (by omega : B ≤ B + 2) hs7))
  have hs8 := Nat.le_trans hs7 hbf8.size
  refine hK'.out _ _ hA8 (fun hHeld => ?_)
  clear hK' K'
  try simp only [Act.put, sArr, sZ, sS]
  refine wpAnyH_ready (rs := [3]) (by kernel_rfl) (by simp) (cons_l rfl (fun K' hK' => ?_) AllReadyH.nil)
  refine ck.step_storeG rfl 105 _ _ rfl 105 (B + 1) rfl N rfl 16 aggTag hNl Y hR8 hYl hN1 ?_
  intro x9 hR9 hbx9 hgx9 hsx9
  have hA9 := hA8.below hbx9 (by omega)
  have bb9 := bb8.trans (hbx9.mono (by omega : B ≤ _))
  refine hK'.out _ _ hA9 (fun hHeld => ?_)
  clear hK' K'
  try simp only [Act.put, sArr, sZ, sS]
  refine wpAnyH_done (by kernel_rfl) ?_ _
  clear hHeld
  go_wp2_with fail
  (try simp only [Exit.inBlock, Exit.then]); refine bodyPost_ret (results_cell rfl _ _ _ _ rfl N (by rw [hNl]; exact aggTag) hR9.at0) rfl ?_
  exact ⟨rfl, by first | exact bb9 | (rw [hsz]; exact bb9)⟩
end Go.Proofs.Ytbljihhelladbaa.wr
