/-
  Contracts of blockNonce and blockTag, of package wrap and of keyref2. Conditions: keys and nonces of octets; texts that together have at most 2^20 octets.
-/
import Derived.Test.YtbljihhelladbaaTCkB
import Derived.Test.YtbljihhelladbaaTWrO
import Derived.Lib.AppendStr
namespace Go.Proofs.Ytbljihhelladbaa.wr
open Go.RowKit Go.Proofs.Ytbljihhelladbaa.st Go.Proofs.Ytbljihhelladbaa.hs Go.Proofs.Ytbljihhelladbaa.shr Go.Proofs.Ytbljihhelladbaa.sh
set_option linter.unusedSimpArgs false
set_option linter.unusedVariables false
set_option pp.maxSteps 6000
/-- the nonce and the tag of a block -/
def nonB (n : List Int) (i : Int) : List Int := (sumL 0 (frm [n, o8 i])).take 16
def tagM (h f : List Int) (i : Int) (c : List Int) : List Int := sumL 0 (frm [h, f, o8 i, c])
def tagB (k h f : List Int) (i : Int) (c : List Int) : List Int := tagL k (tagM h f i c)
theorem nonB_length (n : List Int) (i : Int) : (nonB n i).length = 16 := by unfold nonB; rw [List.length_take, sumL_length]; decide
theorem nonB_octs (n : List Int) (i : Int) : Octs (nonB n i) := fun c hc => sumL_octs _ _ c (List.mem_of_mem_take hc)
theorem tagB_length (k h f : List Int) (i : Int) (c : List Int) : (tagB k h f i c).length = 16 := tagL_length _ _
theorem oct0 : Oct 0 := ⟨by decide, by decide⟩
theorem frm2_length (n : List Int) (i : Int) : (frm [n, o8 i]).length = n.length + 16 := by
  unfold frm
  simp only [List.map_cons, List.map_nil, List.flatten_cons, List.flatten_nil, List.length_append, List.length_nil, o4_length, o8_length]
  omega
theorem frm4_length (h f : List Int) (i : Int) (c : List Int) : (frm [h, f, o8 i, c]).length = h.length + f.length + c.length + 24 := by
  unfold frm
  simp only [List.map_cons, List.map_nil, List.flatten_cons, List.flatten_nil, List.length_append, List.length_nil, o4_length, o8_length]
  omega
theorem frm_octs : ∀ ls : List (List Int), (∀ l ∈ ls, Octs l) → Octs (frm ls)
  | [], _ => fun c hc => by cases hc
  | l :: r, h => by
    have e : frm (l :: r) = (o4 (l.length : Int) ++ l) ++ frm r := by unfold frm; rw [List.map_cons, List.flatten_cons]
    rw [e]
    exact octs_app (octs_app (o4_octs _) (h l (List.mem_cons_self ..))) (frm_octs r fun x hx => h x (List.mem_cons_of_mem _ hx))
theorem two_row {w : World} {N : Nat} {p q : Pt} (h : BlkV 69 w N [p.v, q.v]) : RowV w (some ⟨N, 0, none⟩) ([p, q].map Pt.v) := at_row h.lt h.at0
theorem four_row {w : World} {N : Nat} {p q r s : Pt} (h : BlkV 69 w N [p.v, q.v, r.v, s.v]) : RowV w (some ⟨N, 0, none⟩) ([p, q, r, s].map Pt.v) := at_row h.lt h.at0
theorem pt_of {w : World} {t : TypeId} {g m : Nat} {K : List Value} {k : List Int} (hK : K = k.map (Value.int .u8)) (h : BlkV t w g K) (hk : k.length = m) (hm : m ≤ maxLen) (ok : Octs k) : Pt.Ok w ⟨some ⟨g, 0, none⟩, m, k⟩ := by
  subst hK
  exact ⟨BlkI.row h, by show k.length ≤ m; omega, hm, ok, fun b e => by cases e; exact h.lt⟩
theorem wl_storeG {P : Program} {w : World} {ops : Array Oper} {rest : List Oper} {o : Oper} {a : Act} {Q : Exit → Act → World → Prop} (hgd : o.guard = none) (ty : TypeId) (x y : Operand) (ho : o.op = .store ty x y)
    (t : TypeId) (g : Nat) (hx : a.eval x = .pointer (some ⟨g, 0, none⟩)) (cs : List Value) (hy : a.eval y = .agg cs.toArray) (n : Nat) (hi : Agg P ty n) (hn : cs.length = n) (cur : List Value) (hg : BlkV t w g cur) (hc : cur.length = n) (h1 : ∀ u ∈ cs, u.oneCell' = true)
    (h : ∀ w', BlkV t w' g cs → Below g w w' → w.grownBy w' (some g) → w'.heap.size = w.heap.size → wpList P ops Q rest (a.put o.dst undef) w') : wpList P ops Q (o :: rest) a w :=
  wl_storeAll hgd ty x y ho t g hx cs hy n hi hn cur hg hc h1 fun hb => h _ hb (below_setRow' (Below.refl _ _) (Nat.le_refl _) _) (ck.grown_row _ _ _) (by simp)
set_option maxRecDepth 100000 in
set_option maxHeartbeats 8000000 in
theorem Nonce_any (n : List Int) (hn : n.length = 16) (on : Octs n) (i : Int) (hi : 0 ≤ i ∧ i ≤ 4611686018427387904) (w : World) :
    Calls Try.prog 135 #[.agg (n.map (Value.int .u8)).toArray, .int .i64 i] w fun e w' => e = .returned (.agg ((nonB n i).map (Value.int .u8)).toArray) ∧ Below w.heap.size w w' := by
  obtain ⟨B, HB⟩ : ∃ B, Hid (B = w.heap.size) := ⟨_, rfl⟩
  have hsz : w.heap.size = B := HB.out.symm
  obtain ⟨Z, HZ⟩ : ∃ Z, Hid (Z = zSum) := ⟨_, rfl⟩
  have hz := hid zeroSumZ
  rw [← HZ.out] at hz
  have hZl : Z.length = 32 := by rw [HZ.out]; simp [zSum]
  obtain ⟨K, HK⟩ : ∃ K, Hid (K = n.map (Value.int .u8)) := ⟨_, rfl⟩
  have hKl : K.length = 16 := by rw [HK.out, List.length_map, hn]
  obtain ⟨Y, HY⟩ : ∃ Z, Hid (Z = (List.replicate 16 (0 : Int)).map (Value.int .u8)) := ⟨_, rfl⟩
  have hz16 := hid (by kernel_rfl : (Try.prog.info? 25).map (·.zero) = some (some (.agg ((List.replicate 16 (0 : Int)).map (Value.int .u8)).toArray)))
  rw [← HY.out] at hz16
  have hYl : Y.length = 16 := by rw [HY.out]; simp
  obtain ⟨S, HS⟩ : ∃ S : List Value, Hid (S = (sumL 0 (frm [n, o8 i])).map (Value.int .u8)) := ⟨_, rfl⟩
  have hSl : S.length = 32 := by rw [HS.out, List.length_map, sumL_length]
  have hS1 : ∀ u ∈ S, u.oneCell' = true := by rw [HS.out]; exact ints_one _ _
  obtain ⟨N, HN⟩ : ∃ S : List Value, Hid (S = (nonB n i).map (Value.int .u8)) := ⟨_, rfl⟩
  have hNl : N.length = 16 := by rw [HN.out, List.length_map, nonB_length]
  have hN1 : ∀ u ∈ N, u.oneCell' = true := by rw [HN.out]; exact ints_one _ _
  have hNS : Hid (N = S.take 16) := hid (by rw [HN.out, HS.out, ← List.map_take]; rfl)
  have hal : Try.prog.arrayLen 25 = 16 := by kernel_rfl
  have hAA := fun w a n cap h => run_arrayAtNo w a n cap h
  have halS : Try.prog.arrayLen 73 = 32 := by kernel_rfl
  have HKK := hid hn
  have hptA := fun y (h : BlkV 25 y B K) => hid (pt_of HK.out h HKK.out (by decide) on)
  have hpl := fun y => hid (PutLong_any none 0 0 [] i y rfl (RowI.nil _ _ _) (fun b h => by cases h) (fun _ => rfl) (by decide) hi)
  simp only [List.nil_append, Nat.zero_add] at hpl
  have hsum := fun (y : World) (D c8 : Nat) (a8 : Option Addr) (hA : BlkV 25 y B K) (h8 : Pt.Ok y ⟨a8, c8, o8 i⟩) (hD : BlkV 69 y D [.slice (some ⟨B, 0, none⟩) 16 16, .slice a8 8 c8]) => hid (sums_in 0 oct0 (some ⟨D, 0, none⟩) 2 2 [⟨some ⟨B, 0, none⟩, 16, n⟩, ⟨a8, c8, o8 i⟩] y rfl (by decide) (by
    have hD' : BlkV 69 y D [Pt.v ⟨some ⟨B, 0, none⟩, 16, n⟩, Pt.v ⟨a8, c8, o8 i⟩] := by unfold Pt.v; simp only [HKK.out, o8_length]; exact hD
    exact two_row hD') (fun x hx => by
      simp only [List.mem_cons, List.not_mem_nil, or_false] at hx
      rcases hx with rfl | rfl
      · exact (hptA y hA).out
      · exact h8) (by rw [framed_frm]; show (frm [n, o8 i]).length ≤ _; rw [frm2_length, HKK.out]; decide))
  simp only [framed_frm, List.map_cons, List.map_nil, ← HS.out] at hsum
  rw [← HK.out, ← HN.out]
  clear hn
  go_enter Try.func135, Try.ntmps135
  go_wp2_with (first | (refine wl_boxV rfl 25 _ rfl K rfl B hsz ?_; intro wa hAa hba hsa) | (refine wl_allocV rfl 25 rfl Y hz16.out (B + 1) hsa ?_; intro wb hRb hbb hsb; have hAb := hAa.below hbb (by omega); have bbb := hba.trans (hbb.mono (by omega : B ≤ _))))
  refine wp_region_held_drew (S := (fun _ => True)) (by kernel_rfl) trivial (fun hHeld => ?_)
  obtain ⟨x0, HX0⟩ : ∃ x, Hid (x = wb.drew) := ⟨_, rfl⟩
  rw [← HX0.out]
  have hA0 : BlkV 25 x0 B K := by rw [HX0.out]; exact hAb
  have hR0 : BlkV 25 x0 (B + 1) Y := by rw [HX0.out]; exact hRb
  have bb0 : Below B w x0 := by rw [HX0.out]; exact bbb.drew
  have hs0 : B + 2 ≤ x0.heap.size := by rw [HX0.out]; show B + 2 ≤ wb.heap.size; omega
  clear hAa hba hRb hAb hbb bbb hsa hsb
  refine tkP 0 rfl (by assumption) ⟨?_, ?_, ?_⟩
  rotate_left
  · intro w hSw; (try dsimp only at hSw); go_simp; (try with_reducible rfl)
  try simp only [Act.put, sArr, sZ, sS]
  refine tkP 1 rfl (by assumption) ⟨?_, ?_, ?_⟩
  rotate_left
  · intro w hSw; (try dsimp only at hSw); go_simp; (try with_reducible rfl)
  try simp only [Act.put, sArr, sZ, sS]
  refine wpAnyH_ready (rs := [2, 8]) (by kernel_rfl) (by simp) (cons_l rfl (fun K' hK' => ?_) (cons_l rfl (fun K' hK' => ?_) AllReadyH.nil))
  · rw [if_pos (by rfl)]
    go_simp
    go_at_call 131
    refine ((hpl x0).out).mono ?_
    rintro e x1 ⟨a8, c8, rfl, hM1, hbf1⟩
    have hA1 := hA0.below hbf1 hA0.lt
    have hR1 := hR0.below hbf1 hR0.lt
    have bb1 := bb0.trans (hbf1.mono (Nat.le_trans (by omega : B ≤ B + 2) hs0))
    have hs1 := Nat.le_trans hs0 hbf1.size
    have hP1 := (mine_pt hM1 (by rfl) (by decide) (o8_octs i)).1
    refine hK'.out _ _ trivial (fun hHeld => ?_)
    clear hK' K'
    try simp only [Act.put, sArr, sZ, sS]
    refine wpAnyH_ready (rs := [3, 8]) (by kernel_rfl) (by simp) (cons_l rfl (fun K' hK' => ?_) (cons_l rfl (fun K' hK' => ?_) AllReadyH.nil))
    · obtain ⟨g2, Hg2, hg2⟩ : ∃ g, Hid (x1.heap.size = g) ∧ B + 2 ≤ g := ⟨_, rfl, hs1⟩
      refine step_lit rfl 82 69 2 _ rfl Try.underlying82 (.slice none 0 0) 1 24 ck.infoBB (by decide) (by decide) [.slice (some ⟨B, 0, none⟩) 16 16, .slice a8 8 c8] (by kernel_rfl) g2 Hg2.out ?_
      intro x2 hD2 hbx2 hsx2
      have hbf2 : Below x1.heap.size x1 x2 := (by rw [Hg2.out]; exact hbx2)
      have hA2 := hA1.below hbf2 hA1.lt
      have hR2 := hR1.below hbf2 hR1.lt
      have hP2 := hP1.below hbf2
      have bb2 := bb1.trans (hbf2.mono (Nat.le_trans (by omega : B ≤ B + 2) hs1))
      have hs2 := Nat.le_trans hs1 hbf2.size
      clear hsx2 hbx2
      refine hK'.out _ _ trivial (fun hHeld => ?_)
      clear hK' K'
      try simp only [Act.put, sArr, sZ, sS]
      refine wpAnyH_ready (rs := [4, 8]) (by kernel_rfl) (by simp) (cons_l rfl (fun K' hK' => ?_) (cons_l rfl (fun K' hK' => ?_) AllReadyH.nil))
      · rw [if_pos (by rfl)]
        go_simp
        go_at_call 114
        refine ((hsum x2 g2 c8 a8 hA2 hP2 hD2).out).mono ?_
        rintro e x3 ⟨rfl, hbf3⟩
        have hA3 := hA2.below hbf3 hA2.lt
        have hR3 := hR2.below hbf3 hR2.lt
        have bb3 := bb2.trans (hbf3.mono (Nat.le_trans (by omega : B ≤ B + 2) hs2))
        have hs3 := Nat.le_trans hs2 hbf3.size
        refine hK'.out _ _ trivial (fun hHeld => ?_)
        clear hK' K'
        try simp only [Act.put, sArr, sZ, sS]
        refine tkP 5 rfl (by assumption) ⟨?_, ?_, ?_⟩
        rotate_left
        · intro w hSw; (try dsimp only at hSw); go_simp; (try with_reducible rfl)
        try simp only [Act.put, sArr, sZ, sS]
        refine tkP 6 rfl (by assumption) ⟨?_, ?_, ?_⟩
        rotate_left
        · intro w hSw; (try dsimp only at hSw); go_simp; (try with_reducible rfl)
        try simp only [Act.put, sArr, sZ, sS]
        refine tkP 7 rfl (by assumption) ⟨?_, ?_, ?_⟩
        rotate_left
        · intro w hSw; (try dsimp only at hSw); go_simp; (try with_reducible rfl)
        try simp only [Act.put, sArr, sZ, sS]
        refine wpAnyH_ready (rs := [8]) (by kernel_rfl) (by simp) (cons_l rfl (fun K' hK' => ?_) AllReadyH.nil)
        obtain ⟨g4, Hg4, hg4⟩ : ∃ g, Hid (x3.heap.size = g) ∧ B + 2 ≤ g := ⟨_, rfl, hs3⟩
        refine step_allocV rfl 73 rfl Z hz.out g4 Hg4.out ?_
        intro x4 hT4 hbx4 hsx4
        have hbf4 : Below x3.heap.size x3 x4 := (by rw [Hg4.out]; exact hbx4)
        have hA4 := hA3.below hbf4 hA3.lt
        have hR4 := hR3.below hbf4 hR3.lt
        have bb4 := bb3.trans (hbf4.mono (Nat.le_trans (by omega : B ≤ B + 2) hs3))
        have hs4 := Nat.le_trans hs3 hbf4.size
        clear hsx4 hbx4
        refine hK'.out _ _ trivial (fun hHeld => ?_)
        clear hK' K'
        try simp only [Act.put, sArr, sZ, sS]
        refine wpAnyH_ready (rs := [9]) (by kernel_rfl) (by simp) (cons_l rfl (fun K' hK' => ?_) AllReadyH.nil)
        refine ck.step_storeG rfl 73 _ _ rfl 73 g4 rfl S rfl 32 aggSumT hSl Z hT4 hZl hS1 ?_
        intro x5 hT5 hbx5 hgx5 hsx5
        have hA5 := hA4.grown hgx5 (by intro e; injection e with e; omega)
        have hR5 := hR4.grown hgx5 (by intro e; injection e with e; omega)
        have bb5 := bb4.trans (hbx5.mono (by omega : B ≤ _))
        have hs5 : B + 2 ≤ x5.heap.size := (by rw [hsx5]; exact hs4)
        clear hsx5
        refine hK'.out _ _ trivial (fun hHeld => ?_)
        clear hK' K'
        try simp only [Act.put, sArr, sZ, sS]
        refine tkP 10 rfl (by assumption) ⟨?_, ?_, ?_⟩
        rotate_left
        · intro w hSw; (try dsimp only at hSw); go_simp; (try with_reducible rfl)
        try simp only [Act.put, sArr, sZ, sS]
        refine wpAnyH_done (by kernel_rfl) ?_ _
        clear hHeld
        go_wp2_with (first | (refine wl_storeV rfl 25 _ _ rfl 25 (B + 1) rfl N rfl 16 aggNo hNl Y hR5 hYl hN1 ?_; intro wF hRF hbF hsF) | (refine wl_load rfl 25 _ rfl ⟨g4, 0, none⟩ rfl N (by rw [hNl]; exact aggNo) (hT5.at 0 _ fun j u hu => by rw [Nat.zero_add]; rw [hNS.out, List.getElem?_take] at hu; split at hu; exact hu; cases hu) ?_))
        (try simp only [Exit.inBlock, Exit.then]); refine bodyPost_ret (results_cell rfl _ _ _ _ rfl N (by rw [hNl]; exact aggNo) hRF.at0) rfl ?_
        exact ⟨rfl, by first | exact bb5.trans (hbF.mono (by omega)) | (rw [hsz]; exact bb5.trans (hbF.mono (by omega)))⟩
      · obtain ⟨g3, Hg3, hg3⟩ : ∃ g, Hid (x2.heap.size = g) ∧ B + 2 ≤ g := ⟨_, rfl, hs2⟩
        refine step_allocV rfl 73 rfl Z hz.out g3 Hg3.out ?_
        intro x3 hT3 hbx3 hsx3
        have hbf3 : Below x2.heap.size x2 x3 := (by rw [Hg3.out]; exact hbx3)
        have hA3 := hA2.below hbf3 hA2.lt
        have hR3 := hR2.below hbf3 hR2.lt
        have hD3 := hD2.below hbf3 hD2.lt
        have hP3 := hP2.below hbf3
        have bb3 := bb2.trans (hbf3.mono (Nat.le_trans (by omega : B ≤ B + 2) hs2))
        have hs3 := Nat.le_trans hs2 hbf3.size
        clear hsx3 hbx3
        refine hK'.out _ _ trivial (fun hHeld => ?_)
        clear hK' K'
        try simp only [Act.put, sArr, sZ, sS]
        refine wpAnyH_ready (rs := [4]) (by kernel_rfl) (by simp) (cons_l rfl (fun K' hK' => ?_) AllReadyH.nil)
        rw [if_pos (by rfl)]
        go_simp
        go_at_call 114
        refine ((hsum x3 g2 c8 a8 hA3 hP3 hD3).out).mono ?_
        rintro e x4 ⟨rfl, hbf4⟩
        have hA4 := hA3.below hbf4 hA3.lt
        have hR4 := hR3.below hbf4 hR3.lt
        have hT4 := hT3.below hbf4 hT3.lt
        have bb4 := bb3.trans (hbf4.mono (Nat.le_trans (by omega : B ≤ B + 2) hs3))
        have hs4 := Nat.le_trans hs3 hbf4.size
        refine hK'.out _ _ trivial (fun hHeld => ?_)
        clear hK' K'
        try simp only [Act.put, sArr, sZ, sS]
        refine tkP 5 rfl (by assumption) ⟨?_, ?_, ?_⟩
        rotate_left
        · intro w hSw; (try dsimp only at hSw); go_simp; (try with_reducible rfl)
        try simp only [Act.put, sArr, sZ, sS]
        refine tkP 6 rfl (by assumption) ⟨?_, ?_, ?_⟩
        rotate_left
        · intro w hSw; (try dsimp only at hSw); go_simp; (try with_reducible rfl)
        try simp only [Act.put, sArr, sZ, sS]
        refine tkP 7 rfl (by assumption) ⟨?_, ?_, ?_⟩
        rotate_left
        · intro w hSw; (try dsimp only at hSw); go_simp; (try with_reducible rfl)
        try simp only [Act.put, sArr, sZ, sS]
        refine wpAnyH_ready (rs := [9]) (by kernel_rfl) (by simp) (cons_l rfl (fun K' hK' => ?_) AllReadyH.nil)
        refine ck.step_storeG rfl 73 _ _ rfl 73 g3 rfl S rfl 32 aggSumT hSl Z hT4 hZl hS1 ?_
        intro x5 hT5 hbx5 hgx5 hsx5
        have hA5 := hA4.grown hgx5 (by intro e; injection e with e; omega)
        have hR5 := hR4.grown hgx5 (by intro e; injection e with e; omega)
        have bb5 := bb4.trans (hbx5.mono (by omega : B ≤ _))
        have hs5 : B + 2 ≤ x5.heap.size := (by rw [hsx5]; exact hs4)
        clear hsx5
        refine hK'.out _ _ trivial (fun hHeld => ?_)
        clear hK' K'
        try simp only [Act.put, sArr, sZ, sS]
        refine tkP 10 rfl (by assumption) ⟨?_, ?_, ?_⟩
        rotate_left
        · intro w hSw; (try dsimp only at hSw); go_simp; (try with_reducible rfl)
        try simp only [Act.put, sArr, sZ, sS]
        refine wpAnyH_done (by kernel_rfl) ?_ _
        clear hHeld
        go_wp2_with (first | (refine wl_storeV rfl 25 _ _ rfl 25 (B + 1) rfl N rfl 16 aggNo hNl Y hR5 hYl hN1 ?_; intro wF hRF hbF hsF) | (refine wl_load rfl 25 _ rfl ⟨g3, 0, none⟩ rfl N (by rw [hNl]; exact aggNo) (hT5.at 0 _ fun j u hu => by rw [Nat.zero_add]; rw [hNS.out, List.getElem?_take] at hu; split at hu; exact hu; cases hu) ?_))
        (try simp only [Exit.inBlock, Exit.then]); refine bodyPost_ret (results_cell rfl _ _ _ _ rfl N (by rw [hNl]; exact aggNo) hRF.at0) rfl ?_
        exact ⟨rfl, by first | exact bb5.trans (hbF.mono (by omega)) | (rw [hsz]; exact bb5.trans (hbF.mono (by omega)))⟩
    · obtain ⟨g2, Hg2, hg2⟩ : ∃ g, Hid (x1.heap.size = g) ∧ B + 2 ≤ g := ⟨_, rfl, hs1⟩
      refine step_allocV rfl 73 rfl Z hz.out g2 Hg2.out ?_
      intro x2 hT2 hbx2 hsx2
      have hbf2 : Below x1.heap.size x1 x2 := (by rw [Hg2.out]; exact hbx2)
      have hA2 := hA1.below hbf2 hA1.lt
      have hR2 := hR1.below hbf2 hR1.lt
      have hP2 := hP1.below hbf2
      have bb2 := bb1.trans (hbf2.mono (Nat.le_trans (by omega : B ≤ B + 2) hs1))
      have hs2 := Nat.le_trans hs1 hbf2.size
      clear hsx2 hbx2
      refine hK'.out _ _ trivial (fun hHeld => ?_)
      clear hK' K'
      try simp only [Act.put, sArr, sZ, sS]
      refine wpAnyH_ready (rs := [3]) (by kernel_rfl) (by simp) (cons_l rfl (fun K' hK' => ?_) AllReadyH.nil)
      obtain ⟨g3, Hg3, hg3⟩ : ∃ g, Hid (x2.heap.size = g) ∧ B + 2 ≤ g := ⟨_, rfl, hs2⟩
      refine step_lit rfl 82 69 2 _ rfl Try.underlying82 (.slice none 0 0) 1 24 ck.infoBB (by decide) (by decide) [.slice (some ⟨B, 0, none⟩) 16 16, .slice a8 8 c8] (by kernel_rfl) g3 Hg3.out ?_
      intro x3 hD3 hbx3 hsx3
      have hbf3 : Below x2.heap.size x2 x3 := (by rw [Hg3.out]; exact hbx3)
      have hA3 := hA2.below hbf3 hA2.lt
      have hR3 := hR2.below hbf3 hR2.lt
      have hT3 := hT2.below hbf3 hT2.lt
      have hP3 := hP2.below hbf3
      have bb3 := bb2.trans (hbf3.mono (Nat.le_trans (by omega : B ≤ B + 2) hs2))
      have hs3 := Nat.le_trans hs2 hbf3.size
      clear hsx3 hbx3
      refine hK'.out _ _ trivial (fun hHeld => ?_)
      clear hK' K'
      try simp only [Act.put, sArr, sZ, sS]
      refine wpAnyH_ready (rs := [4]) (by kernel_rfl) (by simp) (cons_l rfl (fun K' hK' => ?_) AllReadyH.nil)
      rw [if_pos (by rfl)]
      go_simp
      go_at_call 114
      refine ((hsum x3 g3 c8 a8 hA3 hP3 hD3).out).mono ?_
      rintro e x4 ⟨rfl, hbf4⟩
      have hA4 := hA3.below hbf4 hA3.lt
      have hR4 := hR3.below hbf4 hR3.lt
      have hT4 := hT3.below hbf4 hT3.lt
      have bb4 := bb3.trans (hbf4.mono (Nat.le_trans (by omega : B ≤ B + 2) hs3))
      have hs4 := Nat.le_trans hs3 hbf4.size
      refine hK'.out _ _ trivial (fun hHeld => ?_)
      clear hK' K'
      try simp only [Act.put, sArr, sZ, sS]
      refine tkP 5 rfl (by assumption) ⟨?_, ?_, ?_⟩
      rotate_left
      · intro w hSw; (try dsimp only at hSw); go_simp; (try with_reducible rfl)
      try simp only [Act.put, sArr, sZ, sS]
      refine tkP 6 rfl (by assumption) ⟨?_, ?_, ?_⟩
      rotate_left
      · intro w hSw; (try dsimp only at hSw); go_simp; (try with_reducible rfl)
      try simp only [Act.put, sArr, sZ, sS]
      refine tkP 7 rfl (by assumption) ⟨?_, ?_, ?_⟩
      rotate_left
      · intro w hSw; (try dsimp only at hSw); go_simp; (try with_reducible rfl)
      try simp only [Act.put, sArr, sZ, sS]
      refine wpAnyH_ready (rs := [9]) (by kernel_rfl) (by simp) (cons_l rfl (fun K' hK' => ?_) AllReadyH.nil)
      refine ck.step_storeG rfl 73 _ _ rfl 73 g2 rfl S rfl 32 aggSumT hSl Z hT4 hZl hS1 ?_
      intro x5 hT5 hbx5 hgx5 hsx5
      have hA5 := hA4.grown hgx5 (by intro e; injection e with e; omega)
      have hR5 := hR4.grown hgx5 (by intro e; injection e with e; omega)
      have bb5 := bb4.trans (hbx5.mono (by omega : B ≤ _))
      have hs5 : B + 2 ≤ x5.heap.size := (by rw [hsx5]; exact hs4)
      clear hsx5
      refine hK'.out _ _ trivial (fun hHeld => ?_)
      clear hK' K'
      try simp only [Act.put, sArr, sZ, sS]
      refine tkP 10 rfl (by assumption) ⟨?_, ?_, ?_⟩
      rotate_left
      · intro w hSw; (try dsimp only at hSw); go_simp; (try with_reducible rfl)
      try simp only [Act.put, sArr, sZ, sS]
      refine wpAnyH_done (by kernel_rfl) ?_ _
      clear hHeld
      go_wp2_with (first | (refine wl_storeV rfl 25 _ _ rfl 25 (B + 1) rfl N rfl 16 aggNo hNl Y hR5 hYl hN1 ?_; intro wF hRF hbF hsF) | (refine wl_load rfl 25 _ rfl ⟨g2, 0, none⟩ rfl N (by rw [hNl]; exact aggNo) (hT5.at 0 _ fun j u hu => by rw [Nat.zero_add]; rw [hNS.out, List.getElem?_take] at hu; split at hu; exact hu; cases hu) ?_))
      (try simp only [Exit.inBlock, Exit.then]); refine bodyPost_ret (results_cell rfl _ _ _ _ rfl N (by rw [hNl]; exact aggNo) hRF.at0) rfl ?_
      exact ⟨rfl, by first | exact bb5.trans (hbF.mono (by omega)) | (rw [hsz]; exact bb5.trans (hbF.mono (by omega)))⟩
  · obtain ⟨g1, Hg1, hg1⟩ : ∃ g, Hid (x0.heap.size = g) ∧ B + 2 ≤ g := ⟨_, rfl, hs0⟩
    refine step_allocV rfl 73 rfl Z hz.out g1 Hg1.out ?_
    intro x1 hT1 hbx1 hsx1
    have hbf1 : Below x0.heap.size x0 x1 := (by rw [Hg1.out]; exact hbx1)
    have hA1 := hA0.below hbf1 hA0.lt
    have hR1 := hR0.below hbf1 hR0.lt
    have bb1 := bb0.trans (hbf1.mono (Nat.le_trans (by omega : B ≤ B + 2) hs0))
    have hs1 := Nat.le_trans hs0 hbf1.size
    clear hsx1 hbx1
    refine hK'.out _ _ trivial (fun hHeld => ?_)
    clear hK' K'
    try simp only [Act.put, sArr, sZ, sS]
    refine wpAnyH_ready (rs := [2]) (by kernel_rfl) (by simp) (cons_l rfl (fun K' hK' => ?_) AllReadyH.nil)
    rw [if_pos (by rfl)]
    go_simp
    go_at_call 131
    refine ((hpl x1).out).mono ?_
    rintro e x2 ⟨a8, c8, rfl, hM2, hbf2⟩
    have hA2 := hA1.below hbf2 hA1.lt
    have hR2 := hR1.below hbf2 hR1.lt
    have hT2 := hT1.below hbf2 hT1.lt
    have bb2 := bb1.trans (hbf2.mono (Nat.le_trans (by omega : B ≤ B + 2) hs1))
    have hs2 := Nat.le_trans hs1 hbf2.size
    have hP2 := (mine_pt hM2 (by rfl) (by decide) (o8_octs i)).1
    refine hK'.out _ _ trivial (fun hHeld => ?_)
    clear hK' K'
    try simp only [Act.put, sArr, sZ, sS]
    refine wpAnyH_ready (rs := [3]) (by kernel_rfl) (by simp) (cons_l rfl (fun K' hK' => ?_) AllReadyH.nil)
    obtain ⟨g3, Hg3, hg3⟩ : ∃ g, Hid (x2.heap.size = g) ∧ B + 2 ≤ g := ⟨_, rfl, hs2⟩
    refine step_lit rfl 82 69 2 _ rfl Try.underlying82 (.slice none 0 0) 1 24 ck.infoBB (by decide) (by decide) [.slice (some ⟨B, 0, none⟩) 16 16, .slice a8 8 c8] (by kernel_rfl) g3 Hg3.out ?_
    intro x3 hD3 hbx3 hsx3
    have hbf3 : Below x2.heap.size x2 x3 := (by rw [Hg3.out]; exact hbx3)
    have hA3 := hA2.below hbf3 hA2.lt
    have hR3 := hR2.below hbf3 hR2.lt
    have hT3 := hT2.below hbf3 hT2.lt
    have hP3 := hP2.below hbf3
    have bb3 := bb2.trans (hbf3.mono (Nat.le_trans (by omega : B ≤ B + 2) hs2))
    have hs3 := Nat.le_trans hs2 hbf3.size
    clear hsx3 hbx3
    refine hK'.out _ _ trivial (fun hHeld => ?_)
    clear hK' K'
    try simp only [Act.put, sArr, sZ, sS]
    refine wpAnyH_ready (rs := [4]) (by kernel_rfl) (by simp) (cons_l rfl (fun K' hK' => ?_) AllReadyH.nil)
    rw [if_pos (by rfl)]
    go_simp
    go_at_call 114
    refine ((hsum x3 g3 c8 a8 hA3 hP3 hD3).out).mono ?_
    rintro e x4 ⟨rfl, hbf4⟩
    have hA4 := hA3.below hbf4 hA3.lt
    have hR4 := hR3.below hbf4 hR3.lt
    have hT4 := hT3.below hbf4 hT3.lt
    have bb4 := bb3.trans (hbf4.mono (Nat.le_trans (by omega : B ≤ B + 2) hs3))
    have hs4 := Nat.le_trans hs3 hbf4.size
    refine hK'.out _ _ trivial (fun hHeld => ?_)
    clear hK' K'
    try simp only [Act.put, sArr, sZ, sS]
    refine tkP 5 rfl (by assumption) ⟨?_, ?_, ?_⟩
    rotate_left
    · intro w hSw; (try dsimp only at hSw); go_simp; (try with_reducible rfl)
    try simp only [Act.put, sArr, sZ, sS]
    refine tkP 6 rfl (by assumption) ⟨?_, ?_, ?_⟩
    rotate_left
    · intro w hSw; (try dsimp only at hSw); go_simp; (try with_reducible rfl)
    try simp only [Act.put, sArr, sZ, sS]
    refine tkP 7 rfl (by assumption) ⟨?_, ?_, ?_⟩
    rotate_left
    · intro w hSw; (try dsimp only at hSw); go_simp; (try with_reducible rfl)
    try simp only [Act.put, sArr, sZ, sS]
    refine wpAnyH_ready (rs := [9]) (by kernel_rfl) (by simp) (cons_l rfl (fun K' hK' => ?_) AllReadyH.nil)
    refine ck.step_storeG rfl 73 _ _ rfl 73 g1 rfl S rfl 32 aggSumT hSl Z hT4 hZl hS1 ?_
    intro x5 hT5 hbx5 hgx5 hsx5
    have hA5 := hA4.grown hgx5 (by intro e; injection e with e; omega)
    have hR5 := hR4.grown hgx5 (by intro e; injection e with e; omega)
    have bb5 := bb4.trans (hbx5.mono (by omega : B ≤ _))
    have hs5 : B + 2 ≤ x5.heap.size := (by rw [hsx5]; exact hs4)
    clear hsx5
    refine hK'.out _ _ trivial (fun hHeld => ?_)
    clear hK' K'
    try simp only [Act.put, sArr, sZ, sS]
    refine tkP 10 rfl (by assumption) ⟨?_, ?_, ?_⟩
    rotate_left
    · intro w hSw; (try dsimp only at hSw); go_simp; (try with_reducible rfl)
    try simp only [Act.put, sArr, sZ, sS]
    refine wpAnyH_done (by kernel_rfl) ?_ _
    clear hHeld
    go_wp2_with (first | (refine wl_storeV rfl 25 _ _ rfl 25 (B + 1) rfl N rfl 16 aggNo hNl Y hR5 hYl hN1 ?_; intro wF hRF hbF hsF) | (refine wl_load rfl 25 _ rfl ⟨g1, 0, none⟩ rfl N (by rw [hNl]; exact aggNo) (hT5.at 0 _ fun j u hu => by rw [Nat.zero_add]; rw [hNS.out, List.getElem?_take] at hu; split at hu; exact hu; cases hu) ?_))
    (try simp only [Exit.inBlock, Exit.then]); refine bodyPost_ret (results_cell rfl _ _ _ _ rfl N (by rw [hNl]; exact aggNo) hRF.at0) rfl ?_
    exact ⟨rfl, by first | exact bb5.trans (hbF.mono (by omega)) | (rw [hsz]; exact bb5.trans (hbF.mono (by omega)))⟩
set_option maxRecDepth 100000 in
set_option maxHeartbeats 8000000 in
theorem RefNonce_any (n : List Int) (hn : n.length = 16) (on : Octs n) (i : Int) (hi : 0 ≤ i ∧ i ≤ 4611686018427387904) (w : World) :
    Calls Try.prog 139 #[.agg (n.map (Value.int .u8)).toArray, .int .i64 i] w fun e w' => e = .returned (.agg ((nonB n i).map (Value.int .u8)).toArray) ∧ Below w.heap.size w w' := by
  obtain ⟨B, HB⟩ : ∃ B, Hid (B = w.heap.size) := ⟨_, rfl⟩
  have hsz : w.heap.size = B := HB.out.symm
  obtain ⟨Z, HZ⟩ : ∃ Z, Hid (Z = zSum) := ⟨_, rfl⟩
  have hz := hid zeroSumZ
  rw [← HZ.out] at hz
  have hZl : Z.length = 32 := by rw [HZ.out]; simp [zSum]
  obtain ⟨K, HK⟩ : ∃ K, Hid (K = n.map (Value.int .u8)) := ⟨_, rfl⟩
  have hKl : K.length = 16 := by rw [HK.out, List.length_map, hn]
  obtain ⟨Y, HY⟩ : ∃ Z, Hid (Z = (List.replicate 16 (0 : Int)).map (Value.int .u8)) := ⟨_, rfl⟩
  have hz16 := hid (by kernel_rfl : (Try.prog.info? 25).map (·.zero) = some (some (.agg ((List.replicate 16 (0 : Int)).map (Value.int .u8)).toArray)))
  rw [← HY.out] at hz16
  have hYl : Y.length = 16 := by rw [HY.out]; simp
  obtain ⟨S, HS⟩ : ∃ S : List Value, Hid (S = (sumL 0 (frm [n, o8 i])).map (Value.int .u8)) := ⟨_, rfl⟩
  have hSl : S.length = 32 := by rw [HS.out, List.length_map, sumL_length]
  have hS1 : ∀ u ∈ S, u.oneCell' = true := by rw [HS.out]; exact ints_one _ _
  obtain ⟨N, HN⟩ : ∃ S : List Value, Hid (S = (nonB n i).map (Value.int .u8)) := ⟨_, rfl⟩
  have hNl : N.length = 16 := by rw [HN.out, List.length_map, nonB_length]
  have hN1 : ∀ u ∈ N, u.oneCell' = true := by rw [HN.out]; exact ints_one _ _
  have hNS : Hid (N = S.take 16) := hid (by rw [HN.out, HS.out, ← List.map_take]; rfl)
  have hal : Try.prog.arrayLen 25 = 16 := by kernel_rfl
  have hAA := fun w a n cap h => run_arrayAtNo w a n cap h
  have halS : Try.prog.arrayLen 73 = 32 := by kernel_rfl
  have HKK := hid hn
  have hptA := fun y (h : BlkV 25 y B K) => hid (pt_of HK.out h HKK.out (by decide) on)
  have hpl := fun y => hid (Octets_any i 8 y (by decide))
  simp only [octN_eight] at hpl
  obtain ⟨F, HF⟩ : ∃ F, Hid (F = frm [n, o8 i]) := ⟨_, rfl⟩
  obtain ⟨m, Hm⟩ : ∃ m, Hid (m = F.length) := ⟨_, rfl⟩
  have hm32 : m = 32 := by rw [Hm.out, HF.out, frm2_length, hn]
  have oF : Octs F := by rw [HF.out]; exact frm_octs _ (fun l hl => by
      simp only [List.mem_cons, List.not_mem_nil, or_false] at hl
      rcases hl with rfl | rfl
      · exact on
      · exact o8_octs i)
  have hfr := fun (y : World) (D c8 : Nat) (a8 : Option Addr) (hA : BlkV 25 y B K) (h8 : Pt.Ok y ⟨a8, c8, o8 i⟩) (hD : BlkV 69 y D [.slice (some ⟨B, 0, none⟩) 16 16, .slice a8 8 c8]) (h0 : a8 = none → c8 = 0) => hid (framedR (some ⟨D, 0, none⟩) 2 2 [⟨some ⟨B, 0, none⟩, 16, n⟩, ⟨a8, c8, o8 i⟩] y rfl (by decide) (by
    have hD' : BlkV 69 y D [Pt.v ⟨some ⟨B, 0, none⟩, 16, n⟩, Pt.v ⟨a8, c8, o8 i⟩] := by unfold Pt.v; simp only [HKK.out, o8_length]; exact hD
    exact two_row hD') (fun x hx => by
      simp only [List.mem_cons, List.not_mem_nil, or_false] at hx
      rcases hx with rfl | rfl
      · exact (hptA y hA).out
      · exact h8) (fun x hx => by
      simp only [List.mem_cons, List.not_mem_nil, or_false] at hx
      rcases hx with rfl | rfl
      · intro h; cases h
      · exact h0) (by rw [framed_frm]; show (frm [n, o8 i]).length ≤ _; rw [frm2_length, HKK.out]; decide))
  simp only [framed_frm, List.map_cons, List.map_nil, ← HF.out, ← Hm.out] at hfr
  have hsum := fun (y : World) (a : Option Addr) (c : Nat) (hP : Pt.Ok y ⟨a, c, F⟩) (h : a = none → c = 0 ∧ m = 0) => hid (sumR 0 oct0 a c m F y Hm.out hP h (by omega))
  rw [HF.out] at hsum
  simp only [← HS.out] at hsum
  rw [← HF.out] at hsum
  have hm0 : 0 < m := by omega
  clear hm32
  rw [← HK.out, ← HN.out]
  clear hn
  go_enter Try.func139, Try.ntmps139
  go_wp2_with (first | (refine wl_boxV rfl 25 _ rfl K rfl B hsz ?_; intro wa hAa hba hsa) | (refine wl_allocV rfl 25 rfl Y hz16.out (B + 1) hsa ?_; intro wb hRb hbb hsb; have hAb := hAa.below hbb (by omega); have bbb := hba.trans (hbb.mono (by omega : B ≤ _))))
  refine wp_region_held_drew (S := (fun _ => True)) (by kernel_rfl) trivial (fun hHeld => ?_)
  obtain ⟨x0, HX0⟩ : ∃ x, Hid (x = wb.drew) := ⟨_, rfl⟩
  rw [← HX0.out]
  have hA0 : BlkV 25 x0 B K := by rw [HX0.out]; exact hAb
  have hR0 : BlkV 25 x0 (B + 1) Y := by rw [HX0.out]; exact hRb
  have bb0 : Below B w x0 := by rw [HX0.out]; exact bbb.drew
  have hs0 : B + 2 ≤ x0.heap.size := by rw [HX0.out]; show B + 2 ≤ wb.heap.size; omega
  clear hAa hba hRb hAb hbb bbb hsa hsb
  refine tkP 0 rfl (by assumption) ⟨?_, ?_, ?_⟩
  rotate_left
  · intro w hSw; (try dsimp only at hSw); go_simp; (try with_reducible rfl)
  try simp only [Act.put, sArr, sZ, sS]
  refine tkP 1 rfl (by assumption) ⟨?_, ?_, ?_⟩
  rotate_left
  · intro w hSw; (try dsimp only at hSw); go_simp; (try with_reducible rfl)
  try simp only [Act.put, sArr, sZ, sS]
  refine wpAnyH_ready (rs := [2, 6]) (by kernel_rfl) (by simp) (cons_l rfl (fun K' hK' => ?_) (cons_l rfl (fun K' hK' => ?_) AllReadyH.nil))
  · rw [if_pos (by rfl)]
    go_simp
    go_at_call 112
    refine ((hpl x0).out).mono ?_
    rintro e x1 ⟨rfl, hI1, hbf1⟩
    have hA1 := hA0.below hbf1 hA0.lt
    have hR1 := hR0.below hbf1 hR0.lt
    have bb1 := bb0.trans (hbf1.mono (Nat.le_trans (by omega : B ≤ B + 2) hs0))
    have hs1 := Nat.le_trans hs0 hbf1.size
    have hP1 : Pt.Ok x1 ⟨some ⟨x0.heap.size, 0, none⟩, 8, o8 i⟩ := pt_of rfl hI1 (o8_length i) (by decide) (o8_octs i)
    obtain ⟨a8, Ha8, hn8⟩ : ∃ a, Hid (a = (some ⟨x0.heap.size, 0, none⟩ : Option Addr)) ∧ (a = none → (8 : Nat) = 0) := ⟨_, rfl, fun h => by cases h⟩
    rw [← Ha8.out] at hP1 ⊢
    obtain ⟨c8, Hc8⟩ : ∃ c : Nat, Hid (c = 8) := ⟨_, rfl⟩
    refine hK'.out _ _ trivial (fun hHeld => ?_)
    clear hK' K'
    try simp only [Act.put, sArr, sZ, sS]
    refine wpAnyH_ready (rs := [3, 6]) (by kernel_rfl) (by simp) (cons_l rfl (fun K' hK' => ?_) (cons_l rfl (fun K' hK' => ?_) AllReadyH.nil))
    · obtain ⟨g2, Hg2, hg2⟩ : ∃ g, Hid (x1.heap.size = g) ∧ B + 2 ≤ g := ⟨_, rfl, hs1⟩
      refine step_lit rfl 82 69 2 _ rfl Try.underlying82 (.slice none 0 0) 1 24 ck.infoBB (by decide) (by decide) [.slice (some ⟨B, 0, none⟩) 16 16, .slice a8 8 8] (by kernel_rfl) g2 Hg2.out ?_
      intro x2 hD2 hbx2 hsx2
      have hbf2 : Below x1.heap.size x1 x2 := (by rw [Hg2.out]; exact hbx2)
      have hA2 := hA1.below hbf2 hA1.lt
      have hR2 := hR1.below hbf2 hR1.lt
      have hP2 := hP1.below hbf2
      have bb2 := bb1.trans (hbf2.mono (Nat.le_trans (by omega : B ≤ B + 2) hs1))
      have hs2 := Nat.le_trans hs1 hbf2.size
      clear hsx2 hbx2
      refine hK'.out _ _ trivial (fun hHeld => ?_)
      clear hK' K'
      try simp only [Act.put, sArr, sZ, sS]
      refine wpAnyH_ready (rs := [4, 6]) (by kernel_rfl) (by simp) (cons_l rfl (fun K' hK' => ?_) (cons_l rfl (fun K' hK' => ?_) AllReadyH.nil))
      · rw [if_pos (by rfl)]
        go_simp
        go_at_call 52
        refine ((hfr x2 g2 8 a8 hA2 hP2 hD2 hn8).out).mono ?_
        rintro e x3 ⟨af, cf, rfl, hM3, hbf3⟩
        have hA3 := hA2.below hbf3 hA2.lt
        have hR3 := hR2.below hbf3 hR2.lt
        have bb3 := bb2.trans (hbf3.mono (Nat.le_trans (by omega : B ≤ B + 2) hs2))
        have hs3 := Nat.le_trans hs2 hbf3.size
        obtain ⟨hF3, hnf⟩ := mine_pt hM3 Hm.out hm0 oF
        refine hK'.out _ _ trivial (fun hHeld => ?_)
        clear hK' K'
        try simp only [Act.put, sArr, sZ, sS]
        refine wpAnyH_ready (rs := [5, 6]) (by kernel_rfl) (by simp) (cons_l rfl (fun K' hK' => ?_) (cons_l rfl (fun K' hK' => ?_) AllReadyH.nil))
        · rw [if_pos (by rfl)]
          go_simp
          go_at_call 51
          refine ((hsum x3 af cf hF3 hnf).out).mono ?_
          rintro e x4 ⟨rfl, hbf4⟩
          have hA4 := hA3.below hbf4 hA3.lt
          have hR4 := hR3.below hbf4 hR3.lt
          have bb4 := bb3.trans (hbf4.mono (Nat.le_trans (by omega : B ≤ B + 2) hs3))
          have hs4 := Nat.le_trans hs3 hbf4.size
          refine hK'.out _ _ trivial (fun hHeld => ?_)
          clear hK' K'
          try simp only [Act.put, sArr, sZ, sS]
          refine wpAnyH_ready (rs := [6]) (by kernel_rfl) (by simp) (cons_l rfl (fun K' hK' => ?_) AllReadyH.nil)
          obtain ⟨g5, Hg5, hg5⟩ : ∃ g, Hid (x4.heap.size = g) ∧ B + 2 ≤ g := ⟨_, rfl, hs4⟩
          refine step_allocV rfl 73 rfl Z hz.out g5 Hg5.out ?_
          intro x5 hT5 hbx5 hsx5
          have hbf5 : Below x4.heap.size x4 x5 := (by rw [Hg5.out]; exact hbx5)
          have hA5 := hA4.below hbf5 hA4.lt
          have hR5 := hR4.below hbf5 hR4.lt
          have bb5 := bb4.trans (hbf5.mono (Nat.le_trans (by omega : B ≤ B + 2) hs4))
          have hs5 := Nat.le_trans hs4 hbf5.size
          clear hsx5 hbx5
          refine hK'.out _ _ trivial (fun hHeld => ?_)
          clear hK' K'
          try simp only [Act.put, sArr, sZ, sS]
          refine wpAnyH_ready (rs := [7]) (by kernel_rfl) (by simp) (cons_l rfl (fun K' hK' => ?_) AllReadyH.nil)
          refine ck.step_storeG rfl 73 _ _ rfl 73 g5 rfl S rfl 32 aggSumT hSl Z hT5 hZl hS1 ?_
          intro x6 hT6 hbx6 hgx6 hsx6
          have hA6 := hA5.grown hgx6 (by intro e; injection e with e; omega)
          have hR6 := hR5.grown hgx6 (by intro e; injection e with e; omega)
          have bb6 := bb5.trans (hbx6.mono (by omega : B ≤ _))
          have hs6 : B + 2 ≤ x6.heap.size := (by rw [hsx6]; exact hs5)
          clear hsx6
          refine hK'.out _ _ trivial (fun hHeld => ?_)
          clear hK' K'
          try simp only [Act.put, sArr, sZ, sS]
          refine wpAnyH_done (by kernel_rfl) ?_ _
          clear hHeld
          go_wp2_with fail
          have hfit : 0 + N.length ≤ Y.length := by rw [hNl, hYl]; decide
          have hmin : N.length = Nat.min 16 32 := by rw [hNl]; rfl
          have hat : At x6 ⟨g5, 0, none⟩ N := hT6.at 0 _ fun j u hu => by
            rw [Nat.zero_add]; rw [hNS.out, List.getElem?_take] at hu; split at hu; exact hu; cases hu
          go_region_law (refine step_copy_splice rfl (.tmp 12) (.tmp 13) 69 69 rfl 5 Try.underlying69 size5 (some ⟨B + 1, 0, none⟩) (some ⟨g5, 0, none⟩) 16 16 32 32 rfl rfl (B + 1) 0 Y 25 hR6 N hmin (fun _ => ⟨rfl, _, rfl, hat⟩) hfit hN1 (B + 1) x6 ((Below.refl _ _).drew) (Nat.le_refl _) ?_; intro w6 hg6 hbz)
          have hRz : BlkV 25 w6 (B + 1) N := by
            have h1 := hg6.out
            unfold splice at h1
            rw [List.take_zero, List.nil_append, List.drop_of_length_le (by rw [hNl, hYl]; decide), List.append_nil] at h1
            exact h1
          have bbz : Below B w w6 := bb6.trans (hbz.mono (by omega))
          clear hR6 hT6 bb6 hg6 hbz hat hfit hmin
          go_wp2_with (first | (refine wl_load rfl 25 _ rfl ⟨B + 1, 0, none⟩ rfl N (by rw [hNl]; exact aggNo) hRz.at0 ?_) | (refine wl_storeV rfl 25 _ _ rfl 25 (B + 1) rfl N rfl 16 aggNo hNl N hRz hNl hN1 ?_; intro w7 hR7 hb7 hs7))
          (try simp only [Exit.inBlock, Exit.then]); refine bodyPost_ret (results_cell rfl _ _ _ _ rfl N (by rw [hNl]; exact aggNo) hR7.at0) rfl ?_
          exact ⟨rfl, by first | exact bbz.trans (hb7.mono (by omega)) | (rw [hsz]; exact bbz.trans (hb7.mono (by omega)))⟩
        · obtain ⟨g4, Hg4, hg4⟩ : ∃ g, Hid (x3.heap.size = g) ∧ B + 2 ≤ g := ⟨_, rfl, hs3⟩
          refine step_allocV rfl 73 rfl Z hz.out g4 Hg4.out ?_
          intro x4 hT4 hbx4 hsx4
          have hbf4 : Below x3.heap.size x3 x4 := (by rw [Hg4.out]; exact hbx4)
          have hA4 := hA3.below hbf4 hA3.lt
          have hR4 := hR3.below hbf4 hR3.lt
          have hF4 := hF3.below hbf4
          have bb4 := bb3.trans (hbf4.mono (Nat.le_trans (by omega : B ≤ B + 2) hs3))
          have hs4 := Nat.le_trans hs3 hbf4.size
          clear hsx4 hbx4
          refine hK'.out _ _ trivial (fun hHeld => ?_)
          clear hK' K'
          try simp only [Act.put, sArr, sZ, sS]
          refine wpAnyH_ready (rs := [5]) (by kernel_rfl) (by simp) (cons_l rfl (fun K' hK' => ?_) AllReadyH.nil)
          rw [if_pos (by rfl)]
          go_simp
          go_at_call 51
          refine ((hsum x4 af cf hF4 hnf).out).mono ?_
          rintro e x5 ⟨rfl, hbf5⟩
          have hA5 := hA4.below hbf5 hA4.lt
          have hR5 := hR4.below hbf5 hR4.lt
          have hT5 := hT4.below hbf5 hT4.lt
          have bb5 := bb4.trans (hbf5.mono (Nat.le_trans (by omega : B ≤ B + 2) hs4))
          have hs5 := Nat.le_trans hs4 hbf5.size
          refine hK'.out _ _ trivial (fun hHeld => ?_)
          clear hK' K'
          try simp only [Act.put, sArr, sZ, sS]
          refine wpAnyH_ready (rs := [7]) (by kernel_rfl) (by simp) (cons_l rfl (fun K' hK' => ?_) AllReadyH.nil)
          refine ck.step_storeG rfl 73 _ _ rfl 73 g4 rfl S rfl 32 aggSumT hSl Z hT5 hZl hS1 ?_
          intro x6 hT6 hbx6 hgx6 hsx6
          have hA6 := hA5.grown hgx6 (by intro e; injection e with e; omega)
          have hR6 := hR5.grown hgx6 (by intro e; injection e with e; omega)
          have bb6 := bb5.trans (hbx6.mono (by omega : B ≤ _))
          have hs6 : B + 2 ≤ x6.heap.size := (by rw [hsx6]; exact hs5)
          clear hsx6
          refine hK'.out _ _ trivial (fun hHeld => ?_)
          clear hK' K'
          try simp only [Act.put, sArr, sZ, sS]
          refine wpAnyH_done (by kernel_rfl) ?_ _
          clear hHeld
          go_wp2_with fail
          have hfit : 0 + N.length ≤ Y.length := by rw [hNl, hYl]; decide
          have hmin : N.length = Nat.min 16 32 := by rw [hNl]; rfl
          have hat : At x6 ⟨g4, 0, none⟩ N := hT6.at 0 _ fun j u hu => by
            rw [Nat.zero_add]; rw [hNS.out, List.getElem?_take] at hu; split at hu; exact hu; cases hu
          go_region_law (refine step_copy_splice rfl (.tmp 12) (.tmp 13) 69 69 rfl 5 Try.underlying69 size5 (some ⟨B + 1, 0, none⟩) (some ⟨g4, 0, none⟩) 16 16 32 32 rfl rfl (B + 1) 0 Y 25 hR6 N hmin (fun _ => ⟨rfl, _, rfl, hat⟩) hfit hN1 (B + 1) x6 ((Below.refl _ _).drew) (Nat.le_refl _) ?_; intro w6 hg6 hbz)
          have hRz : BlkV 25 w6 (B + 1) N := by
            have h1 := hg6.out
            unfold splice at h1
            rw [List.take_zero, List.nil_append, List.drop_of_length_le (by rw [hNl, hYl]; decide), List.append_nil] at h1
            exact h1
          have bbz : Below B w w6 := bb6.trans (hbz.mono (by omega))
          clear hR6 hT6 bb6 hg6 hbz hat hfit hmin
          go_wp2_with (first | (refine wl_load rfl 25 _ rfl ⟨B + 1, 0, none⟩ rfl N (by rw [hNl]; exact aggNo) hRz.at0 ?_) | (refine wl_storeV rfl 25 _ _ rfl 25 (B + 1) rfl N rfl 16 aggNo hNl N hRz hNl hN1 ?_; intro w7 hR7 hb7 hs7))
          (try simp only [Exit.inBlock, Exit.then]); refine bodyPost_ret (results_cell rfl _ _ _ _ rfl N (by rw [hNl]; exact aggNo) hR7.at0) rfl ?_
          exact ⟨rfl, by first | exact bbz.trans (hb7.mono (by omega)) | (rw [hsz]; exact bbz.trans (hb7.mono (by omega)))⟩
      · obtain ⟨g3, Hg3, hg3⟩ : ∃ g, Hid (x2.heap.size = g) ∧ B + 2 ≤ g := ⟨_, rfl, hs2⟩
        refine step_allocV rfl 73 rfl Z hz.out g3 Hg3.out ?_
        intro x3 hT3 hbx3 hsx3
        have hbf3 : Below x2.heap.size x2 x3 := (by rw [Hg3.out]; exact hbx3)
        have hA3 := hA2.below hbf3 hA2.lt
        have hR3 := hR2.below hbf3 hR2.lt
        have hD3 := hD2.below hbf3 hD2.lt
        have hP3 := hP2.below hbf3
        have bb3 := bb2.trans (hbf3.mono (Nat.le_trans (by omega : B ≤ B + 2) hs2))
        have hs3 := Nat.le_trans hs2 hbf3.size
        clear hsx3 hbx3
        refine hK'.out _ _ trivial (fun hHeld => ?_)
        clear hK' K'
        try simp only [Act.put, sArr, sZ, sS]
        refine wpAnyH_ready (rs := [4]) (by kernel_rfl) (by simp) (cons_l rfl (fun K' hK' => ?_) AllReadyH.nil)
        rw [if_pos (by rfl)]
        go_simp
        go_at_call 52
        refine ((hfr x3 g2 8 a8 hA3 hP3 hD3 hn8).out).mono ?_
        rintro e x4 ⟨af, cf, rfl, hM4, hbf4⟩
        have hA4 := hA3.below hbf4 hA3.lt
        have hR4 := hR3.below hbf4 hR3.lt
        have hT4 := hT3.below hbf4 hT3.lt
        have bb4 := bb3.trans (hbf4.mono (Nat.le_trans (by omega : B ≤ B + 2) hs3))
        have hs4 := Nat.le_trans hs3 hbf4.size
        obtain ⟨hF4, hnf⟩ := mine_pt hM4 Hm.out hm0 oF
        refine hK'.out _ _ trivial (fun hHeld => ?_)
        clear hK' K'
        try simp only [Act.put, sArr, sZ, sS]
        refine wpAnyH_ready (rs := [5]) (by kernel_rfl) (by simp) (cons_l rfl (fun K' hK' => ?_) AllReadyH.nil)
        rw [if_pos (by rfl)]
        go_simp
        go_at_call 51
        refine ((hsum x4 af cf hF4 hnf).out).mono ?_
        rintro e x5 ⟨rfl, hbf5⟩
        have hA5 := hA4.below hbf5 hA4.lt
        have hR5 := hR4.below hbf5 hR4.lt
        have hT5 := hT4.below hbf5 hT4.lt
        have bb5 := bb4.trans (hbf5.mono (Nat.le_trans (by omega : B ≤ B + 2) hs4))
        have hs5 := Nat.le_trans hs4 hbf5.size
        refine hK'.out _ _ trivial (fun hHeld => ?_)
        clear hK' K'
        try simp only [Act.put, sArr, sZ, sS]
        refine wpAnyH_ready (rs := [7]) (by kernel_rfl) (by simp) (cons_l rfl (fun K' hK' => ?_) AllReadyH.nil)
        refine ck.step_storeG rfl 73 _ _ rfl 73 g3 rfl S rfl 32 aggSumT hSl Z hT5 hZl hS1 ?_
        intro x6 hT6 hbx6 hgx6 hsx6
        have hA6 := hA5.grown hgx6 (by intro e; injection e with e; omega)
        have hR6 := hR5.grown hgx6 (by intro e; injection e with e; omega)
        have bb6 := bb5.trans (hbx6.mono (by omega : B ≤ _))
        have hs6 : B + 2 ≤ x6.heap.size := (by rw [hsx6]; exact hs5)
        clear hsx6
        refine hK'.out _ _ trivial (fun hHeld => ?_)
        clear hK' K'
        try simp only [Act.put, sArr, sZ, sS]
        refine wpAnyH_done (by kernel_rfl) ?_ _
        clear hHeld
        go_wp2_with fail
        have hfit : 0 + N.length ≤ Y.length := by rw [hNl, hYl]; decide
        have hmin : N.length = Nat.min 16 32 := by rw [hNl]; rfl
        have hat : At x6 ⟨g3, 0, none⟩ N := hT6.at 0 _ fun j u hu => by
          rw [Nat.zero_add]; rw [hNS.out, List.getElem?_take] at hu; split at hu; exact hu; cases hu
        go_region_law (refine step_copy_splice rfl (.tmp 12) (.tmp 13) 69 69 rfl 5 Try.underlying69 size5 (some ⟨B + 1, 0, none⟩) (some ⟨g3, 0, none⟩) 16 16 32 32 rfl rfl (B + 1) 0 Y 25 hR6 N hmin (fun _ => ⟨rfl, _, rfl, hat⟩) hfit hN1 (B + 1) x6 ((Below.refl _ _).drew) (Nat.le_refl _) ?_; intro w6 hg6 hbz)
        have hRz : BlkV 25 w6 (B + 1) N := by
          have h1 := hg6.out
          unfold splice at h1
          rw [List.take_zero, List.nil_append, List.drop_of_length_le (by rw [hNl, hYl]; decide), List.append_nil] at h1
          exact h1
        have bbz : Below B w w6 := bb6.trans (hbz.mono (by omega))
        clear hR6 hT6 bb6 hg6 hbz hat hfit hmin
        go_wp2_with (first | (refine wl_load rfl 25 _ rfl ⟨B + 1, 0, none⟩ rfl N (by rw [hNl]; exact aggNo) hRz.at0 ?_) | (refine wl_storeV rfl 25 _ _ rfl 25 (B + 1) rfl N rfl 16 aggNo hNl N hRz hNl hN1 ?_; intro w7 hR7 hb7 hs7))
        (try simp only [Exit.inBlock, Exit.then]); refine bodyPost_ret (results_cell rfl _ _ _ _ rfl N (by rw [hNl]; exact aggNo) hR7.at0) rfl ?_
        exact ⟨rfl, by first | exact bbz.trans (hb7.mono (by omega)) | (rw [hsz]; exact bbz.trans (hb7.mono (by omega)))⟩
    · obtain ⟨g2, Hg2, hg2⟩ : ∃ g, Hid (x1.heap.size = g) ∧ B + 2 ≤ g := ⟨_, rfl, hs1⟩
      refine step_allocV rfl 73 rfl Z hz.out g2 Hg2.out ?_
      intro x2 hT2 hbx2 hsx2
      have hbf2 : Below x1.heap.size x1 x2 := (by rw [Hg2.out]; exact hbx2)
      have hA2 := hA1.below hbf2 hA1.lt
      have hR2 := hR1.below hbf2 hR1.lt
      have hP2 := hP1.below hbf2
      have bb2 := bb1.trans (hbf2.mono (Nat.le_trans (by omega : B ≤ B + 2) hs1))
      have hs2 := Nat.le_trans hs1 hbf2.size
      clear hsx2 hbx2
      refine hK'.out _ _ trivial (fun hHeld => ?_)
      clear hK' K'
      try simp only [Act.put, sArr, sZ, sS]
      refine wpAnyH_ready (rs := [3]) (by kernel_rfl) (by simp) (cons_l rfl (fun K' hK' => ?_) AllReadyH.nil)
      obtain ⟨g3, Hg3, hg3⟩ : ∃ g, Hid (x2.heap.size = g) ∧ B + 2 ≤ g := ⟨_, rfl, hs2⟩
      refine step_lit rfl 82 69 2 _ rfl Try.underlying82 (.slice none 0 0) 1 24 ck.infoBB (by decide) (by decide) [.slice (some ⟨B, 0, none⟩) 16 16, .slice a8 8 8] (by kernel_rfl) g3 Hg3.out ?_
      intro x3 hD3 hbx3 hsx3
      have hbf3 : Below x2.heap.size x2 x3 := (by rw [Hg3.out]; exact hbx3)
      have hA3 := hA2.below hbf3 hA2.lt
      have hR3 := hR2.below hbf3 hR2.lt
      have hT3 := hT2.below hbf3 hT2.lt
      have hP3 := hP2.below hbf3
      have bb3 := bb2.trans (hbf3.mono (Nat.le_trans (by omega : B ≤ B + 2) hs2))
      have hs3 := Nat.le_trans hs2 hbf3.size
      clear hsx3 hbx3
      refine hK'.out _ _ trivial (fun hHeld => ?_)
      clear hK' K'
      try simp only [Act.put, sArr, sZ, sS]
      refine wpAnyH_ready (rs := [4]) (by kernel_rfl) (by simp) (cons_l rfl (fun K' hK' => ?_) AllReadyH.nil)
      rw [if_pos (by rfl)]
      go_simp
      go_at_call 52
      refine ((hfr x3 g3 8 a8 hA3 hP3 hD3 hn8).out).mono ?_
      rintro e x4 ⟨af, cf, rfl, hM4, hbf4⟩
      have hA4 := hA3.below hbf4 hA3.lt
      have hR4 := hR3.below hbf4 hR3.lt
      have hT4 := hT3.below hbf4 hT3.lt
      have bb4 := bb3.trans (hbf4.mono (Nat.le_trans (by omega : B ≤ B + 2) hs3))
      have hs4 := Nat.le_trans hs3 hbf4.size
      obtain ⟨hF4, hnf⟩ := mine_pt hM4 Hm.out hm0 oF
      refine hK'.out _ _ trivial (fun hHeld => ?_)
      clear hK' K'
      try simp only [Act.put, sArr, sZ, sS]
      refine wpAnyH_ready (rs := [5]) (by kernel_rfl) (by simp) (cons_l rfl (fun K' hK' => ?_) AllReadyH.nil)
      rw [if_pos (by rfl)]
      go_simp
      go_at_call 51
      refine ((hsum x4 af cf hF4 hnf).out).mono ?_
      rintro e x5 ⟨rfl, hbf5⟩
      have hA5 := hA4.below hbf5 hA4.lt
      have hR5 := hR4.below hbf5 hR4.lt
      have hT5 := hT4.below hbf5 hT4.lt
      have bb5 := bb4.trans (hbf5.mono (Nat.le_trans (by omega : B ≤ B + 2) hs4))
      have hs5 := Nat.le_trans hs4 hbf5.size
      refine hK'.out _ _ trivial (fun hHeld => ?_)
      clear hK' K'
      try simp only [Act.put, sArr, sZ, sS]
      refine wpAnyH_ready (rs := [7]) (by kernel_rfl) (by simp) (cons_l rfl (fun K' hK' => ?_) AllReadyH.nil)
      refine ck.step_storeG rfl 73 _ _ rfl 73 g2 rfl S rfl 32 aggSumT hSl Z hT5 hZl hS1 ?_
      intro x6 hT6 hbx6 hgx6 hsx6
      have hA6 := hA5.grown hgx6 (by intro e; injection e with e; omega)
      have hR6 := hR5.grown hgx6 (by intro e; injection e with e; omega)
      have bb6 := bb5.trans (hbx6.mono (by omega : B ≤ _))
      have hs6 : B + 2 ≤ x6.heap.size := (by rw [hsx6]; exact hs5)
      clear hsx6
      refine hK'.out _ _ trivial (fun hHeld => ?_)
      clear hK' K'
      try simp only [Act.put, sArr, sZ, sS]
      refine wpAnyH_done (by kernel_rfl) ?_ _
      clear hHeld
      go_wp2_with fail
      have hfit : 0 + N.length ≤ Y.length := by rw [hNl, hYl]; decide
      have hmin : N.length = Nat.min 16 32 := by rw [hNl]; rfl
      have hat : At x6 ⟨g2, 0, none⟩ N := hT6.at 0 _ fun j u hu => by
        rw [Nat.zero_add]; rw [hNS.out, List.getElem?_take] at hu; split at hu; exact hu; cases hu
      go_region_law (refine step_copy_splice rfl (.tmp 12) (.tmp 13) 69 69 rfl 5 Try.underlying69 size5 (some ⟨B + 1, 0, none⟩) (some ⟨g2, 0, none⟩) 16 16 32 32 rfl rfl (B + 1) 0 Y 25 hR6 N hmin (fun _ => ⟨rfl, _, rfl, hat⟩) hfit hN1 (B + 1) x6 ((Below.refl _ _).drew) (Nat.le_refl _) ?_; intro w6 hg6 hbz)
      have hRz : BlkV 25 w6 (B + 1) N := by
        have h1 := hg6.out
        unfold splice at h1
        rw [List.take_zero, List.nil_append, List.drop_of_length_le (by rw [hNl, hYl]; decide), List.append_nil] at h1
        exact h1
      have bbz : Below B w w6 := bb6.trans (hbz.mono (by omega))
      clear hR6 hT6 bb6 hg6 hbz hat hfit hmin
      go_wp2_with (first | (refine wl_load rfl 25 _ rfl ⟨B + 1, 0, none⟩ rfl N (by rw [hNl]; exact aggNo) hRz.at0 ?_) | (refine wl_storeV rfl 25 _ _ rfl 25 (B + 1) rfl N rfl 16 aggNo hNl N hRz hNl hN1 ?_; intro w7 hR7 hb7 hs7))
      (try simp only [Exit.inBlock, Exit.then]); refine bodyPost_ret (results_cell rfl _ _ _ _ rfl N (by rw [hNl]; exact aggNo) hR7.at0) rfl ?_
      exact ⟨rfl, by first | exact bbz.trans (hb7.mono (by omega)) | (rw [hsz]; exact bbz.trans (hb7.mono (by omega)))⟩
  · obtain ⟨g1, Hg1, hg1⟩ : ∃ g, Hid (x0.heap.size = g) ∧ B + 2 ≤ g := ⟨_, rfl, hs0⟩
    refine step_allocV rfl 73 rfl Z hz.out g1 Hg1.out ?_
    intro x1 hT1 hbx1 hsx1
    have hbf1 : Below x0.heap.size x0 x1 := (by rw [Hg1.out]; exact hbx1)
    have hA1 := hA0.below hbf1 hA0.lt
    have hR1 := hR0.below hbf1 hR0.lt
    have bb1 := bb0.trans (hbf1.mono (Nat.le_trans (by omega : B ≤ B + 2) hs0))
    have hs1 := Nat.le_trans hs0 hbf1.size
    clear hsx1 hbx1
    refine hK'.out _ _ trivial (fun hHeld => ?_)
    clear hK' K'
    try simp only [Act.put, sArr, sZ, sS]
    refine wpAnyH_ready (rs := [2]) (by kernel_rfl) (by simp) (cons_l rfl (fun K' hK' => ?_) AllReadyH.nil)
    rw [if_pos (by rfl)]
    go_simp
    go_at_call 112
    refine ((hpl x1).out).mono ?_
    rintro e x2 ⟨rfl, hI2, hbf2⟩
    have hA2 := hA1.below hbf2 hA1.lt
    have hR2 := hR1.below hbf2 hR1.lt
    have hT2 := hT1.below hbf2 hT1.lt
    have bb2 := bb1.trans (hbf2.mono (Nat.le_trans (by omega : B ≤ B + 2) hs1))
    have hs2 := Nat.le_trans hs1 hbf2.size
    have hP2 : Pt.Ok x2 ⟨some ⟨x1.heap.size, 0, none⟩, 8, o8 i⟩ := pt_of rfl hI2 (o8_length i) (by decide) (o8_octs i)
    obtain ⟨a8, Ha8, hn8⟩ : ∃ a, Hid (a = (some ⟨x1.heap.size, 0, none⟩ : Option Addr)) ∧ (a = none → (8 : Nat) = 0) := ⟨_, rfl, fun h => by cases h⟩
    rw [← Ha8.out] at hP2 ⊢
    obtain ⟨c8, Hc8⟩ : ∃ c : Nat, Hid (c = 8) := ⟨_, rfl⟩
    refine hK'.out _ _ trivial (fun hHeld => ?_)
    clear hK' K'
    try simp only [Act.put, sArr, sZ, sS]
    refine wpAnyH_ready (rs := [3]) (by kernel_rfl) (by simp) (cons_l rfl (fun K' hK' => ?_) AllReadyH.nil)
    obtain ⟨g3, Hg3, hg3⟩ : ∃ g, Hid (x2.heap.size = g) ∧ B + 2 ≤ g := ⟨_, rfl, hs2⟩
    refine step_lit rfl 82 69 2 _ rfl Try.underlying82 (.slice none 0 0) 1 24 ck.infoBB (by decide) (by decide) [.slice (some ⟨B, 0, none⟩) 16 16, .slice a8 8 8] (by kernel_rfl) g3 Hg3.out ?_
    intro x3 hD3 hbx3 hsx3
    have hbf3 : Below x2.heap.size x2 x3 := (by rw [Hg3.out]; exact hbx3)
    have hA3 := hA2.below hbf3 hA2.lt
    have hR3 := hR2.below hbf3 hR2.lt
    have hT3 := hT2.below hbf3 hT2.lt
    have hP3 := hP2.below hbf3
    have bb3 := bb2.trans (hbf3.mono (Nat.le_trans (by omega : B ≤ B + 2) hs2))
    have hs3 := Nat.le_trans hs2 hbf3.size
    clear hsx3 hbx3
    refine hK'.out _ _ trivial (fun hHeld => ?_)
    clear hK' K'
    try simp only [Act.put, sArr, sZ, sS]
    refine wpAnyH_ready (rs := [4]) (by kernel_rfl) (by simp) (cons_l rfl (fun K' hK' => ?_) AllReadyH.nil)
    rw [if_pos (by rfl)]
    go_simp
    go_at_call 52
    refine ((hfr x3 g3 8 a8 hA3 hP3 hD3 hn8).out).mono ?_
    rintro e x4 ⟨af, cf, rfl, hM4, hbf4⟩
    have hA4 := hA3.below hbf4 hA3.lt
    have hR4 := hR3.below hbf4 hR3.lt
    have hT4 := hT3.below hbf4 hT3.lt
    have bb4 := bb3.trans (hbf4.mono (Nat.le_trans (by omega : B ≤ B + 2) hs3))
    have hs4 := Nat.le_trans hs3 hbf4.size
    obtain ⟨hF4, hnf⟩ := mine_pt hM4 Hm.out hm0 oF
    refine hK'.out _ _ trivial (fun hHeld => ?_)
    clear hK' K'
    try simp only [Act.put, sArr, sZ, sS]
    refine wpAnyH_ready (rs := [5]) (by kernel_rfl) (by simp) (cons_l rfl (fun K' hK' => ?_) AllReadyH.nil)
    rw [if_pos (by rfl)]
    go_simp
    go_at_call 51
    refine ((hsum x4 af cf hF4 hnf).out).mono ?_
    rintro e x5 ⟨rfl, hbf5⟩
    have hA5 := hA4.below hbf5 hA4.lt
    have hR5 := hR4.below hbf5 hR4.lt
    have hT5 := hT4.below hbf5 hT4.lt
    have bb5 := bb4.trans (hbf5.mono (Nat.le_trans (by omega : B ≤ B + 2) hs4))
    have hs5 := Nat.le_trans hs4 hbf5.size
    refine hK'.out _ _ trivial (fun hHeld => ?_)
    clear hK' K'
    try simp only [Act.put, sArr, sZ, sS]
    refine wpAnyH_ready (rs := [7]) (by kernel_rfl) (by simp) (cons_l rfl (fun K' hK' => ?_) AllReadyH.nil)
    refine ck.step_storeG rfl 73 _ _ rfl 73 g1 rfl S rfl 32 aggSumT hSl Z hT5 hZl hS1 ?_
    intro x6 hT6 hbx6 hgx6 hsx6
    have hA6 := hA5.grown hgx6 (by intro e; injection e with e; omega)
    have hR6 := hR5.grown hgx6 (by intro e; injection e with e; omega)
    have bb6 := bb5.trans (hbx6.mono (by omega : B ≤ _))
    have hs6 : B + 2 ≤ x6.heap.size := (by rw [hsx6]; exact hs5)
    clear hsx6
    refine hK'.out _ _ trivial (fun hHeld => ?_)
    clear hK' K'
    try simp only [Act.put, sArr, sZ, sS]
    refine wpAnyH_done (by kernel_rfl) ?_ _
    clear hHeld
    go_wp2_with fail
    have hfit : 0 + N.length ≤ Y.length := by rw [hNl, hYl]; decide
    have hmin : N.length = Nat.min 16 32 := by rw [hNl]; rfl
    have hat : At x6 ⟨g1, 0, none⟩ N := hT6.at 0 _ fun j u hu => by
      rw [Nat.zero_add]; rw [hNS.out, List.getElem?_take] at hu; split at hu; exact hu; cases hu
    go_region_law (refine step_copy_splice rfl (.tmp 12) (.tmp 13) 69 69 rfl 5 Try.underlying69 size5 (some ⟨B + 1, 0, none⟩) (some ⟨g1, 0, none⟩) 16 16 32 32 rfl rfl (B + 1) 0 Y 25 hR6 N hmin (fun _ => ⟨rfl, _, rfl, hat⟩) hfit hN1 (B + 1) x6 ((Below.refl _ _).drew) (Nat.le_refl _) ?_; intro w6 hg6 hbz)
    have hRz : BlkV 25 w6 (B + 1) N := by
      have h1 := hg6.out
      unfold splice at h1
      rw [List.take_zero, List.nil_append, List.drop_of_length_le (by rw [hNl, hYl]; decide), List.append_nil] at h1
      exact h1
    have bbz : Below B w w6 := bb6.trans (hbz.mono (by omega))
    clear hR6 hT6 bb6 hg6 hbz hat hfit hmin
    go_wp2_with (first | (refine wl_load rfl 25 _ rfl ⟨B + 1, 0, none⟩ rfl N (by rw [hNl]; exact aggNo) hRz.at0 ?_) | (refine wl_storeV rfl 25 _ _ rfl 25 (B + 1) rfl N rfl 16 aggNo hNl N hRz hNl hN1 ?_; intro w7 hR7 hb7 hs7))
    (try simp only [Exit.inBlock, Exit.then]); refine bodyPost_ret (results_cell rfl _ _ _ _ rfl N (by rw [hNl]; exact aggNo) hR7.at0) rfl ?_
    exact ⟨rfl, by first | exact bbz.trans (hb7.mono (by omega)) | (rw [hsz]; exact bbz.trans (hb7.mono (by omega)))⟩
end Go.Proofs.Ytbljihhelladbaa.wr
