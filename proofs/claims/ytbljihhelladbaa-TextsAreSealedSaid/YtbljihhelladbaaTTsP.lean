/-
  The law TextsAreSealed at texts of up to 5000 octets. Conditions: keys and a nonce of octets, octets that lie in memory.
-/
import Derived.Test.YtbljihhelladbaaTTsO
namespace Go.Proofs.Ytbljihhelladbaa.wr
open Go.RowKit Go.Proofs.Ytbljihhelladbaa.st Go.Proofs.Ytbljihhelladbaa.hs Go.Proofs.Ytbljihhelladbaa.shr Go.Proofs.Ytbljihhelladbaa.sh
set_option linter.unusedSimpArgs false
set_option linter.unusedVariables false
set_option pp.maxSteps 6000
theorem u64_pos (x : Int) : 0 ≤ IntKind.u64.wrap x := by
  unfold IntKind.wrap
  simp [IntKind.signed, IntKind.bits]
  omega
theorem rem_q (x : Int) (m : Nat) (h0 : 0 < m) (hm : m ≤ 1200000000) : ∃ q : Nat, q < m ∧ RowKit.wrap64 ((IntKind.u64.wrap x).tmod (m : Int)) = (q : Int) := by
  have h1 := u64_pos x
  obtain ⟨A, hA⟩ : ∃ A, IntKind.u64.wrap x = A := ⟨_, rfl⟩
  rw [hA] at h1 ⊢
  rw [Int.tmod_eq_emod_of_nonneg h1]
  have h2 := Int.emod_nonneg A (show (m : Int) ≠ 0 by omega)
  have h3 := Int.emod_lt_of_pos A (show (0 : Int) < m by omega)
  obtain ⟨r, hr⟩ : ∃ r, A % (m : Int) = r := ⟨_, rfl⟩
  rw [hr] at h2 h3 ⊢
  exact ⟨r.toNat, by omega, by unfold RowKit.wrap64; omega⟩
theorem cur_at {cur : List Value} {m q : Nat} {L : List Int} (h : cur.take m = L.map (Value.int .u8)) (hq : q < m) (hm : m = L.length) : cur[q]? = some (.int .u8 (L.getD q 0)) := by
  have e : (cur.take m)[q]? = cur[q]? := by rw [List.getElem?_take, if_pos hq]
  rw [← e, h, List.getElem?_map, List.getElem?_eq_getElem (by omega), List.getD_eq_getElem?_getD, List.getElem?_eq_getElem (by omega)]
  rfl
theorem wrap_suc (m : Nat) (hm : m ≤ 1200000000) : IntKind.i64.wrap ((m : Int) + 1) = (m : Int) + 1 := by
  unfold IntKind.wrap
  simp [IntKind.signed, IntKind.bits]
  omega
theorem uwrap_suc (m : Nat) (hm : m ≤ 1200000000) : IntKind.u64.wrap ((m : Int) + 1) = (m : Int) + 1 := by
  unfold IntKind.wrap
  simp [IntKind.signed, IntKind.bits]
  omega
theorem rem_z (x : Int) (m : Nat) (hm : m ≤ 1200000000) : ∃ z : Nat, z ≤ m ∧ IntKind.i64.wrap ((IntKind.u64.wrap x).tmod ((m : Int) + 1)) = (z : Int) := by
  have h1 := u64_pos x
  obtain ⟨A, hA⟩ : ∃ A, IntKind.u64.wrap x = A := ⟨_, rfl⟩
  rw [hA] at h1 ⊢
  rw [Int.tmod_eq_emod_of_nonneg h1]
  have h2 := Int.emod_nonneg A (show (m : Int) + 1 ≠ 0 by omega)
  have h3 := Int.emod_lt_of_pos A (show (0 : Int) < (m : Int) + 1 by omega)
  obtain ⟨r, hr⟩ : ∃ r, A % ((m : Int) + 1) = r := ⟨_, rfl⟩
  rw [hr] at h2 h3 ⊢
  refine ⟨r.toNat, by omega, ?_⟩
  unfold IntKind.wrap
  simp [IntKind.signed, IntKind.bits]
  omega
theorem fold_off (o : Nat) : ∀ (cs : List Value) (k : Nat) (base : Array Value), (cs.zipIdx k).foldl (fun (a : Array Value) (x : Value × Nat) => a.setIfInBounds (o + x.2) x.1) base = (cs.zipIdx (o + k)).foldl (fun (a : Array Value) (x : Value × Nat) => a.setIfInBounds (0 + x.2) x.1) base
  | [], k, base => by simp
  | c :: r, k, base => by
    rw [List.zipIdx_cons, List.zipIdx_cons, List.foldl_cons, List.foldl_cons, fold_off o r (k + 1)]
    simp only [Nat.zero_add, Nat.add_assoc]
theorem fill_two (size : Nat) (A B : List Value) (base : Array Value) (hA : A.length = size) (hB : B.length = size) (hb : base.size = 2 * size) : Instr.fill (fun i => some (i * size, size)) base [(0, .agg A.toArray), (1, .agg B.toArray)] = some (A ++ B).toArray := by
  have h1 := fold_zip A 0 base (by omega)
  obtain ⟨b1, hb1⟩ : ∃ b, b = (A.zipIdx 0).foldl (fun (a : Array Value) (x : Value × Nat) => a.setIfInBounds (0 + x.2) x.1) base := ⟨_, rfl⟩
  rw [← hb1] at h1
  have hl1 : b1.size = 2 * size := by
    have := congrArg List.length h1
    simp at this
    omega
  have h2 := fold_zip B size b1 (by omega)
  unfold Instr.fill
  simp only [Value.cells, Nat.zero_mul]
  rw [if_neg (by simp; omega)]
  rw [show ((A.toArray.zipIdx).foldl (fun (a : Array Value) (x : Value × Nat) => a.setIfInBounds (0 + x.2) x.1) base) = b1 by rw [hb1]; simp]
  unfold Instr.fill
  simp only [Value.cells, Nat.one_mul]
  rw [if_neg (by simp; omega)]
  unfold Instr.fill
  congr 1
  apply Array.ext'
  rw [show ((B.toArray.zipIdx).foldl (fun (a : Array Value) (x : Value × Nat) => a.setIfInBounds (size + x.2) x.1) b1) = ((B.zipIdx size).foldl (fun (a : Array Value) (x : Value × Nat) => a.setIfInBounds (0 + x.2) x.1) b1) by rw [← Nat.add_zero size, ← fold_off size B 0 b1]; simp, h2, h1]
  have e1 : (List.take 0 base.toList ++ A ++ List.drop (0 + A.length) base.toList).take size = A := by
    rw [List.take_zero, List.nil_append, List.take_append_of_le_length (by omega), List.take_of_length_le (by omega)]
  rw [e1, List.drop_of_length_le (by simp; omega)]
  simp
theorem zeroKy : (Try.prog.info? 23).map (·.zero) = some (some (.agg (List.replicate 32 (Value.int .u8 0)).toArray)) := by kernel_rfl
theorem infoKey : Info Try.prog 23 (.agg (List.replicate 32 (Value.int .u8 0)).toArray) 32 32 := by unfold Info; kernel_rfl
theorem RowI.takeN {w : World} {ao : Option Addr} {l : List Int} (h : RowI .u8 w ao l) (z : Nat) : RowI .u8 w ao (l.take z) := by
  rcases h with h | ⟨b, off, h1, h2, h3⟩
  · exact Or.inl (by rw [h]; simp)
  · refine Or.inr ⟨b, off, h1, h2, fun i hi => ?_⟩
    rw [List.length_take] at hi
    rw [h3 i (by omega)]
    simp [List.getD_eq_getElem?_getD, List.getElem?_take, show i < z by omega]
theorem keyLeft {w : World} {g : Nat} {A B : List Value} (h : BlkV 23 w g (A ++ B)) : At w ⟨g, 0, none⟩ A := fun j u hu => by
  have hj : j < A.length := (List.getElem?_eq_some_iff.1 hu).1
  have e := h.at0 j u (by rw [List.getElem?_append_left hj]; exact hu)
  exact e
theorem keyRight {w : World} {g : Nat} {A B : List Value} (h : BlkV 23 w g (A ++ B)) : At w ⟨g, A.length, none⟩ B := fun j u hu => by
  have e := h.at0 (A.length + j) u (by rw [List.getElem?_append_right (by omega), Nat.add_sub_cancel_left]; exact hu)
  rw [addr_add] at e ⊢
  simpa using e
set_option maxRecDepth 100000 in
set_option maxHeartbeats 4000000 in
theorem sealed_main (k o n h t : List Int) (ha ta : Option Addr) (hp tp hn tn : Nat) (bs i at_ by_ cut : Int) (w : World) (hk : k.length = 32) (ok : Octs k) (hol : o.length = 32) (oo : Octs o) (hnn : n.length = 16) (on : Octs n) (hhn : hn = h.length) (htn : tn = t.length) (HH : Pt.Ok w ⟨ha, hp, h⟩) (HT : Pt.Ok w ⟨ta, tp, t⟩) (h0 : ha = none → hp = 0) (t0 : ta = none → tp = 0) (h1 : 16 ≤ bs ∧ bs ≤ 65536) (h3 : ¬ 4096 < hn) (h4 : ¬ 262144 < tn) (h5 : ¬ 5000 < tn) :
    Calls Try.prog 13 #[.agg (k.map (Value.int .u8)).toArray, .agg (o.map (Value.int .u8)).toArray, .agg (n.map (Value.int .u8)).toArray, .slice ha hn hp, .slice ta tn tp, .int .i64 bs, .int .i64 i, .int .i64 at_, .int .u8 by_, .int .i64 cut] w fun e w' => e = .returned (.bool true) ∧ Below w.heap.size w w' := by
  obtain ⟨B, HB⟩ : ∃ B, Hid (B = w.heap.size) := ⟨_, rfl⟩
  have hsz : w.heap.size = B := HB.out.symm
  obtain ⟨K, HK⟩ : ∃ K, Hid (K = k.map (Value.int .u8)) := ⟨_, rfl⟩
  have hKl : K.length = 32 := by rw [HK.out, List.length_map, hk]
  obtain ⟨O, HO⟩ : ∃ K, Hid (K = o.map (Value.int .u8)) := ⟨_, rfl⟩
  have hOl : O.length = 32 := by rw [HO.out, List.length_map, hol]
  obtain ⟨NV, HNV⟩ : ∃ K, Hid (K = n.map (Value.int .u8)) := ⟨_, rfl⟩
  have hNl : NV.length = 16 := by rw [HNV.out, List.length_map, hnn]
  have hwr := fun y => hid (wraps_any y)
  have hin := fun y => hid (In_b bs 16 65536 y)
  obtain ⟨bn, hbn⟩ : ∃ b : Nat, bs = (b : Int) := ⟨bs.toNat, by omega⟩
  subst hbn
  have hI : inB (bn : Int) 16 65536 = true := by unfold inB; simp; omega
  rw [hI] at hin
  have hst := fun (y : World) (hb : Below B w y) => hid (SealText_ok k n h t bn ha ta hp tp hn tn y hk ok hnn on hhn htn (HH.below (hsz ▸ hb)) (HT.below (hsz ▸ hb)) h0 (by omega) (by omega) (by omega) (by omega))
  have HFL : Hid (firstE2 (whenE false 4) (whenE false 5) = 0) := hid rfl
  have hI3 : ¬ (4096 : Int) < (hn : Int) := by omega
  have hd3 : decide ((4096 : Int) < (hn : Int)) = false := decide_eq_false hI3
  have hI4 : ¬ (262144 : Int) < (tn : Int) := by omega
  have hd4 : decide ((262144 : Int) < (tn : Int)) = false := decide_eq_false hI4
  have hI5 : ¬ (5000 : Int) < (tn : Int) := by omega
  have hKc : ∀ u ∈ K, u.oneCell' = true := by rw [HK.out]; exact ints_one _ _
  have hOc : ∀ u ∈ O, u.oneCell' = true := by rw [HO.out]; exact ints_one _ _
  obtain ⟨Z, HZ⟩ : ∃ Z : List Value, Hid (Z = List.replicate 32 (Value.int .u8 0)) := ⟨_, rfl⟩
  have hz := hid zeroKy
  rw [← HZ.out] at hz
  have hZl : Z.length = 32 := by rw [HZ.out]; simp
  have hse := fun (y : World) (hb : Below B w y) => hid (SealedText_ok k n h t bn ha ta hp tp hn tn y hk ok hnn on hhn htn (HH.below (hsz ▸ hb)) (HT.below (hsz ▸ hb)) h0 (by omega) (by omega) (by omega) (by omega))
  obtain ⟨L, HL⟩ : ∃ L, Hid (L = sealT k n h t bn) := ⟨_, rfl⟩
  have oL : Octs L := by rw [HL.out]; exact sealT_octs k h on (show Octs t from HT.oct) bn
  simp only [← HK.out, ← HNV.out, ← HL.out] at hst hse
  rw [← HK.out, ← HO.out, ← HNV.out]
  have hcm : min (tn : Int) 9 = ((min tn 9 : Nat) : Int) := by omega
  have hopk := hid (fun (l' : List Int) (bo : Option Addr) (bc n' : Nat) (y : World) (hb : Below B w y) (hn' : n' = l'.length) (HL' : Pt.Ok y ⟨bo, bc, l'⟩) => opened_any k h l' bo bc n' ha hp hn i y hk ok hn' HL' hhn (HH.below (hsz ▸ hb)) h0)
  have hopo := hid (fun (l' : List Int) (bo : Option Addr) (bc n' : Nat) (y : World) (hb : Below B w y) (hn' : n' = l'.length) (HL' : Pt.Ok y ⟨bo, bc, l'⟩) => opened_any o h l' bo bc n' ha hp hn i y hol oo hn' HL' hhn (HH.below (hsz ▸ hb)) h0)
  have hopt := hid (fun (l' h' : List Int) (bo : Option Addr) (bc n' hn' : Nat) (y : World) (hb : Below B w y) (hn0 : n' = l'.length) (HL' : Pt.Ok y ⟨bo, bc, l'⟩) (hh' : hn' = h'.length) (HH' : Pt.Ok y ⟨ta, tp, h'⟩) => opened_any k h' l' bo bc n' ta tp hn' i y hk ok hn0 HL' hh' HH' t0)
  have HTT := hid HT
  have HTN := hid htn
  simp only [← HK.out] at hopk hopt
  simp only [← HO.out] at hopo
  clear hI hk ok hol oo hnn on hhn htn HH HT h0 t0 h1 h3 h4 h5
  go_enter Try.func13, Try.ntmps13
  go_wp2_with (first | (go_at_call 77; refine (Clone8_any (some ⟨gs, 0, none⟩) ms cs (L.map (Value.int .u8)) w5 hPs5.row.v (by rw [List.length_map, hms.out, Nat.mul_one]) (ints_one _ _) (by simp) (by omega)).mono ?_; rintro e w6 ⟨v6, rfl, hM6, hbF6⟩; obtain ⟨ab, cb, rfl, _, _⟩ := hM6.row; obtain ⟨gb, cur, rfl, hgb, hG, hc1, hc2, hc3, hc4⟩ := own_blk (mine_own hM6 (by omega)) (by omega); have hPs6 := hPs5.below hbF6; have hgs5 : gs < w5.heap.size := hPs5.lt _ rfl; have hB5 := hN5.lt; have hK6 := hK5.below hbF6 hK5.lt; have hO6 := hO5.below hbF6 hO5.lt; have hN6 := hN5.below hbF6 hN5.lt; have bb6 := bb5.trans (hbF6.mono (Nat.le_of_lt hK5.lt)); clear hK5 hO5 hN5 bb5; clear hPs5 hPe hM6; obtain ⟨q, hq1, hq2⟩ := rem_q at_ ms (by omega) (by omega); have cX := (hG.cell q).trans (cur_at hc4 hq1 hms.out); have fX := hG.frozen q; have hqI : (q : Int) < (ms : Int) := (by omega); have hq0 : (0 : Int) ≤ (q : Int) := (by omega)) | (go_at_call 44; refine (Equal_any (some ⟨gs, 0, none⟩) (some ⟨ge, 0, none⟩) cs ce ms me L L w5 hms.out hme.out hPs5.row hPe.row oL oL).mono ?_; rintro e wx ⟨rfl, hwx⟩; subst wx) | (go_at_call 76; refine (hse w4 bb4).out.mono ?_; rintro e w5 ⟨ge, ce, me, rfl, hme, hPe, hge, hme1, hme2, hbF5⟩; have hPs5 := hPs4.below hbF5; have hK5 := hK4.below hbF5 hK4.lt; have hO5 := hO4.below hbF5 hO4.lt; have hN5 := hN4.below hbF5 hN4.lt; have bb5 := bb4.trans (hbF5.mono (Nat.le_of_lt hK4.lt)); clear hK4 hO4 hN4 bb4; clear hPs4) | (refine wl_loadG (by rfl) 25 _ rfl ⟨B + 1 + 1, 0, none⟩ rfl 16 NV hNl aggNo hN4.at0 ?_) | (refine wl_loadG (by rfl) 23 _ rfl ⟨B, 0, none⟩ rfl 32 K hKl aggKey hK4.at0 ?_) | (go_at_call 70; refine (hwr _).out.mono ?_; rintro e w4 ⟨rfl, hb4⟩; have hbF4 : Below w3.heap.size w3 w4 := ((Below.refl _ _).alloc (Nat.le_refl _) _).trans (hb4.mono (by simp)); have hPs4 := hPs.below hbF4; have hK4 := hK3.below hbF4 hK3.lt; have hO4 := hO3.below hbF4 hO3.lt; have hN4 := hN3.below hbF4 hN3.lt; have bb4 := bb3.trans (hbF4.mono (Nat.le_of_lt hK3.lt)); clear hK3 hO3 hN3 bb3; clear hb4 hPs; have hI6 : ¬ (ms : Int) = 0 := (by omega)) | (go_at_call 23; refine (First_two _ _ _ _ rfl).mono ?_; rintro e wx ⟨rfl, hwx⟩; subst wx; rw [HFL.out]) | (go_at_call 21; refine (When_any _ _ _).mono ?_; rintro e wx ⟨rfl, hwx⟩; subst wx) | (go_at_call 16; refine (hin _).out.mono ?_; rintro e wx ⟨rfl, hwx⟩; subst wx) | (go_at_call 75; refine (hst w2 bb2).out.mono ?_; rintro e w3 ⟨gs, cs, ms, rfl, hms, hPs, hgs, hm1, hm2, hbF3⟩; have hK3 := hK2.below hbF3 hK2.lt; have hO3 := hO2.below hbF3 hO2.lt; have hN3 := hN2.below hbF3 hN2.lt; have bb3 := bb2.trans (hbF3.mono (Nat.le_of_lt hK2.lt)); clear hK2 hO2 hN2 bb2) | (refine wl_loadG (by rfl) 25 _ rfl ⟨B + 1 + 1, 0, none⟩ rfl 16 NV hNl aggNo hN2.at0 ?_) | (refine wl_loadG (by rfl) 23 _ rfl ⟨B, 0, none⟩ rfl 32 K hKl aggKey hK2.at0 ?_) | (refine wl_boxV rfl 25 _ rfl NV rfl (B + 1 + 1) hs1 ?_; intro w2 hN2 hb2 hs2; have hK2 := hK1.below hb2 (by omega); have hO2 := hO1.below hb2 (by omega); have bb2 := bb1.trans (hb2.mono (by omega : B ≤ _)); clear hs0 hs1) | (refine wl_boxV rfl 23 _ rfl O rfl (B + 1) hs0 ?_; intro w1 hO1 hb1 hs1; have hK1 := hK0.below hb1 (by omega); have bb1 := bb0.trans (hb1.mono (by omega : B ≤ _))) | (refine wl_boxV rfl 23 _ rfl K rfl B hsz ?_; intro w0 hK0 bb0 hs0))
  obtain ⟨XV, HXV⟩ : ∃ x, Hid (x = bits BinOp.xor IntKind.u8 (L[q]?.getD 0) by_) := ⟨_, rfl⟩
  rw [← HXV.out]
  have oX : Oct XV := by rw [HXV.out]; exact ⟨(bounds_u8 (wf_bits .xor .u8 _ _)).1, (bounds_u8 (wf_bits .xor .u8 _ _)).2⟩
  obtain ⟨w7, HW7⟩ : ∃ x, Hid (x = w6.setCell ⟨gb, q, none⟩ (.int .u8 XV)) := ⟨_, rfl⟩
  rw [← HW7.out]
  have hb67 : Below w5.heap.size w6 w7 := by rw [HW7.out]; exact (Below.refl _ _).setCell hgb _
  have hG7 : BlkV 5 w7 gb (cur.set q (.int .u8 XV)) := by rw [HW7.out]; exact hG.set q _
  have hPs7 := ptBelowC hPs6 hb67 (fun b e => by cases e; exact hgs5)
  have hK7 := hK6.below hb67 (by omega)
  have hO7 := hO6.below hb67 (by omega)
  have bb7 := bb6.trans (hb67.mono (by omega : B ≤ _))
  obtain ⟨L2, HL2⟩ : ∃ l, Hid (l = L.set q XV) := ⟨_, rfl⟩
  have oL2 : Octs L2 := by
    intro c hc
    rw [HL2.out] at hc
    rcases List.mem_or_eq_of_mem_set hc with hc | rfl
    · exact oL c hc
    · exact oX
  have hml2 : Hid (ms = L2.length) := hid (by rw [HL2.out, List.length_set]; exact hms.out)
  have hB7 : Pt.Ok w7 ⟨some ⟨gb, 0, none⟩, cb, L2⟩ := Own8.pt (B := 0) (blk_own (Nat.zero_le _) hG7 hc1 hc2 (by rw [List.length_set]; exact hc3) (by rw [List.take_set, hc4, HL2.out, List.map_set])) hml2.out oL2 (by omega)
  clear hG hG7 hPs6 hK6 hO6 hN6 bb6 cX fX hq2 hqI hq0 hc4 hc3 hb67 hgs5
  obtain ⟨z, hz1, hz2⟩ := rem_z cut ms (by omega)
  have hwm := wrap_suc ms (by omega)
  have hum := uwrap_suc ms (by omega)
  have hmne : ¬ ((ms : Int) + 1) = 0 := by omega
  have hms2 : ms ≤ cs := by have h8 := hPs7.len; have h9 := hms.out; dsimp only at h8; omega
  refine wp_region_held_drew (S := (fun _ => True)) (by kernel_rfl) trivial (fun hHeld => ?_)
  obtain ⟨x0, HX⟩ : ∃ x, Hid (x = w7.drew) := ⟨_, rfl⟩
  rw [← HX.out]
  have hS0 : Pt.Ok x0 ⟨some ⟨gs, 0, none⟩, cs, L⟩ := by rw [HX.out]; exact ptDrew hPs7
  have hB0 : Pt.Ok x0 ⟨some ⟨gb, 0, none⟩, cb, L2⟩ := by rw [HX.out]; exact ptDrew hB7
  have hK0 : BlkV 23 x0 B K := by rw [HX.out]; exact hK7
  have hO0 : BlkV 23 x0 (B + 1) O := by rw [HX.out]; exact hO7
  have bb0 : Below B w x0 := by rw [HX.out]; exact bb7.drew
  obtain ⟨G, HG⟩ : ∃ g, Hid (g = x0.heap.size) := ⟨_, rfl⟩
  have bs0 : Below G x0 x0 := Below.refl _ _
  have hs0 : G ≤ x0.heap.size := by rw [HG.out]; exact Nat.le_refl _
  have hsB := fun (y : World) (hb : Below G x0 y) => hS0.below (HG.out ▸ hb)
  clear hPs7 hB7 hK7 hO7 bb7
  refine tkP 0 rfl (by assumption) ⟨?_, ?_, ?_⟩
  rotate_left
  · intro w hSw; (try dsimp only at hSw); go_simp; (try with_reducible rfl)
  try simp only [Act.put, sArr, sZ, sS]
  refine tkP 1 rfl (by assumption) ⟨?_, ?_, ?_⟩
  rotate_left
  · intro w hSw; (try dsimp only at hSw); go_simp; (try with_reducible rfl)
  try simp only [Act.put, sArr, sZ, sS]
  refine tkP 2 rfl (by assumption) ⟨?_, ?_, ?_⟩
  rotate_left
  · intro w hSw; (try dsimp only at hSw); go_simp; (try with_reducible rfl)
  try simp only [Act.put, sArr, sZ, sS]
  refine tkP 3 rfl (by assumption) ⟨?_, ?_, ?_⟩
  rotate_left
  · intro w hSw; (try dsimp only at hSw); go_simp; (try with_reducible rfl)
  try simp only [Act.put, sArr, sZ, sS]
  refine tkP 4 rfl (by assumption) ⟨?_, ?_, ?_⟩
  rotate_left
  · intro w hSw; (try dsimp only at hSw); go_simp; (try with_reducible rfl)
  try simp only [Act.put, sArr, sZ, sS]
  refine tkP 5 rfl (by assumption) ⟨?_, ?_, ?_⟩
  rotate_left
  · intro w hSw; (try dsimp only at hSw); go_simp; (try with_reducible rfl)
  try simp only [Act.put, sArr, sZ, sS]
  refine tkP 6 rfl (by assumption) ⟨?_, ?_, ?_⟩
  rotate_left
  · intro w hSw; (try dsimp only at hSw); go_simp; (try with_reducible rfl)
  try simp only [Act.put, sArr, sZ, sS]
  refine tkP 7 rfl (by assumption) ⟨?_, ?_, ?_⟩
  rotate_left
  · intro w hSw; (try dsimp only at hSw); go_simp; (try with_reducible rfl)
  try simp only [Act.put, sArr, sZ, sS]
  refine tkP 8 rfl (by assumption) ⟨?_, ?_, ?_⟩
  rotate_left
  · intro w hSw; (try dsimp only at hSw); go_simp; (try with_reducible rfl)
  try simp only [Act.put, sArr, sZ, sS]
  refine tkP 9 rfl (by assumption) ⟨?_, ?_, ?_⟩
  rotate_left
  · intro w hSw; (try dsimp only at hSw); go_simp; (try with_reducible rfl)
  try simp only [Act.put, sArr, sZ, sS]
  refine tkP 10 rfl (by assumption) ⟨?_, ?_, ?_⟩
  rotate_left
  · intro w hSw; (try dsimp only at hSw); go_simp; (try with_reducible rfl)
  try simp only [Act.put, sArr, sZ, sS]
  refine tkR 11 rfl (ck.yieldsIf_sliceH (by rfl) 69 _ _ rfl (some ⟨gs, 0, none⟩) ms cs z 1 rfl _ rfl (by first | rfl | exact hz2) elem8 (by intro w; first | exact size8e w | exact size8e) (by omega)) (by assumption) ?_
  try simp only [Act.put, sArr, sZ, sS]
  refine tkP 12 rfl (by assumption) ⟨?_, ?_, ?_⟩
  rotate_left
  · intro w hSw; (try dsimp only at hSw); go_simp; (try with_reducible rfl)
  try simp only [Act.put, sArr, sZ, sS]
  refine tkP 18 rfl (by assumption) ⟨?_, ?_, ?_⟩
  rotate_left
  · intro w hSw; (try dsimp only at hSw); go_simp; (try with_reducible rfl)
  try simp only [Act.put, sArr, sZ, sS]
  refine wpAnyH_ready (rs := [13, 14]) (by kernel_rfl) (by simp) (cons_l rfl (fun K' hK' => ?_) (cons_l rfl (fun K' hK' => ?_) AllReadyH.nil))
  · rw [if_pos (by rfl)]
    go_simp
    go_at_call 77
    refine (Clone8_any (some ⟨gs, 0, none⟩) ms cs (L.map (Value.int .u8)) x0 (hsB x0 bs0).row.v (by rw [List.length_map, hms.out, Nat.mul_one]) (ints_one _ _) (by simp) (by omega)).mono ?_
    rintro e x1 ⟨vc, rfl, hMc, hbF1⟩
    obtain ⟨ac, cc, rfl, _, _⟩ := hMc.row
    have bs1 := bs0.trans (hbF1.mono hs0)
    have hM1 := hMc.mono hs0
    have hs1 := Nat.le_trans hs0 hbF1.size
    refine hK'.out _ _ trivial (fun hHeld => ?_)
    clear hK' K'
    try simp only [Act.put, sArr, sZ, sS]
    refine wpAnyH_ready (rs := [14]) (by kernel_rfl) (by simp) (cons_l rfl (fun K' hK' => ?_) AllReadyH.nil)
    obtain ⟨gl, Hgl⟩ : ∃ g, Hid (x1.heap.size = g) := ⟨_, rfl⟩
    refine step_lit rfl 69 5 1 _ rfl Try.underlying69 (.int .u8 0) 1 1 info8 (by decide) (by decide) [.int .u8 0] (by kernel_rfl) gl Hgl.out ?_
    intro x2 hT2 hbx hsx
    have hbF2 : Below x1.heap.size x1 x2 := by rw [Hgl.out]; exact hbx
    have bs2 := bs1.trans (hbF2.mono hs1)
    have hs2 := Nat.le_trans hs1 hbF2.size
    clear hbx hsx
    have hM2 := Mine.belowAll hM1 hbF2
    refine hK'.out _ _ trivial (fun hHeld => ?_)
    clear hK' K'
    try simp only [Act.put, sArr, sZ, sS]
    refine wpAnyH_ready (rs := [15]) (by kernel_rfl) (by simp) (cons_l rfl (fun K' hK' => ?_) AllReadyH.nil)
    refine step_appendS rfl _ _ 69 rfl 5 (.int .u8 0) 1 1 Try.underlying69 info8 rfl (by decide) G _ ms _ rfl hM2 (some ⟨gl, 0, none⟩) 1 1 rfl (fun h => by cases h) [.int .u8 0] rfl (at_row hT2.lt hT2.at0) (by intro u hu; simp at hu; subst hu; rfl) (by unfold maxLen; omega) (by omega) hs2 (ms + 1) rfl ?_
    intro a8 c8 x3 row8 hc8 hM3 hv8 hg8 hr8
    have bs3 := bs2.grown hg8 hs2 (fun k hk => (hr8 k hk).1)
    have hs3 := Nat.le_trans hs2 hg8.size
    refine hK'.out _ _ trivial (fun hHeld => ?_)
    clear hK' K'
    try simp only [Act.put, sArr, sZ, sS]
    refine wpAnyH_ready (rs := [16]) (by kernel_rfl) (by simp) (cons_l rfl (fun K' hK' => ?_) AllReadyH.nil)
    obtain ⟨gd, Hgd⟩ : ∃ g, Hid (x3.heap.size = g) := ⟨_, rfl⟩
    refine step_lit rfl 82 69 4 _ rfl Try.underlying82 (.slice none 0 0) 1 24 ck.infoBB (by decide) (by decide) [.slice (some ⟨gs, 0, none⟩) ms cs, .slice (some ⟨gb, 0, none⟩) ms cb, .slice (some ⟨gs, 0, none⟩) z cs, .slice a8 (ms + 1) c8] (by kernel_rfl) gd Hgd.out ?_
    intro y0 hD0 hbx hsx
    have hbF4 : Below x3.heap.size x3 y0 := by rw [Hgd.out]; exact hbx
    have by0 := bs3.trans (hbF4.mono hs3)
    have hMy := Mine.belowAll hM3 hbF4
    clear hbx hsx
    refine hK'.out _ _ trivial (fun hHeld => ?_)
    clear hK' K'
    try simp only [Act.put, sArr, sZ, sS]
    refine tkP 17 rfl (by assumption) ⟨?_, ?_, ?_⟩
    rotate_left
    · intro w hSw; (try dsimp only at hSw); go_simp; (try with_reducible rfl)
    try simp only [Act.put, sArr, sZ, sS]
    refine wpAnyH_done (by kernel_rfl) ?_ _
    clear hHeld
    obtain ⟨D, HD⟩ : ∃ D : List Value, Hid (D = [.slice (some ⟨gs, 0, none⟩) ms cs, .slice (some ⟨gb, 0, none⟩) ms cb, .slice (some ⟨gs, 0, none⟩) z cs, .slice a8 (ms + 1) c8]) := ⟨_, rfl⟩
    rw [← HD.out] at hD0
    obtain ⟨Y, HY⟩ : ∃ g, Hid (g = y0.heap.size) := ⟨_, rfl⟩
    have hSy := hsB y0 by0
    have hBy : Pt.Ok y0 ⟨some ⟨gb, 0, none⟩, cb, L2⟩ := hB0.below (HG.out ▸ by0)
    have hKy := hK0.below by0 (by rw [HG.out]; exact hK0.lt)
    have hOy := hO0.below by0 (by rw [HG.out]; exact hO0.lt)
    have bby := bb0.trans (by0.mono (by rw [HG.out]; exact Nat.le_of_lt hK0.lt))
    have hP2 : Pt.Ok y0 ⟨some ⟨gs, 0, none⟩, cs, L.take z⟩ := ⟨RowI.takeN hSy.row z, by have h8 := hSy.len; dsimp only at h8 ⊢; rw [List.length_take]; omega, hSy.cap, fun c hc => oL c (List.mem_of_mem_take hc), hSy.lt⟩
    have e3 : L.map (Value.int .u8) ++ [Value.int .u8 0] = (L ++ [0]).map (Value.int .u8) := by rw [List.map_append]; rfl
    rw [e3] at hMy
    have hP3 := (mine_pt hMy (by rw [List.length_append, ← hms.out]; rfl) (by omega) (octs_app oL (by intro c hc; simp at hc; subst hc; exact ⟨by decide, by decide⟩))).1
    have hD4 : ∀ j, j < 4 → ∃ (am : Option Addr) (cm nm : Nat) (lm : List Int), D[j]? = some (.slice am nm cm) ∧ Hid (nm = lm.length) ∧ Pt.Ok y0 ⟨am, cm, lm⟩ := by
      intro j hj
      rw [HD.out]
      match j, hj with
      | 0, _ => exact ⟨_, _, _, L, rfl, hms, hSy⟩
      | 1, _ => exact ⟨_, _, _, L2, rfl, hml2, hBy⟩
      | 2, _ => exact ⟨_, _, _, L.take z, rfl, hid (by rw [List.length_take, ← hms.out]; omega), hP2⟩
      | 3, _ => exact ⟨_, _, _, L ++ [0], rfl, hid (by rw [List.length_append, ← hms.out]; rfl), hP3⟩
    have hDl : gd < Y := by rw [HY.out]; exact hD0.lt
    have hKl2 : B + 1 < Y := by rw [HY.out]; exact hOy.lt
    clear hP2 hP3 hMy hBy e3 hB0 hK0 hO0 bb0
    go_wp2_with fail
    go_loopw [121] (fun i wr => ∃ j : Nat, j ≤ 4 ∧ i = .int .i64 j ∧ Below Y y0 wr ∧ Below B w wr) (fun i _ => 4 - (intOf i).toNat)
    case atStart => exact ⟨0, by omega, rfl, Below.refl _ _, bby⟩
    case round =>
      obtain ⟨j, hj, rfl, hb, bbr⟩ := hrel
      have hKr := hKy.below hb (by omega)
      have hOr := hOy.below hb (by omega)
      have hYr : Y ≤ wr.heap.size := by have := hb.size; rw [← HY.out] at this; exact this
      by_cases hj4 : j < 4
      · obtain ⟨am, cm, nm, lm, hDj, hnm, hPm⟩ := hD4 j hj4
        have hDc := ((hD0.below hb hDl).cell j).trans hDj
        have hjI : (j : Int) < 4 := by omega
        have hjI0 : (0 : Int) ≤ (j : Int) := by omega
        obtain ⟨gk, Hgk⟩ : ∃ g, Hid (wr.heap.size = g) := ⟨_, rfl⟩
        go_wp2_with (first | (refine wl_lit rfl 117 23 2 _ rfl Try.underlying117 (.agg (List.replicate 32 (Value.int .u8 0)).toArray) 32 32 infoKey (by decide) (by decide) (K ++ O) (Eq.trans (by kernel_rfl) (fill_two 32 K O ((Array.range (2 * 32)).map (fun i => (Value.agg (List.replicate 32 (Value.int .u8 0)).toArray).cells[i % (Value.agg (List.replicate 32 (Value.int .u8 0)).toArray).cells.size]!)) hKl hOl (by simp))) gk Hgk.out ?_; intro wk hKO hbk hsk) | (refine wl_loadG (by rfl) 23 _ rfl ⟨B, 0, none⟩ rfl 32 K hKl aggKey hKr.at0 ?_) | (refine wl_loadG (by rfl) 23 _ rfl ⟨B + 1, 0, none⟩ rfl 32 O hOl aggKey hOr.at0 ?_))
        have bbk : Below B w wk := bbr.trans (hbk.mono (by rw [← Hgk.out]; omega))
        have hbY : Below Y y0 wk := hb.trans (hbk.mono (by rw [← Hgk.out]; exact hYr))
        obtain ⟨H, HH9⟩ : ∃ h, Hid (h = wk.heap.size) := ⟨_, rfl⟩
        have hgkH : gk < H := by rw [HH9.out]; exact hKO.lt
        have hYH : Y ≤ H := by rw [← Hgk.out] at hgkH; omega
        clear hDc hKr hOr hb bbr hbk hsk hjI0
        go_loopw [129] (fun e wq => ∃ q : Nat, q ≤ 2 ∧ e = .int .i64 q ∧ Below H wk wq ∧ Below B w wq) (fun e _ => 2 - (intOf e).toNat)
        case atStart => exact ⟨0, by omega, rfl, Below.refl _ _, bbk⟩
        case round =>
          obtain ⟨q, hq, rfl, hbq, bbq⟩ := hrel
          have hKOq := hKO.below hbq hgkH
          have hPq : Pt.Ok wr ⟨am, cm, lm⟩ := hPm.below (HY.out ▸ hbY.trans (hbq.mono hYH))
          have hHr : H ≤ wr.heap.size := by have := hbq.size; rw [← HH9.out] at this; exact this
          have hat0 := keyLeft hKOq
          have hat1 := keyRight hKOq
          rw [hKl] at hat1
          obtain ⟨ga, Hga⟩ : ∃ g, Hid (wr.heap.size = g) := ⟨_, rfl⟩
          have hBga : B ≤ ga := by rw [← Hga.out]; omega
          rcases (by omega : q = 0 ∨ q = 1 ∨ q = 2) with rfl | rfl | rfl
          · go_wp2_with (first | (go_at_call 78; refine (hopk.out lm am cm nm w2q bb2q hnm.out hPq2).mono ?_; rintro e w3q ⟨rfl, hb3⟩) | (refine wl_loadG (by rfl) 23 _ rfl ⟨ga, 0, none⟩ rfl 32 K hKl aggKey hT2.at0 ?_) | (refine wl_storeV rfl 23 _ _ rfl 23 ga rfl K rfl 32 aggKey hKl Z hT1 hZl hKc ?_; intro w2q hT2 hb2 hs2q; have hb2g := hb1q.trans hb2; have bb2q := bbq.trans (hb2g.mono hBga); have hb2q := hb2g; have hPq2 : Pt.Ok w2q ⟨am, cm, lm⟩ := hPq.below (by rw [Hga.out]; exact hb2g)) | (refine wl_allocV rfl 23 rfl Z hz.out ga Hga.out ?_; intro w1q hT1 hb1q hs1q) | (refine wl_loadG (by rfl) 23 _ rfl ⟨gk, 0, none⟩ rfl 32 K hKl aggKey hat0 ?_))
            have bb3 := bb2q.trans (hb3.mono (by have := hb2q.size; omega))
            go_roundw
            case rel => exact ⟨1, by omega, by go_num, (hbq.trans (hb2g.mono (by rw [← Hga.out]; exact hHr))).trans (hb3.mono (by have := hb2g.size; have := hb2q.size; omega)), bb3⟩
            case measure => simp [intOf] <;> omega
          · go_wp2_with (first | (go_at_call 78; refine (hopo.out lm am cm nm w2q bb2q hnm.out hPq2).mono ?_; rintro e w3q ⟨rfl, hb3⟩) | (refine wl_loadG (by rfl) 23 _ rfl ⟨ga, 0, none⟩ rfl 32 O hOl aggKey hT2.at0 ?_) | (refine wl_storeV rfl 23 _ _ rfl 23 ga rfl O rfl 32 aggKey hOl Z hT1 hZl hOc ?_; intro w2q hT2 hb2 hs2q; have hb2g := hb1q.trans hb2; have bb2q := bbq.trans (hb2g.mono hBga); have hb2q := hb2g; have hPq2 : Pt.Ok w2q ⟨am, cm, lm⟩ := hPq.below (by rw [Hga.out]; exact hb2g)) | (refine wl_allocV rfl 23 rfl Z hz.out ga Hga.out ?_; intro w1q hT1 hb1q hs1q) | (refine wl_loadG (by rfl) 23 _ rfl ⟨gk, 32, none⟩ rfl 32 O hOl aggKey hat1 ?_))
            have bb3 := bb2q.trans (hb3.mono (by have := hb2q.size; omega))
            go_roundw
            case rel => exact ⟨2, by omega, by go_num, (hbq.trans (hb2g.mono (by rw [← Hga.out]; exact hHr))).trans (hb3.mono (by have := hb2g.size; have := hb2q.size; omega)), bb3⟩
            case measure => simp [intOf] <;> omega
          · go_wp2_with fail
            go_roundw
            case rel => exact ⟨j + 1, by omega, by go_num, hbY.trans (hbq.mono hYH), bbq⟩
            case measure => simp [intOf] <;> omega
      · have hjN : ¬ (j : Int) < 4 := by omega
        have hjd : decide ((j : Int) < 4) = false := decide_eq_false hjN
        obtain ⟨mt, Hmt⟩ : ∃ m, Hid (m = min tn 9) := ⟨_, rfl⟩
        have hcn : min (tn : Int) 9 = (mt : Int) := by rw [Hmt.out]; exact hcm
        have hmp : mt ≤ tp := by have h8 := HTT.out.len; have h9 := HTN.out; have h10 := Hmt.out; dsimp only at h8; omega
        have hml := hid (show mt = (t.take mt).length by have h9 := HTN.out; have h10 := Hmt.out; rw [List.length_take]; omega)
        obtain ⟨T9, HT9⟩ : ∃ l, Hid (l = t.take mt) := ⟨_, rfl⟩
        rw [← HT9.out] at hml
        have huK := Try.underlying23
        have hiK : (Try.prog.info? 23).map (·.size) = some K.length := by rw [hKl]; exact aggKey.2
        have hSr : Pt.Ok wr ⟨some ⟨gs, 0, none⟩, cs, L⟩ := hSy.below (HY.out ▸ hb)
        have hTr0 : Pt.Ok wr ⟨ta, tp, t⟩ := HTT.out.below (by rw [hsz]; exact bbr)
        have hTr : Pt.Ok wr ⟨ta, tp, T9⟩ := by
          rw [HT9.out]
          exact ⟨RowI.takeN hTr0.row mt, by have h8 := hTr0.len; dsimp only at h8 ⊢; rw [List.length_take]; omega, hTr0.cap, fun c hc => (show Octs t from hTr0.oct) c (List.mem_of_mem_take hc), hTr0.lt⟩
        clear hTr0 hOr hopk hopo
        go_wp2_with fail
        refine wp_region_held_drew (S := (fun w' => BlkV 23 w' B K)) (by kernel_rfl) hKr (fun hHeld => ?_)
        obtain ⟨xa, HXA⟩ : ∃ x, Hid (x = wr.drew) := ⟨_, rfl⟩
        rw [← HXA.out] at hHeld ⊢
        have hKa : BlkV 23 xa B K := by rw [HXA.out]; exact hKr
        have hSa : Pt.Ok xa ⟨some ⟨gs, 0, none⟩, cs, L⟩ := by rw [HXA.out]; exact ptDrew hSr
        have hTa : Pt.Ok xa ⟨ta, tp, T9⟩ := by rw [HXA.out]; exact ptDrew hTr
        have bba : Below B w xa := by rw [HXA.out]; exact bbr.drew
        have hBa : B ≤ xa.heap.size := Nat.le_of_lt hKa.lt
        clear hKr hSr hTr bbr
        refine tkR 0 rfl (yieldsIf_load_mid (by rfl) 23 _ rfl B 0 rfl K _ (fun w hS => at_range hS.at0) huK rfl hiK) (by assumption) ?_
        try simp only [Act.put, sArr, sZ, sS]
        refine tkP 1 rfl (by assumption) ⟨?_, ?_, ?_⟩
        rotate_left
        · intro w hSw; (try dsimp only at hSw); go_simp; (try with_reducible rfl)
        try simp only [Act.put, sArr, sZ, sS]
        refine tkP 2 rfl (by assumption) ⟨?_, ?_, ?_⟩
        rotate_left
        · intro w hSw; (try dsimp only at hSw); go_simp; (try with_reducible rfl)
        try simp only [Act.put, sArr, sZ, sS]
        refine tkP 3 rfl (by assumption) ⟨?_, ?_, ?_⟩
        rotate_left
        · intro w hSw; (try dsimp only at hSw); go_simp; (try with_reducible rfl)
        try simp only [Act.put, sArr, sZ, sS]
        refine tkP 4 rfl (by assumption) ⟨?_, ?_, ?_⟩
        rotate_left
        · intro w hSw; (try dsimp only at hSw); go_simp; (try with_reducible rfl)
        try simp only [Act.put, sArr, sZ, sS]
        refine tkR 5 rfl (ck.yieldsIf_sliceH (by rfl) 69 _ _ rfl ta tn tp mt 1 rfl _ rfl (by first | rfl | exact hcn | rw [Hmt.out]) elem8 (by intro w; first | exact size8e w | exact size8e) hmp) (by assumption) ?_
        try simp only [Act.put, sArr, sZ, sS]
        refine tkP 6 rfl (by assumption) ⟨?_, ?_, ?_⟩
        rotate_left
        · intro w hSw; (try dsimp only at hSw); go_simp; (try with_reducible rfl)
        try simp only [Act.put, sArr, sZ, sS]
        refine tkP 7 rfl (by assumption) ⟨?_, ?_, ?_⟩
        rotate_left
        · intro w hSw; (try dsimp only at hSw); go_simp; (try with_reducible rfl)
        try simp only [Act.put, sArr, sZ, sS]
        refine wpAnyH_ready (rs := [8]) (by kernel_rfl) (by simp) (cons_l rfl (fun K' hK' => ?_) AllReadyH.nil)
        rw [if_pos (by rfl)]
        go_simp
        go_at_call 78
        refine (hopt.out L T9 (some ⟨gs, 0, none⟩) cs ms mt xa bba hms.out hSa hml.out hTa).mono ?_
        rintro e xb ⟨rfl, hbxb⟩
        have bbz := bba.trans (hbxb.mono hBa)
        refine hK'.out _ _ (hKa.below hbxb hKa.lt) (fun hHeld => ?_)
        clear hK' K'
        try simp only [Act.put, sArr, sZ, sS]
        refine tkP 9 rfl (by assumption) ⟨?_, ?_, ?_⟩
        rotate_left
        · intro w hSw; (try dsimp only at hSw); go_simp; (try with_reducible rfl)
        try simp only [Act.put, sArr, sZ, sS]
        refine wpAnyH_done (by kernel_rfl) ?_ _
        clear hHeld
        go_wp2_with fail
        go_ret
        exact ⟨rfl, by first | exact bbz | (rw [hsz]; exact bbz)⟩
  · obtain ⟨gl, Hgl⟩ : ∃ g, Hid (x0.heap.size = g) := ⟨_, rfl⟩
    refine step_lit rfl 69 5 1 _ rfl Try.underlying69 (.int .u8 0) 1 1 info8 (by decide) (by decide) [.int .u8 0] (by kernel_rfl) gl Hgl.out ?_
    intro x1 hT1 hbx hsx
    have hbF1 : Below x0.heap.size x0 x1 := by rw [Hgl.out]; exact hbx
    have bs1 := bs0.trans (hbF1.mono hs0)
    have hs1 := Nat.le_trans hs0 hbF1.size
    clear hbx hsx
    refine hK'.out _ _ trivial (fun hHeld => ?_)
    clear hK' K'
    try simp only [Act.put, sArr, sZ, sS]
    refine wpAnyH_ready (rs := [13]) (by kernel_rfl) (by simp) (cons_l rfl (fun K' hK' => ?_) AllReadyH.nil)
    rw [if_pos (by rfl)]
    go_simp
    go_at_call 77
    refine (Clone8_any (some ⟨gs, 0, none⟩) ms cs (L.map (Value.int .u8)) x1 (hsB x1 bs1).row.v (by rw [List.length_map, hms.out, Nat.mul_one]) (ints_one _ _) (by simp) (by omega)).mono ?_
    rintro e x2 ⟨vc, rfl, hMc, hbF2⟩
    obtain ⟨ac, cc, rfl, _, _⟩ := hMc.row
    have bs2 := bs1.trans (hbF2.mono hs1)
    have hM2 := hMc.mono hs1
    have hs2 := Nat.le_trans hs1 hbF2.size
    have hT2 := hT1.below hbF2 hT1.lt
    refine hK'.out _ _ trivial (fun hHeld => ?_)
    clear hK' K'
    try simp only [Act.put, sArr, sZ, sS]
    refine wpAnyH_ready (rs := [15]) (by kernel_rfl) (by simp) (cons_l rfl (fun K' hK' => ?_) AllReadyH.nil)
    refine step_appendS rfl _ _ 69 rfl 5 (.int .u8 0) 1 1 Try.underlying69 info8 rfl (by decide) G _ ms _ rfl hM2 (some ⟨gl, 0, none⟩) 1 1 rfl (fun h => by cases h) [.int .u8 0] rfl (at_row hT2.lt hT2.at0) (by intro u hu; simp at hu; subst hu; rfl) (by unfold maxLen; omega) (by omega) hs2 (ms + 1) rfl ?_
    intro a8 c8 x3 row8 hc8 hM3 hv8 hg8 hr8
    have bs3 := bs2.grown hg8 hs2 (fun k hk => (hr8 k hk).1)
    have hs3 := Nat.le_trans hs2 hg8.size
    refine hK'.out _ _ trivial (fun hHeld => ?_)
    clear hK' K'
    try simp only [Act.put, sArr, sZ, sS]
    refine wpAnyH_ready (rs := [16]) (by kernel_rfl) (by simp) (cons_l rfl (fun K' hK' => ?_) AllReadyH.nil)
    obtain ⟨gd, Hgd⟩ : ∃ g, Hid (x3.heap.size = g) := ⟨_, rfl⟩
    refine step_lit rfl 82 69 4 _ rfl Try.underlying82 (.slice none 0 0) 1 24 ck.infoBB (by decide) (by decide) [.slice (some ⟨gs, 0, none⟩) ms cs, .slice (some ⟨gb, 0, none⟩) ms cb, .slice (some ⟨gs, 0, none⟩) z cs, .slice a8 (ms + 1) c8] (by kernel_rfl) gd Hgd.out ?_
    intro y0 hD0 hbx hsx
    have hbF4 : Below x3.heap.size x3 y0 := by rw [Hgd.out]; exact hbx
    have by0 := bs3.trans (hbF4.mono hs3)
    have hMy := Mine.belowAll hM3 hbF4
    clear hbx hsx
    refine hK'.out _ _ trivial (fun hHeld => ?_)
    clear hK' K'
    try simp only [Act.put, sArr, sZ, sS]
    refine tkP 17 rfl (by assumption) ⟨?_, ?_, ?_⟩
    rotate_left
    · intro w hSw; (try dsimp only at hSw); go_simp; (try with_reducible rfl)
    try simp only [Act.put, sArr, sZ, sS]
    refine wpAnyH_done (by kernel_rfl) ?_ _
    clear hHeld
    obtain ⟨D, HD⟩ : ∃ D : List Value, Hid (D = [.slice (some ⟨gs, 0, none⟩) ms cs, .slice (some ⟨gb, 0, none⟩) ms cb, .slice (some ⟨gs, 0, none⟩) z cs, .slice a8 (ms + 1) c8]) := ⟨_, rfl⟩
    rw [← HD.out] at hD0
    obtain ⟨Y, HY⟩ : ∃ g, Hid (g = y0.heap.size) := ⟨_, rfl⟩
    have hSy := hsB y0 by0
    have hBy : Pt.Ok y0 ⟨some ⟨gb, 0, none⟩, cb, L2⟩ := hB0.below (HG.out ▸ by0)
    have hKy := hK0.below by0 (by rw [HG.out]; exact hK0.lt)
    have hOy := hO0.below by0 (by rw [HG.out]; exact hO0.lt)
    have bby := bb0.trans (by0.mono (by rw [HG.out]; exact Nat.le_of_lt hK0.lt))
    have hP2 : Pt.Ok y0 ⟨some ⟨gs, 0, none⟩, cs, L.take z⟩ := ⟨RowI.takeN hSy.row z, by have h8 := hSy.len; dsimp only at h8 ⊢; rw [List.length_take]; omega, hSy.cap, fun c hc => oL c (List.mem_of_mem_take hc), hSy.lt⟩
    have e3 : L.map (Value.int .u8) ++ [Value.int .u8 0] = (L ++ [0]).map (Value.int .u8) := by rw [List.map_append]; rfl
    rw [e3] at hMy
    have hP3 := (mine_pt hMy (by rw [List.length_append, ← hms.out]; rfl) (by omega) (octs_app oL (by intro c hc; simp at hc; subst hc; exact ⟨by decide, by decide⟩))).1
    have hD4 : ∀ j, j < 4 → ∃ (am : Option Addr) (cm nm : Nat) (lm : List Int), D[j]? = some (.slice am nm cm) ∧ Hid (nm = lm.length) ∧ Pt.Ok y0 ⟨am, cm, lm⟩ := by
      intro j hj
      rw [HD.out]
      match j, hj with
      | 0, _ => exact ⟨_, _, _, L, rfl, hms, hSy⟩
      | 1, _ => exact ⟨_, _, _, L2, rfl, hml2, hBy⟩
      | 2, _ => exact ⟨_, _, _, L.take z, rfl, hid (by rw [List.length_take, ← hms.out]; omega), hP2⟩
      | 3, _ => exact ⟨_, _, _, L ++ [0], rfl, hid (by rw [List.length_append, ← hms.out]; rfl), hP3⟩
    have hDl : gd < Y := by rw [HY.out]; exact hD0.lt
    have hKl2 : B + 1 < Y := by rw [HY.out]; exact hOy.lt
    clear hP2 hP3 hMy hBy e3 hB0 hK0 hO0 bb0
    go_wp2_with fail
    go_loopw [121] (fun i wr => ∃ j : Nat, j ≤ 4 ∧ i = .int .i64 j ∧ Below Y y0 wr ∧ Below B w wr) (fun i _ => 4 - (intOf i).toNat)
    case atStart => exact ⟨0, by omega, rfl, Below.refl _ _, bby⟩
    case round =>
      obtain ⟨j, hj, rfl, hb, bbr⟩ := hrel
      have hKr := hKy.below hb (by omega)
      have hOr := hOy.below hb (by omega)
      have hYr : Y ≤ wr.heap.size := by have := hb.size; rw [← HY.out] at this; exact this
      by_cases hj4 : j < 4
      · obtain ⟨am, cm, nm, lm, hDj, hnm, hPm⟩ := hD4 j hj4
        have hDc := ((hD0.below hb hDl).cell j).trans hDj
        have hjI : (j : Int) < 4 := by omega
        have hjI0 : (0 : Int) ≤ (j : Int) := by omega
        obtain ⟨gk, Hgk⟩ : ∃ g, Hid (wr.heap.size = g) := ⟨_, rfl⟩
        go_wp2_with (first | (refine wl_lit rfl 117 23 2 _ rfl Try.underlying117 (.agg (List.replicate 32 (Value.int .u8 0)).toArray) 32 32 infoKey (by decide) (by decide) (K ++ O) (Eq.trans (by kernel_rfl) (fill_two 32 K O ((Array.range (2 * 32)).map (fun i => (Value.agg (List.replicate 32 (Value.int .u8 0)).toArray).cells[i % (Value.agg (List.replicate 32 (Value.int .u8 0)).toArray).cells.size]!)) hKl hOl (by simp))) gk Hgk.out ?_; intro wk hKO hbk hsk) | (refine wl_loadG (by rfl) 23 _ rfl ⟨B, 0, none⟩ rfl 32 K hKl aggKey hKr.at0 ?_) | (refine wl_loadG (by rfl) 23 _ rfl ⟨B + 1, 0, none⟩ rfl 32 O hOl aggKey hOr.at0 ?_))
        have bbk : Below B w wk := bbr.trans (hbk.mono (by rw [← Hgk.out]; omega))
        have hbY : Below Y y0 wk := hb.trans (hbk.mono (by rw [← Hgk.out]; exact hYr))
        obtain ⟨H, HH9⟩ : ∃ h, Hid (h = wk.heap.size) := ⟨_, rfl⟩
        have hgkH : gk < H := by rw [HH9.out]; exact hKO.lt
        have hYH : Y ≤ H := by rw [← Hgk.out] at hgkH; omega
        clear hDc hKr hOr hb bbr hbk hsk hjI0
        go_loopw [129] (fun e wq => ∃ q : Nat, q ≤ 2 ∧ e = .int .i64 q ∧ Below H wk wq ∧ Below B w wq) (fun e _ => 2 - (intOf e).toNat)
        case atStart => exact ⟨0, by omega, rfl, Below.refl _ _, bbk⟩
        case round =>
          obtain ⟨q, hq, rfl, hbq, bbq⟩ := hrel
          have hKOq := hKO.below hbq hgkH
          have hPq : Pt.Ok wr ⟨am, cm, lm⟩ := hPm.below (HY.out ▸ hbY.trans (hbq.mono hYH))
          have hHr : H ≤ wr.heap.size := by have := hbq.size; rw [← HH9.out] at this; exact this
          have hat0 := keyLeft hKOq
          have hat1 := keyRight hKOq
          rw [hKl] at hat1
          obtain ⟨ga, Hga⟩ : ∃ g, Hid (wr.heap.size = g) := ⟨_, rfl⟩
          have hBga : B ≤ ga := by rw [← Hga.out]; omega
          rcases (by omega : q = 0 ∨ q = 1 ∨ q = 2) with rfl | rfl | rfl
          · go_wp2_with (first | (go_at_call 78; refine (hopk.out lm am cm nm w2q bb2q hnm.out hPq2).mono ?_; rintro e w3q ⟨rfl, hb3⟩) | (refine wl_loadG (by rfl) 23 _ rfl ⟨ga, 0, none⟩ rfl 32 K hKl aggKey hT2.at0 ?_) | (refine wl_storeV rfl 23 _ _ rfl 23 ga rfl K rfl 32 aggKey hKl Z hT1 hZl hKc ?_; intro w2q hT2 hb2 hs2q; have hb2g := hb1q.trans hb2; have bb2q := bbq.trans (hb2g.mono hBga); have hb2q := hb2g; have hPq2 : Pt.Ok w2q ⟨am, cm, lm⟩ := hPq.below (by rw [Hga.out]; exact hb2g)) | (refine wl_allocV rfl 23 rfl Z hz.out ga Hga.out ?_; intro w1q hT1 hb1q hs1q) | (refine wl_loadG (by rfl) 23 _ rfl ⟨gk, 0, none⟩ rfl 32 K hKl aggKey hat0 ?_))
            have bb3 := bb2q.trans (hb3.mono (by have := hb2q.size; omega))
            go_roundw
            case rel => exact ⟨1, by omega, by go_num, (hbq.trans (hb2g.mono (by rw [← Hga.out]; exact hHr))).trans (hb3.mono (by have := hb2g.size; have := hb2q.size; omega)), bb3⟩
            case measure => simp [intOf] <;> omega
          · go_wp2_with (first | (go_at_call 78; refine (hopo.out lm am cm nm w2q bb2q hnm.out hPq2).mono ?_; rintro e w3q ⟨rfl, hb3⟩) | (refine wl_loadG (by rfl) 23 _ rfl ⟨ga, 0, none⟩ rfl 32 O hOl aggKey hT2.at0 ?_) | (refine wl_storeV rfl 23 _ _ rfl 23 ga rfl O rfl 32 aggKey hOl Z hT1 hZl hOc ?_; intro w2q hT2 hb2 hs2q; have hb2g := hb1q.trans hb2; have bb2q := bbq.trans (hb2g.mono hBga); have hb2q := hb2g; have hPq2 : Pt.Ok w2q ⟨am, cm, lm⟩ := hPq.below (by rw [Hga.out]; exact hb2g)) | (refine wl_allocV rfl 23 rfl Z hz.out ga Hga.out ?_; intro w1q hT1 hb1q hs1q) | (refine wl_loadG (by rfl) 23 _ rfl ⟨gk, 32, none⟩ rfl 32 O hOl aggKey hat1 ?_))
            have bb3 := bb2q.trans (hb3.mono (by have := hb2q.size; omega))
            go_roundw
            case rel => exact ⟨2, by omega, by go_num, (hbq.trans (hb2g.mono (by rw [← Hga.out]; exact hHr))).trans (hb3.mono (by have := hb2g.size; have := hb2q.size; omega)), bb3⟩
            case measure => simp [intOf] <;> omega
          · go_wp2_with fail
            go_roundw
            case rel => exact ⟨j + 1, by omega, by go_num, hbY.trans (hbq.mono hYH), bbq⟩
            case measure => simp [intOf] <;> omega
      · have hjN : ¬ (j : Int) < 4 := by omega
        have hjd : decide ((j : Int) < 4) = false := decide_eq_false hjN
        obtain ⟨mt, Hmt⟩ : ∃ m, Hid (m = min tn 9) := ⟨_, rfl⟩
        have hcn : min (tn : Int) 9 = (mt : Int) := by rw [Hmt.out]; exact hcm
        have hmp : mt ≤ tp := by have h8 := HTT.out.len; have h9 := HTN.out; have h10 := Hmt.out; dsimp only at h8; omega
        have hml := hid (show mt = (t.take mt).length by have h9 := HTN.out; have h10 := Hmt.out; rw [List.length_take]; omega)
        obtain ⟨T9, HT9⟩ : ∃ l, Hid (l = t.take mt) := ⟨_, rfl⟩
        rw [← HT9.out] at hml
        have huK := Try.underlying23
        have hiK : (Try.prog.info? 23).map (·.size) = some K.length := by rw [hKl]; exact aggKey.2
        have hSr : Pt.Ok wr ⟨some ⟨gs, 0, none⟩, cs, L⟩ := hSy.below (HY.out ▸ hb)
        have hTr0 : Pt.Ok wr ⟨ta, tp, t⟩ := HTT.out.below (by rw [hsz]; exact bbr)
        have hTr : Pt.Ok wr ⟨ta, tp, T9⟩ := by
          rw [HT9.out]
          exact ⟨RowI.takeN hTr0.row mt, by have h8 := hTr0.len; dsimp only at h8 ⊢; rw [List.length_take]; omega, hTr0.cap, fun c hc => (show Octs t from hTr0.oct) c (List.mem_of_mem_take hc), hTr0.lt⟩
        clear hTr0 hOr hopk hopo
        go_wp2_with fail
        refine wp_region_held_drew (S := (fun w' => BlkV 23 w' B K)) (by kernel_rfl) hKr (fun hHeld => ?_)
        obtain ⟨xa, HXA⟩ : ∃ x, Hid (x = wr.drew) := ⟨_, rfl⟩
        rw [← HXA.out] at hHeld ⊢
        have hKa : BlkV 23 xa B K := by rw [HXA.out]; exact hKr
        have hSa : Pt.Ok xa ⟨some ⟨gs, 0, none⟩, cs, L⟩ := by rw [HXA.out]; exact ptDrew hSr
        have hTa : Pt.Ok xa ⟨ta, tp, T9⟩ := by rw [HXA.out]; exact ptDrew hTr
        have bba : Below B w xa := by rw [HXA.out]; exact bbr.drew
        have hBa : B ≤ xa.heap.size := Nat.le_of_lt hKa.lt
        clear hKr hSr hTr bbr
        refine tkR 0 rfl (yieldsIf_load_mid (by rfl) 23 _ rfl B 0 rfl K _ (fun w hS => at_range hS.at0) huK rfl hiK) (by assumption) ?_
        try simp only [Act.put, sArr, sZ, sS]
        refine tkP 1 rfl (by assumption) ⟨?_, ?_, ?_⟩
        rotate_left
        · intro w hSw; (try dsimp only at hSw); go_simp; (try with_reducible rfl)
        try simp only [Act.put, sArr, sZ, sS]
        refine tkP 2 rfl (by assumption) ⟨?_, ?_, ?_⟩
        rotate_left
        · intro w hSw; (try dsimp only at hSw); go_simp; (try with_reducible rfl)
        try simp only [Act.put, sArr, sZ, sS]
        refine tkP 3 rfl (by assumption) ⟨?_, ?_, ?_⟩
        rotate_left
        · intro w hSw; (try dsimp only at hSw); go_simp; (try with_reducible rfl)
        try simp only [Act.put, sArr, sZ, sS]
        refine tkP 4 rfl (by assumption) ⟨?_, ?_, ?_⟩
        rotate_left
        · intro w hSw; (try dsimp only at hSw); go_simp; (try with_reducible rfl)
        try simp only [Act.put, sArr, sZ, sS]
        refine tkR 5 rfl (ck.yieldsIf_sliceH (by rfl) 69 _ _ rfl ta tn tp mt 1 rfl _ rfl (by first | rfl | exact hcn | rw [Hmt.out]) elem8 (by intro w; first | exact size8e w | exact size8e) hmp) (by assumption) ?_
        try simp only [Act.put, sArr, sZ, sS]
        refine tkP 6 rfl (by assumption) ⟨?_, ?_, ?_⟩
        rotate_left
        · intro w hSw; (try dsimp only at hSw); go_simp; (try with_reducible rfl)
        try simp only [Act.put, sArr, sZ, sS]
        refine tkP 7 rfl (by assumption) ⟨?_, ?_, ?_⟩
        rotate_left
        · intro w hSw; (try dsimp only at hSw); go_simp; (try with_reducible rfl)
        try simp only [Act.put, sArr, sZ, sS]
        refine wpAnyH_ready (rs := [8]) (by kernel_rfl) (by simp) (cons_l rfl (fun K' hK' => ?_) AllReadyH.nil)
        rw [if_pos (by rfl)]
        go_simp
        go_at_call 78
        refine (hopt.out L T9 (some ⟨gs, 0, none⟩) cs ms mt xa bba hms.out hSa hml.out hTa).mono ?_
        rintro e xb ⟨rfl, hbxb⟩
        have bbz := bba.trans (hbxb.mono hBa)
        refine hK'.out _ _ (hKa.below hbxb hKa.lt) (fun hHeld => ?_)
        clear hK' K'
        try simp only [Act.put, sArr, sZ, sS]
        refine tkP 9 rfl (by assumption) ⟨?_, ?_, ?_⟩
        rotate_left
        · intro w hSw; (try dsimp only at hSw); go_simp; (try with_reducible rfl)
        try simp only [Act.put, sArr, sZ, sS]
        refine wpAnyH_done (by kernel_rfl) ?_ _
        clear hHeld
        go_wp2_with fail
        go_ret
        exact ⟨rfl, by first | exact bbz | (rw [hsz]; exact bbz)⟩
end Go.Proofs.Ytbljihhelladbaa.wr
