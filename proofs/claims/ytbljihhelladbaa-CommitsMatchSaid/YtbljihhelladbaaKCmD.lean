/-
  Contracts of mix.PutLong, wrap.Commit and keyref2.CommitOf. Conditions: a key of octets; a string of at most maxLen octets.
-/
import Derived.Test.YtbljihhelladbaaKCmB
import Derived.Test.YtbljihhelladbaaKWrK
namespace Go.Proofs.Ytbljihhelladbaa.wr
open Go.RowKit Go.Proofs.Ytbljihhelladbaa.st Go.Proofs.Ytbljihhelladbaa.hs Go.Proofs.Ytbljihhelladbaa.shr Go.Proofs.Ytbljihhelladbaa.sh
set_option linter.unusedSimpArgs false
set_option linter.unusedVariables false
set_option pp.maxSteps 6000
theorem octN_eight (n : Int) : octN n 8 = o8 n := by
  unfold octN octTo o8
  rw [show List.range 8 = [0, 1, 2, 3, 4, 5, 6, 7] from rfl]
  simp
theorem o8_length (n : Int) : (o8 n).length = 8 := rfl
theorem zeroA8' : (Try.prog.info? 216).map (·.zero) = some (some (.agg ((List.replicate 8 (0 : Int)).map (Value.int .u8)).toArray)) := by kernel_rfl
/-- the octets of a string -/
def numsOf (s : ByteArray) : List Int := s.data.toList.map fun c => (c.toNat : Int)
theorem numsOf_octs (s : ByteArray) : Octs (numsOf s) := by
  intro c hc
  obtain ⟨x, _, rfl⟩ := List.mem_map.1 hc
  have := x.toNat_lt
  exact ⟨by omega, by omega⟩
theorem numsOf_length (s : ByteArray) : (numsOf s).length = s.size := by unfold numsOf; rw [List.length_map]; simp
theorem strOf_nums (s : ByteArray) : strOfNums (numsOf s) = s := by
  unfold strOfNums numsOf
  rw [List.map_map]
  have e : s.data.toList.map ((fun n : Int => UInt8.ofNat n.toNat) ∘ fun c : UInt8 => (c.toNat : Int)) = s.data.toList := by
    have : ∀ c : UInt8, ((fun n : Int => UInt8.ofNat n.toNat) ∘ fun c : UInt8 => (c.toNat : Int)) c = c := fun c => by
      show UInt8.ofNat ((c.toNat : Int).toNat) = c
      rw [Int.toNat_natCast]; exact UInt8.ofNat_toNat
    rw [List.map_congr_left (fun c _ => this c), List.map_id']
  rw [e]
/-- a string turned to octets, in a region that draws its order -/
theorem step_convS {ops : Array Oper} {o : Oper} {a : Act} {w : World} {K : Act → World → Prop} {Q : Exit → Act → World → Prop} {E : Prop} (hgd : o.guard = none) (x : Operand) (ho : o.op = .convert 9 69 x) (s : ByteArray) (n : Nat) (hn : s.size = n) (hm : n ≤ 1099511627776)
    (hx : a.eval x = .string s)
    (h : ∀ w' c, RowI .u8 w' (some ⟨w.heap.size, 0, none⟩) (numsOf s) → w'.heap.size = w.heap.size + 1 → n ≤ c → c ≤ maxLen → Below w.heap.size w w' → K (a.put o.dst (.slice (some ⟨w.heap.size, 0, none⟩) n c)) w') : if Region.wanted o (yielded ops a.tmps) = true then Oper.wp Try.prog o a w K Q else E := by
  have hw : Region.wanted o (yielded ops a.tmps) = true := by simp [Region.wanted, hgd]
  rw [if_pos hw]
  subst hn
  have hrun := Lib.run_convert_string_bytes (P := Try.prog) w 9 69 5 s Try.underlying9 Try.underlying69 Try.underlying5
  have hr := row_bytes w 5 (numsOf_octs s)
  rw [strOf_nums] at hr
  have h' := h _ _ hr (Lib.bytesWorld_size ..) (grownCap_ge w s.size 0 5) (grownCap_le_maxLen w s.size 0 5 (by unfold maxLen; omega)) (below_bytes w _ s)
  unfold Oper.wp
  simp only [execOp, ho, hx, hrun, Sem.run_bind, Result.andThen_ok, Sem.run_pure]
  exact h'
/-- parts with their lengths -/
def frm (ls : List (List Int)) : List Int := (ls.map fun l => o4 (l.length : Int) ++ l).flatten
theorem framed_frm (ps : List Pt) : framed ps = frm (ps.map Pt.l) := by unfold framed frm; rw [List.map_map]; rfl
theorem three_row {w : World} {N : Nat} {p q r : Pt} (h : BlkV 69 w N [p.v, q.v, r.v]) : RowV w (some ⟨N, 0, none⟩) ([p, q, r].map Pt.v) := at_row h.lt h.at0
set_option maxRecDepth 100000 in
set_option maxHeartbeats 2000000 in
theorem PutLong_any (ao : Option Addr) (n cap : Nat) (l : List Int) (v : Int) (w : World) (hn : n = l.length) (HR : RowI .u8 w ao l) (hlt : ∀ b, ao = some b → b.block < w.heap.size) (hno : ao = none → cap = 0) (hm : n ≤ 1048576) (hv : 0 ≤ v ∧ v ≤ 4611686018427387904) :
    Calls Try.prog 131 #[.slice ao n cap, .int .i64 v] w fun e w' => ∃ ao' c', e = .returned (.slice ao' (n + 8) c') ∧ Mine w' w.heap.size 5 1 (.slice ao' (n + 8) c') (n + 8) ((l ++ o8 v).map (Value.int .u8)) ∧ Below w.heap.size w w' := by
  obtain ⟨B, HB⟩ : ∃ B, Hid (B = w.heap.size) := ⟨_, rfl⟩
  have hsz : w.heap.size = B := HB.out.symm
  obtain ⟨O, HO⟩ : ∃ O, Hid (O = (o8 v).map (Value.int .u8)) := ⟨_, rfl⟩
  have hOl : O.length = 8 := by rw [HO.out]; rfl
  have hO1 : ∀ u ∈ O, u.oneCell' = true := by rw [HO.out]; exact ints_one _ _
  obtain ⟨Z, HZ⟩ : ∃ Z, Hid (Z = (List.replicate 8 (0 : Int)).map (Value.int .u8)) := ⟨_, rfl⟩
  have hz8 := hid zeroA8'
  rw [← HZ.out] at hz8
  have hZl : Z.length = 8 := by rw [HZ.out]; rfl
  have ho8 := fun w => hid (longOctets v w ⟨hv.1, by omega⟩)
  rw [← HO.out] at ho8
  have hal : Try.prog.arrayLen 216 = 8 := by kernel_rfl
  have hv0 : ¬ v < 0 := by omega
  have hv1 : ¬ 4611686018427387904 < v := by omega
  have hwv : IntKind.u64.wrap v = v := IntWalk.u64_in _ (by omega)
  have hLN : Hid ((l.map (Value.int .u8)).length = n * 1) := by show _ = _; rw [List.length_map, hn, Nat.mul_one]
  have hEQ : Hid ((l ++ o8 v).map (Value.int .u8) = l.map (Value.int .u8) ++ O) := by show _ = _; rw [List.map_append, HO.out]
  clear hn hv
  rw [← HB.out]
  go_enter Try.func131, Try.ntmps131
  go_wp2_with (first | (go_at_call 180; refine (ho8 w).out.mono ?_; rintro e w1 ⟨rfl, hb1⟩; have hR1 := HR.below hb1; have hs1 := hb1.size) | (refine wl_allocV rfl 216 rfl Z hz8.out w1.heap.size rfl ?_; intro w2 hO2 hb2 hs2) | (refine wl_storeV rfl 216 _ _ rfl 216 w1.heap.size rfl O rfl 8 agg8 hOl Z hO2 hZl hO1 ?_; intro w3 hO3 hb3 hs3; have hb13 := hb2.trans hb3; have hR3 := hR1.below hb13; have bb3 : Below B w w3 := (hsz ▸ hb1).trans (hb13.mono (by omega)); have hs3' : B ≤ w3.heap.size := (by omega); clear hO2 hb2 hb3 hb13 hR1))
  have hnew : ∀ o, (w3.alloc o).heap[w1.heap.size + 1]? = some o := fun o => by have h := heap_alloc_new w3 o; rwa [show w3.heap.size = w1.heap.size + 1 by omega] at h
  refine (slB.Concat_two ⟨ao, n, cap, l.map (Value.int .u8)⟩ ⟨some ⟨w1.heap.size, 0, none⟩, 8, 8, O⟩ (w1.heap.size + 1) _ (hnew _) ⟨hR3.v.alloc _, hLN.out, ints_one _ _, hno⟩ ⟨(at_row hO3.lt hO3.at0).alloc _, hOl, hO1, fun h => by cases h⟩ (by simp only; omega)).mono ?_
  rintro e w4 ⟨v4, rfl, hM4, hb4⟩
  obtain ⟨ao4, c4, rfl, hc4, _⟩ := hM4.row
  go_wp2_with fail
  go_ret
  refine ⟨_, _, rfl, ?_, (bb3.alloc hs3' _).trans (hb4.mono (by simp; omega))⟩
  rw [hEQ.out]
  exact hM4.mono (by simp; omega)
/-- a commit; what Commit gives -/
def commitL (k : List Int) (s : ByteArray) (e : Int) : List Int := sumL 7 (frm [k, numsOf s, o8 e])
def commitE (s : ByteArray) (e : Int) : Int := if isName s = false then 6 else if inB e 0 4294967295 = false then 4 else 0
def commitS (k : List Int) (s : ByteArray) (e : Int) : List Int := if commitE s e = 0 then commitL k s e else List.replicate 32 0
def commitV (k : List Int) (s : ByteArray) (e : Int) : Value := .tuple #[.agg ((commitS k s e).map (Value.int .u8)).toArray, .int .i64 (commitE s e)]
theorem commitS_length (k : List Int) (s : ByteArray) (e : Int) : (commitS k s e).length = 32 := by unfold commitS; split; exact sumL_length _ _; simp
set_option maxRecDepth 100000 in
set_option maxHeartbeats 2000000 in
theorem Commit_name (k : List Int) (hk : k.length = 32) (s : ByteArray) (hs : s.size ≤ maxLen) (e : Int) (w : World) (hname : isName s = false) :
    Calls Try.prog 73 #[.agg (k.map (Value.int .u8)).toArray, .string s, .int .i64 e] w fun r w' => r = .returned (commitV k s e) ∧ Below w.heap.size w w' := by
  obtain ⟨B, HB⟩ : ∃ B, Hid (B = w.heap.size) := ⟨_, rfl⟩
  have hsz : w.heap.size = B := HB.out.symm
  obtain ⟨K, HK⟩ : ∃ K, Hid (K = k.map (Value.int .u8)) := ⟨_, rfl⟩
  have hKl : K.length = 32 := by rw [HK.out, List.length_map, hk]
  obtain ⟨Z, HZ⟩ : ∃ Z, Hid (Z = (List.replicate 32 (0 : Int)).map (Value.int .u8)) := ⟨_, rfl⟩
  have hZl : Z.length = 32 := by rw [HZ.out]; simp
  have hZ1 : ∀ u ∈ Z, u.oneCell' = true := by rw [HZ.out]; exact ints_one _ _
  have hz0 := hid zeroSumZ
  have hb0S := hid built0
  unfold zSum at hz0 hb0S
  rw [← HZ.out] at hz0 hb0S
  have HE : commitE s e = 6 := by unfold commitE; rw [if_pos hname]
  have HV : Hid (commitV k s e = .tuple #[.agg Z.toArray, .int .i64 6]) := hid (by unfold commitV commitS; rw [HE, if_neg (by decide), HZ.out])
  rw [HV.out, ← HK.out]
  have hin := fun w => hid (IsName_any s w hs)
  rw [hname] at hin
  clear hk
  go_enter Try.func73, Try.ntmps73
  go_wp2_with (first | (refine wl_storeV rfl 73 _ _ rfl 73 (B + 1) rfl Z rfl 32 aggSumT hZl Z hR2 hZl hZ1 ?_; intro wF hRF hbF hsF) | (refine wl_build0 rfl 73 rfl Z hb0S.out ?_) | (go_at_call 130; refine (hin w1).out.mono ?_; rintro r w2 ⟨rfl, rfl⟩; have hR2 := hR1; have bb2 := bb1; clear hR1 bb1) | (refine wl_allocV rfl 73 rfl Z hz0.out (B + 1) hs0 ?_; intro w1 hR1 hb1 hs1; have hB1 := hB0.below hb1 (by omega); have bb1 := hb0.trans (hb1.mono (by omega : B ≤ _)); clear hB0 hb1) | (refine wl_boxV rfl 23 _ rfl K rfl B hsz ?_; intro w0 hB0 hb0 hs0))
  (try simp only [Exit.inBlock, Exit.then]); refine bodyPost_ret (results_cell2 rfl _ _ _ _ rfl Z (by rw [hZl]; exact aggSumT) hRF.at0) rfl ?_
  exact ⟨rfl, by first | exact bb2.trans (hbF.mono (by omega)) | (rw [hsz]; exact bb2.trans (hbF.mono (by omega)))⟩
set_option maxRecDepth 100000 in
set_option maxHeartbeats 2000000 in
theorem Commit_epoch (k : List Int) (hk : k.length = 32) (s : ByteArray) (hs : s.size ≤ maxLen) (e : Int) (w : World) (hname : isName s = true) (he : inB e 0 4294967295 = false) :
    Calls Try.prog 73 #[.agg (k.map (Value.int .u8)).toArray, .string s, .int .i64 e] w fun r w' => r = .returned (commitV k s e) ∧ Below w.heap.size w w' := by
  obtain ⟨B, HB⟩ : ∃ B, Hid (B = w.heap.size) := ⟨_, rfl⟩
  have hsz : w.heap.size = B := HB.out.symm
  obtain ⟨K, HK⟩ : ∃ K, Hid (K = k.map (Value.int .u8)) := ⟨_, rfl⟩
  have hKl : K.length = 32 := by rw [HK.out, List.length_map, hk]
  obtain ⟨Z, HZ⟩ : ∃ Z, Hid (Z = (List.replicate 32 (0 : Int)).map (Value.int .u8)) := ⟨_, rfl⟩
  have hZl : Z.length = 32 := by rw [HZ.out]; simp
  have hZ1 : ∀ u ∈ Z, u.oneCell' = true := by rw [HZ.out]; exact ints_one _ _
  have hz0 := hid zeroSumZ
  have hb0S := hid built0
  unfold zSum at hz0 hb0S
  rw [← HZ.out] at hz0 hb0S
  have HE : commitE s e = 4 := by unfold commitE; rw [if_neg (by rw [hname]; decide), if_pos he]
  have HV : Hid (commitV k s e = .tuple #[.agg Z.toArray, .int .i64 4]) := hid (by unfold commitV commitS; rw [HE, if_neg (by decide), HZ.out])
  rw [HV.out, ← HK.out]
  have hin := fun w => hid (IsName_any s w hs)
  rw [hname] at hin
  have hep := fun w => hid (badEpoch_any e w)
  rw [he] at hep
  clear hk
  go_enter Try.func73, Try.ntmps73
  go_wp2_with (first | (refine wl_storeV rfl 73 _ _ rfl 73 (B + 1) rfl Z rfl 32 aggSumT hZl Z hR2 hZl hZ1 ?_; intro wF hRF hbF hsF) | (refine wl_build0 rfl 73 rfl Z hb0S.out ?_) | (go_at_call 125; refine (hep w1).out.mono ?_; rintro r w3 ⟨rfl, rfl⟩) | (go_at_call 130; refine (hin w1).out.mono ?_; rintro r w2 ⟨rfl, rfl⟩; have hR2 := hR1; have bb2 := bb1; clear hR1 bb1) | (refine wl_allocV rfl 73 rfl Z hz0.out (B + 1) hs0 ?_; intro w1 hR1 hb1 hs1; have hB1 := hB0.below hb1 (by omega); have bb1 := hb0.trans (hb1.mono (by omega : B ≤ _)); clear hB0 hb1) | (refine wl_boxV rfl 23 _ rfl K rfl B hsz ?_; intro w0 hB0 hb0 hs0))
  (try simp only [Exit.inBlock, Exit.then]); refine bodyPost_ret (results_cell2 rfl _ _ _ _ rfl Z (by rw [hZl]; exact aggSumT) hRF.at0) rfl ?_
  exact ⟨rfl, by first | exact bb2.trans (hbF.mono (by omega)) | (rw [hsz]; exact bb2.trans (hbF.mono (by omega)))⟩
set_option maxRecDepth 100000 in
set_option maxHeartbeats 2000000 in
theorem Commit_ok (k : List Int) (hk : k.length = 32) (ok : Octs k) (s : ByteArray) (hs : s.size ≤ maxLen) (e : Int) (w : World) (hname : isName s = true) (he : inB e 0 4294967295 = true) :
    Calls Try.prog 73 #[.agg (k.map (Value.int .u8)).toArray, .string s, .int .i64 e] w fun r w' => r = .returned (commitV k s e) ∧ Below w.heap.size w w' := by
  obtain ⟨B, HB⟩ : ∃ B, Hid (B = w.heap.size) := ⟨_, rfl⟩
  have hsz : w.heap.size = B := HB.out.symm
  obtain ⟨K, HK⟩ : ∃ K, Hid (K = k.map (Value.int .u8)) := ⟨_, rfl⟩
  have hKl : K.length = 32 := by rw [HK.out, List.length_map, hk]
  obtain ⟨Z, HZ⟩ : ∃ Z, Hid (Z = (List.replicate 32 (0 : Int)).map (Value.int .u8)) := ⟨_, rfl⟩
  have hZl : Z.length = 32 := by rw [HZ.out]; simp
  have hZ1 : ∀ u ∈ Z, u.oneCell' = true := by rw [HZ.out]; exact ints_one _ _
  have hz0 := hid zeroSumZ
  unfold zSum at hz0
  rw [← HZ.out] at hz0
  have HE : commitE s e = 0 := by unfold commitE; rw [if_neg (by rw [hname]; decide), if_neg (by rw [he]; decide)]
  obtain ⟨S, HS⟩ : ∃ S, Hid (S = (commitL k s e).map (Value.int .u8)) := ⟨_, rfl⟩
  have hSl : S.length = 32 := by rw [HS.out, List.length_map]; exact sumL_length _ _
  have hS1 : ∀ u ∈ S, u.oneCell' = true := by rw [HS.out]; exact ints_one _ _
  have HV : Hid (commitV k s e = .tuple #[.agg S.toArray, .int .i64 0]) := hid (by unfold commitV commitS; rw [HE, if_pos rfl, HS.out])
  rw [HV.out, ← HK.out]
  have hin := fun w => hid (IsName_any s w hs)
  rw [hname] at hin
  have hep := fun w => hid (badEpoch_any e w)
  rw [he] at hep
  have heb : 0 ≤ e ∧ e ≤ 4294967295 := by unfold inB at he; simp at he; exact he
  obtain ⟨n, Hn⟩ : ∃ n, Hid (n = s.size) := ⟨_, rfl⟩
  have hn32 : n ≤ 32 := by
    have h1 := hname
    unfold isName at h1
    simp at h1
    rw [Hn.out]; exact h1.2.2
  have hns : s.size = n := Hn.out.symm
  have hL := hid (numsOf_length s)
  rw [hns] at hL
  have oL := numsOf_octs s
  have hfl : (frm [k, numsOf s, o8 e]).length ≤ 1048576 := by
    unfold frm
    simp only [List.map_cons, List.map_nil, List.flatten_cons, List.flatten_nil, List.length_append, List.length_nil, o4_length, hk, hL.out, o8_length]
    omega
  have hpl := fun w => hid (PutLong_any none 0 0 [] e w rfl (RowI.nil _ _ _) (fun b h => by cases h) (fun _ => rfl) (by decide) ⟨heb.1, by omega⟩)
  simp only [List.nil_append, Nat.zero_add] at hpl
  have hsum := fun (y : World) (N gL cs c8 : Nat) (a8 : Option Addr) (h1 : Pt.Ok y ⟨some ⟨B, 0, none⟩, 32, k⟩) (h2 : Pt.Ok y ⟨some ⟨gL, 0, none⟩, cs, numsOf s⟩) (h3 : Pt.Ok y ⟨a8, c8, o8 e⟩) (hB : BlkV 69 y N [.slice (some ⟨B, 0, none⟩) 32 32, .slice (some ⟨gL, 0, none⟩) n cs, .slice a8 8 c8]) => hid (by
    have hB' : BlkV 69 y N [Pt.v ⟨some ⟨B, 0, none⟩, 32, k⟩, Pt.v ⟨some ⟨gL, 0, none⟩, cs, numsOf s⟩, Pt.v ⟨a8, c8, o8 e⟩] := by unfold Pt.v; simp only [hk, hL.out, o8_length]; exact hB
    have h := sums_in 7 oct7 (some ⟨N, 0, none⟩) 3 3 [⟨some ⟨B, 0, none⟩, 32, k⟩, ⟨some ⟨gL, 0, none⟩, cs, numsOf s⟩, ⟨a8, c8, o8 e⟩] y rfl (by decide) (three_row hB') (fun x hx => by
      simp only [List.mem_cons, List.not_mem_nil, or_false] at hx
      rcases hx with rfl | rfl | rfl
      · exact h1
      · exact h2
      · exact h3) (by rw [framed_frm]; exact hfl)
    rw [framed_frm] at h
    exact h : Calls Try.prog 114 #[.int .i64 7, .slice (some ⟨N, 0, none⟩) 3 3] y fun r w' => r = .returned (.tuple #[.agg ((commitL k s e).map (Value.int .u8)).toArray, .int .i64 0]) ∧ Below y.heap.size y w')
  rw [← HS.out] at hsum
  have hal : Try.prog.arrayLen 23 = 32 := by kernel_rfl
  go_enter Try.func73, Try.ntmps73
  go_wp2_with (first | (go_at_call 125; refine (hep w1).out.mono ?_; rintro r w3 ⟨rfl, rfl⟩) | (go_at_call 130; refine (hin w1).out.mono ?_; rintro r w2 ⟨rfl, rfl⟩; have hB2 := hB1; have hR2 := hR1; have bb2 := bb1; have hs2 : B + 2 ≤ w1.heap.size := (by omega); clear hR1 bb1 hB1) | (refine wl_allocV rfl 73 rfl Z hz0.out (B + 1) hs0 ?_; intro w1 hR1 hb1 hs1; have hB1 := hB0.below hb1 (by omega); have bb1 := hb0.trans (hb1.mono (by omega : B ≤ _)); clear hB0 hb1) | (refine wl_boxV rfl 23 _ rfl K rfl B hsz ?_; intro w0 hB0 hb0 hs0))
  refine wp_region_held_drew (S := (fun _ => True)) (by kernel_rfl) trivial (fun hHeld => ?_)
  obtain ⟨y0, HY0⟩ : ∃ x, Hid (x = w1.drew) := ⟨_, rfl⟩
  rw [← HY0.out]
  have hB0 : BlkV 23 y0 B K := by rw [HY0.out]; exact hB2
  have hR0 : BlkV 73 y0 (B + 1) Z := by rw [HY0.out]; exact hR2
  have bb0 : Below B w y0 := by rw [HY0.out]; exact bb2.drew
  have hsy0 : B + 2 ≤ y0.heap.size := by rw [HY0.out]; exact hs2
  clear hB2 hR2 bb2 hs2
  refine take_l (i := 0) (v := ?rv1) rfl (by kernel_rfl) (by kernel_rfl) (by kernel_rfl) (fun _ _ _ h => h) (Or.inl ⟨by rfl, ?rhy1⟩) (by assumption) ?rrest1
  case rhy1 => (intro w hSw; (try dsimp only at hSw); go_simp; (try with_reducible rfl))
  try simp only [Act.put, List.setIfInBounds_toArray, List.set_cons_zero, List.set_cons_succ]
  refine take_l (i := 1) (v := ?rv2) rfl (by kernel_rfl) (by kernel_rfl) (by kernel_rfl) (fun _ _ _ h => h) (Or.inl ⟨by rfl, ?rhy2⟩) (by assumption) ?rrest2
  case rhy2 => (intro w hSw; (try dsimp only at hSw); go_simp; (try with_reducible rfl))
  try simp only [Act.put, List.setIfInBounds_toArray, List.set_cons_zero, List.set_cons_succ]
  refine take_l (i := 3) (v := ?rv3) rfl (by kernel_rfl) (by kernel_rfl) (by kernel_rfl) (fun _ _ _ h => h) (Or.inl ⟨by rfl, ?rhy3⟩) (by assumption) ?rrest3
  case rhy3 => (intro w hSw; (try dsimp only at hSw); go_simp; (try with_reducible rfl))
  try simp only [Act.put, List.setIfInBounds_toArray, List.set_cons_zero, List.set_cons_succ]
  refine wpAnyH_ready (rs := [2, 4]) (by kernel_rfl) (by simp) (cons_l rfl (fun K' hK' => ?_) (cons_l rfl (fun K' hK' => ?_) AllReadyH.nil))
  · refine step_convS rfl _ rfl s n hns (by omega) (by rfl) ?_
    intro y1 cs hL1 hsx1 hc1 hc2 hbx1
    obtain ⟨gL, HgL⟩ : ∃ g, Hid (g = y0.heap.size) := ⟨_, rfl⟩
    have hgL : gL < y1.heap.size := by rw [HgL.out]; omega
    rw [← HgL.out] at hL1 ⊢
    have hPL1 : Pt.Ok y1 ⟨some ⟨gL, 0, none⟩, cs, numsOf s⟩ := ⟨hL1, by rw [hL.out]; exact hc1, hc2, oL, fun b e => by cases e; exact hgL⟩
    have hB1 := hB0.below hbx1 (by omega)
    have hR1 := hR0.below hbx1 (by omega)
    have bb1 := bb0.trans (hbx1.mono (by omega : B ≤ _))
    have hsy1 : B + 2 ≤ y1.heap.size := by have := hbx1.size; omega
    refine hK'.out _ _ trivial (fun hHeld => ?_)
    clear hK' K'
    try simp only [Act.put, List.setIfInBounds_toArray, List.set_cons_zero, List.set_cons_succ]
    refine wpAnyH_ready (rs := [4]) (by kernel_rfl) (by simp) (cons_l rfl (fun K' hK' => ?_) AllReadyH.nil)
    rw [if_pos (by rfl)]
    go_simp
    go_at_call 131
    refine (hpl y1).out.mono ?_
    rintro r y2 ⟨a8, c8, rfl, hM8, hbx2⟩
    have hP82 := (mine_pt hM8 rfl (by decide) (o8_octs e)).1
    have hB2 := hB1.below hbx2 (by omega)
    have hR2 := hR1.below hbx2 (by omega)
    have bb2 := bb1.trans (hbx2.mono (by omega : B ≤ _))
    have hsy2 : B + 2 ≤ y2.heap.size := by have := hbx2.size; omega
    have hPL2 := hPL1.below hbx2
    refine hK'.out _ _ trivial (fun hHeld => ?_)
    clear hK' K'
    try simp only [Act.put, List.setIfInBounds_toArray, List.set_cons_zero, List.set_cons_succ]
    refine wpAnyH_ready (rs := [5]) (by kernel_rfl) (by simp) (cons_l rfl (fun K' hK' => ?_) AllReadyH.nil)
    obtain ⟨N, HN⟩ : ∃ g, Hid (g = y2.heap.size) := ⟨_, rfl⟩
    refine step_lit rfl 82 69 3 _ rfl Try.underlying82 (.slice none 0 0) 1 24 infoB (by decide) (by decide) [.slice (some ⟨B, 0, none⟩) 32 32, .slice (some ⟨gL, 0, none⟩) n cs, .slice a8 8 c8] (by kernel_rfl) N HN.out.symm ?_
    intro y3 hN3 hbx3 hsx3
    rw [HN.out] at hbx3
    have hPL3 := hPL2.below hbx3
    have hP83 := hP82.below hbx3
    have hB3 := hB2.below hbx3 (by omega)
    have hR3 := hR2.below hbx3 (by omega)
    have bb3 := bb2.trans (hbx3.mono (by omega : B ≤ _))
    have hsy3 : B + 2 ≤ y3.heap.size := by have := hbx3.size; omega
    have hPK3 : Pt.Ok y3 ⟨some ⟨B, 0, none⟩, 32, k⟩ := ⟨RowV.i (by rw [← HK.out]; exact at_row hB3.lt hB3.at0), by show k.length ≤ 32; omega, by show (32 : Nat) ≤ maxLen; decide, ok, fun b e => by cases e; exact hB3.lt⟩
    refine hK'.out _ _ trivial (fun hHeld => ?_)
    clear hK' K'
    try simp only [Act.put, List.setIfInBounds_toArray, List.set_cons_zero, List.set_cons_succ]
    refine wpAnyH_ready (rs := [6]) (by kernel_rfl) (by simp) (cons_l rfl (fun K' hK' => ?_) AllReadyH.nil)
    rw [if_pos (by rfl)]
    go_simp
    go_at_call 114
    refine (hsum y3 N gL cs c8 a8 hPK3 hPL3 hP83 hN3).out.mono ?_
    rintro r y4 ⟨rfl, hbx4⟩
    have hB4 := hB3.below hbx4 (by omega)
    have hR4 := hR3.below hbx4 (by omega)
    have bb4 := bb3.trans (hbx4.mono (by omega : B ≤ _))
    have hsy4 : B + 2 ≤ y4.heap.size := by have := hbx4.size; omega
    refine hK'.out _ _ trivial (fun hHeld => ?_)
    clear hK' K'
    try simp only [Act.put, List.setIfInBounds_toArray, List.set_cons_zero, List.set_cons_succ]
    refine take_l (i := 7) (v := ?rv4) rfl (by kernel_rfl) (by kernel_rfl) (by kernel_rfl) (fun _ _ _ h => h) (Or.inl ⟨by rfl, ?rhy4⟩) (by assumption) ?rrest4
    case rhy4 => (intro w hSw; (try dsimp only at hSw); go_simp; (try with_reducible rfl))
    try simp only [Act.put, List.setIfInBounds_toArray, List.set_cons_zero, List.set_cons_succ]
    refine take_l (i := 8) (v := ?rv5) rfl (by kernel_rfl) (by kernel_rfl) (by kernel_rfl) (fun _ _ _ h => h) (Or.inl ⟨by rfl, ?rhy5⟩) (by assumption) ?rrest5
    case rhy5 => (intro w hSw; (try dsimp only at hSw); go_simp; (try with_reducible rfl))
    try simp only [Act.put, List.setIfInBounds_toArray, List.set_cons_zero, List.set_cons_succ]
    refine wpAnyH_ready (rs := [9]) (by kernel_rfl) (by simp) (cons_l rfl (fun K' hK' => ?_) AllReadyH.nil)
    refine step_storeV (by rfl) 73 _ _ (by rfl) 73 (B + 1) (by rfl) S (by rfl) 32 aggSumT hSl Z hR4 hZl hS1 ?_
    intro y5 hRF hbF hsF
    refine hK'.out _ _ trivial (fun hHeld => ?_)
    clear hK' K'
    try simp only [Act.put, List.setIfInBounds_toArray, List.set_cons_zero, List.set_cons_succ]
    refine take_l (i := 10) (v := ?rv6) rfl (by kernel_rfl) (by kernel_rfl) (by kernel_rfl) (fun _ _ _ h => h) (Or.inl ⟨by rfl, ?rhy6⟩) (by assumption) ?rrest6
    case rhy6 => (intro w hSw; (try dsimp only at hSw); go_simp; (try with_reducible rfl))
    try simp only [Act.put, List.setIfInBounds_toArray, List.set_cons_zero, List.set_cons_succ]
    refine wpAnyH_done (by kernel_rfl) ?_ _
    go_wp2_with fail
    (try simp only [Exit.inBlock, Exit.then]); refine bodyPost_ret (results_cell2 rfl _ _ _ _ rfl S (by rw [hSl]; exact aggSumT) hRF.at0) rfl ?_
    exact ⟨rfl, by first | exact bb4.trans (hbF.mono (by omega)) | (rw [hsz]; exact bb4.trans (hbF.mono (by omega)))⟩
  · rw [if_pos (by rfl)]
    go_simp
    go_at_call 131
    refine (hpl y0).out.mono ?_
    rintro r y1 ⟨a8, c8, rfl, hM8, hbx1⟩
    have hP81 := (mine_pt hM8 rfl (by decide) (o8_octs e)).1
    have hB1 := hB0.below hbx1 (by omega)
    have hR1 := hR0.below hbx1 (by omega)
    have bb1 := bb0.trans (hbx1.mono (by omega : B ≤ _))
    have hsy1 : B + 2 ≤ y1.heap.size := by have := hbx1.size; omega
    refine hK'.out _ _ trivial (fun hHeld => ?_)
    clear hK' K'
    try simp only [Act.put, List.setIfInBounds_toArray, List.set_cons_zero, List.set_cons_succ]
    refine wpAnyH_ready (rs := [2]) (by kernel_rfl) (by simp) (cons_l rfl (fun K' hK' => ?_) AllReadyH.nil)
    refine step_convS rfl _ rfl s n hns (by omega) (by rfl) ?_
    intro y2 cs hL2 hsx2 hc1 hc2 hbx2
    obtain ⟨gL, HgL⟩ : ∃ g, Hid (g = y1.heap.size) := ⟨_, rfl⟩
    have hgL : gL < y2.heap.size := by rw [HgL.out]; omega
    rw [← HgL.out] at hL2 ⊢
    have hPL2 : Pt.Ok y2 ⟨some ⟨gL, 0, none⟩, cs, numsOf s⟩ := ⟨hL2, by rw [hL.out]; exact hc1, hc2, oL, fun b e => by cases e; exact hgL⟩
    have hB2 := hB1.below hbx2 (by omega)
    have hR2 := hR1.below hbx2 (by omega)
    have bb2 := bb1.trans (hbx2.mono (by omega : B ≤ _))
    have hsy2 : B + 2 ≤ y2.heap.size := by have := hbx2.size; omega
    have hP82 := hP81.below hbx2
    refine hK'.out _ _ trivial (fun hHeld => ?_)
    clear hK' K'
    try simp only [Act.put, List.setIfInBounds_toArray, List.set_cons_zero, List.set_cons_succ]
    refine wpAnyH_ready (rs := [5]) (by kernel_rfl) (by simp) (cons_l rfl (fun K' hK' => ?_) AllReadyH.nil)
    obtain ⟨N, HN⟩ : ∃ g, Hid (g = y2.heap.size) := ⟨_, rfl⟩
    refine step_lit rfl 82 69 3 _ rfl Try.underlying82 (.slice none 0 0) 1 24 infoB (by decide) (by decide) [.slice (some ⟨B, 0, none⟩) 32 32, .slice (some ⟨gL, 0, none⟩) n cs, .slice a8 8 c8] (by kernel_rfl) N HN.out.symm ?_
    intro y3 hN3 hbx3 hsx3
    rw [HN.out] at hbx3
    have hPL3 := hPL2.below hbx3
    have hP83 := hP82.below hbx3
    have hB3 := hB2.below hbx3 (by omega)
    have hR3 := hR2.below hbx3 (by omega)
    have bb3 := bb2.trans (hbx3.mono (by omega : B ≤ _))
    have hsy3 : B + 2 ≤ y3.heap.size := by have := hbx3.size; omega
    have hPK3 : Pt.Ok y3 ⟨some ⟨B, 0, none⟩, 32, k⟩ := ⟨RowV.i (by rw [← HK.out]; exact at_row hB3.lt hB3.at0), by show k.length ≤ 32; omega, by show (32 : Nat) ≤ maxLen; decide, ok, fun b e => by cases e; exact hB3.lt⟩
    refine hK'.out _ _ trivial (fun hHeld => ?_)
    clear hK' K'
    try simp only [Act.put, List.setIfInBounds_toArray, List.set_cons_zero, List.set_cons_succ]
    refine wpAnyH_ready (rs := [6]) (by kernel_rfl) (by simp) (cons_l rfl (fun K' hK' => ?_) AllReadyH.nil)
    rw [if_pos (by rfl)]
    go_simp
    go_at_call 114
    refine (hsum y3 N gL cs c8 a8 hPK3 hPL3 hP83 hN3).out.mono ?_
    rintro r y4 ⟨rfl, hbx4⟩
    have hB4 := hB3.below hbx4 (by omega)
    have hR4 := hR3.below hbx4 (by omega)
    have bb4 := bb3.trans (hbx4.mono (by omega : B ≤ _))
    have hsy4 : B + 2 ≤ y4.heap.size := by have := hbx4.size; omega
    refine hK'.out _ _ trivial (fun hHeld => ?_)
    clear hK' K'
    try simp only [Act.put, List.setIfInBounds_toArray, List.set_cons_zero, List.set_cons_succ]
    refine take_l (i := 7) (v := ?rv7) rfl (by kernel_rfl) (by kernel_rfl) (by kernel_rfl) (fun _ _ _ h => h) (Or.inl ⟨by rfl, ?rhy7⟩) (by assumption) ?rrest7
    case rhy7 => (intro w hSw; (try dsimp only at hSw); go_simp; (try with_reducible rfl))
    try simp only [Act.put, List.setIfInBounds_toArray, List.set_cons_zero, List.set_cons_succ]
    refine take_l (i := 8) (v := ?rv8) rfl (by kernel_rfl) (by kernel_rfl) (by kernel_rfl) (fun _ _ _ h => h) (Or.inl ⟨by rfl, ?rhy8⟩) (by assumption) ?rrest8
    case rhy8 => (intro w hSw; (try dsimp only at hSw); go_simp; (try with_reducible rfl))
    try simp only [Act.put, List.setIfInBounds_toArray, List.set_cons_zero, List.set_cons_succ]
    refine wpAnyH_ready (rs := [9]) (by kernel_rfl) (by simp) (cons_l rfl (fun K' hK' => ?_) AllReadyH.nil)
    refine step_storeV (by rfl) 73 _ _ (by rfl) 73 (B + 1) (by rfl) S (by rfl) 32 aggSumT hSl Z hR4 hZl hS1 ?_
    intro y5 hRF hbF hsF
    refine hK'.out _ _ trivial (fun hHeld => ?_)
    clear hK' K'
    try simp only [Act.put, List.setIfInBounds_toArray, List.set_cons_zero, List.set_cons_succ]
    refine take_l (i := 10) (v := ?rv9) rfl (by kernel_rfl) (by kernel_rfl) (by kernel_rfl) (fun _ _ _ h => h) (Or.inl ⟨by rfl, ?rhy9⟩) (by assumption) ?rrest9
    case rhy9 => (intro w hSw; (try dsimp only at hSw); go_simp; (try with_reducible rfl))
    try simp only [Act.put, List.setIfInBounds_toArray, List.set_cons_zero, List.set_cons_succ]
    refine wpAnyH_done (by kernel_rfl) ?_ _
    go_wp2_with fail
    (try simp only [Exit.inBlock, Exit.then]); refine bodyPost_ret (results_cell2 rfl _ _ _ _ rfl S (by rw [hSl]; exact aggSumT) hRF.at0) rfl ?_
    exact ⟨rfl, by first | exact bb4.trans (hbF.mono (by omega)) | (rw [hsz]; exact bb4.trans (hbF.mono (by omega)))⟩
set_option maxRecDepth 100000 in
set_option maxHeartbeats 2000000 in
theorem RefCommit_name (k : List Int) (hk : k.length = 32) (s : ByteArray) (hs : s.size ≤ maxLen) (e : Int) (w : World) (hname : isName s = false) :
    Calls Try.prog 74 #[.agg (k.map (Value.int .u8)).toArray, .string s, .int .i64 e] w fun r w' => r = .returned (commitV k s e) ∧ Below w.heap.size w w' := by
  obtain ⟨B, HB⟩ : ∃ B, Hid (B = w.heap.size) := ⟨_, rfl⟩
  have hsz : w.heap.size = B := HB.out.symm
  obtain ⟨K, HK⟩ : ∃ K, Hid (K = k.map (Value.int .u8)) := ⟨_, rfl⟩
  have hKl : K.length = 32 := by rw [HK.out, List.length_map, hk]
  obtain ⟨Z, HZ⟩ : ∃ Z, Hid (Z = (List.replicate 32 (0 : Int)).map (Value.int .u8)) := ⟨_, rfl⟩
  have hZl : Z.length = 32 := by rw [HZ.out]; simp
  have hZ1 : ∀ u ∈ Z, u.oneCell' = true := by rw [HZ.out]; exact ints_one _ _
  have hz0 := hid zeroSumZ
  have hb0S := hid built0
  unfold zSum at hz0 hb0S
  rw [← HZ.out] at hz0 hb0S
  have HE : commitE s e = 6 := by unfold commitE; rw [if_pos hname]
  have HV : Hid (commitV k s e = .tuple #[.agg Z.toArray, .int .i64 6]) := hid (by unfold commitV commitS; rw [HE, if_neg (by decide), HZ.out])
  rw [HV.out, ← HK.out]
  have hin := fun w => hid (RefIsName_any s w hs)
  rw [hname] at hin
  clear hk
  go_enter Try.func74, Try.ntmps74
  go_wp2_with (first | (refine wl_storeV rfl 73 _ _ rfl 73 (B + 1) rfl Z rfl 32 aggSumT hZl Z hR2 hZl hZ1 ?_; intro wF hRF hbF hsF) | (refine wl_build0 rfl 73 rfl Z hb0S.out ?_) | (go_at_call 132; refine (hin w1).out.mono ?_; rintro r w2 ⟨rfl, hbn⟩; have hR2 := hR1.below hbn (by omega); have bb2 := bb1.trans (hbn.mono (by omega : B ≤ _)); clear hR1 bb1 hbn) | (refine wl_allocV rfl 73 rfl Z hz0.out (B + 1) hs0 ?_; intro w1 hR1 hb1 hs1; have hB1 := hB0.below hb1 (by omega); have bb1 := hb0.trans (hb1.mono (by omega : B ≤ _)); clear hB0 hb1) | (refine wl_boxV rfl 23 _ rfl K rfl B hsz ?_; intro w0 hB0 hb0 hs0))
  (try simp only [Exit.inBlock, Exit.then]); refine bodyPost_ret (results_cell2 rfl _ _ _ _ rfl Z (by rw [hZl]; exact aggSumT) hRF.at0) rfl ?_
  exact ⟨rfl, by first | exact bb2.trans (hbF.mono (by omega)) | (rw [hsz]; exact bb2.trans (hbF.mono (by omega)))⟩
set_option maxRecDepth 100000 in
set_option maxHeartbeats 2000000 in
theorem RefCommit_epoch (k : List Int) (hk : k.length = 32) (s : ByteArray) (hs : s.size ≤ maxLen) (e : Int) (w : World) (hname : isName s = true) (he : inB e 0 4294967295 = false) :
    Calls Try.prog 74 #[.agg (k.map (Value.int .u8)).toArray, .string s, .int .i64 e] w fun r w' => r = .returned (commitV k s e) ∧ Below w.heap.size w w' := by
  obtain ⟨B, HB⟩ : ∃ B, Hid (B = w.heap.size) := ⟨_, rfl⟩
  have hsz : w.heap.size = B := HB.out.symm
  obtain ⟨K, HK⟩ : ∃ K, Hid (K = k.map (Value.int .u8)) := ⟨_, rfl⟩
  have hKl : K.length = 32 := by rw [HK.out, List.length_map, hk]
  obtain ⟨Z, HZ⟩ : ∃ Z, Hid (Z = (List.replicate 32 (0 : Int)).map (Value.int .u8)) := ⟨_, rfl⟩
  have hZl : Z.length = 32 := by rw [HZ.out]; simp
  have hZ1 : ∀ u ∈ Z, u.oneCell' = true := by rw [HZ.out]; exact ints_one _ _
  have hz0 := hid zeroSumZ
  have hb0S := hid built0
  unfold zSum at hz0 hb0S
  rw [← HZ.out] at hz0 hb0S
  have HE : commitE s e = 4 := by unfold commitE; rw [if_neg (by rw [hname]; decide), if_pos he]
  have HV : Hid (commitV k s e = .tuple #[.agg Z.toArray, .int .i64 4]) := hid (by unfold commitV commitS; rw [HE, if_neg (by decide), HZ.out])
  rw [HV.out, ← HK.out]
  have hin := fun w => hid (RefIsName_any s w hs)
  rw [hname] at hin
  have hep := fun w => hid (In_b e 0 4294967295 w)
  rw [he] at hep
  clear hk
  go_enter Try.func74, Try.ntmps74
  go_wp2_with (first | (refine wl_storeV rfl 73 _ _ rfl 73 (B + 1) rfl Z rfl 32 aggSumT hZl Z hR2 hZl hZ1 ?_; intro wF hRF hbF hsF) | (refine wl_build0 rfl 73 rfl Z hb0S.out ?_) | (go_at_call 16; refine (hep w2).out.mono ?_; rintro r w3 ⟨rfl, rfl⟩) | (go_at_call 132; refine (hin w1).out.mono ?_; rintro r w2 ⟨rfl, hbn⟩; have hR2 := hR1.below hbn (by omega); have bb2 := bb1.trans (hbn.mono (by omega : B ≤ _)); clear hR1 bb1 hbn) | (refine wl_allocV rfl 73 rfl Z hz0.out (B + 1) hs0 ?_; intro w1 hR1 hb1 hs1; have hB1 := hB0.below hb1 (by omega); have bb1 := hb0.trans (hb1.mono (by omega : B ≤ _)); clear hB0 hb1) | (refine wl_boxV rfl 23 _ rfl K rfl B hsz ?_; intro w0 hB0 hb0 hs0))
  (try simp only [Exit.inBlock, Exit.then]); refine bodyPost_ret (results_cell2 rfl _ _ _ _ rfl Z (by rw [hZl]; exact aggSumT) hRF.at0) rfl ?_
  exact ⟨rfl, by first | exact bb2.trans (hbF.mono (by omega)) | (rw [hsz]; exact bb2.trans (hbF.mono (by omega)))⟩
set_option maxRecDepth 100000 in
set_option maxHeartbeats 2000000 in
theorem RefCommit_ok (k : List Int) (hk : k.length = 32) (ok : Octs k) (s : ByteArray) (hs : s.size ≤ maxLen) (e : Int) (w : World) (hname : isName s = true) (he : inB e 0 4294967295 = true) :
    Calls Try.prog 74 #[.agg (k.map (Value.int .u8)).toArray, .string s, .int .i64 e] w fun r w' => r = .returned (commitV k s e) ∧ Below w.heap.size w w' := by
  obtain ⟨B, HB⟩ : ∃ B, Hid (B = w.heap.size) := ⟨_, rfl⟩
  have hsz : w.heap.size = B := HB.out.symm
  obtain ⟨K, HK⟩ : ∃ K, Hid (K = k.map (Value.int .u8)) := ⟨_, rfl⟩
  have hKl : K.length = 32 := by rw [HK.out, List.length_map, hk]
  obtain ⟨Z, HZ⟩ : ∃ Z, Hid (Z = (List.replicate 32 (0 : Int)).map (Value.int .u8)) := ⟨_, rfl⟩
  have hZl : Z.length = 32 := by rw [HZ.out]; simp
  have hZ1 : ∀ u ∈ Z, u.oneCell' = true := by rw [HZ.out]; exact ints_one _ _
  have hz0 := hid zeroSumZ
  unfold zSum at hz0
  rw [← HZ.out] at hz0
  have HE : commitE s e = 0 := by unfold commitE; rw [if_neg (by rw [hname]; decide), if_neg (by rw [he]; decide)]
  obtain ⟨S, HS⟩ : ∃ S, Hid (S = (commitL k s e).map (Value.int .u8)) := ⟨_, rfl⟩
  have hSl : S.length = 32 := by rw [HS.out, List.length_map]; exact sumL_length _ _
  have hS1 : ∀ u ∈ S, u.oneCell' = true := by rw [HS.out]; exact ints_one _ _
  have HV : Hid (commitV k s e = .tuple #[.agg S.toArray, .int .i64 0]) := hid (by unfold commitV commitS; rw [HE, if_pos rfl, HS.out])
  rw [HV.out, ← HK.out]
  have hin := fun w => hid (RefIsName_any s w hs)
  rw [hname] at hin
  have hep := fun w => hid (In_b e 0 4294967295 w)
  rw [he] at hep
  have heb : 0 ≤ e ∧ e ≤ 4294967295 := by unfold inB at he; simp at he; exact he
  obtain ⟨n, Hn⟩ : ∃ n, Hid (n = s.size) := ⟨_, rfl⟩
  have hn32 : n ≤ 32 := by
    have h1 := hname
    unfold isName at h1
    simp at h1
    rw [Hn.out]; exact h1.2.2
  have hns : s.size = n := Hn.out.symm
  have hL := hid (numsOf_length s)
  rw [hns] at hL
  have oL := numsOf_octs s
  have hfl : (frm [k, numsOf s, o8 e]).length ≤ 1048576 := by
    unfold frm
    simp only [List.map_cons, List.map_nil, List.flatten_cons, List.flatten_nil, List.length_append, List.length_nil, o4_length, hk, hL.out, o8_length]
    omega
  have hpl := fun w => hid (Octets_any e 8 w (by decide))
  simp only [octN_eight] at hpl
  obtain ⟨F, HF⟩ : ∃ F, Hid (F = frm [k, numsOf s, o8 e]) := ⟨_, rfl⟩
  obtain ⟨m, Hm⟩ : ∃ m, Hid (m = F.length) := ⟨_, rfl⟩
  have hmb : m ≤ 1048576 := by rw [Hm.out, HF.out]; exact hfl
  have hm0 : 0 < m := by
    rw [Hm.out, HF.out]
    unfold frm
    simp only [List.map_cons, List.map_nil, List.flatten_cons, List.flatten_nil, List.length_append, List.length_nil, o4_length, hk, hL.out, o8_length]
    omega
  have oF : Octs F := by
    rw [HF.out]
    unfold frm
    simp only [List.map_cons, List.map_nil, List.flatten_cons, List.flatten_nil]
    exact octs_app (octs_app (o4_octs _) ok) (octs_app (octs_app (o4_octs _) oL) (octs_app (octs_app (o4_octs _) (o8_octs e)) (fun c hc => by cases hc)))
  have hfr := fun (y : World) (N gL cs c8 : Nat) (a8 : Option Addr) (h0 : a8 = none → c8 = 0) (h1 : Pt.Ok y ⟨some ⟨B, 0, none⟩, 32, k⟩) (h2 : Pt.Ok y ⟨some ⟨gL, 0, none⟩, cs, numsOf s⟩) (h3 : Pt.Ok y ⟨a8, c8, o8 e⟩) (hB : BlkV 69 y N [.slice (some ⟨B, 0, none⟩) 32 32, .slice (some ⟨gL, 0, none⟩) n cs, .slice a8 8 c8]) => hid (by
    have hB' : BlkV 69 y N [Pt.v ⟨some ⟨B, 0, none⟩, 32, k⟩, Pt.v ⟨some ⟨gL, 0, none⟩, cs, numsOf s⟩, Pt.v ⟨a8, c8, o8 e⟩] := by unfold Pt.v; simp only [hk, hL.out, o8_length]; exact hB
    have h := framedR (some ⟨N, 0, none⟩) 3 3 [⟨some ⟨B, 0, none⟩, 32, k⟩, ⟨some ⟨gL, 0, none⟩, cs, numsOf s⟩, ⟨a8, c8, o8 e⟩] y rfl (by decide) (three_row hB') (fun x hx => by
      simp only [List.mem_cons, List.not_mem_nil, or_false] at hx
      rcases hx with rfl | rfl | rfl
      · exact h1
      · exact h2
      · exact h3) (fun x hx => by
      simp only [List.mem_cons, List.not_mem_nil, or_false] at hx
      rcases hx with rfl | rfl | rfl
      · intro h; cases h
      · intro h; cases h
      · exact h0) (by rw [framed_frm]; simp only [List.map_cons, List.map_nil]; omega)
    rw [framed_frm] at h
    simp only [List.map_cons, List.map_nil] at h
    rw [← HF.out, ← Hm.out] at h
    exact h : Calls Try.prog 52 #[.slice (some ⟨N, 0, none⟩) 3 3] y fun r w' => ∃ ao c, r = .returned (.slice ao m c) ∧ Mine w' y.heap.size 5 1 (.slice ao m c) m (F.map (Value.int .u8)) ∧ Below y.heap.size y w')
  have hsum := fun (y : World) (ao : Option Addr) (c : Nat) (HP : Pt.Ok y ⟨ao, c, F⟩) (h0 : ao = none → c = 0 ∧ m = 0) => hid (by
    have h := sumR 7 oct7 ao c m F y Hm.out HP h0 (by omega)
    rw [show sumL 7 F = commitL k s e by rw [HF.out]; rfl] at h
    exact h : Calls Try.prog 51 #[.int .i64 7, .slice ao m c] y fun r w' => r = .returned (.agg ((commitL k s e).map (Value.int .u8)).toArray) ∧ Below y.heap.size y w')
  rw [← HS.out] at hsum
  have hal : Try.prog.arrayLen 23 = 32 := by kernel_rfl
  go_enter Try.func74, Try.ntmps74
  go_wp2_with (first | (go_at_call 16; refine (hep w2).out.mono ?_; rintro r w3 ⟨rfl, rfl⟩) | (go_at_call 132; refine (hin w1).out.mono ?_; rintro r w2 ⟨rfl, hbn⟩; have hB2 := hB1.below hbn (by omega); have hR2 := hR1.below hbn (by omega); have bb2 := bb1.trans (hbn.mono (by omega : B ≤ _)); have hs2 : B + 2 ≤ w2.heap.size := (by have := hbn.size; omega); clear hR1 bb1 hbn hB1) | (refine wl_allocV rfl 73 rfl Z hz0.out (B + 1) hs0 ?_; intro w1 hR1 hb1 hs1; have hB1 := hB0.below hb1 (by omega); have bb1 := hb0.trans (hb1.mono (by omega : B ≤ _)); clear hB0 hb1) | (refine wl_boxV rfl 23 _ rfl K rfl B hsz ?_; intro w0 hB0 hb0 hs0))
  refine wp_region_held_drew (S := (fun _ => True)) (by kernel_rfl) trivial (fun hHeld => ?_)
  obtain ⟨y0, HY0⟩ : ∃ x, Hid (x = w2.drew) := ⟨_, rfl⟩
  rw [← HY0.out]
  have hB0 : BlkV 23 y0 B K := by rw [HY0.out]; exact hB2
  have hR0 : BlkV 73 y0 (B + 1) Z := by rw [HY0.out]; exact hR2
  have bb0 : Below B w y0 := by rw [HY0.out]; exact bb2.drew
  have hsy0 : B + 2 ≤ y0.heap.size := by rw [HY0.out]; exact hs2
  clear hB2 hR2 bb2 hs2
  refine take_l (i := 0) (v := ?rv10) rfl (by kernel_rfl) (by kernel_rfl) (by kernel_rfl) (fun _ _ _ h => h) (Or.inl ⟨by rfl, ?rhy10⟩) (by assumption) ?rrest10
  case rhy10 => (intro w hSw; (try dsimp only at hSw); go_simp; (try with_reducible rfl))
  try simp only [Act.put, List.setIfInBounds_toArray, List.set_cons_zero, List.set_cons_succ]
  refine take_l (i := 1) (v := ?rv11) rfl (by kernel_rfl) (by kernel_rfl) (by kernel_rfl) (fun _ _ _ h => h) (Or.inl ⟨by rfl, ?rhy11⟩) (by assumption) ?rrest11
  case rhy11 => (intro w hSw; (try dsimp only at hSw); go_simp; (try with_reducible rfl))
  try simp only [Act.put, List.setIfInBounds_toArray, List.set_cons_zero, List.set_cons_succ]
  refine take_l (i := 3) (v := ?rv12) rfl (by kernel_rfl) (by kernel_rfl) (by kernel_rfl) (fun _ _ _ h => h) (Or.inl ⟨by rfl, ?rhy12⟩) (by assumption) ?rrest12
  case rhy12 => (intro w hSw; (try dsimp only at hSw); go_simp; (try with_reducible rfl))
  try simp only [Act.put, List.setIfInBounds_toArray, List.set_cons_zero, List.set_cons_succ]
  refine wpAnyH_ready (rs := [2, 4]) (by kernel_rfl) (by simp) (cons_l rfl (fun K' hK' => ?_) (cons_l rfl (fun K' hK' => ?_) AllReadyH.nil))
  · refine step_convS rfl _ rfl s n hns (by omega) (by rfl) ?_
    intro y1 cs hL1 hsx1 hc1 hc2 hbx1
    obtain ⟨gL, HgL⟩ : ∃ g, Hid (g = y0.heap.size) := ⟨_, rfl⟩
    have hgL : gL < y1.heap.size := by rw [HgL.out]; omega
    rw [← HgL.out] at hL1 ⊢
    have hPL1 : Pt.Ok y1 ⟨some ⟨gL, 0, none⟩, cs, numsOf s⟩ := ⟨hL1, by rw [hL.out]; exact hc1, hc2, oL, fun b e => by cases e; exact hgL⟩
    have hB1 := hB0.below hbx1 (by omega)
    have hR1 := hR0.below hbx1 (by omega)
    have bb1 := bb0.trans (hbx1.mono (by omega : B ≤ _))
    have hsy1 : B + 2 ≤ y1.heap.size := by have := hbx1.size; omega
    refine hK'.out _ _ trivial (fun hHeld => ?_)
    clear hK' K'
    try simp only [Act.put, List.setIfInBounds_toArray, List.set_cons_zero, List.set_cons_succ]
    refine wpAnyH_ready (rs := [4]) (by kernel_rfl) (by simp) (cons_l rfl (fun K' hK' => ?_) AllReadyH.nil)
    rw [if_pos (by rfl)]
    go_simp
    go_at_call 112
    refine (hpl y1).out.mono ?_
    rintro r y2 ⟨rfl, hM8, hbx2⟩
    obtain ⟨g8, Hg8⟩ : ∃ g, Hid (g = y1.heap.size) := ⟨_, rfl⟩
    rw [← Hg8.out] at hM8 ⊢
    have hP82 : Pt.Ok y2 ⟨some ⟨g8, 0, none⟩, 8, o8 e⟩ := ⟨hM8.row, by show (o8 e).length ≤ 8; rw [o8_length]; omega, by show (8 : Nat) ≤ maxLen; decide, o8_octs e, fun b e => by cases e; exact hM8.lt⟩
    have hB2 := hB1.below hbx2 (by omega)
    have hR2 := hR1.below hbx2 (by omega)
    have bb2 := bb1.trans (hbx2.mono (by omega : B ≤ _))
    have hsy2 : B + 2 ≤ y2.heap.size := by have := hbx2.size; omega
    have hPL2 := hPL1.below hbx2
    refine hK'.out _ _ trivial (fun hHeld => ?_)
    clear hK' K'
    try simp only [Act.put, List.setIfInBounds_toArray, List.set_cons_zero, List.set_cons_succ]
    refine wpAnyH_ready (rs := [5]) (by kernel_rfl) (by simp) (cons_l rfl (fun K' hK' => ?_) AllReadyH.nil)
    obtain ⟨N, HN⟩ : ∃ g, Hid (g = y2.heap.size) := ⟨_, rfl⟩
    refine step_lit rfl 82 69 3 _ rfl Try.underlying82 (.slice none 0 0) 1 24 infoB (by decide) (by decide) [.slice (some ⟨B, 0, none⟩) 32 32, .slice (some ⟨gL, 0, none⟩) n cs, .slice (some ⟨g8, 0, none⟩) 8 8] (by kernel_rfl) N HN.out.symm ?_
    intro y3 hN3 hbx3 hsx3
    rw [HN.out] at hbx3
    have hPL3 := hPL2.below hbx3
    have hP83 := hP82.below hbx3
    have hB3 := hB2.below hbx3 (by omega)
    have hR3 := hR2.below hbx3 (by omega)
    have bb3 := bb2.trans (hbx3.mono (by omega : B ≤ _))
    have hsy3 : B + 2 ≤ y3.heap.size := by have := hbx3.size; omega
    have hPK3 : Pt.Ok y3 ⟨some ⟨B, 0, none⟩, 32, k⟩ := ⟨RowV.i (by rw [← HK.out]; exact at_row hB3.lt hB3.at0), by show k.length ≤ 32; omega, by show (32 : Nat) ≤ maxLen; decide, ok, fun b e => by cases e; exact hB3.lt⟩
    refine hK'.out _ _ trivial (fun hHeld => ?_)
    clear hK' K'
    try simp only [Act.put, List.setIfInBounds_toArray, List.set_cons_zero, List.set_cons_succ]
    refine wpAnyH_ready (rs := [6]) (by kernel_rfl) (by simp) (cons_l rfl (fun K' hK' => ?_) AllReadyH.nil)
    rw [if_pos (by rfl)]
    go_simp
    go_at_call 52
    refine (hfr y3 N gL cs 8 (some ⟨g8, 0, none⟩) (fun h => by cases h) hPK3 hPL3 hP83 hN3).out.mono ?_
    rintro r y4 ⟨aF, cF, rfl, hMF4, hbx4⟩
    have hB4 := hB3.below hbx4 (by omega)
    have hR4 := hR3.below hbx4 (by omega)
    have bb4 := bb3.trans (hbx4.mono (by omega : B ≤ _))
    have hsy4 : B + 2 ≤ y4.heap.size := by have := hbx4.size; omega
    refine hK'.out _ _ trivial (fun hHeld => ?_)
    clear hK' K'
    try simp only [Act.put, List.setIfInBounds_toArray, List.set_cons_zero, List.set_cons_succ]
    refine wpAnyH_ready (rs := [7]) (by kernel_rfl) (by simp) (cons_l rfl (fun K' hK' => ?_) AllReadyH.nil)
    rw [if_pos (by rfl)]
    go_simp
    go_at_call 51
    refine (hsum y4 aF cF (mine_pt hMF4 Hm.out hm0 oF).1 (mine_pt hMF4 Hm.out hm0 oF).2).out.mono ?_
    rintro r y5 ⟨rfl, hbx5⟩
    have hB5 := hB4.below hbx5 (by omega)
    have hR5 := hR4.below hbx5 (by omega)
    have bb5 := bb4.trans (hbx5.mono (by omega : B ≤ _))
    have hsy5 : B + 2 ≤ y5.heap.size := by have := hbx5.size; omega
    refine hK'.out _ _ trivial (fun hHeld => ?_)
    clear hK' K'
    try simp only [Act.put, List.setIfInBounds_toArray, List.set_cons_zero, List.set_cons_succ]
    refine wpAnyH_ready (rs := [8]) (by kernel_rfl) (by simp) (cons_l rfl (fun K' hK' => ?_) AllReadyH.nil)
    refine step_storeV (by rfl) 73 _ _ (by rfl) 73 (B + 1) (by rfl) S (by rfl) 32 aggSumT hSl Z hR5 hZl hS1 ?_
    intro y6 hRF hbF hsF
    refine hK'.out _ _ trivial (fun hHeld => ?_)
    clear hK' K'
    try simp only [Act.put, List.setIfInBounds_toArray, List.set_cons_zero, List.set_cons_succ]
    refine take_l (i := 9) (v := ?rv13) rfl (by kernel_rfl) (by kernel_rfl) (by kernel_rfl) (fun _ _ _ h => h) (Or.inl ⟨by rfl, ?rhy13⟩) (by assumption) ?rrest13
    case rhy13 => (intro w hSw; (try dsimp only at hSw); go_simp; (try with_reducible rfl))
    try simp only [Act.put, List.setIfInBounds_toArray, List.set_cons_zero, List.set_cons_succ]
    refine wpAnyH_done (by kernel_rfl) ?_ _
    go_wp2_with fail
    (try simp only [Exit.inBlock, Exit.then]); refine bodyPost_ret (results_cell2 rfl _ _ _ _ rfl S (by rw [hSl]; exact aggSumT) hRF.at0) rfl ?_
    exact ⟨rfl, by first | exact bb5.trans (hbF.mono (by omega)) | (rw [hsz]; exact bb5.trans (hbF.mono (by omega)))⟩
  · rw [if_pos (by rfl)]
    go_simp
    go_at_call 112
    refine (hpl y0).out.mono ?_
    rintro r y1 ⟨rfl, hM8, hbx1⟩
    obtain ⟨g8, Hg8⟩ : ∃ g, Hid (g = y0.heap.size) := ⟨_, rfl⟩
    rw [← Hg8.out] at hM8 ⊢
    have hP81 : Pt.Ok y1 ⟨some ⟨g8, 0, none⟩, 8, o8 e⟩ := ⟨hM8.row, by show (o8 e).length ≤ 8; rw [o8_length]; omega, by show (8 : Nat) ≤ maxLen; decide, o8_octs e, fun b e => by cases e; exact hM8.lt⟩
    have hB1 := hB0.below hbx1 (by omega)
    have hR1 := hR0.below hbx1 (by omega)
    have bb1 := bb0.trans (hbx1.mono (by omega : B ≤ _))
    have hsy1 : B + 2 ≤ y1.heap.size := by have := hbx1.size; omega
    refine hK'.out _ _ trivial (fun hHeld => ?_)
    clear hK' K'
    try simp only [Act.put, List.setIfInBounds_toArray, List.set_cons_zero, List.set_cons_succ]
    refine wpAnyH_ready (rs := [2]) (by kernel_rfl) (by simp) (cons_l rfl (fun K' hK' => ?_) AllReadyH.nil)
    refine step_convS rfl _ rfl s n hns (by omega) (by rfl) ?_
    intro y2 cs hL2 hsx2 hc1 hc2 hbx2
    obtain ⟨gL, HgL⟩ : ∃ g, Hid (g = y1.heap.size) := ⟨_, rfl⟩
    have hgL : gL < y2.heap.size := by rw [HgL.out]; omega
    rw [← HgL.out] at hL2 ⊢
    have hPL2 : Pt.Ok y2 ⟨some ⟨gL, 0, none⟩, cs, numsOf s⟩ := ⟨hL2, by rw [hL.out]; exact hc1, hc2, oL, fun b e => by cases e; exact hgL⟩
    have hB2 := hB1.below hbx2 (by omega)
    have hR2 := hR1.below hbx2 (by omega)
    have bb2 := bb1.trans (hbx2.mono (by omega : B ≤ _))
    have hsy2 : B + 2 ≤ y2.heap.size := by have := hbx2.size; omega
    have hP82 := hP81.below hbx2
    refine hK'.out _ _ trivial (fun hHeld => ?_)
    clear hK' K'
    try simp only [Act.put, List.setIfInBounds_toArray, List.set_cons_zero, List.set_cons_succ]
    refine wpAnyH_ready (rs := [5]) (by kernel_rfl) (by simp) (cons_l rfl (fun K' hK' => ?_) AllReadyH.nil)
    obtain ⟨N, HN⟩ : ∃ g, Hid (g = y2.heap.size) := ⟨_, rfl⟩
    refine step_lit rfl 82 69 3 _ rfl Try.underlying82 (.slice none 0 0) 1 24 infoB (by decide) (by decide) [.slice (some ⟨B, 0, none⟩) 32 32, .slice (some ⟨gL, 0, none⟩) n cs, .slice (some ⟨g8, 0, none⟩) 8 8] (by kernel_rfl) N HN.out.symm ?_
    intro y3 hN3 hbx3 hsx3
    rw [HN.out] at hbx3
    have hPL3 := hPL2.below hbx3
    have hP83 := hP82.below hbx3
    have hB3 := hB2.below hbx3 (by omega)
    have hR3 := hR2.below hbx3 (by omega)
    have bb3 := bb2.trans (hbx3.mono (by omega : B ≤ _))
    have hsy3 : B + 2 ≤ y3.heap.size := by have := hbx3.size; omega
    have hPK3 : Pt.Ok y3 ⟨some ⟨B, 0, none⟩, 32, k⟩ := ⟨RowV.i (by rw [← HK.out]; exact at_row hB3.lt hB3.at0), by show k.length ≤ 32; omega, by show (32 : Nat) ≤ maxLen; decide, ok, fun b e => by cases e; exact hB3.lt⟩
    refine hK'.out _ _ trivial (fun hHeld => ?_)
    clear hK' K'
    try simp only [Act.put, List.setIfInBounds_toArray, List.set_cons_zero, List.set_cons_succ]
    refine wpAnyH_ready (rs := [6]) (by kernel_rfl) (by simp) (cons_l rfl (fun K' hK' => ?_) AllReadyH.nil)
    rw [if_pos (by rfl)]
    go_simp
    go_at_call 52
    refine (hfr y3 N gL cs 8 (some ⟨g8, 0, none⟩) (fun h => by cases h) hPK3 hPL3 hP83 hN3).out.mono ?_
    rintro r y4 ⟨aF, cF, rfl, hMF4, hbx4⟩
    have hB4 := hB3.below hbx4 (by omega)
    have hR4 := hR3.below hbx4 (by omega)
    have bb4 := bb3.trans (hbx4.mono (by omega : B ≤ _))
    have hsy4 : B + 2 ≤ y4.heap.size := by have := hbx4.size; omega
    refine hK'.out _ _ trivial (fun hHeld => ?_)
    clear hK' K'
    try simp only [Act.put, List.setIfInBounds_toArray, List.set_cons_zero, List.set_cons_succ]
    refine wpAnyH_ready (rs := [7]) (by kernel_rfl) (by simp) (cons_l rfl (fun K' hK' => ?_) AllReadyH.nil)
    rw [if_pos (by rfl)]
    go_simp
    go_at_call 51
    refine (hsum y4 aF cF (mine_pt hMF4 Hm.out hm0 oF).1 (mine_pt hMF4 Hm.out hm0 oF).2).out.mono ?_
    rintro r y5 ⟨rfl, hbx5⟩
    have hB5 := hB4.below hbx5 (by omega)
    have hR5 := hR4.below hbx5 (by omega)
    have bb5 := bb4.trans (hbx5.mono (by omega : B ≤ _))
    have hsy5 : B + 2 ≤ y5.heap.size := by have := hbx5.size; omega
    refine hK'.out _ _ trivial (fun hHeld => ?_)
    clear hK' K'
    try simp only [Act.put, List.setIfInBounds_toArray, List.set_cons_zero, List.set_cons_succ]
    refine wpAnyH_ready (rs := [8]) (by kernel_rfl) (by simp) (cons_l rfl (fun K' hK' => ?_) AllReadyH.nil)
    refine step_storeV (by rfl) 73 _ _ (by rfl) 73 (B + 1) (by rfl) S (by rfl) 32 aggSumT hSl Z hR5 hZl hS1 ?_
    intro y6 hRF hbF hsF
    refine hK'.out _ _ trivial (fun hHeld => ?_)
    clear hK' K'
    try simp only [Act.put, List.setIfInBounds_toArray, List.set_cons_zero, List.set_cons_succ]
    refine take_l (i := 9) (v := ?rv14) rfl (by kernel_rfl) (by kernel_rfl) (by kernel_rfl) (fun _ _ _ h => h) (Or.inl ⟨by rfl, ?rhy14⟩) (by assumption) ?rrest14
    case rhy14 => (intro w hSw; (try dsimp only at hSw); go_simp; (try with_reducible rfl))
    try simp only [Act.put, List.setIfInBounds_toArray, List.set_cons_zero, List.set_cons_succ]
    refine wpAnyH_done (by kernel_rfl) ?_ _
    go_wp2_with fail
    (try simp only [Exit.inBlock, Exit.then]); refine bodyPost_ret (results_cell2 rfl _ _ _ _ rfl S (by rw [hSl]; exact aggSumT) hRF.at0) rfl ?_
    exact ⟨rfl, by first | exact bb5.trans (hbF.mono (by omega)) | (rw [hsz]; exact bb5.trans (hbF.mono (by omega)))⟩
theorem Commit_any (k : List Int) (hk : k.length = 32) (ok : Octs k) (s : ByteArray) (hs : s.size ≤ maxLen) (e : Int) (w : World) : Calls Try.prog 73 #[.agg (k.map (Value.int .u8)).toArray, .string s, .int .i64 e] w fun r w' => r = .returned (commitV k s e) ∧ Below w.heap.size w w' := by
  cases hn : isName s
  · exact Commit_name k hk s hs e w hn
  · cases he : inB e 0 4294967295
    · exact Commit_epoch k hk s hs e w hn he
    · exact Commit_ok k hk ok s hs e w hn he
theorem RefCommit_any (k : List Int) (hk : k.length = 32) (ok : Octs k) (s : ByteArray) (hs : s.size ≤ maxLen) (e : Int) (w : World) : Calls Try.prog 74 #[.agg (k.map (Value.int .u8)).toArray, .string s, .int .i64 e] w fun r w' => r = .returned (commitV k s e) ∧ Below w.heap.size w w' := by
  cases hn : isName s
  · exact RefCommit_name k hk s hs e w hn
  · cases he : inB e 0 4294967295
    · exact RefCommit_epoch k hk s hs e w hn he
    · exact RefCommit_ok k hk ok s hs e w hn he
end Go.Proofs.Ytbljihhelladbaa.wr
