/-
  Contracts of share.Combine and Agree. Conditions: shares of the type's form.
-/
import Derived.Test.YtbljihhelladbaaFShN
namespace Go.Proofs.Ytbljihhelladbaa.shr
set_option linter.unusedVariables false
open Go.RowKit Go.Proofs.Ytbljihhelladbaa.sh Go.Proofs.Ytbljihhelladbaa.Fld
set_option linter.unusedSimpArgs false
set_option pp.maxSteps 6000
/-- what good shares are -/
theorem sharesE_ok {need : Int} {l : List Sh} (h : sharesE false need l = 0) : ∃ m : Nat, need = (m : Int) ∧ 1 ≤ m ∧ m ≤ l.length ∧ l.length ≤ 32 ∧ eachE l = 0 := by
  unfold sharesE at h
  split at h
  · cases h
  · rename_i h1
    split at h
    · cases h
    · rename_i h2
      split at h
      · cases h
      · rename_i h3
        simp only [inB, Bool.not_eq_false, Bool.and_eq_true, decide_eq_true_eq] at h1
        simp only [Bool.not_false, Bool.true_and, decide_eq_true_eq] at h2
        exact ⟨need.toNat, by omega, by omega, by omega, by omega, h⟩
theorem RowS.drop {w : World} {b off : Nat} {l : List Sh} (h : RowS w (some ⟨b, off, none⟩) l) (n : Nat) (hn : n < l.length) : RowS w (some ⟨b, off + n * 49, none⟩) (l.drop n) := by
  obtain ⟨b', off', e, h2, h3⟩ := h.at hn
  obtain ⟨rfl, rfl⟩ : b = b' ∧ off = off' := by simpa using e
  refine Or.inr ⟨b, off + n * 49, rfl, h2, fun i hi => ?_⟩
  rw [List.length_drop] at hi
  have := h3 (n + i) (by omega)
  have e2 : (l.drop n).getD i nil = l.getD (n + i) nil := by simp [List.getD_eq_getElem?_getD]
  rw [e2, show off + n * 49 + i * 49 = off + (n + i) * 49 by omega]
  exact this
def combineK (need : Int) (l : List Sh) : List Int := if sharesE false need l = 0 then secretOf (l.take need.toNat) else List.replicate 32 0
def combineE (need : Int) (l : List Sh) : Int := if sharesE false need l = 0 then secretE (l.take need.toNat) else sharesE false need l
def agreeR (need : Int) (l : List Sh) : Bool := if sharesE false need l = 0 then agreeB l need.toNat else false
theorem secretOf_length (l : List Sh) : (secretOf l).length = 32 := by
  unfold secretOf
  split
  · simp
  · simp [secretTo]
set_option maxRecDepth 100000 in
theorem Combine_any (need : Int) (ao : Option Addr) (cap : Nat) (l : List Sh) (w : World) (hr : RowS w ao l) (hok : ∀ s ∈ l, s.Ok) (hn : l.length ≤ 9223372036854775807) (hcap : l.length ≤ cap) (hmax : cap ≤ maxLen) :
    Calls Try.prog 31 #[.int .i64 need, .slice ao l.length cap] w fun e w' => e = .returned (.tuple #[.agg ((combineK need l).map (Value.int .u8)).toArray, .int .i64 (combineE need l)]) ∧ Below w.heap.size w w' := by
  have HOK := hid hok
  clear hok
  obtain ⟨Z, HZ⟩ : ∃ Z, Hid (Z = zero32) := ⟨_, rfl⟩
  have HZ0 := hid zeroKey
  rw [← HZ.out] at HZ0
  have HZL : Hid (Z.length = 32) := by rw [HZ.out]; rfl
  have HBU : Hid ((Try.prog.built 23 []) = some Z.toArray) := by rw [HZ.out]; exact (by kernel_rfl : (Try.prog.built 23 []) = some zero32.toArray)
  obtain ⟨E, HE⟩ : ∃ E, Hid (E = sharesE false need l) := ⟨_, rfl⟩
  have hA0 : BlkV 23 (w.alloc (.cells Z.toArray 23)) w.heap.size Z := BlkV.new _ _ Z rfl
  have hbA : Below w.heap.size w (w.alloc (.cells Z.toArray 23)) := (Below.refl _ _).alloc (Nat.le_refl _) _
  have hrA := hr.below hbA
  have HC := hid (CheckShares_any need ao cap l _ hrA HOK.out hn)
  rw [← HE.out] at HC
  by_cases h : E = 0
  · obtain ⟨m, rfl, hm1, hml, hl32, hea⟩ := sharesE_ok (by rw [← HE.out]; exact h)
    have h' : (E != 0) = false := by simp [h]
    have hg := good_of l HOK.out hea
    have hgt := hg.take m
    have H := hid h
    have HEA := hid hea
    have hmlI : (m : Int) ≤ (l.length : Int) := by omega
    have hm0 : (0 : Int) ≤ (m : Int) := by omega
    have hmcap : m ≤ cap := by omega
    obtain ⟨KL, HKL⟩ : ∃ K, Hid (K = (secretOf (l.take m)).map (Value.int .u8)) := ⟨_, rfl⟩
    have HKN : Hid (KL.length = 32) := by show _ = _; rw [HKL.out, List.length_map, secretOf_length]
    have hK1 : ∀ u ∈ KL, u.oneCell' = true := by rw [HKL.out]; exact ints_one _ _
    have HR : Hid (combineK m l = secretOf (l.take m) ∧ combineE m l = secretE (l.take m)) := by
      unfold combineK combineE
      rw [← HE.out, if_pos H.out, if_pos H.out, Int.toNat_natCast]
      exact ⟨rfl, rfl⟩
    clear h hea
    go_enter Try.func31, Try.ntmps31
    go_wp2_with (first | (refine wl_alloc rfl 23 rfl Z HZ0.out ?_) | (go_at_call 34; refine HC.out.mono ?_; rintro e w1 ⟨rfl, hb1⟩))
    refine (polynomials_any ao cap m (l.take m) w1 (by rw [List.length_take]; omega) ((hrA.below hb1).take m) (fun s hs => HOK.out s (List.mem_of_mem_take hs)) hgt (by rw [List.length_take]; omega)).mono ?_
    rintro e w2 ⟨ps, rfl, hP, hb2⟩
    go_wp2_with fail
    refine (said_any ps (l.take m) w2 hP hgt (by rw [List.length_take]; omega)).mono ?_
    rw [← HKL.out]
    rintro e w3 ⟨rfl, hb3⟩
    have hltA := hA0.lt
    have hb13 : Below (w.alloc (.cells Z.toArray 23)).heap.size (w.alloc (.cells Z.toArray 23)) w3 := (hb1.trans (hb2.mono hb1.size)).trans (hb3.mono (Nat.le_trans hb1.size hb2.size))
    have hA3 := hA0.below hb13 hltA
    go_wp2_with (first | (refine wl_storeV rfl 23 _ _ rfl 23 w.heap.size rfl KL rfl 32 aggKey HKN.out Z hA3 HZL.out hK1 ?_; intro wS hS hbS hsS))
    (try simp only [Exit.inBlock, Exit.then]); refine bodyPost_ret (results_cell2 rfl _ _ _ _ rfl KL (by rw [HKN.out]; exact aggKey) hS.at0) rfl ?_
    exact ⟨rv (by rw [HR.out.1, HR.out.2, ← HKL.out]; rfl), (hbA.trans (hb13.mono hbA.size)).trans hbS⟩
  · have h' : (E != 0) = true := by simp [h]
    have H := hid h
    have HR : Hid (combineK need l = List.replicate 32 0 ∧ combineE need l = E) := by
      unfold combineK combineE
      rw [← HE.out, if_neg H.out, if_neg H.out]
      exact ⟨rfl, rfl⟩
    clear h
    go_enter Try.func31, Try.ntmps31
    go_wp2_with (first | (refine wl_alloc rfl 23 rfl Z HZ0.out ?_) | (go_at_call 34; refine HC.out.mono ?_; rintro e w1 ⟨rfl, hb1⟩; have hA1 := hA0.below hb1 hA0.lt) | (refine wl_build0 rfl 23 rfl Z HBU.out ?_) | (refine wl_storeV rfl 23 _ _ rfl 23 w.heap.size rfl Z rfl 32 aggKey HZL.out Z hA1 HZL.out (by rw [HZ.out]; exact ints_one _ _) ?_; intro wS hS hbS hsS))
    (try simp only [Exit.inBlock, Exit.then]); refine bodyPost_ret (results_cell2 rfl _ _ _ _ rfl Z (by rw [HZL.out]; exact aggKey) hS.at0) rfl ?_
    exact ⟨rv (by rw [HR.out.1, HR.out.2, HZ.out]; rfl), (hbA.trans (hb1.mono hbA.size)).trans hbS⟩
set_option maxRecDepth 100000 in
theorem agree1 (ps : List Value) (l : List Sh) (s : Sh) (g : Nat) (w : World) (hG : BlkV 139 w g ps) (hP : PolysAt w l ps) (hg : Good l) (hn : l.length ≤ 64) (hs : s.Ok) (hx : 0 ≤ s.x ∧ s.x ≤ 256) :
    Calls Try.prog 101 #[.agg s.cs.toArray, .pointer (some ⟨g, 0, none⟩)] w fun e w' => e = .returned (.bool (!liesB l s)) ∧ Below w.heap.size w w' := by
  have hPL := hid hP.len
  have HSL : Hid (s.cs.length = 49) := hs.csl
  have hS0 : BlkV 61 (w.alloc (.cells s.cs.toArray 61)) w.heap.size s.cs := BlkV.new _ _ _ (by simp)
  have hb0 : Below w.heap.size w (w.alloc (.cells s.cs.toArray 61)) := (Below.refl _ _).alloc (Nat.le_refl _) _
  have hG0 := hG.alloc (.cells s.cs.toArray 61)
  have hP0 := hP.below hb0
  have HL := hid (lies_any ps l s _ hP0 hg hn hs hx)
  generalize s.cs = S at *
  go_enter Try.func101, Try.ntmps101
  go_wp2_with (first | (refine wl_loadG (by rfl) 139 _ rfl ⟨g, 0, none⟩ rfl 32 ps hPL.out aggP hG0.at0 ?_) | (refine wl_loadG (by rfl) 61 _ rfl ⟨w.heap.size, 0, none⟩ rfl 49 S HSL.out aggS hS0.at0 ?_) | (go_at_call 102; refine HL.out.mono ?_; rintro e w1 ⟨rfl, hb1⟩))
  go_ret
  exact ⟨rfl, hb0.trans (hb1.mono hb0.size)⟩
set_option maxRecDepth 100000 in
theorem idxAgr (caps : Array Value) (p : Sh → Bool) (ao : Option Addr) (cap n : Nat) (l : List Sh) (w : World) (hl : n = l.length) (hr : RowS w ao l) (hn : l.length ≤ 4611686018427387904) (hok : ∀ s ∈ l, s.Ok)
    (hf : ∀ i, i < l.length → ∀ w', Below w.heap.size w w' → Calls Try.prog 101 (#[.agg (l.getD i nil).cs.toArray] ++ caps) w' fun e w'' => e = .returned (.bool (p (l.getD i nil))) ∧ Below w'.heap.size w' w'') :
    Calls Try.prog 119 #[.slice ao n cap, .func (.func 101) #[] caps] w fun e w' => e = .returned (.int .i64 (slInt.findI p l 0)) ∧ Below w.heap.size w w' := by
  subst hl
  have HOK := hid hok
  clear hok
  go_enter Try.func119, Try.ntmps119
  go_wp2
  go_loopw [5, 8] (fun _ i wr => ∃ k : Nat, k ≤ l.length ∧ i = .int .i64 k ∧ Hid (slInt.findI p (l.drop k) k = slInt.findI p l 0) ∧ Below w.heap.size w wr) (fun _ i _ => l.length - (intOf i).toNat)
  case atStart => exact ⟨0, Nat.zero_le _, rfl, rfl, Below.refl _ _⟩
  case round =>
    obtain ⟨k, hk, rfl, HA, hbl⟩ := hrel
    by_cases h0 : k < l.length
    · obtain ⟨b, off, s, rfl, hb, HS, hat0⟩ := hr.elem (i := k) h0
      have hs : s.Ok := by rw [HS.out, getD_lt' l nil h0]; exact HOK.out _ (List.getElem_mem h0)
      have hat := At.belowB hat0 hbl hb
      have HCL := hid hs.csl
      have HD := slInt.findI_drop p l nil k h0
      rw [← HS.out, HA.out] at HD
      replace HD := hid HD
      have HF := hf k h0 _ hbl
      rw [← HS.out] at HF
      replace HF := hid HF
      clear hf hat0
      cases hc : p s
      · have HN := hid hc
        rw [hc] at HF
        clear hc
        go_wp2_with (first | (refine wl_loadG (by rfl) 61 _ rfl ⟨b, off + k * 49, none⟩ rfl 49 s.cs HCL.out aggS hat ?_) | (go_at_call 101; refine HF.out.mono ?_; rintro e w1 ⟨rfl, hb1⟩))
        go_roundw
        case rel => exact ⟨k + 1, by omega, by go_num, by show _ = _; rw [HD.out, if_neg (by rw [HN.out]; simp)], hbl.trans (hb1.mono hbl.size)⟩
        case measure => simp [intOf] <;> omega
      · have HN := hid hc
        rw [hc] at HF
        clear hc
        go_wp2_with (first | (refine wl_loadG (by rfl) 61 _ rfl ⟨b, off + k * 49, none⟩ rfl 49 s.cs HCL.out aggS hat ?_) | (go_at_call 101; refine HF.out.mono ?_; rintro e w1 ⟨rfl, hb1⟩))
        go_ret
        exact ⟨rv (ri (by rw [HD.out, if_pos HN.out])), hbl.trans (hb1.mono hbl.size)⟩
    · go_wp2
      go_ret
      exact ⟨rv (ri (by rw [← HA.out, List.drop_eq_nil_of_le (by omega)]; rfl)), hbl⟩
set_option maxRecDepth 100000 in
theorem conAgr (caps : Array Value) (p : Sh → Bool) (ao : Option Addr) (cap n : Nat) (l : List Sh) (w : World) (hl : n = l.length) (hr : RowS w ao l) (hn : l.length ≤ 4611686018427387904) (hok : ∀ s ∈ l, s.Ok)
    (hf : ∀ i, i < l.length → ∀ w', Below w.heap.size w w' → Calls Try.prog 101 (#[.agg (l.getD i nil).cs.toArray] ++ caps) w' fun e w'' => e = .returned (.bool (p (l.getD i nil))) ∧ Below w'.heap.size w' w'') :
    Calls Try.prog 58 #[.slice ao n cap, .func (.func 101) #[] caps] w fun e w' => e = .returned (.bool (l.any p)) ∧ Below w.heap.size w w' := by
  subst hl
  have HF := hid (slInt.findI_any p l 0)
  have HI := hid (idxAgr caps p ao cap l.length l w rfl hr hn hok hf)
  clear hf hok
  go_enter Try.func58, Try.ntmps58
  go_wp2_with (go_at_call 119; refine HI.out.mono ?_; rintro e w1 ⟨rfl, hb1⟩)
  go_ret
  exact ⟨rv (rb HF.out), hb1⟩
theorem getD_mem (l : List Sh) (i : Nat) (hi : i < l.length) : l.getD i nil ∈ l := by rw [getD_lt' l nil hi]; exact List.getElem_mem hi
theorem x_of_each {l : List Sh} (h : eachE l = 0) (s : Sh) (hs : s ∈ l) : 0 ≤ s.x ∧ s.x ≤ 256 := by
  obtain ⟨i, hi, rfl⟩ := List.getElem_of_mem hs
  have := (fault_zero (fault_all l h i hi)).1
  rw [getD_lt' l nil hi] at this
  omega
theorem any_not_all (l : List Sh) (p : Sh → Bool) : (!l.any fun s => !p s) = l.all p := by
  induction l with
  | nil => rfl
  | cons a r ih => rw [List.any_cons, List.all_cons, ← ih]; cases p a <;> simp
set_option maxRecDepth 100000 in
theorem Agree_any (need : Int) (ao : Option Addr) (cap : Nat) (l : List Sh) (w : World) (hr : RowS w ao l) (hok : ∀ s ∈ l, s.Ok) (hn : l.length ≤ 9223372036854775807) (hcap : l.length ≤ cap) (hmax : cap ≤ maxLen) :
    Calls Try.prog 32 #[.int .i64 need, .slice ao l.length cap] w fun e w' => e = .returned (.tuple #[.bool (agreeR need l), .int .i64 (sharesE false need l)]) ∧ Below w.heap.size w w' := by
  have hmf : ∀ (fn : Fn) (first cap : Array Value) (w : World), (Instr.makeFunc fn first cap).run Try.prog w = .ok (.func fn first cap) w := fun _ _ _ _ => rfl
  have HOK := hid hok
  clear hok
  obtain ⟨Z, HZ⟩ : ∃ Z, Hid (Z = noSlices) := ⟨_, rfl⟩
  have HZ0 := hid zeroP
  rw [← HZ.out] at HZ0
  have HZL : Hid (Z.length = 32) := by rw [HZ.out]; rfl
  obtain ⟨E, HE⟩ : ∃ E, Hid (E = sharesE false need l) := ⟨_, rfl⟩
  have HC := hid (CheckShares_any need ao cap l w hr HOK.out hn)
  rw [← HE.out] at HC
  rw [← HE.out]
  by_cases h : E = 0
  · obtain ⟨m, rfl, hm1, hml, hl32, hea⟩ := sharesE_ok (by rw [← HE.out]; exact h)
    have h' : (E != 0) = false := by simp [h]
    have hg := good_of l HOK.out hea
    have hgt := hg.take m
    have H := hid h
    have HEA := hid hea
    have hmlI : (m : Int) ≤ (l.length : Int) := by omega
    have hm0 : (0 : Int) ≤ (m : Int) := by omega
    have hmcap : m ≤ cap := by omega
    have HR : Hid (agreeR m l = agreeB l m) := by
      show _ = _
      unfold agreeR
      rw [← HE.out, if_pos H.out, Int.toNat_natCast]
    clear h hea
    obtain ⟨b, off, rfl, _⟩ := hr.at (i := 0) (by omega)
    go_enter Try.func32, Try.ntmps32
    go_wp2_with (first | (go_at_call 34; refine HC.out.mono ?_; rintro e w1 ⟨rfl, hb1⟩))
    refine (polynomials_any _ cap m (l.take m) w1 (by rw [List.length_take]; omega) ((hr.below hb1).take m) (fun s hs => HOK.out s (List.mem_of_mem_take hs)) hgt (by rw [List.length_take]; omega)).mono ?_
    rintro e w2 ⟨ps, rfl, hP, hb2⟩
    have hPL := hid hP.len
    have hp1 := hP.one
    obtain ⟨N, HN⟩ : ∃ N, Hid (w2.heap.size = N) := ⟨_, rfl⟩
    have hbw1 := hb1
    by_cases hlm : m < l.length
    · have hlm2 : ¬ cap = m := by omega
      go_wp2_with (first | (refine wl_allocV rfl 139 rfl Z HZ0.out N HN.out ?_; intro wA hA hbA hsA) | (refine wl_storeV rfl 139 _ _ rfl 139 N rfl ps rfl 32 aggP hPL.out Z hA HZL.out hp1 ?_; intro wS hS hbS hsS))
      have hbw2 : Below w2.heap.size w2 wS := by rw [HN.out]; exact hbA.trans hbS
      have hPS := hP.below hbw2
      have hbw : Below w.heap.size w wS := (hb1.trans (hb2.mono hb1.size)).trans (hbw2.mono (Nat.le_trans hb1.size hb2.size))
      refine (conAgr #[.pointer (some ⟨N, 0, none⟩)] (fun s => !liesB (l.take m) s) _ _ _ (l.drop m) wS (by rw [List.length_drop]) ((hr.below hbw).drop m hlm) (by rw [List.length_drop]; omega) (fun s hs => HOK.out s (List.mem_of_mem_drop hs)) (fun i hi w' hw' => agree1 ps (l.take m) _ N w' (hS.below hw' hS.lt) (hPS.below hw') hgt (by rw [List.length_take]; omega) (HOK.out _ (List.mem_of_mem_drop (getD_mem _ _ hi))) (x_of_each HEA.out _ (List.mem_of_mem_drop (getD_mem _ _ hi))))).mono ?_
      rintro e w4 ⟨rfl, hb4⟩
      go_wp2
      go_ret2
      exact ⟨rv (rt2 (rb (by rw [HR.out, any_not_all]; rfl)) (ri H.out.symm)), hbw.trans (hb4.mono hbw.size)⟩
    · have HLM : Hid (l.drop m = []) := by show _ = _; exact List.drop_eq_nil_of_le (by omega)
      have HML : Hid (l.length = m) := by show _ = _; omega
      by_cases hcm : cap = m
      · go_wp2_with (first | (refine wl_allocV rfl 139 rfl Z HZ0.out N HN.out ?_; intro wA hA hbA hsA) | (refine wl_storeV rfl 139 _ _ rfl 139 N rfl ps rfl 32 aggP hPL.out Z hA HZL.out hp1 ?_; intro wS hS hbS hsS))
        have hbw2 : Below w2.heap.size w2 wS := by rw [HN.out]; exact hbA.trans hbS
        have hPS := hP.below hbw2
        have hbw : Below w.heap.size w wS := (hb1.trans (hb2.mono hb1.size)).trans (hbw2.mono (Nat.le_trans hb1.size hb2.size))
        refine (conAgr #[.pointer (some ⟨N, 0, none⟩)] (fun s => !liesB (l.take m) s) _ _ _ (l.drop m) wS (by rw [HLM.out]; have := HML.out; simp <;> omega) (Or.inl HLM.out) (by rw [List.length_drop]; omega) (fun s hs => HOK.out s (List.mem_of_mem_drop hs)) (fun i hi w' hw' => agree1 ps (l.take m) _ N w' (hS.below hw' hS.lt) (hPS.below hw') hgt (by rw [List.length_take]; omega) (HOK.out _ (List.mem_of_mem_drop (getD_mem _ _ hi))) (x_of_each HEA.out _ (List.mem_of_mem_drop (getD_mem _ _ hi))))).mono ?_
        rintro e w4 ⟨rfl, hb4⟩
        go_wp2
        go_ret2
        exact ⟨rv (rt2 (rb (by rw [HR.out, any_not_all]; rfl)) (ri H.out.symm)), hbw.trans (hb4.mono hbw.size)⟩
      · go_wp2_with (first | (refine wl_allocV rfl 139 rfl Z HZ0.out N HN.out ?_; intro wA hA hbA hsA) | (refine wl_storeV rfl 139 _ _ rfl 139 N rfl ps rfl 32 aggP hPL.out Z hA HZL.out hp1 ?_; intro wS hS hbS hsS))
        have hbw2 : Below w2.heap.size w2 wS := by rw [HN.out]; exact hbA.trans hbS
        have hPS := hP.below hbw2
        have hbw : Below w.heap.size w wS := (hb1.trans (hb2.mono hb1.size)).trans (hbw2.mono (Nat.le_trans hb1.size hb2.size))
        refine (conAgr #[.pointer (some ⟨N, 0, none⟩)] (fun s => !liesB (l.take m) s) _ _ _ (l.drop m) wS (by rw [HLM.out]; have := HML.out; simp <;> omega) (Or.inl HLM.out) (by rw [List.length_drop]; omega) (fun s hs => HOK.out s (List.mem_of_mem_drop hs)) (fun i hi w' hw' => agree1 ps (l.take m) _ N w' (hS.below hw' hS.lt) (hPS.below hw') hgt (by rw [List.length_take]; omega) (HOK.out _ (List.mem_of_mem_drop (getD_mem _ _ hi))) (x_of_each HEA.out _ (List.mem_of_mem_drop (getD_mem _ _ hi))))).mono ?_
        rintro e w4 ⟨rfl, hb4⟩
        go_wp2
        go_ret2
        exact ⟨rv (rt2 (rb (by rw [HR.out, any_not_all]; rfl)) (ri H.out.symm)), hbw.trans (hb4.mono hbw.size)⟩
  · have h' : (E != 0) = true := by simp [h]
    have H := hid h
    have HR : Hid (agreeR need l = false) := by
      show _ = _
      unfold agreeR
      rw [← HE.out, if_neg H.out]
    clear h
    go_enter Try.func32, Try.ntmps32
    go_wp2_with (first | (go_at_call 34; refine HC.out.mono ?_; rintro e w1 ⟨rfl, hb1⟩))
    go_ret2
    exact ⟨rv (rt2 (rb HR.out.symm) rfl), hb1⟩
end Go.Proofs.Ytbljihhelladbaa.shr
