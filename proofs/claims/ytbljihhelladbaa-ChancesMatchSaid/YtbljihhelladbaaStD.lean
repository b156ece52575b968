/-
  Contracts of keyref1.words and octets. Condition: octets.
-/
import Derived.Test.YtbljihhelladbaaStC
namespace Go.Proofs.Ytbljihhelladbaa.st
open Go.RowKit
set_option pp.maxSteps 4000

theorem o4_at (c : Int) (r : Nat) (h : r < 4) : (o4 c).getD r 0 = c / 2 ^ (24 - 8 * r) % 256 := by
  match r, h with
  | 0, _ => rfl
  | 1, _ => rfl
  | 2, _ => rfl
  | 3, _ => simp [o4]

set_option maxRecDepth 100000 in
set_option maxHeartbeats 1000000 in
theorem octetsR (ws : List Int) (w : World) (hl : ws.length = 16) :
    Calls Try.prog 198 #[.agg (ws.map (Value.int .u32)).toArray] w fun e w' => e = .returned (.agg ((octL ws 64).map (Value.int .u8)).toArray) ∧ Below w.heap.size w w' := by
  have HL := hid hl
  have HZ := hid zero64
  obtain ⟨Z, HZ'⟩ : ∃ Z, Hid (Z = (List.replicate 64 (0 : Int)).map (Value.int .u8)) := ⟨_, rfl⟩
  rw [← HZ'.out] at HZ
  obtain ⟨S, HS⟩ : ∃ S, Hid (S = ws.map (Value.int .u32)) := ⟨_, rfl⟩
  rw [← HS.out]
  have HSL : Hid (S.length = 16) := by show S.length = 16; rw [HS.out, List.length_map, HL.out]
  clear hl
  go_enter Try.func198, Try.ntmps198
  go_wp2_with (first | (refine wl_alloc rfl 152 rfl Z HZ.out ?_))
  go_loopw [5] (fun i wr => ∃ k : Nat, k ≤ 64 ∧ i = .int .i64 k ∧ BlkI .u8 152 wr (w.heap.size + 2) (fillTo (fun i => (o4 (ws.getD (i / 4) 0)).getD (i % 4) 0) 64 k) ∧ BlkV 152 wr (w.heap.size + 1) Z ∧ BlkV 236 wr w.heap.size S ∧ Below w.heap.size w wr) (fun i _ => 64 - (intOf i).toNat)
  case atStart =>
    refine ⟨0, by omega, rfl, ?_, (BlkV.new _ _ Z (by simp)).alloc _, ((BlkV.new _ w S rfl).alloc _).alloc _, (((Below.refl _ _).alloc (Nat.le_refl _) _).alloc (by simp) _).alloc (by simp; omega) _⟩
    rw [fillTo_zero]
    have := BlkV.new 152 ((w.alloc (.cells S.toArray 236)).alloc (.cells Z.toArray 152)) (g := w.heap.size + 2) Z (by simp)
    rw [HZ'.out] at this ⊢
    exact this
  case round =>
    obtain ⟨k, hk, rfl, hW, hR, hS, hb⟩ := hrel
    by_cases h0 : k < 64
    · obtain ⟨q, r, rfl, hr⟩ : ∃ q r : Nat, k = 4 * q + r ∧ r < 4 := ⟨k / 4, k % 4, by omega, by omega⟩
      obtain ⟨c, HC⟩ : ∃ c, Hid (c = ws.getD q 0) := ⟨_, rfl⟩
      have hcell : wr.cell? ⟨w.heap.size, q, none⟩ = some (.int .u32 c) := by rw [hS.cell, HS.out, List.getElem?_map, List.getElem?_eq_getElem (by rw [HL.out]; omega), HC.out, getD_lt' ws 0 (by rw [HL.out]; omega)]; rfl
      have hf := hW.frozen (4 * q + r)
      have hc := hW.cell (i := 4 * q + r) (by rw [fillTo_length _ _ _ (by omega)]; exact h0)
      have hST := hW.set (4 * q + r) ((o4 (ws.getD q 0)).getD r 0)
      rw [o4_at _ _ hr, ← HC.out] at hST
      have hd : ((4 * (q : Int) + (r : Int)).tdiv 4) = q := by rw [Int.tdiv_eq_ediv_of_nonneg (by omega)]; omega
      have hm : ((4 * (q : Int) + (r : Int)).tmod 4) = r := by rw [Int.tmod_eq_emod_of_nonneg (by omega)]; omega
      go_wp2
      go_roundw
      case rel =>
        refine ⟨4 * q + r + 1, by omega, by go_num, ?_, hR.other (by simp) _, hS.other (by simp; omega) _, hb.setCell (by simp; omega) _⟩
        rw [← fillTo_set _ _ _ h0, show (4 * q + r) / 4 = q by omega, show (4 * q + r) % 4 = r by omega, o4_at _ _ hr, ← HC.out]
        exact hST
      case measure => simp [intOf] <;> omega
    · obtain rfl : k = 64 := by omega
      rw [fillTo_all] at hW
      obtain ⟨R, HR⟩ : ∃ R, Hid (R = (octL ws 64).map (Value.int .u8)) := ⟨_, rfl⟩
      have hWv : BlkV 152 wr (w.heap.size + 2) R := by rw [HR.out]; exact BlkI.v hW
      have HRL : Hid (R.length = 64) := by show R.length = 64; rw [HR.out, List.length_map, octL_length]
      have hR1 : ∀ u ∈ R, u.oneCell' = true := by rw [HR.out]; exact ints_one _ _
      have HZL : Hid (Z.length = 64) := by show Z.length = 64; rw [HZ'.out, List.length_map, List.length_replicate]
      clear hW
      go_wp2_with (first | (refine wl_load rfl 152 _ rfl ⟨w.heap.size + 2, 0, none⟩ rfl R (by rw [HRL.out]; exact agg64) hWv.at0 ?_) | (refine wl_storeAll rfl 152 _ _ rfl 152 (w.heap.size + 1) rfl R rfl 64 agg64 HRL.out Z hR HZL.out hR1 ?_; intro hRR))
      (try simp only [Exit.inBlock, Exit.then]); refine bodyPost_ret (results_cell rfl _ _ _ _ rfl R (by rw [HRL.out]; exact agg64) hRR.at0) rfl ?_
      exact ⟨by rw [HR.out], below_setRow' hb (by omega) _⟩

/-- a word, octet by octet -/
def pw (s : List Int) (j : Nat) : Nat → Int
  | 0 => 0
  | c + 1 => bits .or .u32 (pw s j c * 256 % 4294967296) (s.getD (4 * j + c) 0)
def pwL (s : List Int) (k : Nat) : List Int := (List.range 16).map fun (j : Nat) => pw s j (min 4 (k - 4 * j))
theorem pwL_length (s : List Int) (k : Nat) : (pwL s k).length = 16 := by unfold pwL; rw [List.length_map, List.length_range]
theorem pwL_get (s : List Int) (k j : Nat) (h : j < 16) : (pwL s k)[j]? = some (pw s j (min 4 (k - 4 * j))) := by
  unfold pwL; rw [List.getElem?_map, List.getElem?_range h]; rfl
theorem pwL_getD (s : List Int) (q r : Nat) (h : q < 16) (hr : r < 4) : (pwL s (4 * q + r)).getD q 0 = pw s q r := by
  rw [List.getD_eq_getElem?_getD, pwL_get _ _ _ h, show min 4 (4 * q + r - 4 * q) = r by omega]; rfl
theorem pwL_set (s : List Int) (q r : Nat) (h : q < 16) (hr : r < 4) : (pwL s (4 * q + r)).set q (pw s q (r + 1)) = pwL s (4 * q + r + 1) := by
  apply List.ext_getElem?
  intro i
  rw [List.getElem?_set, pwL_length]
  by_cases hi : i < 16
  · rw [pwL_get _ _ _ hi, pwL_get _ _ _ hi]
    by_cases e : q = i
    · subst e; rw [if_pos rfl, if_pos hi, show min 4 (4 * q + r + 1 - 4 * q) = r + 1 by omega]
    · rw [if_neg e]
      by_cases h2 : i < q
      · rw [show min 4 (4 * q + r - 4 * i) = 4 by omega, show min 4 (4 * q + r + 1 - 4 * i) = 4 by omega]
      · rw [show min 4 (4 * q + r - 4 * i) = 0 by omega, show min 4 (4 * q + r + 1 - 4 * i) = 0 by omega]
  · rw [if_neg (by omega), List.getElem?_eq_none (by rw [pwL_length]; omega), List.getElem?_eq_none (by rw [pwL_length]; omega)]
theorem or_step (x b : Int) (hx : 0 ≤ x ∧ x < 16777216) (hb : Oct b) : bits .or .u32 (x * 256 % 4294967296) b = x * 256 + b := by
  unfold Oct at hb
  have e : x * 256 % 4294967296 = x * 2 ^ 8 := by omega
  rw [e, or_sum x b 8 hx.1 (by omega) (by omega) (by omega)]
  omega
theorem pw_four (s : List Int) (hs : Octs s) (j : Nat) : pw s j 4 = w4 (s.getD (4 * j) 0) (s.getD (4 * j + 1) 0) (s.getD (4 * j + 2) 0) (s.getD (4 * j + 3) 0) := by
  have h0 := hs.getD (4 * j)
  have h1 := hs.getD (4 * j + 1)
  have h2 := hs.getD (4 * j + 2)
  have h3 := hs.getD (4 * j + 3)
  have p1 : pw s j 1 = s.getD (4 * j) 0 := by
    show bits .or .u32 (0 * 256 % 4294967296) (s.getD (4 * j + 0) 0) = _
    rw [or_step 0 _ (by omega) (hs.getD _)]; simp
  have p2 : pw s j 2 = s.getD (4 * j) 0 * 256 + s.getD (4 * j + 1) 0 := by
    show bits .or .u32 (pw s j 1 * 256 % 4294967296) _ = _
    rw [p1, or_step _ _ (by unfold Oct at h0; omega) h1]
  have p3 : pw s j 3 = (s.getD (4 * j) 0 * 256 + s.getD (4 * j + 1) 0) * 256 + s.getD (4 * j + 2) 0 := by
    show bits .or .u32 (pw s j 2 * 256 % 4294967296) _ = _
    rw [p2, or_step _ _ (by unfold Oct at h0 h1; omega) h2]
  show bits .or .u32 (pw s j 3 * 256 % 4294967296) _ = _
  rw [p3, or_step _ _ (by unfold Oct at h0 h1 h2; omega) h3]
  unfold w4
  omega
theorem pwL_all (s : List Int) (hs : Octs s) : pwL s 64 = wordsL s 16 := by
  apply List.ext_getElem?
  intro i
  by_cases hi : i < 16
  · rw [pwL_get _ _ _ hi, show min 4 (64 - 4 * i) = 4 by omega, pw_four s hs]
    unfold wordsL
    rw [List.getElem?_map, List.getElem?_range hi]; rfl
  · rw [List.getElem?_eq_none (by rw [pwL_length]; omega), List.getElem?_eq_none (by rw [wordsL_length]; omega)]

set_option maxRecDepth 100000 in
set_option maxHeartbeats 1000000 in
theorem wordsR (s : List Int) (w : World) (hl : s.length = 64) (hs : Octs s) :
    Calls Try.prog 196 #[.agg (s.map (Value.int .u8)).toArray] w fun e w' => e = .returned (.agg ((wordsL s 16).map (Value.int .u32)).toArray) ∧ Below w.heap.size w w' := by
  have HL := hid hl
  have HZ := hid zero16
  obtain ⟨Z, HZ'⟩ : ∃ Z, Hid (Z = (List.replicate 16 (0 : Int)).map (Value.int .u32)) := ⟨_, rfl⟩
  rw [← HZ'.out] at HZ
  obtain ⟨S, HS⟩ : ∃ S, Hid (S = s.map (Value.int .u8)) := ⟨_, rfl⟩
  rw [← HS.out]
  have HSL : Hid (S.length = 64) := by show S.length = 64; rw [HS.out, List.length_map, HL.out]
  clear hl
  go_enter Try.func196, Try.ntmps196
  go_wp2_with (first | (refine wl_alloc rfl 236 rfl Z HZ.out ?_) | (refine wl_load rfl 152 _ rfl ⟨w.heap.size, 0, none⟩ rfl S (by rw [HSL.out]; exact agg64) ((BlkV.new _ w S rfl).alloc _ |>.alloc _).at0 ?_))
  go_loopw [7] (fun i wr => ∃ k : Nat, k ≤ 64 ∧ i = .int .i64 k ∧ BlkI .u32 236 wr (w.heap.size + 2) (pwL s k) ∧ BlkV 236 wr (w.heap.size + 1) Z ∧ Below w.heap.size w wr) (fun i _ => 64 - (intOf i).toNat)
  case atStart =>
    refine ⟨0, by omega, rfl, ?_, (BlkV.new _ _ Z (by simp)).alloc _, (((Below.refl _ _).alloc (Nat.le_refl _) _).alloc (by simp) _).alloc (by simp; omega) _⟩
    have e : pwL s 0 = List.replicate 16 0 := rfl
    rw [e]
    have := BlkV.new 236 ((w.alloc (.cells S.toArray 152)).alloc (.cells Z.toArray 236)) (g := w.heap.size + 2) Z (by simp)
    rw [HZ'.out] at this ⊢
    exact this
  case round =>
    obtain ⟨k, hk, rfl, hW, hR, hb⟩ := hrel
    by_cases h0 : k < 64
    · obtain ⟨q, r, rfl, hr⟩ : ∃ q r : Nat, k = 4 * q + r ∧ r < 4 := ⟨k / 4, k % 4, by omega, by omega⟩
      obtain ⟨c, HC⟩ : ∃ c, Hid (c = s.getD (4 * q + r) 0) := ⟨_, rfl⟩
      obtain ⟨p, HP⟩ : ∃ p, Hid (p = pw s q r) := ⟨_, rfl⟩
      have hSk : S[4 * q + r]? = some (.int .u8 c) := by rw [HS.out, List.getElem?_map, List.getElem?_eq_getElem (by rw [HL.out]; exact h0), HC.out, getD_lt' s 0 (by rw [HL.out]; exact h0)]; rfl
      have hIX := fun w => run_index1 (P := Try.prog) w 152 5 64 Try.underlying152 .u8 Try.underlying5 size5 S (4 * q + r) h0 _ hSk
      rw [show ((4 * q + r : Nat) : Int) = 4 * (q : Int) + (r : Int) by omega] at hIX
      have hc := hW.cell (i := q) (by rw [pwL_length]; omega)
      rw [pwL_getD _ _ _ (by omega) hr, ← HP.out] at hc
      have hf := hW.frozen q
      have hST := hW.set q (pw s q (r + 1))
      have hco : Oct c := by rw [HC.out]; exact hs.getD _
      obtain ⟨hc0, hc1⟩ := hco
      rw [pwL_set _ _ _ (by omega) hr, show pw s q (r + 1) = bits .or .u32 (p * 256 % 4294967296) c by rw [HC.out, HP.out]; rfl] at hST
      have hd : ((4 * (q : Int) + (r : Int)).tdiv 4) = q := by rw [Int.tdiv_eq_ediv_of_nonneg (by omega)]; omega
      go_wp2
      go_roundw
      case rel => exact ⟨4 * q + r + 1, by omega, by go_num, hST, hR.other (by simp) _, hb.setCell (by simp; omega) _⟩
      case measure => simp [intOf] <;> omega
    · obtain rfl : k = 64 := by omega
      rw [pwL_all s hs] at hW
      obtain ⟨R, HR⟩ : ∃ R, Hid (R = (wordsL s 16).map (Value.int .u32)) := ⟨_, rfl⟩
      have hWv : BlkV 236 wr (w.heap.size + 2) R := by rw [HR.out]; exact BlkI.v hW
      have HRL : Hid (R.length = 16) := by show R.length = 16; rw [HR.out, List.length_map, wordsL_length]
      have hR1 : ∀ u ∈ R, u.oneCell' = true := by rw [HR.out]; exact ints_one _ _
      have HZL : Hid (Z.length = 16) := by show Z.length = 16; rw [HZ'.out, List.length_map, List.length_replicate]
      clear hW
      go_wp2_with (first | (refine wl_load rfl 236 _ rfl ⟨w.heap.size + 2, 0, none⟩ rfl R (by rw [HRL.out]; exact agg16) hWv.at0 ?_) | (refine wl_storeAll rfl 236 _ _ rfl 236 (w.heap.size + 1) rfl R rfl 16 agg16 HRL.out Z hR HZL.out hR1 ?_; intro hRR))
      (try simp only [Exit.inBlock, Exit.then]); refine bodyPost_ret (results_cell rfl _ _ _ _ rfl R (by rw [HRL.out]; exact agg16) hRR.at0) rfl ?_
      exact ⟨by rw [HR.out], below_setRow' hb (by omega) _⟩
end Go.Proofs.Ytbljihhelladbaa.st
