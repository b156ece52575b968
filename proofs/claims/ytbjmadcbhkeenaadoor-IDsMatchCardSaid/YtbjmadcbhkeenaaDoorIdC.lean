/-
  IDsMatch: keylaw2.idOf: an ID of a word by strings.Trim. Conditions: a word that lies in memory.
-/
import Derived.Test.YtbjmadcbhkeenaaDoorIdB
import Derived.ProofKit
namespace Go.Proofs.YtbjmadcbhkeenaaDoor.idm
open Go.RowKit Go.Lib
set_option linter.unusedSimpArgs false
set_option linter.unusedVariables false
set_option pp.maxSteps 6000

theorem loop_eq (bs : ByteArray) : ∀ (m i : Nat) (r : List UInt8), bs.size - i = m → ByteArray.toList.loop bs i r = r.reverse ++ bs.data.toList.drop i := by
  intro m
  induction m with
  | zero =>
    intro i r h
    rw [ByteArray.toList.loop, if_neg (by omega), List.drop_of_length_le (by show bs.data.size ≤ i; have : bs.size = bs.data.size := rfl; omega), List.append_nil]
  | succ m ih =>
    intro i r h
    have hi : i < bs.data.toList.length := by show i < bs.data.size; have : bs.size = bs.data.size := rfl; omega
    rw [ByteArray.toList.loop, if_pos (by omega), ih (i + 1) _ (by omega), List.drop_eq_getElem_cons hi]
    have e : bs.get! i = bs.data.toList[i] := by
      show bs.data[i]! = _
      rw [getElem!_pos bs.data i hi]; rfl
    rw [e]; simp
theorem toList_eq (bs : ByteArray) : bs.toList = bs.data.toList := by
  show ByteArray.toList.loop bs 0 [] = _
  rw [loop_eq bs _ 0 [] rfl]; rfl
theorem str_ne {a b : ByteArray} (h : ¬ a = b) : (a.toList == b.toList) = false := by
  rw [toList_eq, toList_eq, beq_eq_false_iff_ne]
  intro e
  exact h (Go.WideShapes.bytes_inj e)
theorem str_some {s : ByteArray} (h : ¬ s = ⟨#[]⟩) : s.toList.isEmpty = false := by
  rw [toList_eq, List.isEmpty_eq_false_iff]
  intro e
  exact h (Go.WideShapes.bytes_inj (by rw [e]))
theorem not_res (s : ByteArray) (h : okS s = false) : zid.toArray = (resV s).toArray ∧ (6 : Int) = resE s := by
  have h2 : fine s = false := by unfold fine; rw [h]; rfl
  unfold resV resE
  rw [h2]
  exact ⟨rfl, rfl⟩

set_option maxRecDepth 100000 in
theorem idOf_any (s : ByteArray) (w : World) (hs : s.size ≤ 9223372036854775807) : Calls Tryd.prog 5 #[.string s] w fun e w' => e = .returned (.tuple #[.agg (resV s).toArray, .int .i64 (resE s)]) ∧ Below w.heap.size w w' := by
  obtain ⟨B, HB⟩ : ∃ B, Hid (B = w.heap.size) := ⟨_, rfl⟩
  have hsz : w.heap.size = B := HB.out.symm
  obtain ⟨Z, HZ⟩ : ∃ Z, Hid (Z = zid) := ⟨_, rfl⟩
  have HZ0 := hid zeroID
  rw [← HZ.out] at HZ0
  have hZl : Z.length = 16 := by rw [HZ.out]; exact zid_len
  have hZ1 : ∀ u ∈ Z, u.oneCell' = true := by rw [HZ.out]; exact zid_one
  by_cases h1 : s.size = 0
  · have HF : Hid (zid.toArray = (resV s).toArray ∧ (6 : Int) = resE s) := hid (size_res s (by omega))
    obtain ⟨d⟩ := s
    obtain rfl : d = #[] := Array.eq_empty_of_size_eq_zero h1
    clear h1
    go_enter Tryd.func5, Tryd.ntmps5
    go_wp2_with (first | (refine wl_storeV rfl 23 _ _ rfl 23 B rfl Z rfl 16 aggID hZl Z hR1 hZl hZ1 ?_; intro w3 hR3 hb3 hs3; have bb3 := bb1.trans hb3) | (refine wl_load rfl 23 _ rfl ⟨B + 1, 0, none⟩ rfl Z (by rw [hZl]; exact aggID) aI1 ?_; clear aI1) | (refine wl_allocV rfl 23 rfl Z HZ0.out (B + 1) hs0 ?_; intro w1 hI1 hb1 hs1; have hR1 := hR0.below hb1 (by omega); have bb1 := hb0.trans (hb1.mono (by omega : B ≤ _)); have aI1 := hI1.at0) | (refine wl_allocV rfl 23 rfl Z HZ0.out B hsz ?_; intro w0 hR0 hb0 hs0))
    (try simp only [Exit.inBlock, Exit.then]); refine bodyPost_ret (results_cell2 rfl _ _ _ _ rfl Z (by rw [hZl]; exact aggID) hR3.at0) rfl ?_
    exact ⟨rv (rt2 (congrArg Value.agg (by rw [HZ.out]; exact HF.out.1)) (congrArg (Value.int .i64) HF.out.2)), by first | exact bb3 | (rw [hsz]; exact bb3)⟩
  · have hne : s.toList.isEmpty = false := str_some (fun e => h1 (by rw [e]; rfl))
    by_cases h2 : 16 < s.size
    · have HF : Hid (zid.toArray = (resV s).toArray ∧ (6 : Int) = resE s) := hid (size_res s (by omega))
      have h2I : (16 : Int) < (s.size : Int) := by omega
      have h2D : decide ((16 : Int) < (s.size : Int)) = true := decide_eq_true h2I
      go_enter Tryd.func5, Tryd.ntmps5
      go_wp2_with (first | (refine wl_storeV rfl 23 _ _ rfl 23 B rfl Z rfl 16 aggID hZl Z hR1 hZl hZ1 ?_; intro w3 hR3 hb3 hs3; have bb3 := bb1.trans hb3) | (refine wl_load rfl 23 _ rfl ⟨B + 1, 0, none⟩ rfl Z (by rw [hZl]; exact aggID) aI1 ?_; clear aI1) | (refine wl_allocV rfl 23 rfl Z HZ0.out (B + 1) hs0 ?_; intro w1 hI1 hb1 hs1; have hR1 := hR0.below hb1 (by omega); have bb1 := hb0.trans (hb1.mono (by omega : B ≤ _)); have aI1 := hI1.at0) | (refine wl_allocV rfl 23 rfl Z HZ0.out B hsz ?_; intro w0 hR0 hb0 hs0))
      (try simp only [Exit.inBlock, Exit.then]); refine bodyPost_ret (results_cell2 rfl _ _ _ _ rfl Z (by rw [hZl]; exact aggID) hR3.at0) rfl ?_
      exact ⟨rv (rt2 (congrArg Value.agg (by rw [HZ.out]; exact HF.out.1)) (congrArg (Value.int .i64) HF.out.2)), by first | exact bb3 | (rw [hsz]; exact bb3)⟩
    · have h2I : ¬ (16 : Int) < (s.size : Int) := by omega
      have h2D : decide ((16 : Int) < (s.size : Int)) = false := decide_eq_false h2I
      have hs16 : s.size ≤ 16 := by omega
      have HT := fun w => hid (Trim_any s w hs)
      by_cases h3 : okS s = true
      · have hT := (trim_empty s).2 h3
        simp only [hT] at HT
        obtain ⟨C, HC⟩ : ∃ C, Hid (C = idC s) := ⟨_, rfl⟩
        have hCl : C.length = 16 := by rw [HC.out]; exact idC_len s hs16
        have hC1 : ∀ u ∈ C, u.oneCell' = true := by rw [HC.out]; exact idC_one s
        have HF : Hid ((idC s).toArray = (resV s).toArray ∧ (0 : Int) = resE s) := hid (good_res s h3 (by omega) hs16)
        have hcp := fun (z : World) (hz : BlkV 23 z (B + 1) Z) => hid (copy_id z s (B + 1) hs16 (by rw [← HZ.out]; exact hz))
        rw [← HC.out] at hcp
        have hal : Tryd.prog.arrayLen 23 = 16 := by kernel_rfl
        clear hT h3
        go_enter Tryd.func5, Tryd.ntmps5
        go_wp2_with (first | (refine wl_storeV rfl 23 _ _ rfl 23 B rfl C rfl 16 aggID hCl Z hR4 hZl hC1 ?_; intro w3 hR3 hb3 hs3; have bb3 := bb4.trans hb3) | (refine wl_load rfl 23 _ rfl ⟨B + 1, 0, none⟩ rfl C (by rw [hCl]; exact aggID) aI4 ?_; clear aI4) | (go_at_call 7; refine (HT w1).out.mono ?_; rintro e w2 ⟨rfl, hb2⟩; have hR2 := hR1.below hb2 hR1.lt; have hI2 := hI1.below hb2 hI1.lt; have bb2 := bb1.trans (hb2.mono (by omega : B ≤ _)); obtain ⟨w4, hrun, hI4, hb4, hs4⟩ := (hcp w2 hI2).out; have hR4 := hR2.below hb4 (by omega); have bb4 := bb2.trans (hb4.mono (by omega : B ≤ _)); have aI4 := hI4.at0; clear aI1) | (refine wl_allocV rfl 23 rfl Z HZ0.out (B + 1) hs0 ?_; intro w1 hI1 hb1 hs1; have hR1 := hR0.below hb1 (by omega); have bb1 := hb0.trans (hb1.mono (by omega : B ≤ _)); have aI1 := hI1.at0) | (refine wl_allocV rfl 23 rfl Z HZ0.out B hsz ?_; intro w0 hR0 hb0 hs0))
        (try simp only [Exit.inBlock, Exit.then]); refine bodyPost_ret (results_cell2 rfl _ _ _ _ rfl C (by rw [hCl]; exact aggID) hR3.at0) rfl ?_
        exact ⟨rv (rt2 (congrArg Value.agg (by rw [HC.out]; exact HF.out.1)) (congrArg (Value.int .i64) HF.out.2)), by first | exact bb3 | (rw [hsz]; exact bb3)⟩
      · have hT := fun e => h3 ((trim_empty s).1 e)
        have HF : Hid (zid.toArray = (resV s).toArray ∧ (6 : Int) = resE s) := hid (not_res s (by simpa using h3))
        obtain ⟨T, HTT⟩ : ∃ T : ByteArray, Hid (T = ⟨(trimS s.data.toList setL).toArray⟩) := ⟨_, rfl⟩
        rw [← HTT.out] at hT
        have hTn : T.toList.isEmpty = false := str_some hT
        simp only [← HTT.out] at HT
        clear hT h3
        go_enter Tryd.func5, Tryd.ntmps5
        go_wp2_with (first | (refine wl_storeV rfl 23 _ _ rfl 23 B rfl Z rfl 16 aggID hZl Z hR2 hZl hZ1 ?_; intro w3 hR3 hb3 hs3; have bb3 := bb2.trans hb3) | (refine wl_load rfl 23 _ rfl ⟨B + 1, 0, none⟩ rfl Z (by rw [hZl]; exact aggID) aI2 ?_; clear aI2) | (go_at_call 7; refine (HT w1).out.mono ?_; rintro e w2 ⟨rfl, hb2⟩; have hR2 := hR1.below hb2 hR1.lt; have hI2 := hI1.below hb2 hI1.lt; have bb2 := bb1.trans (hb2.mono (by omega : B ≤ _)); have aI2 := hI2.at0; clear hR1 hI1 bb1 aI1) | (refine wl_allocV rfl 23 rfl Z HZ0.out (B + 1) hs0 ?_; intro w1 hI1 hb1 hs1; have hR1 := hR0.below hb1 (by omega); have bb1 := hb0.trans (hb1.mono (by omega : B ≤ _)); have aI1 := hI1.at0) | (refine wl_allocV rfl 23 rfl Z HZ0.out B hsz ?_; intro w0 hR0 hb0 hs0))
        (try simp only [Exit.inBlock, Exit.then]); refine bodyPost_ret (results_cell2 rfl _ _ _ _ rfl Z (by rw [hZl]; exact aggID) hR3.at0) rfl ?_
        exact ⟨rv (rt2 (congrArg Value.agg (by rw [HZ.out]; exact HF.out.1)) (congrArg (Value.int .i64) HF.out.2)), by first | exact bb3 | (rw [hsz]; exact bb3)⟩
end Go.Proofs.YtbjmadcbhkeenaaDoor.idm
