/-
  IDsMatch: desk.IDOf: an ID of a word, or the error. Conditions: a word that lies in memory.
-/
import Derived.Test.YtbjmadcbhkeenaaDoorLw
import Derived.Lib.BufferWrite
namespace Go.Proofs.YtbjmadcbhkeenaaDoor.idm
open Go.RowKit Go.Lib
set_option linter.unusedSimpArgs false
set_option linter.unusedVariables false
set_option pp.maxSteps 6000

def okC (c : UInt8) : Bool := (decide (97 ≤ c.toNat) && decide (c.toNat ≤ 122)) || (decide (48 ≤ c.toNat) && decide (c.toNat ≤ 57))
def okS (s : ByteArray) : Bool := s.data.toList.all okC
def zid : List Value := List.replicate 16 (.int .u8 0)
def idC (s : ByteArray) : List Value := byteCells s.data.toList ++ List.replicate (16 - s.size) (.int .u8 0)
def fine (s : ByteArray) : Bool := okS s && (decide (1 ≤ s.size) && decide (s.size ≤ 16))
def resV (s : ByteArray) : List Value := if fine s then idC s else zid
def resE (s : ByteArray) : Int := if fine s then 0 else 6
theorem zid_len : zid.length = 16 := by decide
theorem idC_len (s : ByteArray) (h : s.size ≤ 16) : (idC s).length = 16 := by
  unfold idC
  rw [List.length_append, byteCells_length, List.length_replicate, ← size_eq]
  omega
theorem zeroID : (Tryd.prog.info? 23).map (·.zero) = some (some (.agg zid.toArray)) := by kernel_rfl
theorem zid_one : ∀ u ∈ zid, u.oneCell' = true := by intro u hu; rw [List.eq_of_mem_replicate hu]; rfl
theorem aggID : Agg Tryd.prog 23 16 := Agg.arr Tryd.underlying23 (by kernel_rfl)

theorem wl_b0 {P : Program} {w : World} {ops : Array Oper} {rest : List Oper} {o : Oper} {a : Act} {Q : Exit → Act → World → Prop} (hgd : o.guard = none) (t : TypeId) (ho : o.op = .build t #[])
    (cs : List Value) (hb : P.built t [] = some cs.toArray) (h : wpList P ops Q rest (a.put o.dst (.agg cs.toArray)) w) : wpList P ops Q (o :: rest) a w :=
  wl_build hgd t #[] ho cs (by simpa using hb) h
theorem size_res (s : ByteArray) (h : s.size = 0 ∨ 16 < s.size) : zid.toArray = (resV s).toArray ∧ (6 : Int) = resE s := by
  have h2 : fine s = false := by
    unfold fine
    have : (decide (1 ≤ s.size) && decide (s.size ≤ 16)) = false := by simp; omega
    rw [this, Bool.and_false]
  unfold resV resE
  rw [h2]
  exact ⟨rfl, rfl⟩
theorem good_res (s : ByteArray) (h : okS s = true) (h1 : 1 ≤ s.size) (h2 : s.size ≤ 16) : (idC s).toArray = (resV s).toArray ∧ (0 : Int) = resE s := by
  have h2 : fine s = true := by unfold fine; rw [h]; simp [h1, h2]
  unfold resV resE
  rw [h2]
  exact ⟨rfl, rfl⟩
theorem idC_one (s : ByteArray) : ∀ u ∈ idC s, u.oneCell' = true := by
  intro u hu
  rcases List.mem_append.1 hu with hu | hu
  · exact byteCells_one _ u hu
  · rw [List.eq_of_mem_replicate hu]; rfl
/-- a word copied into an ID of zeros -/
theorem copy_id (w : World) (s : ByteArray) (g : Nat) (h : s.size ≤ 16) (hg : BlkV 23 w g zid) :
    ∃ w', (Builtin.copy_ #[29, 9] 3 #[.slice (some ⟨g, 0, none⟩) 16 16, .string s]).run Tryd.prog w = .ok (goInt s.size) w' ∧ BlkV 23 w' g (idC s) ∧ Below g w w' ∧ w'.heap.size = w.heap.size := by
  refine ⟨_, run_copy_row_string (P := Tryd.prog) w 29 9 3 5 g 0 16 16 s zid.toArray 23 Tryd.underlying29 (by kernel_rfl) hg h (by simp [zid]; omega), ?_, below_setRow' (Below.refl _ _) (Nat.le_refl _) _, by simp⟩
  have e : zid.take 0 ++ byteCells s.data.toList ++ zid.drop (0 + s.size) = idC s := by
    unfold idC zid
    rw [List.take_zero, List.nil_append, Nat.zero_add, List.drop_replicate]
  have := hg.setRow (zid.take 0 ++ byteCells s.data.toList ++ zid.drop (0 + s.size))
  rw [e] at this
  have e2 : (zid.toArray.toList.take 0 ++ byteCells s.data.toList ++ zid.toArray.toList.drop (0 + s.size)).toArray = (idC s).toArray := by rw [← e]
  rw [e2]
  exact this
theorem bad_res (s : ByteArray) (k : Nat) (hk : k < s.data.toList.length) (h : okC s.data.toList[k] = false) : zid.toArray = (resV s).toArray ∧ (6 : Int) = resE s := by
  have h1 : okS s = false := by
    unfold okS
    rw [List.all_eq_false]
    exact ⟨_, List.getElem_mem hk, by rw [h]; decide⟩
  have h2 : fine s = false := by unfold fine; rw [h1]; rfl
  unfold resV resE
  rw [h2]
  exact ⟨rfl, rfl⟩

set_option maxRecDepth 100000 in
theorem IDOf_any (s : ByteArray) (w : World) (hs : s.size ≤ 9223372036854775807) : Calls Tryd.prog 4 #[.string s] w fun e w' => e = .returned (.tuple #[.agg (resV s).toArray, .int .i64 (resE s)]) ∧ Below w.heap.size w w' := by
  obtain ⟨B, HB⟩ : ∃ B, Hid (B = w.heap.size) := ⟨_, rfl⟩
  have hsz : w.heap.size = B := HB.out.symm
  obtain ⟨Z, HZ⟩ : ∃ Z, Hid (Z = zid) := ⟨_, rfl⟩
  have HZ0 := hid zeroID
  rw [← HZ.out] at HZ0
  have hZl : Z.length = 16 := by rw [HZ.out]; exact zid_len
  have hZ1 : ∀ u ∈ Z, u.oneCell' = true := by rw [HZ.out]; exact zid_one
  have HBU : Hid ((Tryd.prog.built 23 []) = some Z.toArray) := hid (by rw [HZ.out]; kernel_rfl)
  go_enter Tryd.func4, Tryd.ntmps4
  go_wp2_with (refine wl_allocV rfl 23 rfl Z HZ0.out B hsz ?_; intro w0 hR0 hb0 hs0)
  go_loopw [4] (fun i wr => ∃ k : Nat, k ≤ s.size ∧ i = .int .i64 k ∧ Hid ((s.data.toList.take k).all okC = true) ∧ BlkV 23 wr B Z ∧ Below B w wr ∧ wr.heap.size = B + 1) (fun i _ => s.size - (intOf i).toNat)
  case atStart => exact ⟨0, Nat.zero_le _, rfl, rfl, hR0, hb0, hs0⟩
  case round =>
    clear hR0 hb0 hs0
    obtain ⟨k, hk, rfl, HK, hR, hbl, hsr⟩ := hrel
    by_cases h0 : k < s.size
    · have hkI : (k : Int) < (s.size : Int) := by omega
      have hkI0 : (0 : Int) ≤ (k : Int) := by omega
      have hkl : k < s.data.toList.length := by rw [← size_eq]; exact h0
      obtain ⟨c, hc⟩ : ∃ c : Int, ((s[k]'h0).toNat : Int) = c := ⟨_, rfl⟩
      have hel : s.data.toList[k] = s[k]'h0 := rfl
      have hcn : (s[k]'h0).toNat = c.toNat := by omega
      have hc0 : 0 ≤ c := by omega
      rcases (show c < 48 ∨ (48 ≤ c ∧ c ≤ 57) ∨ (57 < c ∧ c < 97) ∨ (97 ≤ c ∧ c ≤ 122) ∨ 122 < c by omega) with hq | hq | hq | hq | hq
      · have d97_c : decide (97 ≤ c) = false := decide_eq_false (by omega)
        have dc_122 : decide (c ≤ 122) = true := decide_eq_true (by omega)
        have d48_c : decide (48 ≤ c) = false := decide_eq_false (by omega)
        have dc_57 : decide (c ≤ 57) = true := decide_eq_true (by omega)
        have HF : Hid (zid.toArray = (resV s).toArray ∧ (6 : Int) = resE s) := hid (bad_res s k hkl (by rw [hel]; unfold okC; simp; omega))
        clear hcn hel
        go_wp2_with (first | (refine wl_b0 rfl 23 rfl Z HBU.out ?_) | (refine wl_storeV rfl 23 _ _ rfl 23 B rfl Z rfl 16 aggID hZl Z hR hZl hZ1 ?_; intro w3 hR3 hb3 hs3))
        (try simp only [Exit.inBlock, Exit.then]); refine bodyPost_ret (results_cell2 rfl _ _ _ _ rfl Z (by rw [hZl]; exact aggID) hR3.at0) rfl ?_
        exact ⟨rv (rt2 (congrArg Value.agg (by rw [HZ.out]; exact HF.out.1)) (congrArg (Value.int .i64) HF.out.2)), by rw [hsz]; exact hbl.trans hb3⟩
      · have d97_c : decide (97 ≤ c) = false := decide_eq_false (by omega)
        have dc_122 : decide (c ≤ 122) = true := decide_eq_true (by omega)
        have d48_c : decide (48 ≤ c) = true := decide_eq_true (by omega)
        have dc_57 : decide (c ≤ 57) = true := decide_eq_true (by omega)
        have HF : Hid ((s.data.toList.take (k + 1)).all okC = true) := hid (by rw [List.take_add_one, List.getElem?_eq_getElem hkl]; simp only [Option.toList, List.all_append, HK.out, List.all_cons, List.all_nil, Bool.and_true, Bool.true_and]; rw [hel]; unfold okC; simp; omega)
        clear hcn hel
        go_wp2
        go_roundw
        case rel => exact ⟨k + 1, by omega, by go_num, HF.out, hR, hbl, hsr⟩
        case measure => simp [intOf] <;> omega
      · have d97_c : decide (97 ≤ c) = false := decide_eq_false (by omega)
        have dc_122 : decide (c ≤ 122) = true := decide_eq_true (by omega)
        have d48_c : decide (48 ≤ c) = true := decide_eq_true (by omega)
        have dc_57 : decide (c ≤ 57) = false := decide_eq_false (by omega)
        have HF : Hid (zid.toArray = (resV s).toArray ∧ (6 : Int) = resE s) := hid (bad_res s k hkl (by rw [hel]; unfold okC; simp; omega))
        clear hcn hel
        go_wp2_with (first | (refine wl_b0 rfl 23 rfl Z HBU.out ?_) | (refine wl_storeV rfl 23 _ _ rfl 23 B rfl Z rfl 16 aggID hZl Z hR hZl hZ1 ?_; intro w3 hR3 hb3 hs3))
        (try simp only [Exit.inBlock, Exit.then]); refine bodyPost_ret (results_cell2 rfl _ _ _ _ rfl Z (by rw [hZl]; exact aggID) hR3.at0) rfl ?_
        exact ⟨rv (rt2 (congrArg Value.agg (by rw [HZ.out]; exact HF.out.1)) (congrArg (Value.int .i64) HF.out.2)), by rw [hsz]; exact hbl.trans hb3⟩
      · have d97_c : decide (97 ≤ c) = true := decide_eq_true (by omega)
        have dc_122 : decide (c ≤ 122) = true := decide_eq_true (by omega)
        have d48_c : decide (48 ≤ c) = true := decide_eq_true (by omega)
        have dc_57 : decide (c ≤ 57) = false := decide_eq_false (by omega)
        have HF : Hid ((s.data.toList.take (k + 1)).all okC = true) := hid (by rw [List.take_add_one, List.getElem?_eq_getElem hkl]; simp only [Option.toList, List.all_append, HK.out, List.all_cons, List.all_nil, Bool.and_true, Bool.true_and]; rw [hel]; unfold okC; simp; omega)
        clear hcn hel
        go_wp2
        go_roundw
        case rel => exact ⟨k + 1, by omega, by go_num, HF.out, hR, hbl, hsr⟩
        case measure => simp [intOf] <;> omega
      · have d97_c : decide (97 ≤ c) = true := decide_eq_true (by omega)
        have dc_122 : decide (c ≤ 122) = false := decide_eq_false (by omega)
        have d48_c : decide (48 ≤ c) = true := decide_eq_true (by omega)
        have dc_57 : decide (c ≤ 57) = false := decide_eq_false (by omega)
        have HF : Hid (zid.toArray = (resV s).toArray ∧ (6 : Int) = resE s) := hid (bad_res s k hkl (by rw [hel]; unfold okC; simp; omega))
        clear hcn hel
        go_wp2_with (first | (refine wl_b0 rfl 23 rfl Z HBU.out ?_) | (refine wl_storeV rfl 23 _ _ rfl 23 B rfl Z rfl 16 aggID hZl Z hR hZl hZ1 ?_; intro w3 hR3 hb3 hs3))
        (try simp only [Exit.inBlock, Exit.then]); refine bodyPost_ret (results_cell2 rfl _ _ _ _ rfl Z (by rw [hZl]; exact aggID) hR3.at0) rfl ?_
        exact ⟨rv (rt2 (congrArg Value.agg (by rw [HZ.out]; exact HF.out.1)) (congrArg (Value.int .i64) HF.out.2)), by rw [hsz]; exact hbl.trans hb3⟩
    · obtain rfl : k = s.size := by omega
      have hall : Hid (okS s = true) := hid (by
        have := HK.out
        rw [List.take_of_length_le (by rw [← size_eq]; exact Nat.le_refl _)] at this
        exact this)
      by_cases h1 : s.size = 0
      · have HF : Hid (zid.toArray = (resV s).toArray ∧ (6 : Int) = resE s) := hid (size_res s (by omega))
        have h1I : ((s.size : Int) == 0) = true := by simp [h1]
        have HH := hid h1
        clear h1
        go_wp2_with (first | (refine wl_b0 rfl 23 rfl Z HBU.out ?_) | (refine wl_storeV rfl 23 _ _ rfl 23 B rfl Z rfl 16 aggID hZl Z hR1 hZl hZ1 ?_; intro w3 hR3 hb3 hs3) | (refine wl_allocV rfl 23 rfl Z HZ0.out (B + 1) hsr ?_; intro w1 hI1 hb1 hs1; have hR1 := hR.below hb1 (by omega); have bb1 := hbl.trans (hb1.mono (by omega : B ≤ _))))
        (try simp only [Exit.inBlock, Exit.then]); refine bodyPost_ret (results_cell2 rfl _ _ _ _ rfl Z (by rw [hZl]; exact aggID) hR3.at0) rfl ?_
        exact ⟨rv (rt2 (congrArg Value.agg (by rw [HZ.out]; exact HF.out.1)) (congrArg (Value.int .i64) HF.out.2)), by rw [hsz]; exact bb1.trans hb3⟩
      · have h1I : ((s.size : Int) == 0) = false := by rw [beq_eq_false_iff_ne]; omega
        have hn0 : ¬ ((s.size : Int) = 0) := by omega
        by_cases h2 : 16 < s.size
        · have HF : Hid (zid.toArray = (resV s).toArray ∧ (6 : Int) = resE s) := hid (size_res s (by omega))
          have h2I : (16 : Int) < (s.size : Int) := by omega
          have h2D : decide ((16 : Int) < (s.size : Int)) = true := decide_eq_true h2I
          go_wp2_with (first | (refine wl_b0 rfl 23 rfl Z HBU.out ?_) | (refine wl_storeV rfl 23 _ _ rfl 23 B rfl Z rfl 16 aggID hZl Z hR1 hZl hZ1 ?_; intro w3 hR3 hb3 hs3) | (refine wl_allocV rfl 23 rfl Z HZ0.out (B + 1) hsr ?_; intro w1 hI1 hb1 hs1; have hR1 := hR.below hb1 (by omega); have bb1 := hbl.trans (hb1.mono (by omega : B ≤ _))))
          (try simp only [Exit.inBlock, Exit.then]); refine bodyPost_ret (results_cell2 rfl _ _ _ _ rfl Z (by rw [hZl]; exact aggID) hR3.at0) rfl ?_
          exact ⟨rv (rt2 (congrArg Value.agg (by rw [HZ.out]; exact HF.out.1)) (congrArg (Value.int .i64) HF.out.2)), by rw [hsz]; exact bb1.trans hb3⟩
        · have h2I : ¬ (16 : Int) < (s.size : Int) := by omega
          have h2D : decide ((16 : Int) < (s.size : Int)) = false := decide_eq_false h2I
          have hs16 : s.size ≤ 16 := by omega
          obtain ⟨C, HC⟩ : ∃ C, Hid (C = idC s) := ⟨_, rfl⟩
          have hCl : C.length = 16 := by rw [HC.out]; exact idC_len s hs16
          have hC1 : ∀ u ∈ C, u.oneCell' = true := by rw [HC.out]; exact idC_one s
          have HF : Hid ((idC s).toArray = (resV s).toArray ∧ (0 : Int) = resE s) := hid (good_res s hall.out (by omega) hs16)
          have hcp := fun (z : World) (hz : BlkV 23 z (B + 1) Z) => hid (copy_id z s (B + 1) hs16 (by rw [← HZ.out]; exact hz))
          rw [← HC.out] at hcp
          have hal : Tryd.prog.arrayLen 23 = 16 := by kernel_rfl
          go_wp2_with (first | (refine wl_storeV rfl 23 _ _ rfl 23 B rfl C rfl 16 aggID hCl Z hR2 hZl hC1 ?_; intro w3 hR3 hb3 hs3) | (refine wl_load rfl 23 _ rfl ⟨B + 1, 0, none⟩ rfl C (by rw [hCl]; exact aggID) aI2 ?_; clear aI2) | (refine wl_allocV rfl 23 rfl Z HZ0.out (B + 1) hsr ?_; intro w1 hI1 hb1 hs1; have hR1 := hR.below hb1 (by omega); have bb1 := hbl.trans (hb1.mono (by omega : B ≤ _)); obtain ⟨w2, hrun, hI2, hb2, hs2⟩ := (hcp w1 hI1).out; have hR2 := hR1.below hb2 (by omega); have bb2 := bb1.trans (hb2.mono (by omega : B ≤ _)); have aI2 := hI2.at0))
          (try simp only [Exit.inBlock, Exit.then]); refine bodyPost_ret (results_cell2 rfl _ _ _ _ rfl C (by rw [hCl]; exact aggID) hR3.at0) rfl ?_
          exact ⟨rv (rt2 (congrArg Value.agg (by rw [HC.out]; exact HF.out.1)) (congrArg (Value.int .i64) HF.out.2)), by first | exact bb2.trans hb3 | (rw [hsz]; exact bb2.trans hb3)⟩
end Go.Proofs.YtbjmadcbhkeenaaDoor.idm
