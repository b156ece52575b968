/-
  Contracts of share.said and share.lies at any polynomials. Conditions: rows of n numbers from 0 to 256, n at most 64. Contract of share.Mend. Conditions: a list of shares of the type's form that lies in memory.
-/
import Derived.Test.YtbjmadcbhkeenaaSGsH
import Derived.Test.YtbjmadcbhkeenaaSShM
namespace Go.Proofs.Ytbjmadcbhkeenaa.gs
open Go.RowKit Go.Proofs.Ytbjmadcbhkeenaa.Fld Go.Proofs.Ytbjmadcbhkeenaa.sh Go.Proofs.Ytbjmadcbhkeenaa.shr Go.Proofs.Ytbjmadcbhkeenaa.slInt
set_option linter.unusedSimpArgs false
set_option linter.unusedVariables false
set_option pp.maxSteps 6000
def vF (F : Nat → List Int) (o : Nat) (t : Int) : Int := ev (F o) t % 257
theorem vF_range (F : Nat → List Int) (o : Nat) (t : Int) : 0 ≤ vF F o t ∧ vF F o t ≤ 256 := by unfold vF; omega
def liesFTo (F : Nat → List Int) (s : Sh) (k : Nat) : Bool := (List.range k).all fun o => vF F o s.x == s.y.getD o 0
def liesF (F : Nat → List Int) (s : Sh) : Bool := liesFTo F s 32
theorem liesFTo_succ (F : Nat → List Int) (s : Sh) (k : Nat) : liesFTo F s (k + 1) = (liesFTo F s k && (vF F k s.x == s.y.getD k 0)) := by
  unfold liesFTo; rw [List.range_succ, List.all_append]; simp
theorem liesF_false (F : Nat → List Int) (s : Sh) (k : Nat) (hk : k < 32) (h : vF F k s.x ≠ s.y.getD k 0) : liesF F s = false := by
  unfold liesF liesFTo
  rw [List.all_eq_false]
  exact ⟨k, by simpa using hk, by simpa using h⟩
def fltF (F : Nat → List Int) : Bool := (List.range 32).any fun o => vF F o 0 == 256
def keyF (F : Nat → List Int) : List Int := if fltF F = true then List.replicate 32 0 else (List.range 32).map fun o => vF F o 0
def keyE (F : Nat → List Int) : Int := if fltF F = true then 20 else 0
theorem keyF_length (F : Nat → List Int) : (keyF F).length = 32 := by unfold keyF; split <;> simp
theorem flt_of (F : Nat → List Int) (k : Nat) (hk : k < 32) (h : vF F k 0 = 256) : fltF F = true := by
  unfold fltF
  rw [List.any_eq_true]
  exact ⟨k, by simpa using hk, by simpa using h⟩
theorem flt_not (F : Nat → List Int) (h : ∀ o, o < 32 → vF F o 0 ≠ 256) : fltF F = false := by
  unfold fltF
  rw [List.any_eq_false]
  intro o ho
  have := h o (by simpa using ho)
  simpa using this
structure PolysF (w : World) (n : Nat) (F : Nat → List Int) (ps : List Value) : Prop where
  len : ps.length = 32
  one : ∀ u ∈ ps, u.oneCell' = true
  at_ : ∀ o, o < 32 → ∃ ao cp, ps[o]? = some (.slice ao n cp) ∧ RowI .i64 w ao (F o)
  ln : ∀ o, o < 32 → n = (F o).length
  rng : ∀ o, o < 32 → Rng (F o)
theorem PolysF.below {w w' : World} {n : Nat} {F : Nat → List Int} {ps : List Value} (h : PolysF w n F ps) (hb : Below w.heap.size w w') : PolysF w' n F ps :=
  ⟨h.len, h.one, fun o ho => by obtain ⟨ao, cp, h1, h2⟩ := h.at_ o ho; exact ⟨ao, cp, h1, h2.below hb⟩, h.ln, h.rng⟩
set_option maxRecDepth 100000 in
theorem said_F (ps : List Value) (n : Nat) (F : Nat → List Int) (w : World) (hP : PolysF w n F ps) (hn : n ≤ 64) :
    Calls Try.prog 28 #[.agg ps.toArray] w fun e w' => e = .returned (.tuple #[.agg ((keyF F).map (Value.int .u8)).toArray, .int .i64 (keyE F)]) ∧ Below w.heap.size w w' := by
  have hPL := hid hP.len
  have hp1 := hP.one
  obtain ⟨Z, HZ⟩ : ∃ Z, Hid (Z = zero32) := ⟨_, rfl⟩
  have HZ0 := hid zeroKey
  rw [← HZ.out] at HZ0
  have HZL : Hid (Z.length = 32) := by rw [HZ.out]; rfl
  have hbu : (Try.prog.built 23 []) = some Z.toArray := by rw [HZ.out]; kernel_rfl
  have HBU := hid hbu
  clear hbu
  go_enter Try.func28, Try.ntmps28
  go_wp2_with (first | (refine wl_alloc rfl 23 rfl Z HZ0.out ?_) | (refine wl_loadG (by rfl) 60 _ rfl ⟨w.heap.size, 0, none⟩ rfl 32 ps hPL.out aggP ((BlkV.new _ w ps rfl).alloc _ |>.alloc _).at0 ?_))
  have hA0 : BlkV 23 (((w.alloc (.cells ps.toArray 60)).alloc (.cells Z.toArray 23)).alloc (.cells Z.toArray 23)) (w.heap.size + 1) Z := (BlkV.new _ _ Z (by simp)).alloc _
  have hB0 : BlkV 23 (((w.alloc (.cells ps.toArray 60)).alloc (.cells Z.toArray 23)).alloc (.cells Z.toArray 23)) (w.heap.size + 2) Z := BlkV.new _ _ Z (by simp)
  have hb0 : Below w.heap.size w (((w.alloc (.cells ps.toArray 60)).alloc (.cells Z.toArray 23)).alloc (.cells Z.toArray 23)) := (((Below.refl _ _).alloc (Nat.le_refl _) _).alloc (by simp) _).alloc (by simp; omega) _
  go_loopw [9] (fun i wr => ∃ k : Nat, k ≤ 32 ∧ i = .int .i64 k ∧ Hid (∀ o, o < k → vF F o 0 ≠ 256) ∧ BlkV 23 wr (w.heap.size + 1) Z ∧ BlkI .u8 23 wr (w.heap.size + 2) (st.fillTo (fun o => vF F o 0) 32 k) ∧ Below w.heap.size w wr) (fun i _ => 32 - (intOf i).toNat)
  case atStart => exact ⟨0, by omega, rfl, fun o ho => absurd ho (Nat.not_lt_zero o), hA0, by rw [st.fillTo_zero]; show BlkV _ _ _ zero32; rw [← HZ.out]; exact hB0, hb0⟩
  case round =>
    obtain ⟨k, hk, rfl, HN, hR, hC, hbl⟩ := hrel
    clear hA0 hB0 hb0
    by_cases h0 : k < 32
    · obtain ⟨pa, cp, hpk, hrow0⟩ := hP.at_ k h0
      have hrow := hrow0.below hbl
      have hIX := fun w => run_indexS (P := Try.prog) w 60 24 3 32 Try.underlying60 Try.underlying24 sizeSl ps k h0 _ hpk
      obtain ⟨V, HV⟩ : ∃ V, Hid (V = vF F k 0) := ⟨_, rfl⟩
      have hVr : 0 ≤ V ∧ V ≤ 256 := by rw [HV.out]; exact vF_range ..
      have hev : ev (F k) 0 % 257 = V := by rw [HV.out]; exact rfl
      have hkI : (k : Int) < 32 := by omega
      have hkI0 : (0 : Int) ≤ (k : Int) := by omega
      have hpl := hP.ln k h0
      have hcell := hC.cell (i := k) (by rw [st.fillTo_length _ _ _ hk]; exact h0)
      have hfz := hC.frozen k
      have HEV := hid hev
      have HPL := hid hpl
      have HROW := hid hrow
      clear hpk hrow0 hev hpl hrow
      by_cases h1 : V = 256
      · have H1 := hid h1
        have h1' : (V == 256) = true := by simp [h1]
        have hfa := hid (flt_of F k h0 (by rw [← HV.out]; exact h1))
        clear h1
        go_wp2_with (first | (go_at_call 20; refine (value_q _ _ _ _ _ HPL.out HROW.out (hP.rng k h0) ⟨by decide, by decide⟩ (by omega) V HEV.out).mono ?_; rintro e w1 ⟨rfl, rfl⟩) | (refine wl_build0 rfl 23 rfl Z HBU.out ?_) | (refine wl_storeV rfl 23 _ _ rfl 23 (w.heap.size + 1) rfl Z rfl 32 aggKey HZL.out Z hR HZL.out (by rw [HZ.out]; exact ints_one _ _) ?_; intro wS hS hbS hsS))
        (try simp only [Exit.inBlock, Exit.then]); refine bodyPost_ret (results_cell2 rfl _ _ _ _ rfl Z (by rw [HZL.out]; exact aggKey) hS.at0) rfl ?_
        refine ⟨rv ?_, hbl.trans (hbS.mono (by omega))⟩
        unfold keyF keyE
        rw [if_pos hfa.out, if_pos hfa.out, HZ.out]
        rfl
      · have H1 := hid h1
        have h1' : (V == 256) = false := by simp [h1]
        have hVw : IntKind.u8.wrap V = V := IntKind.wrap_u8' V ▸ by omega
        clear h1
        go_wp2_with (first | (go_at_call 20; refine (value_q _ _ _ _ _ HPL.out HROW.out (hP.rng k h0) ⟨by decide, by decide⟩ (by omega) V HEV.out).mono ?_; rintro e w1 ⟨rfl, rfl⟩))
        go_roundw
        case rel => exact ⟨k + 1, by omega, by go_num, fun o ho => by
          by_cases e : o = k
          · rw [e, ← HV.out]; exact H1.out
          · exact HN.out o (by omega), hR.other (by simp) _, by rw [← st.fillTo_set _ _ _ h0, ← HV.out]; exact hC.set k V, hbl.setCell (by simp; omega) _⟩
        case measure => simp [intOf] <;> omega
    · obtain rfl : k = 32 := by omega
      rw [st.fillTo_all] at hC
      have hfa := hid (flt_not F HN.out)
      obtain ⟨R, HR⟩ : ∃ R, Hid (R = ((List.range 32).map fun o => vF F o 0).map (Value.int .u8)) := ⟨_, rfl⟩
      have hCv : BlkV 23 wr (w.heap.size + 2) R := by rw [HR.out]; exact BlkI.v hC
      have HRL : Hid (R.length = 32) := by show _ = _; rw [HR.out]; simp
      have hR1 : ∀ u ∈ R, u.oneCell' = true := by rw [HR.out]; exact ints_one _ _
      clear hC
      go_wp2_with (first | (refine wl_loadG (by rfl) 23 _ rfl ⟨w.heap.size + 2, 0, none⟩ rfl 32 R HRL.out aggKey hCv.at0 ?_) | (refine wl_storeV rfl 23 _ _ rfl 23 (w.heap.size + 1) rfl R rfl 32 aggKey HRL.out Z hR HZL.out hR1 ?_; intro wS hS hbS hsS))
      (try simp only [Exit.inBlock, Exit.then]); refine bodyPost_ret (results_cell2 rfl _ _ _ _ rfl R (by rw [HRL.out]; exact aggKey) hS.at0) rfl ?_
      refine ⟨rv ?_, hbl.trans (hbS.mono (by omega))⟩
      unfold keyF keyE
      rw [if_neg (by rw [hfa.out]; decide), if_neg (by rw [hfa.out]; decide), HR.out]
      rfl
set_option maxRecDepth 100000 in
theorem lies_F (ps : List Value) (n : Nat) (F : Nat → List Int) (s : Sh) (w : World) (hP : PolysF w n F ps) (hn : n ≤ 64) (hs : s.Ok) (hx : 0 ≤ s.x ∧ s.x ≤ 256) :
    Calls Try.prog 25 #[.agg ps.toArray, .agg s.cs.toArray] w fun e w' => e = .returned (.bool (liesF F s)) ∧ Below w.heap.size w w' := by
  have hPL := hid hP.len
  have HSL : Hid (s.cs.length = 49) := hs.csl
  have hS0 : BlkV 41 ((w.alloc (.cells ps.toArray 60)).alloc (.cells s.cs.toArray 41)) (w.heap.size + 1) s.cs := BlkV.new _ _ _ (by simp)
  have hb0 : Below w.heap.size w ((w.alloc (.cells ps.toArray 60)).alloc (.cells s.cs.toArray 41)) := ((Below.refl _ _).alloc (Nat.le_refl _) _).alloc (by simp) _
  go_enter Try.func25, Try.ntmps25
  go_wp2_with (first | (refine wl_loadG (by rfl) 60 _ rfl ⟨w.heap.size, 0, none⟩ rfl 32 ps hPL.out aggP ((BlkV.new _ w ps rfl).alloc _).at0 ?_))
  go_loopw [8] (fun i wr => ∃ k : Nat, k ≤ 32 ∧ i = .int .i64 k ∧ Hid (liesFTo F s k = true) ∧ BlkV 41 wr (w.heap.size + 1) s.cs ∧ Below w.heap.size w wr) (fun i _ => 32 - (intOf i).toNat)
  case atStart => exact ⟨0, by omega, rfl, rfl, hS0, hb0⟩
  case round =>
    obtain ⟨k, hk, rfl, HN, hS, hbl⟩ := hrel
    clear hS0 hb0
    by_cases h0 : k < 32
    · obtain ⟨pa, cp, hpk, hrow0⟩ := hP.at_ k h0
      have hrow := hrow0.below hbl
      have hIX := fun w => run_indexS (P := Try.prog) w 60 24 3 32 Try.underlying60 Try.underlying24 sizeSl ps k h0 _ hpk
      obtain ⟨V, HV⟩ : ∃ V, Hid (V = vF F k s.x) := ⟨_, rfl⟩
      have hVr : 0 ≤ V ∧ V ≤ 256 := by rw [HV.out]; exact vF_range ..
      have hev : ev (F k) s.x % 257 = V := by rw [HV.out]; exact rfl
      obtain ⟨yv, HYV⟩ : ∃ c, Hid (c = s.y.getD k 0) := ⟨_, rfl⟩
      have hybd : 0 ≤ yv ∧ yv ≤ 65535 := by rw [HYV.out, getD_lt' s.y 0 (by rw [hs.yl]; exact h0)]; exact hs.yb _ (List.getElem_mem _)
      have hkI : (k : Int) < 32 := by omega
      have hkI0 : (0 : Int) ≤ (k : Int) := by omega
      have hpl := hP.ln k h0
      have cX := (hS.cell 16).trans (cs_x s hs)
      have cY : wr.cell? ⟨w.heap.size + 1, 17 + k, none⟩ = some (.int .u16 yv) := by rw [HYV.out]; exact (hS.cell (17 + k)).trans (cs_yi s hs k h0)
      have HEV := hid hev
      have HPL := hid hpl
      have HROW := hid hrow
      have HLT := hid (liesFTo_succ F s k)
      rw [HN.out, ← HV.out, ← HYV.out] at HLT
      clear hpk hrow0 hev hpl hrow
      go_wp2_with fail
      go_quiet ((go_at_call 20; exact Calls.quiet_of_same (value_q _ _ _ _ _ HPL.out (HROW.out.drewN _) (hP.rng k h0) hx (by omega) V HEV.out)))
      by_cases h1 : V = yv
      · have H1 := hid h1
        have h1' : (V != yv) = false := by simp [h1]
        clear h1
        go_wp2
        go_roundw
        case rel => exact ⟨k + 1, by omega, by go_num, by show _ = _; rw [HLT.out, H1.out]; simp, hS.drewN _, bdN hbl _⟩
        case measure => simp [intOf] <;> omega
      · have H1 := hid h1
        have h1' : (V != yv) = true := by simp [h1]
        have hf := hid (liesF_false F s k h0 (by rw [← HV.out, ← HYV.out]; exact h1))
        clear h1
        go_wp2
        go_ret
        exact ⟨rv (rb hf.out.symm), bdN hbl _⟩
    · obtain rfl : k = 32 := by omega
      go_wp2
      go_ret
      exact ⟨rv (rb HN.out.symm), hbl⟩
end Go.Proofs.Ytbjmadcbhkeenaa.gs
namespace Go.Proofs.Ytbjmadcbhkeenaa.gs
open Go.RowKit Go.Proofs.Ytbjmadcbhkeenaa.Fld Go.Proofs.Ytbjmadcbhkeenaa.sh Go.Proofs.Ytbjmadcbhkeenaa.shr Go.Proofs.Ytbjmadcbhkeenaa.slInt
set_option linter.unusedSimpArgs false
set_option linter.unusedVariables false
set_option pp.maxSteps 6000
/-! ### what Mend answers -/
def polyM (need : Nat) (l : List Sh) (o : Nat) : Option (List Int) := mendL need ((l.length - need) / 2) (xsOf l) (ysOf l o)
def mendF (need : Nat) (l : List Sh) (o : Nat) : List Int := (polyM need l o).getD []
def allM (need : Nat) (l : List Sh) (k : Nat) : Bool := (List.range k).all fun o => (polyM need l o).isSome
def liarsF (F : Nat → List Int) (l : List Sh) : List Sh := l.filter fun s => !liesF F s
def mendE (need : Int) (l : List Sh) : Int := if sharesE false need l ≠ 0 then sharesE false need l else if allM need.toNat l 32 = false then 20
  else if (l.length - need.toNat) / 2 < (liarsF (mendF need.toNat l) l).length then 20 else keyE (mendF need.toNat l)
def mendK (need : Int) (l : List Sh) : List Int := if mendE need l = 0 then keyF (mendF need.toNat l) else List.replicate 32 0
def mendB (need : Int) (l : List Sh) : List Sh := if mendE need l = 0 then liarsF (mendF need.toNat l) l else []
def flatID (bs : List Sh) : List Value := bs.flatMap fun s => s.h.map (Value.int .u8)
theorem flatID_snoc (bs : List Sh) (s : Sh) : flatID (bs ++ [s]) = flatID bs ++ s.h.map (Value.int .u8) := by unfold flatID; rw [List.flatMap_append]; simp
theorem liarsF_succ (F : Nat → List Int) (l : List Sh) (k : Nat) (hk : k < l.length) : liarsF F (l.take (k + 1)) = liarsF F (l.take k) ++ if liesF F (l.getD k nil) = true then [] else [l.getD k nil] := by
  unfold liarsF
  rw [List.take_succ_eq_append_getElem hk, List.filter_append, getD_lt' l nil hk]
  congr 1
  cases h : liesF F l[k] <;> simp [h]
theorem allM_succ (need : Nat) (l : List Sh) (k : Nat) : allM need l (k + 1) = (allM need l k && (polyM need l k).isSome) := by unfold allM; rw [List.range_succ, List.all_append]; simp
theorem allM_none {need : Nat} {l : List Sh} {k : Nat} (hk : k < 32) (h : polyM need l k = none) : allM need l 32 = false := by
  unfold allM
  rw [List.all_eq_false]
  exact ⟨k, by simpa using hk, by rw [h]; simp⟩
theorem allM_mono {need : Nat} {l : List Sh} {k : Nat} (h : allM need l k = true) {o : Nat} (ho : o < k) : ∃ p, polyM need l o = some p := by
  unfold allM at h
  rw [List.all_eq_true] at h
  exact Option.isSome_iff_exists.1 (h o (by simpa using ho))
theorem mendF_len {need : Nat} {l : List Sh} (hn : 1 ≤ need) {o : Nat} {p : List Int} (h : polyM need l o = some p) : mendF need l o = p ∧ p.length = need ∧ Rng p := by
  unfold mendF
  rw [h]
  exact ⟨rfl, mendL_len hn h⟩
/-- the first polynomials lie in rows behind G -/
structure PolysTo (G : Nat) (w : World) (n : Nat) (F : Nat → List Int) (ps : List Value) (k : Nat) : Prop where
  len : ps.length = 32
  one : ∀ u ∈ ps, u.oneCell' = true
  at_ : ∀ o, o < k → ∃ g cp, ps[o]? = some (.slice (some ⟨g, 0, none⟩) n cp) ∧ G < g ∧ RowB 3 w g ((F o).map (Value.int .i64))
theorem PolysTo.keep {G : Nat} {w w' : World} {n : Nat} {F : Nat → List Int} {ps : List Value} {k : Nat} (h : PolysTo G w n F ps k) (hb : ∀ g, G < g → g < w.heap.size → w'.heap[g]? = w.heap[g]?) : PolysTo G w' n F ps k :=
  ⟨h.len, h.one, fun o ho => by obtain ⟨g, cp, h1, h2, h3⟩ := h.at_ o ho; exact ⟨g, cp, h1, h2, rowB_kept h3 (hb g h2 h3.lt)⟩⟩
theorem PolysTo.put {G : Nat} {w : World} {n : Nat} {F : Nat → List Int} {ps : List Value} {k g cp : Nat} (h : PolysTo G w n F ps k) (hk : k < 32) (hg : G < g) (hr : RowB 3 w g ((F k).map (Value.int .i64))) : PolysTo G w n F (ps.set k (.slice (some ⟨g, 0, none⟩) n cp)) (k + 1) := by
  refine ⟨by rw [List.length_set]; exact h.len, fun u hu => ?_, fun o ho => ?_⟩
  · rcases List.mem_or_eq_of_mem_set hu with hu | rfl
    · exact h.one u hu
    · rfl
  · by_cases e : k = o
    · subst e
      exact ⟨g, cp, by rw [List.getElem?_set, if_pos rfl, if_pos (by rw [h.len]; exact hk)], hg, hr⟩
    · obtain ⟨g', c', h1, h2, h3⟩ := h.at_ o (by omega)
      exact ⟨g', c', by rw [List.getElem?_set, if_neg e]; exact h1, h2, h3⟩
theorem PolysTo.all {G : Nat} {w : World} {n : Nat} {F : Nat → List Int} {ps : List Value} (h : PolysTo G w n F ps 32) (hl : ∀ o, o < 32 → n = (F o).length) (hr : ∀ o, o < 32 → Rng (F o)) : PolysF w n F ps :=
  ⟨h.len, h.one, fun o ho => by obtain ⟨g, cp, h1, h2, h3⟩ := h.at_ o ho; exact ⟨_, cp, h1, rowI_of h3⟩, hl, hr⟩
theorem results_c3 {fn : Func} {c u v : Tmp} {t : TypeId} (h : fn.results = #[.cell c t, .tmp u, .tmp v]) (tmps : Array Value) (P : Program) (w : World) (p : Addr) (hp : tmps.getD c undef = .pointer (some p)) (cs : List Value) (ha : Agg P t cs.length) (hc : At w p cs) :
    (results fn tmps).run P w = .ok (.tuple #[.agg cs.toArray, tmps.getD u undef, tmps.getD v undef]) w := by
  rw [Array.getD_eq_getD_getElem?] at hp
  simp [results, h, hp, run_load_agg w t p cs ha hc, asAddr]
theorem wl_storeW {P : Program} {w : World} {ops : Array Oper} {rest : List Oper} {o : Oper} {a : Act} {Q : Exit → Act → World → Prop} (hgd : o.guard = none) (ty : TypeId) (x y : Operand) (ho : o.op = .store ty x y)
    (t : TypeId) (g : Nat) (hx : a.eval x = .pointer (some ⟨g, 0, none⟩)) (cs : List Value) (hy : a.eval y = .agg cs.toArray) (n : Nat) (hi : Agg P ty n) (hn : cs.length = n) (cur : List Value) (hg : BlkV t w g cur) (hc : cur.length = n) (h1 : ∀ u ∈ cs, u.oneCell' = true)
    (h : ∀ w', BlkV t w' g cs → Below g w w' → w.grownBy w' (some g) → w'.heap.size = w.heap.size → wpList P ops Q rest (a.put o.dst undef) w') : wpList P ops Q (o :: rest) a w :=
  wl_storeAll hgd ty x y ho t g hx cs hy n hi hn cur hg hc h1 fun hb => h _ hb (below_setRow' (Below.refl _ _) (Nat.le_refl _) _) (grown_setRow _ _ _) (by simp)
def idZ : List Value := (List.replicate 16 (0 : Int)).map (Value.int .u8)
theorem infoI : Info Try.prog 28 (.agg idZ.toArray) 16 16 := by unfold Info; kernel_rfl
theorem aggI : Agg Try.prog 28 16 := Agg.arr Try.underlying28 (by kernel_rfl)
def MendPost (need : Int) (l : List Sh) (w : World) (e : Ending) (w' : World) : Prop := Below w.heap.size w w' ∧ ∃ v, e = .returned (.tuple #[.agg ((mendK need l).map (Value.int .u8)).toArray, v, .int .i64 (mendE need l)]) ∧ Mine w' w.heap.size 28 16 v (mendB need l).length (flatID (mendB need l))
theorem MendPost.err {need : Int} {l : List Sh} {w w' : World} {e : Ending} {E : Int} {Z : List Value} (hE : mendE need l = E) (h0 : E ≠ 0) (hZ : Z = (List.replicate 32 (0 : Int)).map (Value.int .u8)) (hb : Below w.heap.size w w') (he : e = .returned (.tuple #[.agg Z.toArray, .slice none 0 0, .int .i64 E])) : MendPost need l w e w' := by
  refine ⟨hb, .slice none 0 0, ?_, ?_⟩
  · unfold mendK; rw [hE, if_neg h0, he, hZ]
  · unfold mendB; rw [hE, if_neg h0]; exact Mine.nil _ _ _ _
end Go.Proofs.Ytbjmadcbhkeenaa.gs
