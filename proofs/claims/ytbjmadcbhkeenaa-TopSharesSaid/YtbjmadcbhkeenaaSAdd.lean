/-
  Contract of share.Add. Conditions: shares of the type's form, a holder of 16 octets, a place of the type's range.
-/
import Derived.Test.YtbjmadcbhkeenaaSZrn
namespace Go.Proofs.Ytbjmadcbhkeenaa.shr
open Go.RowKit Go.Proofs.Ytbjmadcbhkeenaa.sh Go.Proofs.Ytbjmadcbhkeenaa.Fld
set_option linter.unusedSimpArgs false
set_option linter.unusedVariables false
set_option pp.maxSteps 6000
/-- a share has this place or this holder -/
def hit (h : List Int) (x : Int) (t : Sh) : Bool := t.x == x || t.h == h
/-- the error of Add -/
def addE (need : Int) (l : List Sh) (h : List Int) (x : Int) : Int := if sharesE false need l ≠ 0 then sharesE false need l else if inB x 1 256 = false then 4 else if l.any (hit h x) = true then 8 else 0
/-- the share of Add -/
def addS (need : Int) (l : List Sh) (h : List Int) (x : Int) : Sh := if addE need l h x = 0 then shTo h x (fun o => valAt (l.take need.toNat) o x) 32 else sh0
set_option maxRecDepth 100000 in
set_option maxHeartbeats 1000000 in
theorem Add_x (need : Int) (ao : Option Addr) (cap : Nat) (l : List Sh) (h : List Int) (x : Int) (w : World) (hr : RowS w ao l) (hok : ∀ s ∈ l, s.Ok) (hn : l.length ≤ 9223372036854775807) (hcap : l.length ≤ cap) (hhl : h.length = 16) (hho : ∀ c ∈ h, 0 ≤ c ∧ c ≤ 255) (hxb : -9223372036854775808 ≤ x ∧ x ≤ 9223372036854775807) :
    Calls Try.prog 9 #[.int .i64 need, .slice ao l.length cap, .agg (h.map (Value.int .u8)).toArray, .int .i64 x] w fun e w' => e = .returned (.tuple #[.agg (addS need l h x).cs.toArray, .int .i64 (addE need l h x)]) ∧ Below w.heap.size w w' := by
  have HOK := hid hok
  clear hok
  obtain ⟨HV, HHV⟩ : ∃ K, Hid (K = h.map (Value.int .u8)) := ⟨_, rfl⟩
  have HHL : Hid (HV.length = 16) := by show _ = _; rw [HHV.out, List.length_map]; exact hhl
  obtain ⟨Z, HZ⟩ : ∃ Z, Hid (Z = sh0.cs) := ⟨_, rfl⟩
  have HBU : Hid ((Try.prog.built 41 []) = some Z.toArray) := by rw [HZ.out]; exact builtS
  have HZ0 : Hid ((Try.prog.info? 41).map (·.zero) = some (some (.agg Z.toArray))) := by rw [HZ.out]; exact sh0_zero
  have HZL : Hid (Z.length = 49) := by rw [HZ.out]; exact sh0_len
  have hZ1 : ∀ u ∈ Z, u.oneCell' = true := by rw [HZ.out]; exact cs_one _
  obtain ⟨S, HS⟩ : ∃ S, Hid (S = (addS need l h x).cs) := ⟨_, rfl⟩
  obtain ⟨A, HA⟩ : ∃ A, Hid (A = addE need l h x) := ⟨_, rfl⟩
  rw [← HHV.out, ← HS.out, ← HA.out]
  obtain ⟨E, HE⟩ : ∃ E, Hid (E = sharesE false need l) := ⟨_, rfl⟩
  have hb0 : Below w.heap.size w ((w.alloc (.cells HV.toArray 28)).alloc (.cells Z.toArray 41)) := ((Below.refl _ _).alloc (Nat.le_refl _) _).alloc (by simp) _
  have hH0 : BlkV 28 ((w.alloc (.cells HV.toArray 28)).alloc (.cells Z.toArray 41)) w.heap.size HV := (BlkV.new _ _ _ rfl).alloc _
  have hR0 : BlkV 41 ((w.alloc (.cells HV.toArray 28)).alloc (.cells Z.toArray 41)) (w.heap.size + 1) Z := BlkV.new _ _ _ (by simp)
  have HC := hid (CheckShares_any need ao cap l _ (hr.below hb0) HOK.out hn)
  rw [← HE.out] at HC
  by_cases hE : E = 0
  · by_cases hx : inB x 1 256 = true
    · have hx' : (!inB x 1 256) = false := by rw [hx]; rfl
      have hxr : 1 ≤ x ∧ x ≤ 256 := by simpa [inB] using hx
      obtain ⟨m, rfl, hm1, hml, hl32, hea⟩ := sharesE_ok (by rw [← HE.out]; exact hE)
      have hg := (good_of l HOK.out hea).take m
      have hE' : (E != 0) = false := by simp [hE]
      have HF1 : Hid (l.any (hit h x) = true → A = 8 ∧ S = Z) := fun ha => by
        have e : addE m l h x = 8 := by unfold addE; rw [← HE.out, if_neg (by simp [hE]), if_neg (by simp [hx]), if_pos ha]
        exact ⟨by rw [HA.out, e], by rw [HS.out, HZ.out]; unfold addS; rw [if_neg (by rw [e]; decide)]⟩
      have HF0 : Hid (l.any (hit h x) = false → A = 0 ∧ S = (shTo h x (fun o => valAt (l.take m) o x) 32).cs) := fun ha => by
        have e : addE m l h x = 0 := by unfold addE; rw [← HE.out, if_neg (by simp [hE]), if_neg (by simp [hx]), if_neg (by simp [ha])]
        exact ⟨by rw [HA.out, e], by rw [HS.out]; unfold addS; rw [if_pos e, Int.toNat_natCast]⟩
      clear hx hE hea
      go_enter Try.func9, Try.ntmps9
      go_wp2_with (first | (refine wl_alloc rfl 41 rfl Z HZ0.out ?_) | (go_at_call 27; refine HC.out.mono ?_; rintro e w1 ⟨rfl, hb1⟩) | (go_at_call 18; refine (outside_any _ _ _ _).mono ?_; rintro e w2 ⟨rfl, rfl⟩))
      have hbw := hb0.trans (hb1.mono hb0.size)
      have hH1 := hH0.below hb1 hH0.lt
      have hR1 := hR0.below hb1 hR0.lt
      have hr1 := hr.below hbw
      obtain ⟨B, HB⟩ : ∃ B, Hid (w1.heap.size = B) := ⟨_, rfl⟩
      have hwB : w.heap.size + 1 < B := by rw [← HB.out]; exact hR1.lt
      have hHV : HV = h.map (Value.int .u8) := HHV.out
      have heqL := hid (fun (t : Sh) (ht : t.Ok) (w : World) => run_equalIn_ints (P := Try.prog) w 9998 28 5 16 .u8 Try.underlying28 Try.underlying5 (fun w => by kernel_rfl) t.h h ht.hl hhl)
      rw [← hHV] at heqL
      clear hHV hb0 hH0 hR0 hb1 HC
      go_loopw [28] (fun i wr => ∃ k : Nat, k ≤ l.length ∧ i = .int .i64 k ∧ Hid ((l.take k).any (hit h x) = false) ∧ Below B w1 wr) (fun i _ => l.length - (intOf i).toNat)
      case atStart => exact ⟨0, Nat.zero_le _, rfl, rfl, Below.refl _ _⟩
      case round =>
        obtain ⟨k, hk, rfl, HN, hbl⟩ := hrel
        by_cases h0 : k < l.length
        · have hrr := hr1.below (by rw [HB.out]; exact hbl)
          obtain ⟨b, off, s, rfl, hb, HSs, hat⟩ := hrr.elem (i := k) h0
          have hs : s.Ok := by rw [HSs.out]; exact HOK.out _ (getD_mem l k h0)
          have HCL := hid hs.csl
          have c1 := cs_one s
          obtain ⟨M, HM⟩ : ∃ M, Hid (wr.heap.size = M) := ⟨_, rfl⟩
          have hBM : B ≤ M := by rw [← HM.out]; exact Nat.le_trans (Nat.le_of_eq HB.out.symm) hbl.size
          have heq := heqL.out s hs
          obtain ⟨SH, HSH⟩ : ∃ V, Hid (V = s.h.map (Value.int .u8)) := ⟨_, rfl⟩
          rw [← HSH.out] at heq
          have HSHL : Hid (SH.length = 16) := by show _ = _; rw [HSH.out, List.length_map]; exact hs.hl
          have HAS : Hid ((l.take (k + 1)).any (hit h x) = hit h x s) := by
            show _ = _
            rw [List.take_succ_eq_append_getElem h0, List.any_append, HN.out, HSs.out, getD_lt' l nil h0]
            simp
          have HSx := hid (fun w (hC : BlkV 41 w M s.cs) => (hC.cell 16).trans (cs_x s hs))
          have HSa : Hid (∀ w (hC : BlkV 41 w M s.cs), At w ⟨M, 0, none⟩ SH) := fun w hC => by rw [HSH.out]; exact at_h hs hC
          have HHr := hid (hH1.below hbl (by omega))
          have HRr := hid (hR1.below hbl (by omega))
          by_cases hx1 : s.x = x
          · have hxb1 : (s.x == x) = true := by simp [hx1]
            have HHT := hid (HF1.out (by
              rw [List.any_eq_true]
              exact ⟨s, by rw [HSs.out]; exact getD_mem l k h0, by unfold hit; rw [hxb1]; rfl⟩))
            clear hx1
            go_wp2_with (first | (refine wl_load rfl 41 _ rfl ⟨b, off + k * 49, none⟩ rfl s.cs (by rw [HCL.out]; exact aggS) hat ?_; clear hat) | (refine wl_allocV rfl 41 rfl sh0.cs sh0_zero M HM.out ?_; intro wA hA hbA hsA) | (refine wl_storeV rfl 41 _ _ rfl 41 M rfl s.cs rfl 49 aggS HCL.out sh0.cs hA sh0_len c1 ?_; intro wC hC hbC hsC; have cX := HSx.out wC hC; have hbC' := hbA.trans hbC; have hRC := HRr.out.below hbC' (by omega); clear hA hbA hbC hsA hsC hC) | (refine wl_build0 rfl 41 rfl Z HBU.out ?_) | (refine wl_storeV rfl 41 _ _ rfl 41 (w.heap.size + 1) rfl Z rfl 49 aggS HZL.out Z hRC HZL.out hZ1 ?_; intro wS hS hbS hsS))
            (try simp only [Exit.inBlock, Exit.then]); refine bodyPost_ret (results_cell2 rfl _ _ _ _ rfl Z (by rw [HZL.out]; exact aggS) hS.at0) rfl ?_
            have hbb := hbw.trans (((hbl.trans (hbC'.mono hBM)).mono (by omega)).trans (hbS.mono (Nat.le_succ _)))
            exact ⟨rv (by rw [HHT.out.1, HHT.out.2]; rfl), hbb⟩
          · have hxb0 : (s.x == x) = false := by simp [hx1]
            have HSX := hid hxb0
            cases hh : s.h == h
            · have HH := hid hh
              rw [hh] at heq
              have HAF : Hid ((l.take (k + 1)).any (hit h x) = false) := by show _ = _; rw [HAS.out]; unfold hit; rw [HSX.out, hh]; rfl
              clear hx1 hh
              go_wp2_with (first | (refine wl_load rfl 41 _ rfl ⟨b, off + k * 49, none⟩ rfl s.cs (by rw [HCL.out]; exact aggS) hat ?_; clear hat) | (refine wl_allocV rfl 41 rfl sh0.cs sh0_zero M HM.out ?_; intro wA hA hbA hsA) | (refine wl_storeV rfl 41 _ _ rfl 41 M rfl s.cs rfl 49 aggS HCL.out sh0.cs hA sh0_len c1 ?_; intro wC hC hbC hsC; have cX := HSx.out wC hC; have aS := HSa.out wC hC; have hbC' := hbA.trans hbC; have aH := (HHr.out.below hbC' (by omega)).at0; have hRC := HRr.out.below hbC' (by omega); clear hA hbA hbC hsA hsC hC) | (refine wl_loadG (by kernel_rfl) 28 _ rfl ⟨M, 0, none⟩ rfl 16 SH HSHL.out aggID aS ?_; clear aS) | (refine wl_loadG (by kernel_rfl) 28 _ rfl ⟨w.heap.size, 0, none⟩ rfl 16 HV HHL.out aggID aH ?_; clear aH))
              go_roundw
              case rel => exact ⟨k + 1, by omega, by go_num, HAF, hbl.trans (hbC'.mono hBM)⟩
              case measure => simp [intOf] <;> omega
            · rw [hh] at heq
              have HHT := hid (HF1.out (by
                rw [List.any_eq_true]
                exact ⟨s, by rw [HSs.out]; exact getD_mem l k h0, by unfold hit; rw [hh]; simp⟩))
              clear hx1 hh
              go_wp2_with (first | (refine wl_load rfl 41 _ rfl ⟨b, off + k * 49, none⟩ rfl s.cs (by rw [HCL.out]; exact aggS) hat ?_; clear hat) | (refine wl_allocV rfl 41 rfl sh0.cs sh0_zero M HM.out ?_; intro wA hA hbA hsA) | (refine wl_storeV rfl 41 _ _ rfl 41 M rfl s.cs rfl 49 aggS HCL.out sh0.cs hA sh0_len c1 ?_; intro wC hC hbC hsC; have cX := HSx.out wC hC; have aS := HSa.out wC hC; have hbC' := hbA.trans hbC; have aH := (HHr.out.below hbC' (by omega)).at0; have hRC := HRr.out.below hbC' (by omega); clear hA hbA hbC hsA hsC hC) | (refine wl_loadG (by kernel_rfl) 28 _ rfl ⟨M, 0, none⟩ rfl 16 SH HSHL.out aggID aS ?_; clear aS) | (refine wl_loadG (by kernel_rfl) 28 _ rfl ⟨w.heap.size, 0, none⟩ rfl 16 HV HHL.out aggID aH ?_; clear aH) | (refine wl_build0 rfl 41 rfl Z HBU.out ?_) | (refine wl_storeV rfl 41 _ _ rfl 41 (w.heap.size + 1) rfl Z rfl 49 aggS HZL.out Z hRC HZL.out hZ1 ?_; intro wS hS hbS hsS))
              (try simp only [Exit.inBlock, Exit.then]); refine bodyPost_ret (results_cell2 rfl _ _ _ _ rfl Z (by rw [HZL.out]; exact aggS) hS.at0) rfl ?_
              have hbb := hbw.trans (((hbl.trans (hbC'.mono hBM)).mono (by omega)).trans (hbS.mono (Nat.le_succ _)))
              exact ⟨rv (by rw [HHT.out.1, HHT.out.2]; rfl), hbb⟩
        · obtain rfl : k = l.length := by omega
          have hFF := HF0.out (by have := HN.out; rwa [List.take_length] at this)
          have hHr := hH1.below hbl (by omega)
          have hRr := hR1.below hbl (by omega)
          have hbwr := hbw.trans (hbl.mono (by omega))
          have hrr := hr.below hbwr
          obtain ⟨V, HV'⟩ : ∃ V : Nat → Int, Hid (V = fun o => valAt (l.take m) o x) := ⟨_, rfl⟩
          have hVb : ∀ o, 0 ≤ V o ∧ V o ≤ 65535 := fun o => by rw [HV'.out]; have := valAt_range (l.take m) o x; simp only []; omega
          have HBT : Hid (Try.prog.built 41 [(0, .agg HV.toArray), (1, .int .i64 x)] = some (shTo h x V 0).cs.toArray) := by rw [HHV.out]; exact built_sh hhl x V
          have HTL := hid ((shTo_ok (V := V) (k := 0) hhl hho hxb hVb (by omega)).csl)
          have HT1 := hid (cs_one (shTo h x V 0))
          obtain ⟨M, HM⟩ : ∃ M, Hid (wr.heap.size = M) := ⟨_, rfl⟩
          have hwM : w.heap.size + 1 < M := by rw [← HM.out]; exact hRr.lt
          have HFF : Hid (A = 0 ∧ S = (shTo h x V 32).cs) := by rw [HV'.out]; exact hFF
          have aH := hHr.at0
          obtain ⟨b, off, rfl, _⟩ := hr.at (i := 0) (by omega)
          have hmlI : (m : Int) ≤ (l.length : Int) := by omega
          have hm0 : (0 : Int) ≤ (m : Int) := by omega
          have hmcap : m ≤ cap := by omega
          clear hFF hHr
          go_wp2_with (first | (refine wl_load rfl 28 _ rfl ⟨w.heap.size, 0, none⟩ rfl HV (by rw [HHL.out]; exact aggID) aH ?_; clear aH) | (refine wl_build2 rfl 41 0 1 _ _ rfl _ _ rfl rfl (shTo h x V 0).cs HBT.out ?_) | (refine wl_allocV rfl 41 rfl sh0.cs sh0_zero M HM.out ?_; intro wA hA hbA hsA) | (refine wl_storeV rfl 41 _ _ rfl 41 M rfl (shTo h x V 0).cs rfl 49 aggS HTL.out sh0.cs hA sh0_len HT1.out ?_; intro wC hC hbC hsC; have hbC' := hbA.trans hbC; have hsC' : wC.heap.size = M + 1 := (by omega); clear hA hbA hbC hsA hsC))
          have hrC := (hrr.below (by rw [HM.out]; exact hbC')).take m
          have hRC := hRr.below hbC' (by omega)
          refine (polynomials_hi _ cap m (l.take m) wC (by rw [List.length_take]; omega) hrC (fun s hs => HOK.out s (List.mem_of_mem_take hs)) hg (by rw [List.length_take]; omega)).mono ?_
          rintro e w2 ⟨ps, rfl, hP, hb2⟩
          have hT2 := hC.below hb2 hC.lt
          have hR2 := hRC.below hb2 hRC.lt
          have hbw2 : Below w.heap.size w w2 := hbwr.trans (((hbC'.mono (by omega)).trans (hb2.mono (by omega))))
          have hs2 := hb2.size
          clear hC hRC hRr hrr hrC hR1 hH1 hr1
          go_wp2_with fail
          have HPA := hid hP.at
          have hPl := hid hP.len
          go_loopw [51] (fun i wx => ∃ j : Nat, j ≤ 32 ∧ i = .int .i64 j ∧ BlkV 41 wx M (shTo h x V j).cs ∧ w2.grownBy wx (some M)) (fun i _ => 32 - (intOf i).toNat)
          case atStart => exact ⟨0, by omega, rfl, hT2, World.grownBy.refl _ _⟩
          case round =>
            clear hT2
            obtain ⟨j, hj, rfl, hT, hbx⟩ := hrel
            by_cases h1 : j < 32
            · have hjI : (j : Int) < 32 := by omega
              have hjI0 : (0 : Int) ≤ (j : Int) := by omega
              obtain ⟨gp, hgp, hpk, hrow0⟩ := hP.at_ j h1
              have hLm : (l.take m).length = m := by rw [List.length_take]; omega
              have HPL : Hid (m = (polyOf (l.take m) j).length) := by show _ = _; rw [hg.poly_length j, hLm]
              rw [hLm] at hpk
              clear hLm
              have hrow : RowI .i64 wr (some ⟨gp, 0, none⟩) (polyOf (l.take m) j) := BlkI.row (t := 3) (BlkV.grown (BlkI.v hrow0) hbx (by intro e; cases e; omega))
              have hIX := fun w => run_indexS (P := Try.prog) w 60 24 3 32 Try.underlying60 Try.underlying24 sizeSl ps j h1 _ hpk
              obtain ⟨v, Hv⟩ : ∃ v, Hid (v = V j) := ⟨_, rfl⟩
              have hvv : ev (polyOf (l.take m) j) x % 257 = v := by rw [Hv.out, HV'.out]; exact hg.val j x
              have hvb := ev_bd (polyOf (l.take m) j) x
              rw [hvv] at hvb
              have hvw : IntKind.u16.wrap v = v := IntWalk.u16_in _ (by omega)
              have cT := hT.cell (17 + j)
              rw [shTo_get x V hhl hj h1] at cT
              have fT := hT.frozen (17 + j)
              have HROW := hid hrow
              have HEV := hid hvv
              clear hpk hrow0 hrow hvv
              go_wp2_with (go_at_call 20; refine (value_q _ _ _ _ _ HPL.out HROW.out (hg.poly_rng j) (by omega) (by omega) v HEV.out).mono ?_; rintro e w1 ⟨rfl, rfl⟩)
              go_roundw
              case rel => exact ⟨j + 1, by omega, by go_num, by rw [← shTo_set x V hhl h1, ← Hv.out]; exact hT.set (17 + j) _, grown_set hbx _ _⟩
              case measure => simp [intOf] <;> omega
            · obtain rfl : j = 32 := by omega
              have HTL2 := hid ((shTo_ok (V := V) (k := 32) hhl hho hxb hVb (by omega)).csl)
              have hT1 := cs_one (shTo h x V 32)
              rw [← HFF.out.2] at HTL2 hT1 hT
              have haT := hT.at0
              have hRx := hR2.grown hbx (by intro e; cases e; omega)
              go_wp2_with (first | (refine wl_load rfl 41 _ rfl ⟨M, 0, none⟩ rfl S (by rw [HTL2.out]; exact aggS) haT ?_; clear haT) | (refine wl_storeV rfl 41 _ _ rfl 41 (w.heap.size + 1) rfl S rfl 49 aggS HTL2.out Z hRx HZL.out hT1 ?_; intro wS hS hbS hsS))
              (try simp only [Exit.inBlock, Exit.then]); refine bodyPost_ret (results_cell2 rfl _ _ _ _ rfl S (by rw [HTL2.out]; exact aggS) hS.at0) rfl ?_
              have hbb := hbw2.trans ((below_of_grown (B := w.heap.size) hbx (by have := hR2.lt; omega) (by omega)).trans (hbS.mono (Nat.le_succ _)))
              exact ⟨rv (by rw [HFF.out.1]; rfl), hbb⟩
    · have hx' : (!inB x 1 256) = true := by simpa using hx
      have HF : Hid (A = 4 ∧ S = Z) := by
        have e : addE need l h x = 4 := by unfold addE; rw [← HE.out, if_neg (by simp [hE]), if_pos (by simpa using hx)]
        exact ⟨by rw [HA.out, e], by rw [HS.out, HZ.out]; unfold addS; rw [if_neg (by rw [e]; decide)]⟩
      have hE' : (E != 0) = false := by simp [hE]
      clear hx hE
      go_enter Try.func9, Try.ntmps9
      go_wp2_with (first | (refine wl_alloc rfl 41 rfl Z HZ0.out ?_) | (go_at_call 27; refine HC.out.mono ?_; rintro e w1 ⟨rfl, hb1⟩) | (go_at_call 18; refine (outside_any _ _ _ _).mono ?_; rintro e w2 ⟨rfl, rfl⟩) | (refine wl_build0 rfl 41 rfl Z HBU.out ?_) | (refine wl_storeV rfl 41 _ _ rfl 41 (w.heap.size + 1) rfl Z rfl 49 aggS HZL.out Z (hR0.below hb1 hR0.lt) HZL.out hZ1 ?_; intro wS hS hbS hsS))
      (try simp only [Exit.inBlock, Exit.then]); refine bodyPost_ret (results_cell2 rfl _ _ _ _ rfl Z (by rw [HZL.out]; exact aggS) hS.at0) rfl ?_
      have hbb := (hb0.trans (hb1.mono hb0.size)).trans (hbS.mono (by omega))
      exact ⟨rv (by rw [HF.out.1, HF.out.2]; rfl), hbb⟩
  · have HF : Hid (A = E ∧ S = Z) := by
      have e : addE need l h x = E := by unfold addE; rw [← HE.out, if_pos hE]
      exact ⟨by rw [HA.out, e], by rw [HS.out, HZ.out]; unfold addS; rw [if_neg (by rw [e]; exact hE)]⟩
    have hE' : (E != 0) = true := by simp [hE]
    clear hE
    go_enter Try.func9, Try.ntmps9
    go_wp2_with (first | (refine wl_alloc rfl 41 rfl Z HZ0.out ?_) | (go_at_call 27; refine HC.out.mono ?_; rintro e w1 ⟨rfl, hb1⟩) | (refine wl_build0 rfl 41 rfl Z HBU.out ?_) | (refine wl_storeV rfl 41 _ _ rfl 41 (w.heap.size + 1) rfl Z rfl 49 aggS HZL.out Z (hR0.below hb1 hR0.lt) HZL.out hZ1 ?_; intro wS hS hbS hsS))
    (try simp only [Exit.inBlock, Exit.then]); refine bodyPost_ret (results_cell2 rfl _ _ _ _ rfl Z (by rw [HZL.out]; exact aggS) hS.at0) rfl ?_
    have hbb := (hb0.trans (hb1.mono hb0.size)).trans (hbS.mono (by omega))
    exact ⟨rv (by rw [HF.out.1, HF.out.2]; rfl), hbb⟩
end Go.Proofs.Ytbjmadcbhkeenaa.shr
