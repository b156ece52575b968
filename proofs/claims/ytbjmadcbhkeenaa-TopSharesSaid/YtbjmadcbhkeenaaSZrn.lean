/-
  Contracts of share.Zero and share.Renew. Conditions: shares of the type's form, a seed of octets.
-/
import Derived.Test.YtbjmadcbhkeenaaSShXY
/- Contract of share.Zero. Conditions: shares of the type's form, a seed of octets. -/
namespace Go.Proofs.Ytbjmadcbhkeenaa.shr
open Go.RowKit Go.Proofs.Ytbjmadcbhkeenaa.sh Go.Proofs.Ytbjmadcbhkeenaa.Fld
set_option linter.unusedSimpArgs false
set_option linter.unusedVariables false
set_option pp.maxSteps 6000
/-- what Zero hands back of right shares -/
def ZeroPost (f : Nat → List Int) (l : List Sh) (w : World) (e : Ending) (w' : World) : Prop :=
  ∃ g cap', e = .returned (.tuple #[.slice (some ⟨g, 0, none⟩) l.length cap', .int .i64 0]) ∧ w.heap.size ≤ g ∧ l.length ≤ cap' ∧ RowB 41 w' g (flatS (onAll f l)) ∧ Below w.heap.size w w'
set_option maxRecDepth 100000 in
set_option maxHeartbeats 1000000 in
theorem Zero_ok (m : Nat) (ao : Option Addr) (cap : Nat) (l : List Sh) (seed : List Int) (w : World) (hr : RowS w ao l) (hok : ∀ s ∈ l, s.Ok) (hs : seed.length = 32) (hso : st.Octs seed) (hE : sharesE false m l = 0) :
    Calls Try.prog 26 #[.int .i64 m, .slice ao l.length cap, .agg (seed.map (Value.int .u8)).toArray] w (ZeroPost (polyZ m seed) l w) := by
  obtain ⟨m', hmm, hm1, hml, hl32, hea⟩ := sharesE_ok hE
  obtain rfl : m = m' := by omega
  have HX : Hid (∀ s ∈ l, 0 ≤ s.x ∧ s.x ≤ 256) := x_of_each hea
  have HOK := hid hok
  obtain ⟨KV, HKV⟩ : ∃ K, Hid (K = seed.map (Value.int .u8)) := ⟨_, rfl⟩
  have HKL : Hid (KV.length = 32) := by show _ = _; rw [HKV.out, List.length_map]; exact hs
  have HPO : Hid (∀ (o : Nat) (ho : o ≤ 255) (w : World), Calls Try.prog 19 #[.int .i64 0, .int .i64 m, .agg (seed.map (Value.int .u8)).toArray, .int .i64 1, .int .i64 o] w fun e w' => ∃ ao cap, e = .returned (.slice ao (polyZ m seed o).length cap) ∧ w'.ownsRow w.heap.size 3 1 (.slice ao (polyZ m seed o).length cap) (polyZ m seed o).length ((polyZ m seed o).map (Value.int .i64)) ∧ Below w.heap.size w w') := fun o ho w => polynomial_any 0 m seed 1 o w hs hso hm1 (by omega) (by decide) ho
  rw [← HKV.out] at HPO ⊢
  obtain ⟨f, HF⟩ : ∃ f, Hid (f = polyZ m seed) := ⟨_, rfl⟩
  rw [← HF.out] at HPO ⊢
  have HFr : Hid (∀ o, Rng (f o)) := fun o => by rw [HF.out]; exact polyZ_rng m seed o
  have HFl : Hid (∀ o, (f o).length ≤ 32) := fun o => by rw [HF.out]; exact Nat.le_trans (polyZ_len hm1 seed o) (by omega)
  have hb0 : Below w.heap.size w (w.alloc (.cells KV.toArray 23)) := (Below.refl _ _).alloc (Nat.le_refl _) _
  have hK0 : BlkV 23 (w.alloc (.cells KV.toArray 23)) w.heap.size KV := BlkV.new _ _ _ rfl
  have HC := hid (CheckShares_any m ao cap l _ (hr.below hb0) hok (by omega))
  rw [hE] at HC
  clear hok hea hmm hE
  go_enter Try.func26, Try.ntmps26
  go_wp2_with (go_at_call 27; refine HC.out.mono ?_; rintro e w1 ⟨rfl, hb1⟩)
  have hbw := hb0.trans (hb1.mono hb0.size)
  have hK1 := hK0.below hb1 hK0.lt
  have hr1 := hr.below hbw
  obtain ⟨B, HB⟩ : ∃ B, Hid (w1.heap.size = B) := ⟨_, rfl⟩
  have hKB : w.heap.size < B := by rw [← HB.out]; exact hK1.lt
  clear hb0 hK0 hb1 HC
  go_loopw [9, 23] (fun o i wr => ∃ (k : Nat) (ax : Option Addr) (cx : Nat), k ≤ l.length ∧ i = .int .i64 k ∧ o = .slice ax k cx ∧ wr.ownsRow B 41 49 (.slice ax k cx) k (flatS ((l.take k).map (toSh f 0))) ∧ Below B w1 wr) (fun _ i _ => l.length - (intOf i).toNat)
  case atStart => exact ⟨0, none, 0, Nat.zero_le _, rfl, rfl, World.ownsRow_nil _ _ _ _, Below.refl _ _⟩
  case round =>
    obtain ⟨k, ax, cx, hk, rfl, rfl, hO, hbl⟩ := hrel
    by_cases h0 : k < l.length
    · have hrr := hr1.below (by rw [HB.out]; exact hbl)
      obtain ⟨b, off, s, rfl, hb, HS, hat⟩ := hrr.elem (i := k) h0
      have hs : s.Ok := by rw [HS.out, getD_lt' l nil h0]; exact HOK.out _ (List.getElem_mem h0)
      have HCL := hid hs.csl
      have c1 := cs_one s
      obtain ⟨M, HM⟩ : ∃ M, Hid (wr.heap.size = M) := ⟨_, rfl⟩
      have hBM : B ≤ M := by rw [← HB.out, ← HM.out, HB.out]; exact Nat.le_trans (Nat.le_of_eq HB.out.symm) hbl.size
      have HHL := hid (show (s.h.map (Value.int .u8)).length = 16 by rw [List.length_map]; exact hs.hl)
      obtain ⟨z, Hz⟩ : ∃ z, Hid (z = toSh f 0 s) := ⟨_, rfl⟩
      have hzok : z.Ok := by rw [Hz.out]; exact toSh_ok f (by omega) hs
      have HBT : Hid (Try.prog.built 41 [(0, .agg (s.h.map (Value.int .u8)).toArray), (1, .int .i64 s.x)] = some z.cs.toArray) := by rw [Hz.out]; exact built_sh hs.hl s.x (vals f s)
      have HZC := hid hzok.csl
      have HOA := hid (map_succ (toSh f 0) l k h0)
      rw [← HS.out, ← Hz.out] at HOA
      have hok1 : ∀ t ∈ (l.take k).map (toSh f 0), t.Ok := fun t ht => by
        obtain ⟨u, hu, rfl⟩ := List.mem_map.1 ht
        exact toSh_ok f (by omega) (HOK.out u (List.mem_of_mem_take hu))
      go_wp2_with (first | (refine wl_load rfl 41 _ rfl ⟨b, off + k * 49, none⟩ rfl s.cs (by rw [HCL.out]; exact aggS) hat ?_; clear hat) | (refine wl_allocV rfl 41 rfl sh0.cs sh0_zero M HM.out ?_; intro wA hA hbA hsA) | (refine wl_storeV rfl 41 _ _ rfl 41 M rfl s.cs rfl 49 aggS HCL.out sh0.cs hA sh0_len c1 ?_; intro wC hC hbC hsC; have cX := (hC.cell 16).trans (cs_x s hs); have aH := at_h hs hC; have hbC' := hbA.trans hbC; have hsC' : wC.heap.size = M + 1 := (by omega); clear hA hbA hbC hsA hsC) | (refine wl_load rfl 28 _ rfl ⟨M, 0, none⟩ rfl (s.h.map (Value.int .u8)) (by rw [HHL.out]; exact aggID) aH ?_; clear aH) | (refine wl_build2 rfl 41 0 1 _ _ rfl _ _ rfl rfl z.cs HBT.out ?_) | (refine wl_slice1 rfl 29 41 _ rfl Try.underlying29 49 sh0.cs (by kernel_rfl) sh0_len (by decide) (by decide) z.cs rfl HZC.out (M + 1) hsC' ?_; intro wG hG hbG hsG; have hbG' := hbC'.trans (hbG.mono (by omega)); have hOG := ownsRow_below hO M HM.out hbG') | (at_builtin; refine wl_appendSh rfl _ _ rfl B (.slice ax k cx) k ((l.take k).map (toSh f 0)) rfl (Or.inl hOG) (some ⟨M + 1, 0, none⟩) 1 1 rfl (fun h => by cases h) [z] rfl (RowS.of_blk hG) (fun t ht => by rw [List.mem_singleton.1 ht]; exact hzok) hok1 (by omega) (by omega) (k + 1) rfl ?_; intro aoA capA wA rowA hcapA hMA hVA hgA hrowA))
      have hbA : Below B w1 wA := (hbl.trans (hbG'.mono (by omega))).grown hgA (by omega) (fun k hk => (hrowA k hk).1)
      go_roundw
      case rel =>
        refine ⟨k + 1, aoA, capA, by omega, by go_num, rfl, ?_, hbA⟩
        rw [HOA.out]
        exact st.own_of_mine hMA (by omega)
      case measure => simp [intOf] <;> omega
    · obtain rfl : k = l.length := by omega
      rw [List.take_length] at hO
      obtain ⟨g, cap', hv, hBg, hcap, hG⟩ := RowB.of_owns hO (by omega)
      cases hv
      have hbw1 : Below w.heap.size w wr := hbw.trans (hbl.mono (by rw [← HB.out]; exact hbw.size))
      have hKr := hK1.below hbl hKB
      obtain ⟨wS, HWS⟩ : ∃ u, Hid (u = wr) := ⟨_, rfl⟩
      have hG0 : RowB 41 wr g (flatS (stp f l 0 0)) := by rw [stp_zero]; exact hG
      rw [← HWS.out] at hbw1 hKr hG hbl
      have hSg := hG.lt
      clear hG hO hK1 hr1
      go_wp2_with fail
      go_loopw [36] (fun i wx => ∃ o : Nat, o ≤ 32 ∧ i = .int .i64 o ∧ RowB 41 wx g (flatS (stp f l o 0)) ∧ wS.grownBy wx (some g)) (fun i _ => 32 - (intOf i).toNat)
      case atStart => exact ⟨0, by omega, rfl, hG0, by rw [HWS.out]; exact World.grownBy.refl _ _⟩
      case round =>
        clear hG0
        obtain ⟨o, ho, rfl, hG, hgr⟩ := hrel
        by_cases h1 : o < 32
        · have hoI : (o : Int) < 32 := by omega
          have haK := (hKr.grown hgr (by simp; omega)).at0
          have HP1 := hid (HPO.out o (by omega) wr)
          go_wp2_with (first | (refine wl_load rfl 23 _ rfl ⟨w.heap.size, 0, none⟩ rfl KV (by rw [HKL.out]; exact aggKey) haK ?_; clear haK) | (go_at_call 19; refine HP1.out.mono ?_; rintro e w5 ⟨pa, pc, rfl, hpo, hb5⟩))
          have hG5 := hG.below hb5 hG.lt
          have hgr5 : wS.grownBy w5 (some g) := hgr.trans (grown_below hb5)
          obtain ⟨R, HR⟩ : ∃ R, Hid (wr.heap.size = R) := ⟨_, rfl⟩
          have hgR : g < R := by rw [← HR.out]; exact hG.lt
          rw [HR.out] at hpo
          clear HP1 hb5 hG hgr
          go_loopw [45] (fun i wx => ∃ j : Nat, j ≤ l.length ∧ i = .int .i64 j ∧ RowB 41 wx g (flatS (stp f l o j)) ∧ w5.grownBy wx (some g)) (fun i _ => l.length - (intOf i).toNat)
          case atStart => exact ⟨0, Nat.zero_le _, rfl, hG5, World.grownBy.refl _ _⟩
          case round =>
            clear hG5
            obtain ⟨j, hj, rfl, hG, hgx⟩ := hrel
            by_cases h2 : j < l.length
            · have hjI : (j : Int) < (l.length : Int) := by omega
              have hjI0 : (0 : Int) ≤ (j : Int) := by omega
              have hoI : (o : Int) < 32 := by omega
              have hoI0 : (0 : Int) ≤ (o : Int) := by omega
              obtain ⟨x, Hx⟩ : ∃ x, Hid (x = (l.getD j nil).x) := ⟨_, rfl⟩
              obtain ⟨v, Hv⟩ : ∃ v, Hid (v = vals f (l.getD j nil) o) := ⟨_, rfl⟩
              have hsx : 0 ≤ x ∧ x ≤ 256 := by rw [Hx.out]; exact HX.out _ (getD_mem l j h2)
              have hvv : ev (f o) x % 257 = v := by rw [Hv.out, Hx.out]; rfl
              have hvb := ev_bd (f o) x
              rw [hvv] at hvb
              have hvw : IntKind.u16.wrap v = v := IntWalk.u16_in _ (by omega)
              have cX := hG.cell (stp_x f HOK.out h1 h2)
              rw [← Hx.out] at cX
              obtain ⟨c, hc⟩ := stp_y f HOK.out h1 h2
              have cY := hG.cell hc
              have fY := hG.frozen (j * 49 + (17 + o))
              rw [← Nat.add_assoc] at cY fY
              have hcall := hid (value_q pa pc (f o) x wr.drew rfl (row_of_owns (owns_set hpo hgx hgR)).drew (HFr.out o) hsx (by have := HFl.out o; omega) v hvv)
              clear hvv hc
              go_wp2_with fail
              refine wp_region_still_tail 14 (by kernel_rfl) (by kernel_rfl) ?_
              simp only [List.take_succ_cons, List.take_zero, List.drop_succ_cons, List.drop_zero]
              change wpStill _ _ wr.drew (fun a' => wpList _ _ _ _ a' wr.drew) _ _
              repeat still_step
              still_call hcall.out
              repeat still_step
              refine wpStill_nil ?_
              go_wp2
              go_roundw
              case rel => exact ⟨j + 1, by omega, by go_num, by rw [← stp_flat f HOK.out h1 h2, ← Hv.out, ← Nat.add_assoc]; exact hG.drew.set _ _, grown_set (grown_drew hgx) _ _⟩
              case measure => simp [intOf] <;> omega
            · obtain rfl : j = l.length := by omega
              rw [stp_all] at hG
              go_wp2
              go_roundw
              case rel => exact ⟨o + 1, by omega, by go_num, hG, hgr5.trans hgx⟩
              case measure => simp [intOf] <;> omega
        · obtain rfl : o = 32 := by omega
          rw [stp_zero, stp_end] at hG
          go_wp2
          go_ret2
          have hBl := below_of_grown (B := w.heap.size) hgr hbw1.size (by omega)
          exact ⟨g, cx, rfl, by omega, hcap, hG, hbw1.trans hBl⟩
end Go.Proofs.Ytbjmadcbhkeenaa.shr
/- Contract of share.Renew. Conditions: shares of the type's form, a seed of octets. -/
namespace Go.Proofs.Ytbjmadcbhkeenaa.shr
open Go.RowKit Go.Proofs.Ytbjmadcbhkeenaa.sh Go.Proofs.Ytbjmadcbhkeenaa.Fld
set_option linter.unusedSimpArgs false
set_option linter.unusedVariables false
set_option pp.maxSteps 6000
theorem shTo_put {h : List Int} (x : Int) (V V' : Nat → Int) {k : Nat} (hl : h.length = 16) (hk : k < 32) (hV : ∀ o, o ≠ k → V' o = V o) : (shTo h x V 32).cs.set (17 + k) (.int .u16 (V' k)) = (shTo h x V' 32).cs := by
  unfold shTo Sh.cs
  simp only []
  rw [List.set_append_right _ _ (by simp [hl]; omega)]
  congr 1
  have e : 17 + k - (h.map (Value.int .u8)).length = k + 1 := by simp [hl]; omega
  rw [e, List.set_cons_succ, ← List.map_set, st.fillTo_all, st.fillTo_all]
  congr 2
  apply List.ext_getElem
  · simp
  · intro i h1 h2
    simp only [List.length_map, List.length_range] at h2
    rw [List.getElem_set]
    split
    · rename_i e; subst e; simp
    · rename_i e; simp [hV i (fun h => e h.symm)]
/-- the values of a share made new; the share; a share of which the first k values are new -/
def renV (f : Nat → List Int) (s : Sh) (o : Nat) : Int := (s.y.getD o 0 + vals f s o) % 257
def renSh (f : Nat → List Int) (s : Sh) : Sh := shTo s.h s.x (renV f s) 32
def mixV (f : Nat → List Int) (s : Sh) (k : Nat) (o : Nat) : Int := if o < k then renV f s o else vals f s o
def mixSh (f : Nat → List Int) (s : Sh) (k : Nat) : Sh := shTo s.h s.x (mixV f s k) 32
def rst (f : Nat → List Int) (l : List Sh) (i k : Nat) : List Sh := (l.take i).map (renSh f) ++ mixSh f (l.getD i nil) k :: (l.drop (i + 1)).map (onSh f)
def rws (f : Nat → List Int) (l : List Sh) (i : Nat) : List Sh := (l.take i).map (renSh f) ++ (l.drop i).map (onSh f)
theorem mixV_bd (f : Nat → List Int) (s : Sh) (k o : Nat) : 0 ≤ mixV f s k o ∧ mixV f s k o ≤ 65535 := by
  unfold mixV renV
  split
  · omega
  · exact vals_bd f s o
theorem mixSh_ok (f : Nat → List Int) {s : Sh} (hs : s.Ok) (k : Nat) : (mixSh f s k).Ok := shTo_ok hs.hl hs.hb hs.xb (mixV_bd f s k) (by decide)
theorem renSh_ok (f : Nat → List Int) {s : Sh} (hs : s.Ok) : (renSh f s).Ok := shTo_ok hs.hl hs.hb hs.xb (fun o => by unfold renV; omega) (by decide)
theorem mix_zero (f : Nat → List Int) (s : Sh) : mixSh f s 0 = onSh f s := by
  unfold mixSh onSh
  congr 1
theorem fillTo_congr {V V' : Nat → Int} (h : ∀ o, o < 32 → V o = V' o) : st.fillTo V 32 32 = st.fillTo V' 32 32 := by
  rw [st.fillTo_all, st.fillTo_all]
  exact List.map_congr_left fun o ho => h o (by simpa using ho)
theorem mix_all (f : Nat → List Int) (s : Sh) : mixSh f s 32 = renSh f s := by
  unfold mixSh renSh shTo
  rw [fillTo_congr fun o ho => by unfold mixV; rw [if_pos ho]]
theorem mix_set (f : Nat → List Int) {s : Sh} (hs : s.Ok) {k : Nat} (hk : k < 32) : (mixSh f s k).cs.set (17 + k) (.int .u16 (renV f s k)) = (mixSh f s (k + 1)).cs := by
  have h := shTo_put s.x (mixV f s k) (mixV f s (k + 1)) hs.hl hk (fun o ho => by
    unfold mixV
    by_cases h : o < k
    · rw [if_pos h, if_pos (by omega)]
    · rw [if_neg h, if_neg (by omega)])
  have e : mixV f s (k + 1) k = renV f s k := by unfold mixV; rw [if_pos (by omega)]
  rw [e] at h
  exact h
theorem rst_length (f : Nat → List Int) {l : List Sh} {i : Nat} (hi : i < l.length) (k : Nat) : (rst f l i k).length = l.length := by unfold rst; simp; omega
theorem rst_zero (f : Nat → List Int) {l : List Sh} {i : Nat} (hi : i < l.length) : rst f l i 0 = rws f l i := by
  unfold rst rws
  rw [mix_zero, List.drop_eq_getElem_cons hi, List.map_cons, getD_lt' l nil hi]
theorem rst_all (f : Nat → List Int) {l : List Sh} {i : Nat} (hi : i < l.length) : rst f l i 32 = rws f l (i + 1) := by
  unfold rst rws
  rw [mix_all, map_succ (renSh f) l i hi]
  simp
theorem rst_get (f : Nat → List Int) {l : List Sh} {i : Nat} (hi : i < l.length) (k : Nat) : (rst f l i k).getD i nil = mixSh f (l.getD i nil) k := by
  unfold rst
  rw [List.getD_eq_getElem?_getD, List.getElem?_append_right (by simp; omega)]
  simp [Nat.min_eq_left (Nat.le_of_lt hi)]
theorem rst_set (f : Nat → List Int) {l : List Sh} {i : Nat} (hi : i < l.length) (k : Nat) : (rst f l i k).set i (mixSh f (l.getD i nil) (k + 1)) = rst f l i (k + 1) := by
  unfold rst
  rw [List.set_append_right _ _ (by simp; omega)]
  simp [Nat.min_eq_left (Nat.le_of_lt hi)]
theorem rst_ok (f : Nat → List Int) {l : List Sh} (hl : ∀ s ∈ l, s.Ok) {i : Nat} (hi : i < l.length) (k : Nat) : ∀ s ∈ rst f l i k, s.Ok := by
  intro s hs
  unfold rst at hs
  rcases List.mem_append.1 hs with h | h
  · obtain ⟨t, ht, rfl⟩ := List.mem_map.1 h
    exact renSh_ok f (hl t (List.mem_of_mem_take ht))
  · rcases List.mem_cons.1 h with rfl | h
    · exact mixSh_ok f (hl _ (getD_mem l i hi)) k
    · obtain ⟨t, ht, rfl⟩ := List.mem_map.1 h
      exact onSh_ok f (hl t (List.mem_of_mem_drop ht))
theorem rst_flat (f : Nat → List Int) {l : List Sh} (hl : ∀ s ∈ l, s.Ok) {k : Nat} (hk : k < 32) {i : Nat} (hi : i < l.length) : (flatS (rst f l i k)).set (i * 49 + (17 + k)) (.int .u16 (renV f (l.getD i nil) k)) = flatS (rst f l i (k + 1)) := by
  have hs := hl _ (getD_mem l i hi)
  rw [flatS_set (rst f l i k) (rst_ok f hl hi k) i (17 + k) (by rw [rst_length f hi]; exact hi) (by omega) _ (mixSh f (l.getD i nil) (k + 1)) (by rw [rst_get f hi]; exact mix_set f hs hk), rst_set f hi]
theorem rst_y (f : Nat → List Int) {l : List Sh} (hl : ∀ s ∈ l, s.Ok) {k : Nat} (hk : k < 32) {i : Nat} (hi : i < l.length) : (flatS (rst f l i k))[i * 49 + (17 + k)]? = some (.int .u16 (vals f (l.getD i nil) k)) := by
  have hs := hl _ (getD_mem l i hi)
  rw [flatS_get _ (rst_ok f hl hi k) i (17 + k) (by rw [rst_length f hi]; exact hi) (by omega), rst_get f hi]
  unfold mixSh
  rw [shTo_get _ _ hs.hl (by omega) hk, st.fillTo_all]
  simp [List.getD_eq_getElem?_getD, hk, mixV]
theorem rws_zero (f : Nat → List Int) (l : List Sh) : rws f l 0 = onAll f l := by unfold rws onAll; simp
def renAll (f : Nat → List Int) (l : List Sh) : List Sh := l.map (renSh f)
theorem rws_all (f : Nat → List Int) (l : List Sh) : rws f l l.length = renAll f l := by unfold rws renAll; simp
/-- what Renew hands back of right shares -/
def RenewPost (f : Nat → List Int) (l : List Sh) (w : World) (e : Ending) (w' : World) : Prop :=
  ∃ g cap', e = .returned (.tuple #[.slice (some ⟨g, 0, none⟩) l.length cap', .int .i64 0]) ∧ w.heap.size ≤ g ∧ l.length ≤ cap' ∧ RowB 41 w' g (flatS (renAll f l)) ∧ Below w.heap.size w w'
set_option maxRecDepth 100000 in
set_option maxHeartbeats 1000000 in
theorem Renew_ok (m : Nat) (ao : Option Addr) (cap : Nat) (l : List Sh) (seed : List Int) (w : World) (hr : RowS w ao l) (hok : ∀ s ∈ l, s.Ok) (hs : seed.length = 32) (hso : st.Octs seed) (hE : sharesE false m l = 0) :
    Calls Try.prog 7 #[.int .i64 m, .slice ao l.length cap, .agg (seed.map (Value.int .u8)).toArray] w (RenewPost (polyZ m seed) l w) := by
  obtain ⟨m', hmm, hm1, hml, hl32, hea⟩ := sharesE_ok hE
  obtain rfl : m = m' := by omega
  have HY : Hid (∀ s ∈ l, ∀ o, 0 ≤ s.y.getD o 0 ∧ s.y.getD o 0 ≤ 256) := fun s hs o => by
    obtain ⟨i, hi, rfl⟩ := List.getElem_of_mem hs
    have := fault_zero (fault_all l hea i hi)
    rw [getD_lt' l nil hi] at this
    exact rng_y (hok _ (List.getElem_mem hi)) this.2.2 o
  have HZ := hid (fun w hr => Zero_ok m ao cap l seed w hr hok hs hso hE)
  have HOK := hid hok
  obtain ⟨KV, HKV⟩ : ∃ K, Hid (K = seed.map (Value.int .u8)) := ⟨_, rfl⟩
  have HKL : Hid (KV.length = 32) := by show _ = _; rw [HKV.out, List.length_map]; exact hs
  rw [← HKV.out] at HZ ⊢
  obtain ⟨f, HF⟩ : ∃ f, Hid (f = polyZ m seed) := ⟨_, rfl⟩
  rw [← HF.out] at HZ ⊢
  have hb0 : Below w.heap.size w (w.alloc (.cells KV.toArray 23)) := (Below.refl _ _).alloc (Nat.le_refl _) _
  have hK0 : BlkV 23 (w.alloc (.cells KV.toArray 23)) w.heap.size KV := BlkV.new _ _ _ rfl
  have hsz0 : (w.alloc (.cells KV.toArray 23)).heap.size = w.heap.size + 1 := by simp
  clear hok hea hmm hE
  go_enter Try.func7, Try.ntmps7
  go_wp2_with (first | (refine wl_load rfl 23 _ rfl ⟨w.heap.size, 0, none⟩ rfl KV (by rw [HKL.out]; exact aggKey) hK0.at0 ?_) | (go_at_call 26; refine (HZ.out _ (hr.below hb0)).mono ?_; rintro e wS ⟨g, cx, rfl, hgB, hcap, hG, hb1⟩))
  rw [hsz0] at hgB hb1
  have hbw := hb0.trans (hb1.mono (by omega))
  have hrS := hr.below hbw
  have hG0 : RowB 41 wS g (flatS (rws f l 0)) := by rw [rws_zero]; exact hG
  have hgS := hG.lt
  have hl1 : l.length ≤ 9223372036854775807 := by omega
  clear hb0 hK0 hsz0 hb1 hG
  go_loopw [26] (fun i wr => ∃ k : Nat, k ≤ l.length ∧ i = .int .i64 k ∧ RowB 41 wr g (flatS (rws f l k)) ∧ wS.grownBy wr (some g)) (fun i _ => l.length - (intOf i).toNat)
  case atStart => exact ⟨0, Nat.zero_le _, rfl, hG0, World.grownBy.refl _ _⟩
  case round =>
    clear hG0
    obtain ⟨k, hk, rfl, hG, hgr⟩ := hrel
    by_cases h0 : k < l.length
    · have hkI : (k : Int) < (l.length : Int) := by omega
      have hkI0 : (0 : Int) ≤ (k : Int) := by omega
      have hbS : Below (w.heap.size + 1) wS wr := below_of_grown hgr (by omega) hgB
      obtain ⟨b, off, s, rfl, hb, HS, hat0⟩ := hr.elem (i := k) h0
      have hat := At.belowB (At.below hat0 hbw hb) hbS (Nat.lt_succ_of_lt hb)
      have hs : s.Ok := by rw [HS.out]; exact HOK.out _ (getD_mem l k h0)
      have HCL := hid hs.csl
      have c1 := cs_one s
      obtain ⟨M, HM⟩ : ∃ M, Hid (wr.heap.size = M) := ⟨_, rfl⟩
      have HYL := hid (show (s.y.map (Value.int .u16)).length = 32 by rw [List.length_map]; exact hs.yl)
      have hgM : g < M := by rw [← HM.out]; exact hG.lt
      clear hat0
      go_wp2_with (first | (refine wl_load rfl 41 _ rfl ⟨b, off + k * 49, none⟩ rfl s.cs (by rw [HCL.out]; exact aggS) hat ?_; clear hat) | (refine wl_allocV rfl 41 rfl sh0.cs sh0_zero M HM.out ?_; intro wA hA hbA hsA) | (refine wl_storeV rfl 41 _ _ rfl 41 M rfl s.cs rfl 49 aggS HCL.out sh0.cs hA sh0_len c1 ?_; intro wC hC hbC hsC; have aY := at_y hs hC; have hbC' := hbA.trans hbC; clear hA hbA hbC hsA hsC hC) | (refine wl_load rfl 39 _ rfl ⟨M, 17, none⟩ rfl (s.y.map (Value.int .u16)) (by rw [HYL.out]; exact aggY) aY ?_; clear aY))
      have hGC := hG.below hbC' hgM
      rw [← rst_zero f h0] at hGC
      have hgC : wS.grownBy wC (some g) := hgr.trans (grown_below (by rw [HM.out]; exact hbC'))
      obtain ⟨YV, HYV⟩ : ∃ Y, Hid (Y = s.y.map (Value.int .u16)) := ⟨_, rfl⟩
      rw [← HYV.out]
      clear hG hgr hbC' hbS HYL
      go_loopw [33] (fun i wx => ∃ j : Nat, j ≤ 32 ∧ i = .int .i64 j ∧ RowB 41 wx g (flatS (rst f l k j)) ∧ wC.grownBy wx (some g)) (fun i _ => 32 - (intOf i).toNat)
      case atStart => exact ⟨0, by omega, rfl, hGC, World.grownBy.refl _ _⟩
      case round =>
        clear hGC
        obtain ⟨j, hj, rfl, hG, hgx⟩ := hrel
        by_cases h1 : j < 32
        · have hjI : (j : Int) < 32 := by omega
          have hjI0 : (0 : Int) ≤ (j : Int) := by omega
          obtain ⟨y, Hy⟩ : ∃ y, Hid (y = s.y.getD j 0) := ⟨_, rfl⟩
          obtain ⟨v, Hv⟩ : ∃ v, Hid (v = vals f (l.getD k nil) j) := ⟨_, rfl⟩
          have hyb : 0 ≤ y ∧ y ≤ 256 := by rw [Hy.out, HS.out]; exact HY.out _ (getD_mem l k h0) j
          have hvb : 0 ≤ v ∧ v ≤ 256 := by rw [Hv.out]; unfold vals; omega
          have hIX := fun w => st.run_index1 (P := Try.prog) w 39 38 32 Try.underlying39 .u16 Try.underlying38 size16 YV j h1 (.int .u16 y) (by rw [HYV.out, Hy.out, List.getElem?_map, List.getElem?_eq_getElem (by rw [hs.yl]; exact h1), getD_lt' s.y 0 (by rw [hs.yl]; exact h1)]; rfl)
          have cY := hG.cell (rst_y f HOK.out h1 h0)
          rw [← Hv.out] at cY
          have fY := hG.frozen (k * 49 + (17 + j))
          rw [← Nat.add_assoc] at cY fY
          have hw1 : IntKind.u16.wrap (v + y) = v + y := IntWalk.u16_in _ (by omega)
          have hwm : (v + y).tmod 257 = (v + y) % 257 := Int.tmod_eq_emod_of_nonneg (by omega)
          have hrv : (v + y) % 257 = renV f (l.getD k nil) j := by unfold renV; rw [Hv.out, Hy.out, HS.out, Int.add_comm]
          have Hrv := hid hrv
          clear hrv
          go_wp2_with fail
          refine wp_region_still_tail 16 (by kernel_rfl) (by kernel_rfl) ?_
          simp only [List.take_succ_cons, List.take_zero, List.drop_succ_cons, List.drop_zero]
          change wpStill _ _ wr.drew (fun a' => wpList _ _ _ _ a' wr.drew) _ _
          repeat still_step
          refine wpStill_nil ?_
          go_wp2
          go_roundw
          case rel => exact ⟨j + 1, by omega, by go_num, by rw [← rst_flat f HOK.out h1 h0, ← Hrv.out, ← Nat.add_assoc]; exact hG.drew.set _ _, grown_set (grown_drew hgx) _ _⟩
          case measure => simp [intOf] <;> omega
        · obtain rfl : j = 32 := by omega
          rw [rst_all f h0] at hG
          go_wp2
          go_roundw
          case rel => exact ⟨k + 1, by omega, by go_num, hG, hgC.trans hgx⟩
          case measure => simp [intOf] <;> omega
    · obtain rfl : k = l.length := by omega
      rw [rws_all] at hG
      go_wp2
      go_ret2
      have hBl := below_of_grown (B := w.heap.size) hgr hbw.size (by omega)
      exact ⟨g, cx, rfl, by omega, hcap, hG, hbw.trans hBl⟩
end Go.Proofs.Ytbjmadcbhkeenaa.shr
