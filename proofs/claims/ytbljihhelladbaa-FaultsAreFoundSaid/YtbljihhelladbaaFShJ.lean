/-
  Contract of keyref2.SharesError. Conditions: shares of the type's form.
-/
import Derived.Test.YtbljihhelladbaaFShH
import Derived.Test.YtbljihhelladbaaFStX
namespace Go.Proofs.Ytbljihhelladbaa.shr
set_option linter.unusedVariables false
open Go.RowKit Go.Proofs.Ytbljihhelladbaa.sh
set_option linter.unusedSimpArgs false
set_option pp.maxSteps 6000
theorem First_three (x y z W : Int) (w w0 : World) (hw : w0 = w.alloc (.cells #[.int .i64 x, .int .i64 y, .int .i64 z] 27)) (hW : Hid (W = firstE [x, y, z])) :
    Calls Try.prog 23 #[.slice (some ⟨w.heap.size, 0, none⟩) 3 3] w0 fun e w' => e = .returned (.int .i64 W) ∧ w0 = w' := by
  subst hw
  have h : RowI .i64 (w.alloc (.cells #[.int .i64 x, .int .i64 y, .int .i64 z] 27)) (some ⟨w.heap.size, 0, none⟩) [x, y, z] := by
    refine Or.inr ⟨_, _, rfl, by simp, fun i hi => ?_⟩
    rw [World.cell?_alloc_at _ _ _ _ (by simp)]
    match i, hi with
    | 0, _ => rfl
    | 1, _ => rfl
    | 2, _ => rfl
  refine (First_any _ 3 [x, y, z] _ h (by simp)).mono fun e w' ⟨h1, h2⟩ => ⟨?_, h2⟩
  rw [h1, hW.out]
def wantE (few : Bool) (need : Int) (l : List Sh) : Int := firstE [whenE (!inB need 1 32) 4, whenE (!few && decide ((l.length : Int) < need)) 18, whenE (decide ((32 : Int) < (l.length : Int))) 5]
theorem len32 (l : List Sh) : decide ((32 : Int) < (l.length : Int)) = decide (32 < l.length) := decide_eq_decide.2 (by omega)
theorem sharesE_want (few : Bool) (need : Int) (l : List Sh) : sharesE few need l = if wantE few need l = 0 then eachE l else wantE few need l := by
  unfold sharesE wantE
  rw [len32]
  generalize decide ((l.length : Int) < need) = b1
  by_cases h2 : 32 < l.length
  · cases inB need 1 32 <;> cases few <;> cases b1 <;> simp [h2, firstE, whenE]
  · cases inB need 1 32 <;> cases few <;> cases b1 <;> simp [h2, firstE, whenE]
theorem want_len {few : Bool} {need : Int} {l : List Sh} (h : wantE few need l = 0) : l.length ≤ 32 := by
  refine Classical.byContradiction fun hc => ?_
  unfold wantE at h
  rw [len32, show decide (32 < l.length) = true by simp; omega] at h
  generalize decide ((l.length : Int) < need) = b1 at h
  revert h
  cases inB need 1 32 <;> cases few <;> cases b1 <;> simp [firstE, whenE]
theorem size16 : (Try.prog.info? 58).map (·.size) = some 1 := by kernel_rfl
theorem badY_of (s : Sh) (m : Nat) (hm : m < s.y.length) (h : 256 < s.y.getD m 0) : badY s = true := by
  unfold badY
  rw [List.any_eq_true]
  exact ⟨s.y.getD m 0, by rw [getD_lt' s.y 0 hm]; exact List.getElem_mem hm, by simp only [decide_eq_true_eq]; omega⟩
theorem badY_not (s : Sh) (h : ∀ i, i < s.y.length → s.y.getD i 0 ≤ 256) : badY s = false := by
  unfold badY
  rw [List.any_eq_false]
  intro c hc
  obtain ⟨i, hi, rfl⟩ := List.getElem_of_mem hc
  have := h i hi
  rw [getD_lt' s.y 0 hi] at this
  simp only [decide_eq_true_eq]
  omega
set_option maxRecDepth 100000 in
theorem SharesError_any (few : Bool) (need : Int) (ao : Option Addr) (cap : Nat) (l : List Sh) (w : World) (hr : RowS w ao l) (hok : ∀ s ∈ l, s.Ok) (hn : l.length ≤ 9223372036854775807) (hcap : l.length ≤ cap) :
    Calls Try.prog 30 #[.int .i64 need, .slice ao l.length cap, .bool few] w fun e w' => e = .returned (.int .i64 (sharesE few need l)) ∧ Below w.heap.size w w' := by
  have hmf : ∀ (fn : Fn) (first cap : Array Value) (w : World), (Instr.makeFunc fn first cap).run Try.prog w = .ok (.func fn first cap) w := fun _ _ _ _ => rfl
  have HOK := hid hok
  clear hok
  obtain ⟨W, HW⟩ : ∃ W, Hid (W = wantE few need l) := ⟨_, rfl⟩
  rw [sharesE_want, ← HW.out]
  by_cases hW : W = 0
  · have HW0 := hid hW
    have hW' : (W != 0) = false := by simp [hW]
    rw [if_pos hW]
    have hlen : l.length ≤ 32 := want_len (by rw [← HW.out]; exact hW)
    clear hW
    cases few
    · go_enter Try.func30, Try.ntmps30
      go_wp2_with (first | (go_at_call 16; refine (In_any _ _ _ _).mono ?_; rintro e w1 ⟨rfl, rfl⟩) | (go_at_call 21; refine (When_any _ _ _).mono ?_; rintro e w1 ⟨rfl, rfl⟩) | (go_at_call 23; refine (First_three _ _ _ W w _ rfl HW).mono ?_; rintro e w1 ⟨rfl, rfl⟩))
      have hb0 : Below w.heap.size w (w.alloc (.cells #[.int .i64 (whenE (!inB need 1 32) 4), .int .i64 (whenE (decide ((l.length : Int) < need)) 18), .int .i64 (whenE (decide ((32 : Int) < (l.length : Int))) 5)] 27)) := (Below.refl _ _).alloc (Nat.le_refl _) _
      go_loopw [36] (fun i wr => ∃ k : Nat, k ≤ l.length ∧ i = .int .i64 k ∧ Hid (eachTo l k = 0) ∧ Below w.heap.size w wr) (fun i _ => l.length - (intOf i).toNat)
      case atStart => exact ⟨0, Nat.zero_le _, rfl, rfl, (Below.refl _ _).alloc (Nat.le_refl _) _⟩
      case round =>
        obtain ⟨k, hk, rfl, HE, hbl⟩ := hrel
        by_cases h0 : k < l.length
        · obtain ⟨b, off, s, rfl, hb, HS, hat0⟩ := hr.elem (i := k) h0
          have hs : s.Ok := by rw [HS.out, getD_lt' l nil h0]; exact HOK.out _ (List.getElem_mem h0)
          have hat := At.belowB hat0 hbl hb
          have HCL := hid hs.csl
          have c1 := cs_one s
          have hbad : faultIn (l.take k) s ≠ 0 → eachE l = faultIn (l.take k) s := fun h => by have := eachE_bad l k h0 HE.out (by rw [← HS.out]; exact h); rw [← HS.out] at this; exact this
          have hstep : faultIn (l.take k) s = 0 → eachTo l (k + 1) = 0 := fun h => eachTo_step l k HE.out (by rw [← HS.out]; exact h)
          have HBAD := hid hbad
          have HSTEP := hid hstep
          clear hbad hstep hat0
          obtain ⟨N, HN⟩ : ∃ N, Hid (wr.heap.size = N) := ⟨_, rfl⟩
          have hlt : w.heap.size ≤ N := by rw [← HN.out]; exact hbl.size
          obtain ⟨YS, HYS⟩ : ∃ YS, Hid (YS = s.y.map (Value.int .u16)) := ⟨_, rfl⟩
          have HYL : Hid (YS.length = 32) := by show _ = _; rw [HYS.out, List.length_map]; exact hs.yl
          have hkl : (k : Int) < (l.length : Int) := by omega
          have hkd : decide ((k : Int) < (l.length : Int)) = true := by simp; omega
          cases hin : inB s.x 1 256
          · have HIN := hid hin
            obtain ⟨bs, HBS⟩ : ∃ bs, Hid ((l.take k).any (same s) = bs) := ⟨_, rfl⟩
            go_wp2_with (first | (refine wl_loadG (by rfl) 61 _ rfl ⟨b, off + k * 49, none⟩ rfl 49 s.cs HCL.out aggS hat ?_) | (refine wl_allocV rfl 61 rfl sh0.cs sh0_zero N HN.out ?_; intro wA hA hbA hsA) | (refine wl_storeV rfl 61 _ _ rfl 61 N rfl s.cs rfl 49 aggS HCL.out sh0.cs hA sh0_len c1 ?_; intro wS hS hbS hsS; have cx := (hS.cell 16).trans (cs_x s hs); have hbW := bel_all HN.out hbl hbA hbS; have hrS := hr.below hbW) | (go_at_call 16; refine (In_any _ _ _ _).mono ?_; rintro e w1 ⟨rfl, rfl⟩) | (go_at_call 58; refine (conSame #[.pointer (some ⟨N, 0, none⟩)] (same s) _ cap k (l.take k) wS (by rw [List.length_take]; omega) (hrS.take k) (by rw [List.length_take]; omega) (fun t ht => HOK.out t (List.mem_of_mem_take ht)) (fun i hi w' hw' => same1 s _ hs (HOK.out _ (by rw [getD_lt' _ nil hi]; exact List.mem_of_mem_take (List.getElem_mem hi))) N w' (hS.below hw' hS.lt))).mono ?_; rw [HBS.out]; rintro e wB ⟨rfl, hb2⟩; have hbB := hbW.trans (hb2.mono hbW.size); have hSB := hS.below hb2 hS.lt; have hay := at_y hs hSB) | (refine wl_loadG (by rfl) 59 _ rfl ⟨N, 17, none⟩ rfl 32 YS HYL.out aggY (by rw [HYS.out]; exact hay) ?_))
            go_ret
            exact ⟨rv (ri (by rw [HBAD.out (by unfold faultIn; rw [if_pos HIN.out]; decide)]; unfold faultIn; rw [if_pos HIN.out])), hbW⟩
          · have HIN := hid hin
            have hfi : faultIn (l.take k) s = if (l.take k).any (same s) = true then 8 else if badY s = true then 4 else 0 := by unfold faultIn; rw [if_neg (by rw [hin]; decide)]
            have HFI := hid hfi
            clear hfi
            cases hbs : (l.take k).any (same s)
            · have HBS := hid hbs
              clear hbs
              go_wp2_with (first | (refine wl_loadG (by rfl) 61 _ rfl ⟨b, off + k * 49, none⟩ rfl 49 s.cs HCL.out aggS hat ?_) | (refine wl_allocV rfl 61 rfl sh0.cs sh0_zero N HN.out ?_; intro wA hA hbA hsA) | (refine wl_storeV rfl 61 _ _ rfl 61 N rfl s.cs rfl 49 aggS HCL.out sh0.cs hA sh0_len c1 ?_; intro wS hS hbS hsS; have cx := (hS.cell 16).trans (cs_x s hs); have hbW := bel_all HN.out hbl hbA hbS; have hrS := hr.below hbW) | (go_at_call 16; refine (In_any _ _ _ _).mono ?_; rintro e w1 ⟨rfl, rfl⟩) | (go_at_call 58; refine (conSame #[.pointer (some ⟨N, 0, none⟩)] (same s) _ cap k (l.take k) wS (by rw [List.length_take]; omega) (hrS.take k) (by rw [List.length_take]; omega) (fun t ht => HOK.out t (List.mem_of_mem_take ht)) (fun i hi w' hw' => same1 s _ hs (HOK.out _ (by rw [getD_lt' _ nil hi]; exact List.mem_of_mem_take (List.getElem_mem hi))) N w' (hS.below hw' hS.lt))).mono ?_; rw [HBS.out]; rintro e wB ⟨rfl, hb2⟩; have hbB := hbW.trans (hb2.mono hbW.size); have hSB := hS.below hb2 hS.lt; have hay := at_y hs hSB) | (refine wl_loadG (by rfl) 59 _ rfl ⟨N, 17, none⟩ rfl 32 YS HYL.out aggY (by rw [HYS.out]; exact hay) ?_))
              go_loop [52] (fun j => ∃ m : Nat, m ≤ 32 ∧ j = .int .i64 m ∧ Hid (∀ i, i < m → s.y.getD i 0 ≤ 256)) (fun j => 32 - (intOf j).toNat)
              case atStart => exact ⟨0, by omega, rfl, fun i hi => absurd hi (Nat.not_lt_zero i)⟩
              case round =>
                obtain ⟨m, hm, rfl, HM⟩ := hrel
                by_cases h1 : m < 32
                · obtain ⟨c, HC⟩ : ∃ c, Hid (c = s.y.getD m 0) := ⟨_, rfl⟩
                  have hYm : YS[m]? = some (.int .u16 c) := by rw [HYS.out, HC.out, List.getElem?_map, List.getElem?_eq_getElem (by rw [hs.yl]; exact h1), getD_lt' s.y 0 (by rw [hs.yl]; exact h1)]; rfl
                  have hIX := fun w => st.run_index1 (P := Try.prog) w 59 58 32 Try.underlying59 .u16 Try.underlying58 size16 YS m h1 _ hYm
                  have hcb : 0 ≤ c ∧ c ≤ 65535 := by rw [HC.out, getD_lt' s.y 0 (by rw [hs.yl]; exact h1)]; exact hs.yb _ (List.getElem_mem _)
                  clear hYm
                  by_cases h2 : 256 < c
                  · have H2 := hid h2
                    go_wp2
                    go_ret
                    exact ⟨rv (ri (by rw [HBAD.out (by rw [HFI.out, if_neg (by rw [HBS.out]; decide), if_pos (badY_of s m (by rw [hs.yl]; exact h1) (by rw [← HC.out]; exact H2.out))]; decide), HFI.out, if_neg (by rw [HBS.out]; decide), if_pos (badY_of s m (by rw [hs.yl]; exact h1) (by rw [← HC.out]; exact H2.out))])), hbB⟩
                  · have H2 := hid h2
                    go_wp2
                    go_round
                    case rel => exact ⟨m + 1, by omega, by go_num, fun i hi => by
                      by_cases e : i = m
                      · have := H2.out; rw [e, ← HC.out]; omega
                      · exact HM.out i (by omega)⟩
                    case measure => simp [intOf] <;> omega
                · obtain rfl : m = 32 := by omega
                  go_wp2
                  go_roundw
                  case rel => exact ⟨k + 1, by omega, by go_num, hid (HSTEP.out (by rw [HFI.out, if_neg (by rw [HBS.out]; decide), if_neg (by rw [badY_not s (by rw [hs.yl]; exact HM.out)]; decide)])), hbB⟩
                  case measure => simp [intOf] <;> omega
            · have HBS := hid hbs
              clear hbs
              go_wp2_with (first | (refine wl_loadG (by rfl) 61 _ rfl ⟨b, off + k * 49, none⟩ rfl 49 s.cs HCL.out aggS hat ?_) | (refine wl_allocV rfl 61 rfl sh0.cs sh0_zero N HN.out ?_; intro wA hA hbA hsA) | (refine wl_storeV rfl 61 _ _ rfl 61 N rfl s.cs rfl 49 aggS HCL.out sh0.cs hA sh0_len c1 ?_; intro wS hS hbS hsS; have cx := (hS.cell 16).trans (cs_x s hs); have hbW := bel_all HN.out hbl hbA hbS; have hrS := hr.below hbW) | (go_at_call 16; refine (In_any _ _ _ _).mono ?_; rintro e w1 ⟨rfl, rfl⟩) | (go_at_call 58; refine (conSame #[.pointer (some ⟨N, 0, none⟩)] (same s) _ cap k (l.take k) wS (by rw [List.length_take]; omega) (hrS.take k) (by rw [List.length_take]; omega) (fun t ht => HOK.out t (List.mem_of_mem_take ht)) (fun i hi w' hw' => same1 s _ hs (HOK.out _ (by rw [getD_lt' _ nil hi]; exact List.mem_of_mem_take (List.getElem_mem hi))) N w' (hS.below hw' hS.lt))).mono ?_; rw [HBS.out]; rintro e wB ⟨rfl, hb2⟩; have hbB := hbW.trans (hb2.mono hbW.size); have hSB := hS.below hb2 hS.lt; have hay := at_y hs hSB) | (refine wl_loadG (by rfl) 59 _ rfl ⟨N, 17, none⟩ rfl 32 YS HYL.out aggY (by rw [HYS.out]; exact hay) ?_))
              go_ret
              exact ⟨rv (ri (by rw [HBAD.out (by rw [HFI.out, if_pos HBS.out]; decide), HFI.out, if_pos HBS.out])), hbB⟩
        · go_wp2
          go_ret
          exact ⟨rv (ri (by have := HE.out; unfold eachE; rw [show l.length = k by omega, this])), hbl⟩
    · go_enter Try.func30, Try.ntmps30
      go_wp2_with (first | (go_at_call 16; refine (In_any _ _ _ _).mono ?_; rintro e w1 ⟨rfl, rfl⟩) | (go_at_call 21; refine (When_any _ _ _).mono ?_; rintro e w1 ⟨rfl, rfl⟩) | (go_at_call 23; refine (First_three _ _ _ W w _ rfl HW).mono ?_; rintro e w1 ⟨rfl, rfl⟩))
      have hb0 : Below w.heap.size w (w.alloc (.cells #[.int .i64 (whenE (!inB need 1 32) 4), .int .i64 (whenE (false) 18), .int .i64 (whenE (decide ((32 : Int) < (l.length : Int))) 5)] 27)) := (Below.refl _ _).alloc (Nat.le_refl _) _
      go_loopw [36] (fun i wr => ∃ k : Nat, k ≤ l.length ∧ i = .int .i64 k ∧ Hid (eachTo l k = 0) ∧ Below w.heap.size w wr) (fun i _ => l.length - (intOf i).toNat)
      case atStart => exact ⟨0, Nat.zero_le _, rfl, rfl, (Below.refl _ _).alloc (Nat.le_refl _) _⟩
      case round =>
        obtain ⟨k, hk, rfl, HE, hbl⟩ := hrel
        by_cases h0 : k < l.length
        · obtain ⟨b, off, s, rfl, hb, HS, hat0⟩ := hr.elem (i := k) h0
          have hs : s.Ok := by rw [HS.out, getD_lt' l nil h0]; exact HOK.out _ (List.getElem_mem h0)
          have hat := At.belowB hat0 hbl hb
          have HCL := hid hs.csl
          have c1 := cs_one s
          have hbad : faultIn (l.take k) s ≠ 0 → eachE l = faultIn (l.take k) s := fun h => by have := eachE_bad l k h0 HE.out (by rw [← HS.out]; exact h); rw [← HS.out] at this; exact this
          have hstep : faultIn (l.take k) s = 0 → eachTo l (k + 1) = 0 := fun h => eachTo_step l k HE.out (by rw [← HS.out]; exact h)
          have HBAD := hid hbad
          have HSTEP := hid hstep
          clear hbad hstep hat0
          obtain ⟨N, HN⟩ : ∃ N, Hid (wr.heap.size = N) := ⟨_, rfl⟩
          have hlt : w.heap.size ≤ N := by rw [← HN.out]; exact hbl.size
          obtain ⟨YS, HYS⟩ : ∃ YS, Hid (YS = s.y.map (Value.int .u16)) := ⟨_, rfl⟩
          have HYL : Hid (YS.length = 32) := by show _ = _; rw [HYS.out, List.length_map]; exact hs.yl
          have hkl : (k : Int) < (l.length : Int) := by omega
          have hkd : decide ((k : Int) < (l.length : Int)) = true := by simp; omega
          cases hin : inB s.x 1 256
          · have HIN := hid hin
            obtain ⟨bs, HBS⟩ : ∃ bs, Hid ((l.take k).any (same s) = bs) := ⟨_, rfl⟩
            go_wp2_with (first | (refine wl_loadG (by rfl) 61 _ rfl ⟨b, off + k * 49, none⟩ rfl 49 s.cs HCL.out aggS hat ?_) | (refine wl_allocV rfl 61 rfl sh0.cs sh0_zero N HN.out ?_; intro wA hA hbA hsA) | (refine wl_storeV rfl 61 _ _ rfl 61 N rfl s.cs rfl 49 aggS HCL.out sh0.cs hA sh0_len c1 ?_; intro wS hS hbS hsS; have cx := (hS.cell 16).trans (cs_x s hs); have hbW := bel_all HN.out hbl hbA hbS; have hrS := hr.below hbW) | (go_at_call 16; refine (In_any _ _ _ _).mono ?_; rintro e w1 ⟨rfl, rfl⟩) | (go_at_call 58; refine (conSame #[.pointer (some ⟨N, 0, none⟩)] (same s) _ cap k (l.take k) wS (by rw [List.length_take]; omega) (hrS.take k) (by rw [List.length_take]; omega) (fun t ht => HOK.out t (List.mem_of_mem_take ht)) (fun i hi w' hw' => same1 s _ hs (HOK.out _ (by rw [getD_lt' _ nil hi]; exact List.mem_of_mem_take (List.getElem_mem hi))) N w' (hS.below hw' hS.lt))).mono ?_; rw [HBS.out]; rintro e wB ⟨rfl, hb2⟩; have hbB := hbW.trans (hb2.mono hbW.size); have hSB := hS.below hb2 hS.lt; have hay := at_y hs hSB) | (refine wl_loadG (by rfl) 59 _ rfl ⟨N, 17, none⟩ rfl 32 YS HYL.out aggY (by rw [HYS.out]; exact hay) ?_))
            go_ret
            exact ⟨rv (ri (by rw [HBAD.out (by unfold faultIn; rw [if_pos HIN.out]; decide)]; unfold faultIn; rw [if_pos HIN.out])), hbW⟩
          · have HIN := hid hin
            have hfi : faultIn (l.take k) s = if (l.take k).any (same s) = true then 8 else if badY s = true then 4 else 0 := by unfold faultIn; rw [if_neg (by rw [hin]; decide)]
            have HFI := hid hfi
            clear hfi
            cases hbs : (l.take k).any (same s)
            · have HBS := hid hbs
              clear hbs
              go_wp2_with (first | (refine wl_loadG (by rfl) 61 _ rfl ⟨b, off + k * 49, none⟩ rfl 49 s.cs HCL.out aggS hat ?_) | (refine wl_allocV rfl 61 rfl sh0.cs sh0_zero N HN.out ?_; intro wA hA hbA hsA) | (refine wl_storeV rfl 61 _ _ rfl 61 N rfl s.cs rfl 49 aggS HCL.out sh0.cs hA sh0_len c1 ?_; intro wS hS hbS hsS; have cx := (hS.cell 16).trans (cs_x s hs); have hbW := bel_all HN.out hbl hbA hbS; have hrS := hr.below hbW) | (go_at_call 16; refine (In_any _ _ _ _).mono ?_; rintro e w1 ⟨rfl, rfl⟩) | (go_at_call 58; refine (conSame #[.pointer (some ⟨N, 0, none⟩)] (same s) _ cap k (l.take k) wS (by rw [List.length_take]; omega) (hrS.take k) (by rw [List.length_take]; omega) (fun t ht => HOK.out t (List.mem_of_mem_take ht)) (fun i hi w' hw' => same1 s _ hs (HOK.out _ (by rw [getD_lt' _ nil hi]; exact List.mem_of_mem_take (List.getElem_mem hi))) N w' (hS.below hw' hS.lt))).mono ?_; rw [HBS.out]; rintro e wB ⟨rfl, hb2⟩; have hbB := hbW.trans (hb2.mono hbW.size); have hSB := hS.below hb2 hS.lt; have hay := at_y hs hSB) | (refine wl_loadG (by rfl) 59 _ rfl ⟨N, 17, none⟩ rfl 32 YS HYL.out aggY (by rw [HYS.out]; exact hay) ?_))
              go_loop [52] (fun j => ∃ m : Nat, m ≤ 32 ∧ j = .int .i64 m ∧ Hid (∀ i, i < m → s.y.getD i 0 ≤ 256)) (fun j => 32 - (intOf j).toNat)
              case atStart => exact ⟨0, by omega, rfl, fun i hi => absurd hi (Nat.not_lt_zero i)⟩
              case round =>
                obtain ⟨m, hm, rfl, HM⟩ := hrel
                by_cases h1 : m < 32
                · obtain ⟨c, HC⟩ : ∃ c, Hid (c = s.y.getD m 0) := ⟨_, rfl⟩
                  have hYm : YS[m]? = some (.int .u16 c) := by rw [HYS.out, HC.out, List.getElem?_map, List.getElem?_eq_getElem (by rw [hs.yl]; exact h1), getD_lt' s.y 0 (by rw [hs.yl]; exact h1)]; rfl
                  have hIX := fun w => st.run_index1 (P := Try.prog) w 59 58 32 Try.underlying59 .u16 Try.underlying58 size16 YS m h1 _ hYm
                  have hcb : 0 ≤ c ∧ c ≤ 65535 := by rw [HC.out, getD_lt' s.y 0 (by rw [hs.yl]; exact h1)]; exact hs.yb _ (List.getElem_mem _)
                  clear hYm
                  by_cases h2 : 256 < c
                  · have H2 := hid h2
                    go_wp2
                    go_ret
                    exact ⟨rv (ri (by rw [HBAD.out (by rw [HFI.out, if_neg (by rw [HBS.out]; decide), if_pos (badY_of s m (by rw [hs.yl]; exact h1) (by rw [← HC.out]; exact H2.out))]; decide), HFI.out, if_neg (by rw [HBS.out]; decide), if_pos (badY_of s m (by rw [hs.yl]; exact h1) (by rw [← HC.out]; exact H2.out))])), hbB⟩
                  · have H2 := hid h2
                    go_wp2
                    go_round
                    case rel => exact ⟨m + 1, by omega, by go_num, fun i hi => by
                      by_cases e : i = m
                      · have := H2.out; rw [e, ← HC.out]; omega
                      · exact HM.out i (by omega)⟩
                    case measure => simp [intOf] <;> omega
                · obtain rfl : m = 32 := by omega
                  go_wp2
                  go_roundw
                  case rel => exact ⟨k + 1, by omega, by go_num, hid (HSTEP.out (by rw [HFI.out, if_neg (by rw [HBS.out]; decide), if_neg (by rw [badY_not s (by rw [hs.yl]; exact HM.out)]; decide)])), hbB⟩
                  case measure => simp [intOf] <;> omega
            · have HBS := hid hbs
              clear hbs
              go_wp2_with (first | (refine wl_loadG (by rfl) 61 _ rfl ⟨b, off + k * 49, none⟩ rfl 49 s.cs HCL.out aggS hat ?_) | (refine wl_allocV rfl 61 rfl sh0.cs sh0_zero N HN.out ?_; intro wA hA hbA hsA) | (refine wl_storeV rfl 61 _ _ rfl 61 N rfl s.cs rfl 49 aggS HCL.out sh0.cs hA sh0_len c1 ?_; intro wS hS hbS hsS; have cx := (hS.cell 16).trans (cs_x s hs); have hbW := bel_all HN.out hbl hbA hbS; have hrS := hr.below hbW) | (go_at_call 16; refine (In_any _ _ _ _).mono ?_; rintro e w1 ⟨rfl, rfl⟩) | (go_at_call 58; refine (conSame #[.pointer (some ⟨N, 0, none⟩)] (same s) _ cap k (l.take k) wS (by rw [List.length_take]; omega) (hrS.take k) (by rw [List.length_take]; omega) (fun t ht => HOK.out t (List.mem_of_mem_take ht)) (fun i hi w' hw' => same1 s _ hs (HOK.out _ (by rw [getD_lt' _ nil hi]; exact List.mem_of_mem_take (List.getElem_mem hi))) N w' (hS.below hw' hS.lt))).mono ?_; rw [HBS.out]; rintro e wB ⟨rfl, hb2⟩; have hbB := hbW.trans (hb2.mono hbW.size); have hSB := hS.below hb2 hS.lt; have hay := at_y hs hSB) | (refine wl_loadG (by rfl) 59 _ rfl ⟨N, 17, none⟩ rfl 32 YS HYL.out aggY (by rw [HYS.out]; exact hay) ?_))
              go_ret
              exact ⟨rv (ri (by rw [HBAD.out (by rw [HFI.out, if_pos HBS.out]; decide), HFI.out, if_pos HBS.out])), hbB⟩
        · go_wp2
          go_ret
          exact ⟨rv (ri (by have := HE.out; unfold eachE; rw [show l.length = k by omega, this])), hbl⟩
  · have HW0 := hid hW
    have hW' : (W != 0) = true := by simp [hW]
    rw [if_neg hW]
    clear hW
    cases few
    · go_enter Try.func30, Try.ntmps30
      go_wp2_with (first | (go_at_call 16; refine (In_any _ _ _ _).mono ?_; rintro e w1 ⟨rfl, rfl⟩) | (go_at_call 21; refine (When_any _ _ _).mono ?_; rintro e w1 ⟨rfl, rfl⟩) | (go_at_call 23; refine (First_three _ _ _ W w _ rfl HW).mono ?_; rintro e w1 ⟨rfl, rfl⟩))
      go_ret
      exact ⟨rfl, (Below.refl _ _).alloc (Nat.le_refl _) _⟩
    · go_enter Try.func30, Try.ntmps30
      go_wp2_with (first | (go_at_call 16; refine (In_any _ _ _ _).mono ?_; rintro e w1 ⟨rfl, rfl⟩) | (go_at_call 21; refine (When_any _ _ _).mono ?_; rintro e w1 ⟨rfl, rfl⟩) | (go_at_call 23; refine (First_three _ _ _ W w _ rfl HW).mono ?_; rintro e w1 ⟨rfl, rfl⟩))
      go_ret
      exact ⟨rfl, (Below.refl _ _).alloc (Nat.le_refl _) _⟩
end Go.Proofs.Ytbljihhelladbaa.shr
