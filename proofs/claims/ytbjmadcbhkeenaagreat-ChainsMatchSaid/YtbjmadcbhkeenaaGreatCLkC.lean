/-
  ChainsMatch: slices.Contains and slices.Equal at IDs, slices.Equal and slices.Compare at numbers. Conditions: IDs of 16 octets, slices that lie in memory. Contracts of wrap.far and wrap.way. Conditions: at most 200 envelopes that lie in memory.
-/
import Derived.Test.YtbjmadcbhkeenaaGreatCMem
import Derived.Test.YtbjmadcbhkeenaaGreatCSpC
import Derived.Test.YtbjmadcbhkeenaaGreatCWrH
import Derived.Test.YtbjmadcbhkeenaaGreatCShJ
import Derived.Test.YtbjmadcbhkeenaaGreatCBsl
import Derived.Test.YtbjmadcbhkeenaaGreatCHld
import Derived.Test.YtbjmadcbhkeenaaGreatCWrL
import Derived.Test.YtbjmadcbhkeenaaGreatCEqA
import Derived.Test.YtbjmadcbhkeenaaGreatCShR
import Derived.Test.YtbjmadcbhkeenaaGreatCSlInt
import Derived.Test.YtbjmadcbhkeenaaGreatCWsF
import Derived.Test.YtbjmadcbhkeenaaGreatCWsJ
set_option maxRecDepth 100000
set_option linter.unusedSimpArgs false
set_option linter.unusedVariables false
namespace Go.Proofs.YtbjmadcbhkeenaaGreat.lk
open Go.RowKit sh shr cm wr
def RowD (w : World) (ao : Option Addr) (l : List Id) : Prop := RowH w ao l ∧ ∀ s ∈ l, s.length = 16
theorem RowD.below {w w' : World} {ao : Option Addr} {l : List Id} (h : RowD w ao l) (hb : Below w.heap.size w w') : RowD w' ao l := ⟨h.1.below hb, h.2⟩
theorem RowD.at {w : World} {ao : Option Addr} {l : List Id} (h : RowD w ao l) {k : Nat} (hk : k < l.length) : ∃ b off, ao = some ⟨b, off, none⟩ ∧ b < w.heap.size ∧ At w ⟨b, off + k * 16, none⟩ (((l.getD k []).map (Value.int .u8))) ∧ (l.getD k []).length = 16 := by
 obtain ⟨b, off, h1, h2, h3⟩ := h.1.at (by intro e; rw [e] at hk; cases hk)
 exact ⟨b, off, h1, h2, h3 k hk, h.2 _ (by rw [getD_lt' l [] hk]; exact List.getElem_mem hk)⟩
theorem any_mem (l : List Id) (s : Id) : l.any (fun t => s == t) = decide (s ∈ l) := by
 induction l with
 | nil => rfl
 | cons a l ih =>
  rw [List.any_cons, ih]
  by_cases h : s = a
  ·subst h; simp
  ·simp [h]
theorem Index_id (ao : Option Addr) (cap n : Nat) (l : List Id) (s : Id) (w : World) (hn' : n = l.length) (hr : RowD w ao l) (hs : s.length = 16) (hn : n ≤ 9223372036854775807) (S : List Value) (HS : Hid (S = s.map (Value.int .u8))) :
  Calls Tryz.prog 38 #[.slice ao n cap, .agg S.toArray] w fun e w' => e = .returned (.int .i64 (slInt.findI (fun t => s == t) l 0)) ∧ Below w.heap.size w w' := by
 subst hn'
 have HSL : Hid (S.length = 16) := by show _ = _; rw [HS.out, List.length_map]; exact hs
 have HSS := hid hs
 clear hs
 have hb0 : Below w.heap.size w (w.alloc (.cells S.toArray 27)) := (Below.refl _ _).alloc (Nat.le_refl _) _
 have hS0 : BlkV 27 (w.alloc (.cells S.toArray 27)) w.heap.size S := BlkV.new _ _ _ rfl
 go_enter Tryz.func38, Tryz.ntmps38
 go_wp2
 go_loopw [8] (fun i wr => ∃ k : Nat, k ≤ l.length ∧ i = .int .i64 k ∧ Hid (slInt.findI (fun t => s == t) (l.drop k) k = slInt.findI (fun t => s == t) l 0) ∧ BlkV 27 wr w.heap.size S ∧ Below w.heap.size w wr) (fun i _ => l.length - (intOf i).toNat)
 case atStart => exact ⟨0, Nat.zero_le _, rfl, rfl, hS0, hb0⟩
 case round =>
  clear hS0 hb0
  obtain ⟨k, hk, rfl, HA, hB, hbl⟩ := hrel
  by_cases h0 : k < l.length
  ·have hkI : (k : Int) < (l.length : Int) := by omega
   have hkI0 : (0 : Int) ≤ (k : Int) := by omega
   obtain ⟨b, off, rfl, hb, hat, ht16⟩ := (hr.below hbl).at h0
   have HD := slInt.findI_drop (fun t => s == t) l [] k h0
   rw [HA.out] at HD
   replace HD := hid HD
   obtain ⟨T, HT⟩ : ∃ T, Hid (T = (l.getD k []).map (Value.int .u8)) := ⟨_, rfl⟩
   have HTL : Hid (T.length = 16) := hid (by rw [HT.out, List.length_map]; exact ht16)
   rw [← HT.out] at hat
   obtain ⟨c, Hc⟩ : ∃ c, Hid (c = (s == l.getD k [])) := ⟨_, rfl⟩
   have heq : Hid (∀ w, (Op.equalIn 10000 27 (.agg S.toArray) (.agg T.toArray)).run Tryz.prog w = .ok c w) := hid (fun w => by
    have := run_eq_id w s (l.getD k []) HSS.out ht16
    rw [← HS.out, ← HT.out, ← Hc.out] at this
    exact this)
   have a1 : At wr.drew ⟨w.heap.size, 0, none⟩ S := hB.at0
   have a2 : At wr.drew ⟨b, off + k * 16, none⟩ T := hat
   clear hat ht16
   cases c
   ·have HN : Hid ((s == l.getD k []) = false) := Hc.out.symm
    go_wp2_with fail
    refine wp_region_still_tail 5 (by kernel_rfl) (by kernel_rfl) ?_
    simp only [List.take_succ_cons, List.take_zero, List.drop_succ_cons, List.drop_zero]
    change wpStill _ _ wr.drew (fun a' => wpList _ _ _ _ a' wr.drew) _ _
    refine still_load (by kernel_rfl) 27 _ rfl ⟨w.heap.size, 0, none⟩ rfl 16 S HSL.out aggID a1 ?_
    iterate 3 still_step
    refine still_load (by kernel_rfl) 27 _ rfl ⟨b, off + k * 16, none⟩ rfl 16 T HTL.out aggID a2 ?_
    refine wpStill_nil ?_
    go_wp2_with (refine wl_eqE 16 rfl (by kernel_rfl) 27 _ _ _ rfl S.toArray T.toArray rfl rfl false (heq.out _) (by kernel_rfl) ?_)
    go_roundw
    case rel => exact ⟨k + 1, by omega, by go_num, by show _ = _; rw [HD.out, if_neg (by rw [HN.out]; simp)], hB.drew, hbl.drew⟩
    case measure => simp [intOf] <;> omega
   ·have HN : Hid ((s == l.getD k []) = true) := Hc.out.symm
    go_wp2_with fail
    refine wp_region_still_tail 5 (by kernel_rfl) (by kernel_rfl) ?_
    simp only [List.take_succ_cons, List.take_zero, List.drop_succ_cons, List.drop_zero]
    change wpStill _ _ wr.drew (fun a' => wpList _ _ _ _ a' wr.drew) _ _
    refine still_load (by kernel_rfl) 27 _ rfl ⟨w.heap.size, 0, none⟩ rfl 16 S HSL.out aggID a1 ?_
    iterate 3 still_step
    refine still_load (by kernel_rfl) 27 _ rfl ⟨b, off + k * 16, none⟩ rfl 16 T HTL.out aggID a2 ?_
    refine wpStill_nil ?_
    go_wp2_with (refine wl_eqE 16 rfl (by kernel_rfl) 27 _ _ _ rfl S.toArray T.toArray rfl rfl true (heq.out _) (by kernel_rfl) ?_)
    go_ret
    exact ⟨rv (ri (by rw [HD.out, if_pos HN.out])), hbl.drew⟩
  ·go_wp2
   go_ret
   exact ⟨rv (ri (by rw [← HA.out, List.drop_eq_nil_of_le (by omega)]; rfl)), hbl⟩
theorem Contains_id (ao : Option Addr) (cap n : Nat) (l : List Id) (s : Id) (w : World) (hn' : n = l.length) (hr : RowD w ao l) (hs : s.length = 16) (hn : n ≤ 9223372036854775807) (r : Bool) (Hr : Hid (r = decide (s ∈ l))) :
  Calls Tryz.prog 17 #[.slice ao n cap, idV s] w fun e w' => e = .returned (.bool r) ∧ Below w.heap.size w w' := by
 obtain ⟨S, HS⟩ : ∃ T, Hid (T = s.map (Value.int .u8)) := ⟨_, rfl⟩
 have HIX : Hid (∀ w, RowD w ao l → Calls Tryz.prog 38 #[.slice ao n cap, .agg S.toArray] w fun e w' => e = .returned (.int .i64 (slInt.findI (fun t => s == t) l 0)) ∧ Below w.heap.size w w') := fun w hr => Index_id ao cap n l s w hn' hr hs hn S HS
 have HSL : Hid (S.length = 16) := by show _ = _; rw [HS.out, List.length_map]; exact hs
 have HFA := hid (slInt.findI_any (fun t => s == t) l 0)
 obtain ⟨F, HF⟩ : ∃ F, Hid (F = slInt.findI (fun t => s == t) l 0) := ⟨_, rfl⟩
 have hb0 : Below w.heap.size w (w.alloc (.cells S.toArray 27)) := (Below.refl _ _).alloc (Nat.le_refl _) _
 have hS0 : BlkV 27 (w.alloc (.cells S.toArray 27)) w.heap.size S := BlkV.new _ _ _ rfl
 have aS := hS0.at0
 rw [← HF.out] at HIX HFA
 unfold idV
 rw [← HS.out]
 clear hs hn'
 go_enter Tryz.func17, Tryz.ntmps17
 go_wp2_with (first | (refine wl_load rfl 27 _ rfl ⟨w.heap.size, 0, none⟩ rfl S (by rw [HSL.out]; exact aggID) aS ?_; clear aS) | (go_at_call 38; refine (HIX.out _ (hr.below hb0)).mono ?_; rintro e w1 ⟨rfl, hb1⟩))
 go_ret
 exact ⟨rv (rb (by rw [Hr.out, ← any_mem, ← HFA.out])), hb0.trans (hb1.mono hb0.size)⟩
theorem drop_step {α : Type} (l m : List α) (d : α) (k : Nat) (h1 : k < l.length) (h2 : k < m.length) : (l.drop k = m.drop k) ↔ (l.getD k d = m.getD k d ∧ l.drop (k + 1) = m.drop (k + 1)) := by
 rw [List.drop_eq_getElem_cons h1, List.drop_eq_getElem_cons h2, List.cons.injEq, getD_lt' l d h1, getD_lt' m d h2]
theorem Equal_ids (ao bo : Option Addr) (c1 c2 n m : Nat) (xs ys : List Id) (w : World) (hn' : n = xs.length) (hm' : m = ys.length) (h1 : RowD w ao xs) (h2 : RowD w bo ys) (hn : n ≤ 4611686018427387904) (r : Bool) (Hr : Hid (r = decide (xs = ys))) :
  Calls Tryz.prog 15 #[.slice ao n c1, .slice bo m c2] w fun e w' => e = .returned (.bool r) ∧ Below w.heap.size w w' := by
 by_cases hnm : n = m
 ·subst hnm
  have HN := hid hn'
  have HM := hid hm'
  clear hn' hm'
  go_enter Tryz.func15, Tryz.ntmps15
  go_wp2
  go_loopw [13] (fun i wr => ∃ k : Nat, k ≤ n ∧ i = .int .i64 k ∧ Below w.heap.size w wr ∧ Hid (xs = ys ↔ xs.drop k = ys.drop k)) (fun i _ => n - (intOf i).toNat)
  case atStart => exact ⟨0, Nat.zero_le _, rfl, Below.refl _ _, hid (by rw [List.drop_zero, List.drop_zero])⟩
  case round =>
   obtain ⟨k, hk, rfl, hbl, HK⟩ := hrel
   by_cases h0 : k < n
   ·have hka : k < xs.length := by have := HN.out; omega
    have hkb : k < ys.length := by have := HM.out; omega
    obtain ⟨b, off, rfl, hb, hat, h16⟩ := (h1.below hbl).at hka
    obtain ⟨b2, off2, rfl, hb2, hat2, h16b⟩ := (h2.below hbl).at hkb
    have HD := hid (drop_step xs ys [] k hka hkb)
    obtain ⟨I, HI⟩ : ∃ V, Hid (V = (xs.getD k []).map (Value.int .u8)) := ⟨_, rfl⟩
    obtain ⟨J, HJ⟩ : ∃ V, Hid (V = (ys.getD k []).map (Value.int .u8)) := ⟨_, rfl⟩
    have HCI : Hid (I.length = 16) := hid (by rw [HI.out, List.length_map]; exact h16)
    have HCJ : Hid (J.length = 16) := hid (by rw [HJ.out, List.length_map]; exact h16b)
    obtain ⟨c, Hc⟩ : ∃ c, Hid (c = (xs.getD k [] == ys.getD k [])) := ⟨_, rfl⟩
    have heq : Hid (∀ w, (Op.equalIn 10000 27 (.agg I.toArray) (.agg J.toArray)).run Tryz.prog w = .ok c w) := hid (fun w => by
     have := run_eq_id w (xs.getD k []) (ys.getD k []) h16 h16b
     rw [← HI.out, ← HJ.out, ← Hc.out] at this
     exact this)
    rw [← HI.out] at hat
    rw [← HJ.out] at hat2
    have hkI : (k : Int) < (n : Int) := by omega
    have hkI0 : (0 : Int) ≤ (k : Int) := by omega
    have a1 : At wr.drew ⟨b, off + k * 16, none⟩ I := hat
    have a2 : At wr.drew ⟨b2, off2 + k * 16, none⟩ J := hat2
    clear hat hat2 h16 h16b hka hkb
    cases c
    ·have HN : Hid (¬ xs.getD k [] = ys.getD k []) := hid (by have := Hc.out; intro e; rw [e] at this; simp at this)
     go_wp2_with fail
     refine wp_region_still_tail 8 (by kernel_rfl) (by kernel_rfl) ?_
     simp only [List.take_succ_cons, List.take_zero, List.drop_succ_cons, List.drop_zero]
     change wpStill _ _ wr.drew (fun a' => wpList _ _ _ _ a' wr.drew) _ _
     iterate 3 still_step
     refine still_load (by kernel_rfl) 27 _ rfl ⟨b, off + k * 16, none⟩ rfl 16 I HCI.out aggID a1 ?_
     iterate 3 still_step
     refine still_load (by kernel_rfl) 27 _ rfl ⟨b2, off2 + k * 16, none⟩ rfl 16 J HCJ.out aggID a2 ?_
     refine wpStill_nil ?_
     go_wp2_with (refine wl_neqD 24 rfl (by kernel_rfl) 27 _ _ _ rfl I.toArray J.toArray rfl rfl false (heq.out _) (by kernel_rfl) true rfl ?_)
     go_ret
     exact ⟨rv (rb (by
      rw [Hr.out]
      symm
      refine decide_eq_false fun e => HN.out ?_
      rw [e])), hbl.drew⟩
    ·have HN : Hid (xs.getD k [] = ys.getD k []) := hid (by have := Hc.out; simpa using this.symm)
     go_wp2_with fail
     refine wp_region_still_tail 8 (by kernel_rfl) (by kernel_rfl) ?_
     simp only [List.take_succ_cons, List.take_zero, List.drop_succ_cons, List.drop_zero]
     change wpStill _ _ wr.drew (fun a' => wpList _ _ _ _ a' wr.drew) _ _
     iterate 3 still_step
     refine still_load (by kernel_rfl) 27 _ rfl ⟨b, off + k * 16, none⟩ rfl 16 I HCI.out aggID a1 ?_
     iterate 3 still_step
     refine still_load (by kernel_rfl) 27 _ rfl ⟨b2, off2 + k * 16, none⟩ rfl 16 J HCJ.out aggID a2 ?_
     refine wpStill_nil ?_
     go_wp2_with (refine wl_neqD 24 rfl (by kernel_rfl) 27 _ _ _ rfl I.toArray J.toArray rfl rfl true (heq.out _) (by kernel_rfl) false rfl ?_)
     go_roundw
     case rel => exact ⟨k + 1, by omega, by go_num, hbl.drew, hid (by
      rw [HK.out, HD.out]
      exact ⟨fun h => h.2, fun h => ⟨HN.out, h⟩⟩)⟩
     case measure => simp [intOf] <;> omega
   ·obtain rfl : k = n := by omega
    have HT : Hid (decide (xs = ys) = true) := hid (decide_eq_true (HK.out.2 (by rw [List.drop_eq_nil_of_le (by rw [← HN.out]; exact Nat.le_refl _), List.drop_eq_nil_of_le (by rw [← HM.out]; exact Nat.le_refl _)])))
    clear h0
    go_wp2
    go_ret
    exact ⟨rv (rb (by rw [Hr.out, HT.out])), hbl⟩
 ·have hI : ¬ (n : Int) = (m : Int) := by omega
  have HD : Hid (decide (xs = ys) = false) := hid (decide_eq_false fun e => hnm (by rw [hn', hm', e]))
  clear hn' hm' hnm
  go_enter Tryz.func15, Tryz.ntmps15
  go_wp2
  go_ret
  exact ⟨rv (rb (by rw [Hr.out, HD.out])), Below.refl _ _⟩
def intsN (l : List Nat) : List Int := l.map fun i : Nat => (i : Int)
theorem intsN_length (l : List Nat) : (intsN l).length = l.length := by simp [intsN]
theorem intsN_snoc (l : List Nat) (j : Nat) : (intsN (l ++ [j])).map (Value.int .i64) = (intsN l).map (Value.int .i64) ++ [Value.int .i64 (j : Int)] := by simp [intsN]
theorem intsN_getD (l : List Nat) (k : Nat) (hk : k < l.length) : (intsN l).getD k 0 = ((l.getD k 0 : Nat) : Int) := by simp [intsN, List.getD_eq_getElem?_getD, hk]
theorem Equal_ints (ao bo : Option Addr) (c1 c2 n m : Nat) (xs ys : List Nat) (w : World) (hn' : n = xs.length) (hm' : m = ys.length) (h1 : RowI .i64 w ao (intsN xs)) (h2 : RowI .i64 w bo (intsN ys)) (hn : n ≤ 4611686018427387904) (r : Bool) (Hr : Hid (r = decide (xs = ys))) :
  Calls Tryz.prog 14 #[.slice ao n c1, .slice bo m c2] w fun e w' => e = .returned (.bool r) ∧ Below w.heap.size w w' := by
 by_cases hnm : n = m
 ·subst hnm
  have HN := hid hn'
  have HM := hid hm'
  clear hn' hm'
  go_enter Tryz.func14, Tryz.ntmps14
  go_wp2
  go_loopw [13] (fun i wr => ∃ k : Nat, k ≤ n ∧ i = .int .i64 k ∧ Below w.heap.size w wr ∧ Hid (xs = ys ↔ xs.drop k = ys.drop k)) (fun i _ => n - (intOf i).toNat)
  case atStart => exact ⟨0, Nat.zero_le _, rfl, Below.refl _ _, hid (by rw [List.drop_zero, List.drop_zero])⟩
  case round =>
   obtain ⟨k, hk, rfl, hbl, HK⟩ := hrel
   by_cases h0 : k < n
   ·have hka : k < xs.length := by have := HN.out; omega
    have hkb : k < ys.length := by have := HM.out; omega
    obtain ⟨b, off, x, rfl, hb, Hx, hcx⟩ := (h1.below hbl).elem (i := k) (by rw [intsN_length]; exact hka)
    obtain ⟨b2, off2, y, rfl, hb2, Hy, hcy⟩ := (h2.below hbl).elem (i := k) (by rw [intsN_length]; exact hkb)
    have HD := hid (drop_step xs ys 0 k hka hkb)
    have Hx2 : Hid (x = ((xs.getD k 0 : Nat) : Int)) := hid (by rw [Hx.out, intsN_getD _ _ hka])
    have Hy2 : Hid (y = ((ys.getD k 0 : Nat) : Int)) := hid (by rw [Hy.out, intsN_getD _ _ hkb])
    have hkI : (k : Int) < (n : Int) := by omega
    have hkI0 : (0 : Int) ≤ (k : Int) := by omega
    clear hka hkb
    by_cases hxy : x = y
    ·have HE : Hid (xs.getD k 0 = ys.getD k 0) := hid (by have := Hx2.out; have := Hy2.out; omega)
     subst hxy
     go_wp2_with fail
     go_quiet (fail)
     go_wp2
     go_roundw
     case rel => exact ⟨k + 1, by omega, by go_num, bdN hbl _, hid (by
      rw [HK.out, HD.out]
      exact ⟨fun h => h.2, fun h => ⟨HE.out, h⟩⟩)⟩
     case measure => simp [intOf] <;> omega
    ·have HE : Hid (¬ xs.getD k 0 = ys.getD k 0) := hid (by have := Hx2.out; have := Hy2.out; omega)
     go_wp2_with fail
     go_quiet (fail)
     go_wp2
     go_ret
     exact ⟨rv (rb (by
      rw [Hr.out]
      symm
      refine decide_eq_false fun e => HE.out ?_
      rw [e])), bdN hbl _⟩
   ·obtain rfl : k = n := by omega
    have HT : Hid (decide (xs = ys) = true) := hid (decide_eq_true (HK.out.2 (by rw [List.drop_eq_nil_of_le (by rw [← HN.out]; exact Nat.le_refl _), List.drop_eq_nil_of_le (by rw [← HM.out]; exact Nat.le_refl _)])))
    clear h0
    go_wp2
    go_ret
    exact ⟨rv (rb (by rw [Hr.out, HT.out])), hbl⟩
 ·have hI : ¬ (n : Int) = (m : Int) := by omega
  have HD : Hid (decide (xs = ys) = false) := hid (decide_eq_false fun e => hnm (by rw [hn', hm', e]))
  clear hn' hm' hnm
  go_enter Tryz.func14, Tryz.ntmps14
  go_wp2
  go_ret
  exact ⟨rv (rb (by rw [Hr.out, HD.out])), Below.refl _ _⟩
def cmp1 (x y : Nat) : Int := if x < y then -1 else if y < x then 1 else 0
theorem cmpInt_any (x y : Nat) (w : World) : Calls Tryz.prog 53 #[.int .i64 x, .int .i64 y] w fun e w' => e = .returned (.int .i64 (cmp1 x y)) ∧ w = w' := by
 have hnan : ∀ (z : Nat) (w : World), Calls Tryz.prog 75 #[.int .i64 z] w fun e w' => e = .returned (.bool false) ∧ w = w' := fun z w => by
  go_enter Tryz.func75, Tryz.ntmps75
  go_wp2
  go_ret
  exact ⟨rfl, rfl⟩
 have HNN := hid hnan
 clear hnan
 unfold cmp1
 by_cases h1 : x < y
 ·have h1I : (x : Int) < (y : Int) := by omega
  rw [if_pos h1]
  clear h1
  go_enter Tryz.func53, Tryz.ntmps53
  go_wp2_with (go_at_call 75; refine (HNN.out _ _).mono ?_; rintro e w' ⟨rfl, rfl⟩)
  go_ret
  exact ⟨rfl, rfl⟩
 ·have h1I : ¬ (x : Int) < (y : Int) := by omega
  rw [if_neg h1]
  by_cases h2 : y < x
  ·have h2I : (y : Int) < (x : Int) := by omega
   rw [if_pos h2]
   clear h1 h2
   go_enter Tryz.func53, Tryz.ntmps53
   go_wp2_with (go_at_call 75; refine (HNN.out _ _).mono ?_; rintro e w' ⟨rfl, rfl⟩)
   go_ret
   exact ⟨rfl, rfl⟩
  ·have h2I : ¬ (y : Int) < (x : Int) := by omega
   rw [if_neg h2]
   clear h1 h2
   go_enter Tryz.func53, Tryz.ntmps53
   go_wp2_with (go_at_call 75; refine (HNN.out _ _).mono ?_; rintro e w' ⟨rfl, rfl⟩)
   go_ret
   exact ⟨rfl, rfl⟩
theorem cmpN_drop (a b : List Nat) (k : Nat) (ha : k < a.length) (hb : k < b.length) : cmpN (a.drop k) (b.drop k) = if cmp1 (a.getD k 0) (b.getD k 0) = 0 then cmpN (a.drop (k + 1)) (b.drop (k + 1)) else cmp1 (a.getD k 0) (b.getD k 0) := by
 rw [List.drop_eq_getElem_cons ha, List.drop_eq_getElem_cons hb, cmpN, getD_lt' a 0 ha, getD_lt' b 0 hb]
 unfold cmp1
 split
 ·rw [if_neg (by decide)]
 ·split
  ·rw [if_neg (by decide)]
  ·rw [if_pos rfl]
theorem Compare_ints (ao bo : Option Addr) (c1 c2 n m : Nat) (xs ys : List Nat) (w : World) (hn' : n = xs.length) (hm' : m = ys.length) (h1 : RowI .i64 w ao (intsN xs)) (h2 : RowI .i64 w bo (intsN ys)) (hn : n ≤ 4611686018427387904) (r : Int) (Hr : Hid (r = cmpN xs ys)) :
  Calls Tryz.prog 30 #[.slice ao n c1, .slice bo m c2] w fun e w' => e = .returned (.int .i64 r) ∧ w = w' := by
 have HN := hid hn'
 have HM := hid hm'
 have HCC := hid cmpInt_any
 clear hn' hm'
 go_enter Tryz.func30, Tryz.ntmps30
 go_wp2
 go_loopw [11] (fun i wr => ∃ k : Nat, k ≤ n ∧ k ≤ m ∧ i = .int .i64 k ∧ wr = w ∧ Hid (cmpN (xs.drop k) (ys.drop k) = r)) (fun i _ => n - (intOf i).toNat)
 case atStart => exact ⟨0, Nat.zero_le _, Nat.zero_le _, rfl, rfl, hid (by rw [List.drop_zero, List.drop_zero, Hr.out])⟩
 case round =>
  obtain ⟨k, hk, hkm, rfl, rfl, HK⟩ := hrel
  by_cases h0 : k < n
  ·have hka : k < xs.length := by have := HN.out; omega
   by_cases h3 : k < m
   ·have hkb : k < ys.length := by have := HM.out; omega
    obtain ⟨b, off, x, rfl, hb, Hx, hcx⟩ := h1.elem (i := k) (by rw [intsN_length]; exact hka)
    obtain ⟨b2, off2, y, rfl, hb2, Hy, hcy⟩ := h2.elem (i := k) (by rw [intsN_length]; exact hkb)
    have HD := cmpN_drop xs ys k hka hkb
    rw [HK.out] at HD
    obtain ⟨p, Hp⟩ : ∃ p, Hid (p = xs.getD k 0) := ⟨_, rfl⟩
    obtain ⟨q, Hq⟩ : ∃ p, Hid (p = ys.getD k 0) := ⟨_, rfl⟩
    rw [Hx.out, intsN_getD _ _ hka, ← Hp.out] at hcx
    rw [Hy.out, intsN_getD _ _ hkb, ← Hq.out] at hcy
    rw [← Hp.out, ← Hq.out] at HD
    have hkI : (k : Int) < (n : Int) := by omega
    have hkI3 : (k : Int) < (m : Int) := by omega
    have hkI2 : ¬ (m : Int) ≤ (k : Int) := by omega
    obtain ⟨c, Hc⟩ : ∃ c, Hid (c = cmp1 p q) := ⟨_, rfl⟩
    rw [← Hc.out] at HD
    have HDD := hid HD
    have HC2 : Hid (∀ w, Calls Tryz.prog 53 #[.int .i64 p, .int .i64 q] w fun e w' => e = .returned (.int .i64 c) ∧ w = w') := hid (fun w => by rw [Hc.out]; exact HCC.out p q w)
    clear HD hka hkb
    by_cases hc0 : c = 0
    ·have HZ : Hid (cmpN (xs.drop (k + 1)) (ys.drop (k + 1)) = r) := hid (by rw [HDD.out, if_pos hc0])
     clear Hc
     subst hc0
     go_wp2_with (go_at_call 53; refine (HC2.out _).mono ?_; rintro e w' ⟨rfl, rfl⟩)
     go_roundw
     case rel => exact ⟨k + 1, by omega, by omega, by go_num, by trivial, HZ⟩
     case measure => simp [intOf] <;> omega
    ·have HZ : Hid (c = r) := hid (by rw [HDD.out, if_neg hc0])
     go_wp2_with (go_at_call 53; refine (HC2.out _).mono ?_; rintro e w' ⟨rfl, rfl⟩)
     go_ret
     exact ⟨rv (ri HZ.out), by trivial⟩
   ·obtain rfl : k = m := by omega
    obtain ⟨b, off, x, rfl, hb, Hx, hcx⟩ := h1.elem (i := k) (by rw [intsN_length]; exact hka)
    have hkI : (k : Int) < (n : Int) := by omega
    have HZ : Hid (1 = r) := hid (by
     have := HK.out
     have hy0 : ys.drop k = [] := List.drop_eq_nil_of_le (by rw [← HM.out]; exact Nat.le_refl _)
     rw [List.drop_eq_getElem_cons hka, hy0] at this
     exact this)
    clear h3 hka hkm
    go_wp2
    go_ret
    exact ⟨rv (ri HZ.out), by trivial⟩
  ·obtain rfl : k = n := by omega
   have hn0 : xs.drop k = [] := List.drop_eq_nil_of_le (by rw [← HN.out]; exact Nat.le_refl _)
   by_cases h3 : k < m
   ·have hkI : (k : Int) < (m : Int) := by omega
    have HZ : Hid (-1 = r) := hid (by
     have := HK.out
     rw [hn0, List.drop_eq_getElem_cons (by rw [← HM.out]; exact h3)] at this
     exact this)
    clear h0 hn0 h3 hkm
    go_wp2
    go_ret
    exact ⟨rv (ri HZ.out), by trivial⟩
   ·obtain rfl : k = m := by omega
    have HZ : Hid (0 = r) := hid (by
     have := HK.out
     rw [hn0, List.drop_eq_nil_of_le (by rw [← HM.out]; exact Nat.le_refl _)] at this
     exact this)
    clear h0 hn0 h3 hkm
    go_wp2
    go_ret
    exact ⟨rv (ri HZ.out), by trivial⟩
end Go.Proofs.YtbjmadcbhkeenaaGreat.lk
namespace Go.Proofs.YtbjmadcbhkeenaaGreat.lk
open Go.RowKit wr st hs shr sh
def lnk (x : Env) : Link := (x.b, x.o)
def vmap (G : Mp Nat) : Mp Value := fun k => (G k).map fun d => Value.int .i64 (d : Int)
theorem vmap_upd (G : Mp Nat) (k : Id) (d : Nat) (j : Id) : vmap (upd G k d) j = upd (vmap G) k (.int .i64 (d : Int)) j := by
 unfold vmap upd
 split <;> rfl
theorem vmap_none {G : Mp Nat} {k : Id} (h : G k = none) : vmap G k = none := by unfold vmap; rw [h]; rfl
theorem vmap_some {G : Mp Nat} {k : Id} {d : Nat} (h : G k = some d) : vmap G k = some (.int .i64 (d : Int)) := by unfold vmap; rw [h]; rfl
theorem zeroInt (w : World) : (zeroValue 3).run Tryz.prog w = .ok (.int .i64 0) w := by kernel_rfl
theorem look_none {D : Mp Value} {k : Id} {z : Value} (h : D k = none) : (if true = true then Value.tuple #[(D k).getD z, .bool (D k).isSome] else (D k).getD z) = .tuple #[z, .bool false] := by rw [h]; rfl
theorem look_some {D : Mp Value} {k : Id} {z v : Value} (h : D k = some v) : (if true = true then Value.tuple #[(D k).getD z, .bool (D k).isSome] else (D k).getD z) = .tuple #[v, .bool true] := by rw [h]; rfl
theorem wl_storeG {P : Program} {w : World} {ops : Array Oper} {rest : List Oper} {o : Oper} {a : Act} {Q : Exit → Act → World → Prop} (hgd : o.guard = none) (ty : TypeId) (x y : Operand) (ho : o.op = .store ty x y)
  (t : TypeId) (g : Nat) (hx : a.eval x = .pointer (some ⟨g, 0, none⟩)) (cs : List Value) (hy : a.eval y = .agg cs.toArray) (n : Nat) (hi : Agg P ty n) (hn : cs.length = n) (cur : List Value) (hg : BlkV t w g cur) (hc : cur.length = n) (h1 : ∀ u ∈ cs, u.oneCell' = true)
  (h : ∀ w', BlkV t w' g cs → w.grownBy w' (some g) → w'.heap.size = w.heap.size → wpList P ops Q rest (a.put o.dst undef) w') : wpList P ops Q (o :: rest) a w :=
 wl_storeAll hgd ty x y ho t g hx cs hy n hi hn cur hg hc h1 fun hb => h _ hb ⟨rfl, rfl, rfl, by simp, fun k _ hk => setRow_other w g k _ (fun e => hk (by rw [e]))⟩ (by simp)
theorem push_facts {w3 w5 : World} {o : Obj} {ao ao5 : Option Addr} {k c n5 c5 B g : Nat} (hg5 : (w3.alloc o).grownBy w5 (Value.slice ao k c).ownBlock) (hl5 : (Value.slice ao5 n5 c5).ownBlock = (Value.slice ao k c).ownBlock ∨ (Value.slice ao5 n5 c5).ownBlock = some (w3.alloc o).heap.size)
  (hao : ∀ b, ao = some b → B ≤ b.block ∧ b.block ≠ g) (hB : B ≤ w3.heap.size) (hg : g < w3.heap.size) :
  (∀ j, j < w3.heap.size → (∀ b, ao = some b → b.block ≠ j) → w5.heap[j]? = w3.heap[j]?) ∧ (∀ b, ao5 = some b → B ≤ b.block ∧ b.block ≠ g) ∧ w3.heap.size ≤ w5.heap.size ∧ Below B w3 w5 := by
 have hs : (w3.alloc o).heap.size = w3.heap.size + 1 := by simp
 have hsz := hg5.size
 have h1 : ∀ j, j < w3.heap.size → (∀ b, ao = some b → b.block ≠ j) → w5.heap[j]? = w3.heap[j]? := fun j hj hne => by
  rw [hg5.block j (by omega) (fun e => ?_), Below.heap_alloc w3 o j hj]
  cases ao with
  | none => cases e
  | some b => exact hne b rfl (by injection e with e; exact e.symm)
 refine ⟨h1, fun b e => ?_, by omega, ⟨hg5.os, hg5.tape, hg5.output, by omega, fun j hj => h1 j (by omega) (fun b e g => by have := (hao b e).1; omega)⟩⟩
 subst e
 rcases hl5 with h | h
 ·cases ao with
  | none => cases h
  | some b' =>
   have e : b.block = b'.block := by injection h
   rw [e]; exact hao b' rfl
 ·have e : b.block = (w3.alloc o).heap.size := by injection h
  omega
def FarPost (E : List Link) (want : Id) (n : Nat) (w : World) (e : Ending) (w' : World) : Prop := ∃ b, e = .returned (.map (some b)) ∧ w.heap.size ≤ b ∧ MapD w' b (vmap (farN E want n)) ∧ Below w.heap.size w w'
set_option maxHeartbeats 4000000 in
theorem far_any (lo : Option Addr) (cap n : Nat) (es : List Env) (want : Id) (w : World) (hn : n = es.length) (h1 : n ≤ 200) (hrow : RowE w lo es) (hok : ∀ x ∈ es, x.Ok) (hw : want.length = 16) :
  Calls Tryz.prog 40 #[.slice lo n cap, idV want] w (FarPost (es.map lnk) want n w) := by
 obtain ⟨B, HB⟩ : ∃ B, Hid (B = w.heap.size) := ⟨_, rfl⟩
 have hsz : w.heap.size = B := HB.out.symm
 have HN := hid hn
 obtain ⟨W, HW⟩ : ∃ W, Hid (W = want.map (Value.int .u8)) := ⟨_, rfl⟩
 have hWl : W.length = 16 := by rw [HW.out, List.length_map, hw]
 have HIDW : Hid (Value.agg W.toArray = idV want) := hid (by rw [HW.out]; rfl)
 have hzE := hid zeroEnv
 obtain ⟨ZE, HZE⟩ : ∃ Z, Hid (Z = env0.cs) := ⟨_, rfl⟩
 rw [← HZE.out] at hzE
 have hZEl : ZE.length = 130 := by rw [HZE.out]; exact env0_ok.csl
 have HF0 : Hid (farN (es.map lnk) want 0 = upd (fun _ => none) want 0) := rfl
 rw [← HIDW.out]
 clear hn
 go_enter Tryz.func40, Tryz.ntmps40
 go_wp2_with (first | (refine wl_insD rfl 80 3 _ _ _ rfl Tryz.underlying80 (B + 1) _ (MapD.new hM1) want hw rfl HIDW.out (.int .i64 0) rfl ?_; intro w2 hM2 hb2 hs2 hg2; have bb2 : Below B w w2 := bb1.grown hg2 (by omega) (fun k hk => by injection hk with hk; omega); clear hM1 hb2 hg2 bb1) | (refine wl_load rfl 27 _ rfl ⟨B, 0, none⟩ rfl W (by rw [hWl]; exact aggID) hB1.at0 ?_) | (refine wl_makeMap rfl 80 rfl (B + 1) hs0 ?_; intro w1 hM1 hb1 hs1; have hB1 := hB0.below hb1 (by omega); have bb1 := hb0.trans (hb1.mono (by omega : B ≤ _)); clear hB0 hb0 hb1) | (refine wl_boxV rfl 27 _ rfl W rfl B hsz ?_; intro w0 hB0 hb0 hs0))
 go_loopw [6] (fun i wr => ∃ (q m : Nat), q = m + 1 ∧ m ≤ n ∧ i = .int .i64 q ∧ MapD wr (B + 1) (vmap (farN (es.map lnk) want m)) ∧ Below B w wr) (fun i _ => 1000 - (intOf i).toNat)
 case atStart => exact ⟨1, 0, rfl, by omega, rfl, hM2.iff (fun k => by rw [HF0.out, vmap_upd]; rfl), bb2⟩
 case round =>
  clear hM2 bb2 hs2
  obtain ⟨q, m, hqm, hm, rfl, hMo, hbo⟩ := hrel
  have hq1 : (1 : Int) ≤ (q : Int) := by omega
  have hq2 : (q : Int) ≤ 1000 := by omega
  have HQM := hid hqm
  by_cases hmn : m < n
  ·have hqn : (q : Int) ≤ (n : Int) := by omega
   have HF1 : Hid ((es.map lnk).foldl (farX m) (farN (es.map lnk) want m) = farN (es.map lnk) want (m + 1)) := rfl
   clear hqm
   go_wp2
   go_loopw [24] (fun i wr => ∃ (j : Nat) (G : Mp Nat), j ≤ n ∧ i = .int .i64 j ∧ MapD wr (B + 1) (vmap G) ∧ Below B w wr ∧ Hid (((es.map lnk).drop j).foldl (farX m) G = farN (es.map lnk) want (m + 1))) (fun i _ => n - (intOf i).toNat)
   case atStart => exact ⟨0, _, by omega, rfl, hMo, hbo, hid (by rw [List.drop_zero]; exact HF1.out)⟩
   case round =>
    clear hMo hbo HF1
    obtain ⟨j, G, hj, rfl, hMp, hb, HG⟩ := hrel
    by_cases hjn : j < n
    ·have hjI : (j : Int) < (n : Int) := by omega
     have hje : j < es.length := by have := HN.out; omega
     have hMpl := hMp.lt
     have hszr0 : B ≤ wr.heap.size := by omega
     obtain ⟨b, off, rfl, hbw, hat, hC130⟩ := (hrow.below (by rw [← HB.out]; exact hb)).at (k := j) hje
     obtain ⟨x, Hx⟩ : ∃ x, Hid (x = es.getD j env0) := ⟨_, rfl⟩
     have hx : x.Ok := by rw [Hx.out]; exact hok _ (by rw [getD_lt' es _ hje]; exact List.getElem_mem hje)
     rw [← Hx.out] at hat hC130
     have HEJ : Hid ((es.map lnk)[j]'(by rw [List.length_map]; exact hje) = (x.b, x.o)) := hid (by rw [List.getElem_map, Hx.out, getD_lt' es _ hje]; rfl)
     obtain ⟨CS, HCS⟩ : ∃ C, Hid (C = x.cs) := ⟨_, rfl⟩
     have hCl : CS.length = 130 := by rw [HCS.out]; exact hC130
     have hC1 : ∀ u ∈ CS, u.oneCell' = true := by rw [HCS.out]; exact x.cs_one
     rw [← HCS.out] at hat
     obtain ⟨XB, HXB⟩ : ∃ V, Hid (V = x.b.map (Value.int .u8)) := ⟨_, rfl⟩
     have hXBl : XB.length = 16 := by rw [HXB.out, List.length_map, hx.bl]
     obtain ⟨XO, HXO⟩ : ∃ V, Hid (V = x.o.map (Value.int .u8)) := ⟨_, rfl⟩
     have hXOl : XO.length = 16 := by rw [HXO.out, List.length_map, hx.ol]
     have fB : Hid (∀ w G, BlkV 57 w G CS → At w ⟨G, 2, none⟩ XB) := hid (fun w G h => by rw [HXB.out]; rw [HCS.out] at h; exact env_b h)
     have fO : Hid (∀ w G, BlkV 57 w G CS → At w ⟨G, 18, none⟩ XO) := hid (fun w G h => by rw [HXO.out]; rw [HCS.out] at h; exact env_o hx h)
     have HIDB : Hid (Value.agg XB.toArray = idV x.b) := hid (by rw [HXB.out]; rfl)
     have HIDO : Hid (Value.agg XO.toArray = idV x.o) := hid (by rw [HXO.out]; rfl)
     have hxbl := hx.bl
     have hxol := hx.ol
     have HGD : Hid (((es.map lnk).drop (j + 1)).foldl (farX m) (farX m G (x.b, x.o)) = farN (es.map lnk) want (m + 1)) := hid (by
      have h := HG.out
      rw [List.drop_eq_getElem_cons (by rw [List.length_map]; exact hje), List.foldl_cons, HEJ.out] at h
      exact h)
     clear hx hC130 HEJ hje HG hrow
     cases hgo : G x.o with
     | none =>
      have HV := hid (look_none (z := .int .i64 0) (vmap_none hgo))
      have HX : Hid (farX m G (x.b, x.o) = G) := hid (if_neg (by rintro ⟨h, _⟩; rw [hgo] at h; cases h))
      clear hgo
      go_wp2_with (first | (refine wl_lookD (by kernel_rfl) 80 3 _ _ true rfl Tryz.underlying80 (.int .i64 0) (zeroInt _) (B + 1) _ hM3 x.o hxol rfl HIDO.out _ HV.out ?_) | (refine wl_load rfl 27 _ rfl ⟨M, 18, none⟩ rfl XO (by rw [hXOl]; exact aggID) (fO.out _ _ hX3) ?_) | (refine wl_storeV rfl 57 _ _ rfl 57 M rfl CS rfl 130 aggEnv hCl ZE hG2 hZEl hC1 ?_; intro w3 hX3 hb3 hs3; have bb3 : Below wr.heap.size wr w3 := bb2.trans (hb3.mono (by rw [HMM.out]; exact Nat.le_refl _)); have hM3 := hMp.below bb3 hMpl; have HMB : Hid (B ≤ M) := hid (by rw [HMM.out]; exact hszr0);  clear hb3 hG2 bb2 hs2 hs3) | (refine wl_allocV rfl 57 rfl ZE hzE.out wr.heap.size rfl ?_; intro w2 hG2 bb2 hs2; obtain ⟨M, HMM⟩ : ∃ g, Hid (g = wr.heap.size) := ⟨_, rfl⟩; rw [← HMM.out] at hG2; rw [← HMM.out]) | (refine wl_load rfl 57 _ rfl ⟨b, off + j * 130, none⟩ rfl CS (by rw [hCl]; exact aggEnv) hat ?_))
      go_roundw
      case rel => exact ⟨j + 1, G, by omega, by go_num, hM3, hb.trans (bb3.mono hszr0), hid (by rw [← HGD.out, HX.out])⟩
      case measure => simp [intOf] <;> omega
     | some d =>
      have HV := hid (look_some (z := .int .i64 0) (vmap_some hgo))
      by_cases hdm : d = m
      ·have hdq : ((d : Int) == (q : Int) - 1) = true := by have := HQM.out; simp; omega
       cases hgb : G x.b with
       | some e =>
        have HV2 := hid (look_some (z := .int .i64 0) (vmap_some hgb))
        have HX : Hid (farX m G (x.b, x.o) = G) := hid (if_neg (by rintro ⟨_, h⟩; rw [hgb] at h; cases h))
        clear hgo hgb hdm
        go_wp2_with (first | (refine wl_lookD (by kernel_rfl) 80 3 _ _ true rfl Tryz.underlying80 (.int .i64 0) (zeroInt _) (B + 1) _ hM3 x.b hxbl rfl HIDB.out _ HV2.out ?_) | (refine wl_lookD (by kernel_rfl) 80 3 _ _ true rfl Tryz.underlying80 (.int .i64 0) (zeroInt _) (B + 1) _ hM3 x.o hxol rfl HIDO.out _ HV.out ?_) | (refine wl_load rfl 27 _ rfl ⟨M, 2, none⟩ rfl XB (by rw [hXBl]; exact aggID) (fB.out _ _ hX3) ?_) | (refine wl_load rfl 27 _ rfl ⟨M, 18, none⟩ rfl XO (by rw [hXOl]; exact aggID) (fO.out _ _ hX3) ?_) | (refine wl_storeV rfl 57 _ _ rfl 57 M rfl CS rfl 130 aggEnv hCl ZE hG2 hZEl hC1 ?_; intro w3 hX3 hb3 hs3; have bb3 : Below wr.heap.size wr w3 := bb2.trans (hb3.mono (by rw [HMM.out]; exact Nat.le_refl _)); have hM3 := hMp.below bb3 hMpl; have HMB : Hid (B ≤ M) := hid (by rw [HMM.out]; exact hszr0);  clear hb3 hG2 bb2 hs2 hs3) | (refine wl_allocV rfl 57 rfl ZE hzE.out wr.heap.size rfl ?_; intro w2 hG2 bb2 hs2; obtain ⟨M, HMM⟩ : ∃ g, Hid (g = wr.heap.size) := ⟨_, rfl⟩; rw [← HMM.out] at hG2; rw [← HMM.out]) | (refine wl_load rfl 57 _ rfl ⟨b, off + j * 130, none⟩ rfl CS (by rw [hCl]; exact aggEnv) hat ?_))
        go_roundw
        case rel => exact ⟨j + 1, G, by omega, by go_num, hM3, hb.trans (bb3.mono hszr0), hid (by rw [← HGD.out, HX.out])⟩
        case measure => simp [intOf] <;> omega
       | none =>
        have HV2 := hid (look_none (z := .int .i64 0) (vmap_none hgb))
        have HX : Hid (farX m G (x.b, x.o) = upd G x.b q) := hid (by rw [HQM.out]; exact if_pos ⟨by rw [hgo, hdm], hgb⟩)
        clear hgo hgb hdm
        go_wp2_with (first | (refine wl_updD rfl 80 3 _ _ _ rfl Tryz.underlying80 (B + 1) _ hM3 x.b hxbl rfl HIDB.out (.int .i64 q) rfl ?_; intro w4 hM4 hb4 hs4 hg4; have bb4 : Below B w w4 := (hb.trans (bb3.mono hszr0)).grown hg4 (Nat.le_trans hszr0 bb3.size) (fun k hk => by injection hk with hk; omega); clear hb4 hg4 hM3) | (refine wl_lookD (by kernel_rfl) 80 3 _ _ true rfl Tryz.underlying80 (.int .i64 0) (zeroInt _) (B + 1) _ hM3 x.b hxbl rfl HIDB.out _ HV2.out ?_) | (refine wl_lookD (by kernel_rfl) 80 3 _ _ true rfl Tryz.underlying80 (.int .i64 0) (zeroInt _) (B + 1) _ hM3 x.o hxol rfl HIDO.out _ HV.out ?_) | (refine wl_load rfl 27 _ rfl ⟨M, 2, none⟩ rfl XB (by rw [hXBl]; exact aggID) (fB.out _ _ hX3) ?_) | (refine wl_load rfl 27 _ rfl ⟨M, 18, none⟩ rfl XO (by rw [hXOl]; exact aggID) (fO.out _ _ hX3) ?_) | (refine wl_storeV rfl 57 _ _ rfl 57 M rfl CS rfl 130 aggEnv hCl ZE hG2 hZEl hC1 ?_; intro w3 hX3 hb3 hs3; have bb3 : Below wr.heap.size wr w3 := bb2.trans (hb3.mono (by rw [HMM.out]; exact Nat.le_refl _)); have hM3 := hMp.below bb3 hMpl; have HMB : Hid (B ≤ M) := hid (by rw [HMM.out]; exact hszr0);  clear hb3 hG2 bb2 hs2 hs3) | (refine wl_allocV rfl 57 rfl ZE hzE.out wr.heap.size rfl ?_; intro w2 hG2 bb2 hs2; obtain ⟨M, HMM⟩ : ∃ g, Hid (g = wr.heap.size) := ⟨_, rfl⟩; rw [← HMM.out] at hG2; rw [← HMM.out]) | (refine wl_load rfl 57 _ rfl ⟨b, off + j * 130, none⟩ rfl CS (by rw [hCl]; exact aggEnv) hat ?_))
        go_roundw
        case rel => exact ⟨j + 1, _, by omega, by go_num, hM4.iff (fun k => by rw [vmap_upd]), bb4, hid (by rw [← HGD.out, HX.out])⟩
        case measure => simp [intOf] <;> omega
      ·have hdq : ((d : Int) == (q : Int) - 1) = false := by have := HQM.out; simp; omega
       have HX : Hid (farX m G (x.b, x.o) = G) := hid (if_neg (by rintro ⟨h, _⟩; rw [hgo] at h; exact hdm (Option.some.inj h)))
       clear hgo hdm
       go_wp2_with (first | (refine wl_lookD (by kernel_rfl) 80 3 _ _ true rfl Tryz.underlying80 (.int .i64 0) (zeroInt _) (B + 1) _ hM3 x.o hxol rfl HIDO.out _ HV.out ?_) | (refine wl_load rfl 27 _ rfl ⟨M, 18, none⟩ rfl XO (by rw [hXOl]; exact aggID) (fO.out _ _ hX3) ?_) | (refine wl_storeV rfl 57 _ _ rfl 57 M rfl CS rfl 130 aggEnv hCl ZE hG2 hZEl hC1 ?_; intro w3 hX3 hb3 hs3; have bb3 : Below wr.heap.size wr w3 := bb2.trans (hb3.mono (by rw [HMM.out]; exact Nat.le_refl _)); have hM3 := hMp.below bb3 hMpl; have HMB : Hid (B ≤ M) := hid (by rw [HMM.out]; exact hszr0);  clear hb3 hG2 bb2 hs2 hs3) | (refine wl_allocV rfl 57 rfl ZE hzE.out wr.heap.size rfl ?_; intro w2 hG2 bb2 hs2; obtain ⟨M, HMM⟩ : ∃ g, Hid (g = wr.heap.size) := ⟨_, rfl⟩; rw [← HMM.out] at hG2; rw [← HMM.out]) | (refine wl_load rfl 57 _ rfl ⟨b, off + j * 130, none⟩ rfl CS (by rw [hCl]; exact aggEnv) hat ?_))
       go_roundw
       case rel => exact ⟨j + 1, G, by omega, by go_num, hM3, hb.trans (bb3.mono hszr0), hid (by rw [← HGD.out, HX.out])⟩
       case measure => simp [intOf] <;> omega
    ·obtain rfl : j = n := by omega
     have HE : Hid (G = farN (es.map lnk) want (m + 1)) := hid (by
      have h := HG.out
      rw [List.drop_eq_nil_of_le (by rw [List.length_map, ← HN.out]; exact Nat.le_refl _)] at h
      exact h)
     clear HG hjn
     go_wp2
     go_roundw
     case rel => exact ⟨q + 1, m + 1, by have := HQM.out; omega, by omega, by go_num, hMp.iff (fun k => by rw [HE.out]), hb⟩
     case measure => simp [intOf] <;> omega
  ·obtain rfl : m = n := by omega
   have hqn : ¬ (q : Int) ≤ (m : Int) := by omega
   clear hqm hmn
   go_wp2
   go_ret
   exact ⟨B + 1, rfl, by rw [hsz]; omega, hMo, by rw [hsz]; exact hbo⟩
def WayPost (r : Option (List Nat)) (w : World) (e : Ending) (w' : World) : Prop := Below w.heap.size w w' ∧ ∃ (ao : Option Addr) (m c : Nat), e = .returned (.tuple #[.slice ao m c, .bool r.isSome]) ∧ m = (r.getD []).length ∧ RowI .i64 w' ao (intsN (r.getD []))
set_option maxHeartbeats 4000000 in
theorem way_any (lo : Option Addr) (cap n : Nat) (es : List Env) (from_ want : Id) (w : World) (hn : n = es.length) (h1 : n ≤ 200) (hrow : RowE w lo es) (hok : ∀ x ∈ es, x.Ok) (hf : from_.length = 16) (hw : want.length = 16) :
  Calls Tryz.prog 19 #[.slice lo n cap, idV from_, idV want] w (WayPost (wayR (es.map lnk) from_ want) w) := by
 obtain ⟨B, HB⟩ : ∃ B, Hid (B = w.heap.size) := ⟨_, rfl⟩
 have hsz : w.heap.size = B := HB.out.symm
 have HN := hid hn
 obtain ⟨W, HW⟩ : ∃ W, Hid (W = want.map (Value.int .u8)) := ⟨_, rfl⟩
 have hWl : W.length = 16 := by rw [HW.out, List.length_map, hw]
 have HIDW : Hid (Value.agg W.toArray = idV want) := hid (by rw [HW.out]; rfl)
 obtain ⟨R, HR⟩ : ∃ W, Hid (W = from_.map (Value.int .u8)) := ⟨_, rfl⟩
 have hRl : R.length = 16 := by rw [HR.out, List.length_map, hf]
 have HIDR : Hid (Value.agg R.toArray = idV from_) := hid (by rw [HR.out]; rfl)
 have hzE := hid zeroEnv
 obtain ⟨ZE, HZE⟩ : ∃ Z, Hid (Z = env0.cs) := ⟨_, rfl⟩
 rw [← HZE.out] at hzE
 have hZEl : ZE.length = 130 := by rw [HZE.out]; exact env0_ok.csl
 have hfar := fun (y : World) (hb : Below B w y) => hid (far_any lo cap n es want y hn h1 (hrow.below (hsz ▸ hb)) hok hw)
 rw [← HIDW.out] at hfar ⊢
 rw [← HIDR.out]
 have hinfo := slInt.info
 obtain ⟨F, HF⟩ : ∃ F, Hid (F = farN (es.map lnk) want n) := ⟨_, rfl⟩
 unfold FarPost at hfar
 rw [← HF.out] at hfar
 have HFL : Hid (farN (es.map lnk) want (es.map lnk).length = F) := hid (by rw [List.length_map, ← HN.out, HF.out])
 clear hn
 cases hd : F from_ with
 | none =>
  have HV := hid (look_none (z := .int .i64 0) (vmap_none hd))
  have HRR : Hid (wayR (es.map lnk) from_ want = none) := hid (by unfold wayR; rw [HFL.out, hd])
  clear hd
  go_enter Tryz.func19, Tryz.ntmps19
  go_wp2_with (first | (refine wl_lookD (by kernel_rfl) 80 3 _ _ true rfl Tryz.underlying80 (.int .i64 0) (zeroInt _) g _ hM2 from_ hf rfl HIDR.out _ HV.out ?_) | (refine wl_load rfl 27 _ rfl ⟨B, 0, none⟩ rfl R (by rw [hRl]; exact aggID) hB2.at0 ?_) | (go_at_call 40; refine (hfar w1 bb1).out.mono ?_; rintro r w2 ⟨g, rfl, hg2, hM2, hb2⟩; have hB2 := hB1.below hb2 hB1.lt; have bb2 : Below B w w2 := bb1.trans (hb2.mono (by omega)); have hs2 : B + 2 ≤ w2.heap.size := (by have := hb2.size; omega); clear hB1 hB1b bb1 hb2) | (refine wl_load rfl 27 _ rfl ⟨B + 1, 0, none⟩ rfl W (by rw [hWl]; exact aggID) hB1b.at0 ?_) | (refine wl_boxV rfl 27 _ rfl W rfl (B + 1) hs0 ?_; intro w1 hB1b hb1 hs1; have hB1 := hB0.below hb1 (by omega); have bb1 := hb0.trans (hb1.mono (by omega : B ≤ _)); clear hB0 hb0 hb1) | (refine wl_boxV rfl 27 _ rfl R rfl B hsz ?_; intro w0 hB0 hb0 hs0))
  go_ret2
  exact ⟨by rw [hsz]; exact bb2, none, 0, 0, by rw [HRR.out]; rfl, by rw [HRR.out]; rfl, by rw [HRR.out]; exact Or.inl rfl⟩
 | some d =>
  have HV := hid (look_some (z := .int .i64 0) (vmap_some hd))
  have HRR : Hid (wayR (es.map lnk) from_ want = some (wayGo F (es.map lnk) d from_ [])) := hid (by unfold wayR; rw [HFL.out, hd])
  have hdn : d ≤ n := by
   rw [HF.out] at hd
   exact ((farN_spec (es.map lnk) want n from_ d).1 hd).1
  obtain ⟨L, HL⟩ : ∃ L, Hid (L = wayGo F (es.map lnk) d from_ []) := ⟨_, rfl⟩
  rw [← HL.out] at HRR
  clear hd HFL HF
  go_enter Tryz.func19, Tryz.ntmps19
  go_wp2_with (first | (refine wl_lookD (by kernel_rfl) 80 3 _ _ true rfl Tryz.underlying80 (.int .i64 0) (zeroInt _) g _ hM2 from_ hf rfl HIDR.out _ HV.out ?_) | (refine wl_load rfl 27 _ rfl ⟨B, 0, none⟩ rfl R (by rw [hRl]; exact aggID) hB2.at0 ?_) | (go_at_call 40; refine (hfar w1 bb1).out.mono ?_; rintro r w2 ⟨g, rfl, hg2, hM2, hb2⟩; have hB2 := hB1.below hb2 hB1.lt; have bb2 : Below B w w2 := bb1.trans (hb2.mono (by omega)); have hs2 : B + 2 ≤ w2.heap.size := (by have := hb2.size; omega); clear hB1 hB1b bb1 hb2) | (refine wl_load rfl 27 _ rfl ⟨B + 1, 0, none⟩ rfl W (by rw [hWl]; exact aggID) hB1b.at0 ?_) | (refine wl_boxV rfl 27 _ rfl W rfl (B + 1) hs0 ?_; intro w1 hB1b hb1 hs1; have hB1 := hB0.below hb1 (by omega); have bb1 := hb0.trans (hb1.mono (by omega : B ≤ _)); clear hB0 hb0 hb1) | (refine wl_boxV rfl 27 _ rfl R rfl B hsz ?_; intro w0 hB0 hb0 hs0))
  go_loopw [9, 11] (fun t o wr => ∃ (q : Nat) (out : List Nat) (ao : Option Addr) (c : Nat) (fr : Id) (FR : List Value), q ≤ n ∧ t = .int .i64 q ∧ o = .slice ao out.length c ∧ wr.ownsRow B 3 1 (.slice ao out.length c) out.length ((intsN out).map (Value.int .i64)) ∧ BlkV 27 wr B FR ∧ FR.length = 16 ∧ Hid (FR = fr.map (Value.int .u8)) ∧ MapD wr g (vmap F) ∧ Below B w wr ∧ B + 2 ≤ wr.heap.size ∧ (∀ b, ao = some b → B + 2 ≤ b.block ∧ b.block ≠ g) ∧ out.length + q ≤ n ∧ Hid (wayGo F (es.map lnk) q fr out = L)) (fun t _ _ => (intOf t).toNat)
  case atStart => exact ⟨d, [], none, 0, from_, R, hdn, rfl, rfl, World.ownsRow_nil _ _ _ _, hB2, hRl, HR, hM2, bb2, hs2, (fun b e => by cases e), by simpa using hdn, HL.out.symm⟩
  case round =>
   clear hB2 hM2 bb2 hs2 HV HL
   obtain ⟨q, out, ao, oc, fr, FR, hqn, rfl, rfl, hown, hBr, hFRl, HFR, hMp, hb, hszr, hao, hol, HGo⟩ := hrel
   by_cases hq0 : 0 < q
   ·obtain ⟨p, HQ⟩ : ∃ p, Hid (q = p + 1) := ⟨q - 1, by show _ = _; omega⟩
    have hq1 : (0 : Int) < (q : Int) := by omega
    have hq2 : (q : Int) ≤ 200 := by omega
    have hfr16 : fr.length = 16 := by have := HFR.out; rw [this, List.length_map] at hFRl; exact hFRl
    have HGo1 : Hid (wayGo F (es.map lnk) (p + 1) fr out = L) := hid (by rw [← HQ.out]; exact HGo.out)
    have HGn : Hid (firstI F fr p (es.map lnk) 0 = none → wayGo F (es.map lnk) p fr out = L) := hid (fun h => by have := HGo1.out; rw [wayGo, h] at this; exact this)
    have HGs : Hid (∀ i o, firstI F fr p (es.map lnk) 0 = some (i, o) → wayGo F (es.map lnk) p o (out ++ [i]) = L) := hid (fun i o h => by have := HGo1.out; rw [wayGo, h] at this; exact this)
    clear HGo HGo1
    go_wp2
    go_loopw [11, 33] (fun o i wi => ∃ (j : Nat), j ≤ n ∧ i = .int .i64 j ∧ o = .slice ao out.length oc ∧ Below wr.heap.size wr wi ∧ Hid (firstI F fr p ((es.map lnk).drop j) j = firstI F fr p (es.map lnk) 0)) (fun _ i _ => n - (intOf i).toNat)
    case atStart => exact ⟨0, by omega, rfl, rfl, Below.refl _ _, hid (by rw [List.drop_zero])⟩
    case round =>
     rename World => wi
     obtain ⟨j, hj, rfl, rfl, hbi, HFI⟩ := hrel
     have hownI := owns_up hown hbi
     have hBi := hBr.below hbi hBr.lt
     have hMi := hMp.below hbi hMp.lt
     have bbi : Below B w wi := hb.trans (hbi.mono (by omega))
     have hszi : B + 2 ≤ wi.heap.size := Nat.le_trans hszr hbi.size
     clear hown hBr hMp hb
     by_cases hjn : j < n
     ·have hjI : (j : Int) < (n : Int) := by omega
      have hje : j < es.length := by have := HN.out; omega
      have hMpl := hMi.lt
      obtain ⟨b, off, rfl, hbw, hat, hC130⟩ := (hrow.below (by rw [← HB.out]; exact bbi)).at (k := j) hje
      obtain ⟨x, Hx⟩ : ∃ x, Hid (x = es.getD j env0) := ⟨_, rfl⟩
      have hx : x.Ok := by rw [Hx.out]; exact hok _ (by rw [getD_lt' es _ hje]; exact List.getElem_mem hje)
      rw [← Hx.out] at hat hC130
      have HEJ : Hid ((es.map lnk)[j]'(by rw [List.length_map]; exact hje) = (x.b, x.o)) := hid (by rw [List.getElem_map, Hx.out, getD_lt' es _ hje]; rfl)
      obtain ⟨CS, HCS⟩ : ∃ C, Hid (C = x.cs) := ⟨_, rfl⟩
      have hCl : CS.length = 130 := by rw [HCS.out]; exact hC130
      have hC1 : ∀ u ∈ CS, u.oneCell' = true := by rw [HCS.out]; exact x.cs_one
      rw [← HCS.out] at hat
      obtain ⟨XB, HXB⟩ : ∃ V, Hid (V = x.b.map (Value.int .u8)) := ⟨_, rfl⟩
      have hXBl : XB.length = 16 := by rw [HXB.out, List.length_map, hx.bl]
      obtain ⟨XO, HXO⟩ : ∃ V, Hid (V = x.o.map (Value.int .u8)) := ⟨_, rfl⟩
      have hXOl : XO.length = 16 := by rw [HXO.out, List.length_map, hx.ol]
      have fB : Hid (∀ w G, BlkV 57 w G CS → At w ⟨G, 2, none⟩ XB) := hid (fun w G h => by rw [HXB.out]; rw [HCS.out] at h; exact env_b h)
      have fO : Hid (∀ w G, BlkV 57 w G CS → At w ⟨G, 18, none⟩ XO) := hid (fun w G h => by rw [HXO.out]; rw [HCS.out] at h; exact env_o hx h)
      have HIDB : Hid (Value.agg XB.toArray = idV x.b) := hid (by rw [HXB.out]; rfl)
      have HIDO : Hid (Value.agg XO.toArray = idV x.o) := hid (by rw [HXO.out]; rfl)
      have hxbl := hx.bl
      have hxol := hx.ol
      have hXO1 : ∀ u ∈ XO, u.oneCell' = true := by rw [HXO.out]; exact ints_one _ _
      have HFD : Hid (firstI F fr p (es.map lnk) 0 = if x.b = fr ∧ F x.o = some p then some (j, x.o) else firstI F fr p ((es.map lnk).drop (j + 1)) (j + 1)) := hid (by
       rw [← HFI.out, firstI_drop F fr p _ j (by rw [List.length_map]; exact hje), HEJ.out])
      clear hx hC130 HEJ hje HFI hrow hfar
      cases hgo : F x.o with
      | none =>
       have HV := hid (look_none (z := .int .i64 0) (vmap_none hgo))
       have HX : Hid (firstI F fr p ((es.map lnk).drop (j + 1)) (j + 1) = firstI F fr p (es.map lnk) 0) := hid (by rw [HFD.out, if_neg (by rintro ⟨_, h⟩; rw [hgo] at h; cases h)])
       clear hgo HFD
       go_wp2_with (first | (refine wl_lookD (by kernel_rfl) 80 3 _ _ true rfl Tryz.underlying80 (.int .i64 0) (zeroInt _) g _ hM3 x.o hxol rfl HIDO.out _ HV.out ?_) | (refine wl_load rfl 27 _ rfl ⟨M, 18, none⟩ rfl XO (by rw [hXOl]; exact aggID) (fO.out _ _ hX3) ?_) | (refine wl_storeV rfl 57 _ _ rfl 57 M rfl CS rfl 130 aggEnv hCl ZE hG2 hZEl hC1 ?_; intro w3 hX3 hb3 hs3; have bb3 : Below wi.heap.size wi w3 := bb2.trans (hb3.mono (by rw [HMM.out]; exact Nat.le_refl _)); have hM3 := hMi.below bb3 hMpl; have hB3 := hBi.below bb3 hBi.lt; have HMB : Hid (B + 2 ≤ M) := hid (by rw [HMM.out]; exact hszi);  clear hb3 hG2 bb2 hs2 hs3) | (refine wl_allocV rfl 57 rfl ZE hzE.out wi.heap.size rfl ?_; intro w2 hG2 bb2 hs2; obtain ⟨M, HMM⟩ : ∃ g, Hid (g = wi.heap.size) := ⟨_, rfl⟩; rw [← HMM.out] at hG2; rw [← HMM.out]) | (refine wl_load rfl 57 _ rfl ⟨b, off + j * 130, none⟩ rfl CS (by rw [hCl]; exact aggEnv) hat ?_))
       go_roundw
       case rel => exact ⟨j + 1, by omega, by go_num, rfl, hbi.trans (bb3.mono hbi.size), HX⟩
       case measure => simp [intOf] <;> omega
      | some e =>
       have HV := hid (look_some (z := .int .i64 0) (vmap_some hgo))
       have HEQ : Hid (∀ w, (Op.equalIn 10000 27 (.agg XB.toArray) (.agg FR.toArray)).run Tryz.prog w = .ok (x.b == fr) w) := hid (fun w => by rw [HXB.out, HFR.out]; exact run_eq_id w x.b fr hxbl hfr16)
       by_cases hbf : x.b = fr
       ·rw [show (x.b == fr) = true by simp [hbf]] at HEQ
        by_cases hep : e = p
        ·have hdq : ((e : Int) == (q : Int) - 1) = true := by have := HQ.out; simp; omega
         have HX : Hid (firstI F fr p (es.map lnk) 0 = some (j, x.o)) := hid (by rw [HFD.out, if_pos ⟨hbf, by rw [hgo, hep]⟩])
         have HG2 := hid (HGs.out _ _ HX.out)
         clear hgo HFD HGn HGs
         go_wp2_with (first | (refine wl_storeG rfl 27 _ _ rfl 27 B rfl XO rfl 16 aggID hXOl FR hB5 hFRl hXO1 ?_; intro w6 hB6 hg6 hs6; have hM6 := hM5.grown hg6 (by intro e; injection e with e; omega); have hO6 := hO5'.kept hg6 (Or.inr (by intro e; cases ao5 with | none => cases e | some b => have := (hao5 b rfl).1; injection e with e; omega)); have bb6 : Below B w w6 := ((bbi.trans (bb3.mono (by omega))).trans (bb5.mono (by omega))).grown hg6 (by have := bb5.size; have := bb3.size; omega) (fun k hk => by injection hk with hk; omega); have hs6' : B + 2 ≤ w6.heap.size := (by have := bb5.size; have := bb3.size; omega); clear hg6 hM5 hB5) | (refine wl_load rfl 27 _ rfl ⟨M, 18, none⟩ rfl XO (by rw [hXOl]; exact aggID) (fO.out _ _ hX5) ?_) | (at_builtin; refine wl_push rfl _ _ 29 rfl 3 (.int .i64 0) 1 8 Tryz.underlying29 hinfo rfl (by decide) B (.slice ao out.length oc) out.length _ rfl ((owns_up hownI bb3).alloc _) ⟨w3.heap.size, 0, none⟩ 1 1 rfl [.int .i64 j] rfl (at_new' _ _ _ rfl) (by intro u hu; rw [List.mem_singleton.1 hu]; rfl) (by unfold maxLen; omega) (by omega) (by have := bb3.size; simp; omega) (out.length + 1) rfl ?_; intro ao5 cap5 w5 hcap5 hO5 hg5 hl5; obtain ⟨hk5, hao5, hsz5, bb5⟩ := push_facts hg5 hl5 hao (Nat.le_trans hszi bb3.size) hM3.lt; have hX5 := (hk5 M hX3.lt (fun b hb e => by have := (hownI.lt b.block (by rw [hb]; rfl)).2; rw [e, HMM.out] at this; exact Nat.lt_irrefl _ this)).trans hX3; have hM5 := hM3.of_block (hk5 g hM3.lt (fun b hb => (hao b hb).2)); have hB5 := hB3.below bb5 (by omega); have hO5' : w5.ownsRow B 3 1 (.slice ao5 (out.length + 1) cap5) (out.length + 1) ((intsN (out ++ [j])).map (Value.int .i64)) := (by rw [intsN_snoc]; exact hO5); clear hg5 hl5 hk5 hO5) | (refine wl_eqE 50 rfl (by kernel_rfl) 27 _ _ _ rfl XB.toArray FR.toArray rfl rfl true (HEQ.out _) (by kernel_rfl) ?_) | (refine wl_loadG (by kernel_rfl) 27 _ rfl ⟨B, 0, none⟩ rfl 16 FR hFRl aggID hB3.at0 ?_) | (refine wl_loadG (by kernel_rfl) 27 _ rfl ⟨M, 2, none⟩ rfl 16 XB hXBl aggID (fB.out _ _ hX3) ?_) | (refine wl_lookD (by kernel_rfl) 80 3 _ _ true rfl Tryz.underlying80 (.int .i64 0) (zeroInt _) g _ hM3 x.o hxol rfl HIDO.out _ HV.out ?_) | (refine wl_load rfl 27 _ rfl ⟨M, 18, none⟩ rfl XO (by rw [hXOl]; exact aggID) (fO.out _ _ hX3) ?_) | (refine wl_storeV rfl 57 _ _ rfl 57 M rfl CS rfl 130 aggEnv hCl ZE hG2 hZEl hC1 ?_; intro w3 hX3 hb3 hs3; have bb3 : Below wi.heap.size wi w3 := bb2.trans (hb3.mono (by rw [HMM.out]; exact Nat.le_refl _)); have hM3 := hMi.below bb3 hMpl; have hB3 := hBi.below bb3 hBi.lt; have HMB : Hid (B + 2 ≤ M) := hid (by rw [HMM.out]; exact hszi);  clear hb3 hG2 bb2 hs2 hs3) | (refine wl_allocV rfl 57 rfl ZE hzE.out wi.heap.size rfl ?_; intro w2 hG2 bb2 hs2; obtain ⟨M, HMM⟩ : ∃ g, Hid (g = wi.heap.size) := ⟨_, rfl⟩; rw [← HMM.out] at hG2; rw [← HMM.out]) | (refine wl_load rfl 57 _ rfl ⟨b, off + j * 130, none⟩ rfl CS (by rw [hCl]; exact aggEnv) hat ?_))
         go_roundw
         case rel => exact ⟨p, out ++ [j], ao5, cap5, x.o, XO, by have := HQ.out; omega, ri (by have := HQ.out; omega), by rw [List.length_append]; rfl, by rw [List.length_append]; exact hO6, hB6, hXOl, HXO, hM6, bb6, hs6', hao5, by rw [List.length_append, List.length_singleton]; have := HQ.out; omega, HG2⟩
         case measure => have := HQ.out; simp [intOf] <;> omega
        ·have hdq : ((e : Int) == (q : Int) - 1) = false := by have := HQ.out; simp; omega
         have HX : Hid (firstI F fr p ((es.map lnk).drop (j + 1)) (j + 1) = firstI F fr p (es.map lnk) 0) := hid (by rw [HFD.out, if_neg (by rintro ⟨_, h⟩; rw [hgo] at h; exact hep (Option.some.inj h))])
         clear hgo HFD
         go_wp2_with (first | (refine wl_eqE 50 rfl (by kernel_rfl) 27 _ _ _ rfl XB.toArray FR.toArray rfl rfl true (HEQ.out _) (by kernel_rfl) ?_) | (refine wl_loadG (by kernel_rfl) 27 _ rfl ⟨B, 0, none⟩ rfl 16 FR hFRl aggID hB3.at0 ?_) | (refine wl_loadG (by kernel_rfl) 27 _ rfl ⟨M, 2, none⟩ rfl 16 XB hXBl aggID (fB.out _ _ hX3) ?_) | (refine wl_lookD (by kernel_rfl) 80 3 _ _ true rfl Tryz.underlying80 (.int .i64 0) (zeroInt _) g _ hM3 x.o hxol rfl HIDO.out _ HV.out ?_) | (refine wl_load rfl 27 _ rfl ⟨M, 18, none⟩ rfl XO (by rw [hXOl]; exact aggID) (fO.out _ _ hX3) ?_) | (refine wl_storeV rfl 57 _ _ rfl 57 M rfl CS rfl 130 aggEnv hCl ZE hG2 hZEl hC1 ?_; intro w3 hX3 hb3 hs3; have bb3 : Below wi.heap.size wi w3 := bb2.trans (hb3.mono (by rw [HMM.out]; exact Nat.le_refl _)); have hM3 := hMi.below bb3 hMpl; have hB3 := hBi.below bb3 hBi.lt; have HMB : Hid (B + 2 ≤ M) := hid (by rw [HMM.out]; exact hszi);  clear hb3 hG2 bb2 hs2 hs3) | (refine wl_allocV rfl 57 rfl ZE hzE.out wi.heap.size rfl ?_; intro w2 hG2 bb2 hs2; obtain ⟨M, HMM⟩ : ∃ g, Hid (g = wi.heap.size) := ⟨_, rfl⟩; rw [← HMM.out] at hG2; rw [← HMM.out]) | (refine wl_load rfl 57 _ rfl ⟨b, off + j * 130, none⟩ rfl CS (by rw [hCl]; exact aggEnv) hat ?_))
         go_roundw
         case rel => exact ⟨j + 1, by omega, by go_num, rfl, hbi.trans (bb3.mono hbi.size), HX⟩
         case measure => simp [intOf] <;> omega
       ·rw [show (x.b == fr) = false by simp [hbf]] at HEQ
        have HX : Hid (firstI F fr p ((es.map lnk).drop (j + 1)) (j + 1) = firstI F fr p (es.map lnk) 0) := hid (by rw [HFD.out, if_neg (fun h => hbf h.1)])
        clear hgo HFD hbf
        go_wp2_with (first | (refine wl_eqE 50 rfl (by kernel_rfl) 27 _ _ _ rfl XB.toArray FR.toArray rfl rfl false (HEQ.out _) (by kernel_rfl) ?_) | (refine wl_loadG (by kernel_rfl) 27 _ rfl ⟨B, 0, none⟩ rfl 16 FR hFRl aggID hB3.at0 ?_) | (refine wl_loadG (by kernel_rfl) 27 _ rfl ⟨M, 2, none⟩ rfl 16 XB hXBl aggID (fB.out _ _ hX3) ?_) | (refine wl_lookD (by kernel_rfl) 80 3 _ _ true rfl Tryz.underlying80 (.int .i64 0) (zeroInt _) g _ hM3 x.o hxol rfl HIDO.out _ HV.out ?_) | (refine wl_load rfl 27 _ rfl ⟨M, 18, none⟩ rfl XO (by rw [hXOl]; exact aggID) (fO.out _ _ hX3) ?_) | (refine wl_storeV rfl 57 _ _ rfl 57 M rfl CS rfl 130 aggEnv hCl ZE hG2 hZEl hC1 ?_; intro w3 hX3 hb3 hs3; have bb3 : Below wi.heap.size wi w3 := bb2.trans (hb3.mono (by rw [HMM.out]; exact Nat.le_refl _)); have hM3 := hMi.below bb3 hMpl; have hB3 := hBi.below bb3 hBi.lt; have HMB : Hid (B + 2 ≤ M) := hid (by rw [HMM.out]; exact hszi);  clear hb3 hG2 bb2 hs2 hs3) | (refine wl_allocV rfl 57 rfl ZE hzE.out wi.heap.size rfl ?_; intro w2 hG2 bb2 hs2; obtain ⟨M, HMM⟩ : ∃ g, Hid (g = wi.heap.size) := ⟨_, rfl⟩; rw [← HMM.out] at hG2; rw [← HMM.out]) | (refine wl_load rfl 57 _ rfl ⟨b, off + j * 130, none⟩ rfl CS (by rw [hCl]; exact aggEnv) hat ?_))
        go_roundw
        case rel => exact ⟨j + 1, by omega, by go_num, rfl, hbi.trans (bb3.mono hbi.size), HX⟩
        case measure => simp [intOf] <;> omega
     ·obtain rfl : j = n := by omega
      have HE : Hid (wayGo F (es.map lnk) p fr out = L) := hid (HGn.out (by
       rw [← HFI.out, List.drop_eq_nil_of_le (by rw [List.length_map, ← HN.out]; exact Nat.le_refl _)]
       rfl))
      clear HGn HGs HFI hjn hj
      go_wp2
      go_roundw
      case rel => exact ⟨p, out, ao, oc, fr, FR, by have := HQ.out; omega, ri (by have := HQ.out; omega), rfl, hownI, hBi, hFRl, HFR, hMi, bbi, hszi, hao, by have := HQ.out; omega, HE⟩
      case measure => have := HQ.out; simp [intOf] <;> omega
   ·obtain rfl : q = 0 := by omega
    have HE : Hid (out = L) := hid (by rw [← HGo.out]; rfl)
    clear hq0 HGo
    go_wp2
    go_ret2
    exact ⟨by rw [hsz]; exact hb, ao, out.length, oc, by rw [HRR.out]; rfl, by rw [HRR.out, ← HE.out]; rfl, by rw [HRR.out, ← HE.out]; exact (rowV_of_owns' hown).i⟩
end Go.Proofs.YtbjmadcbhkeenaaGreat.lk
