/-
  Contracts of share.points and keyref2.places: places and values of an octet, in rows of the call's own. Conditions: shares of the type's form, 2^40 at most. Contracts of keyref2.OverOf and At. Conditions: numbers from 0 to 256; as many places as values. Contract of share.polynomials: the polynomials through good shares, in rows of the call's own. Conditions: good shares of the type's form, 64 at most.
-/
import Derived.Test.YtbljihhelladbaaFShJ
import Derived.Test.YtbljihhelladbaaFMem
import Derived.Test.YtbljihhelladbaaFShBC
namespace Go.Proofs.Ytbljihhelladbaa.shr
set_option linter.unusedVariables false
open Go.RowKit Go.Proofs.Ytbljihhelladbaa.sh
set_option linter.unusedSimpArgs false
set_option pp.maxSteps 6000
theorem infoI : Info Try.prog 3 (.int .i64 0) 1 8 := by unfold Info; kernel_rfl
theorem xsOf_succ (l : List Sh) (k : Nat) (hk : k < l.length) : xsOf (l.take (k + 1)) = xsOf (l.take k) ++ [(l.getD k nil).x] := by
  unfold xsOf
  rw [List.take_succ_eq_append_getElem hk, List.map_append, getD_lt' l nil hk]; rfl
theorem ysOf_succ (l : List Sh) (o k : Nat) (hk : k < l.length) : ysOf (l.take (k + 1)) o = ysOf (l.take k) o ++ [(l.getD k nil).y.getD o 0] := by
  unfold ysOf
  rw [List.take_succ_eq_append_getElem hk, List.map_append, getD_lt' l nil hk]; rfl
theorem ownsRow_drew {w : World} {base : Nat} {e : TypeId} {size n : Nat} {v : Value} {xs : List Value} (h : w.ownsRow base e size v n xs) : w.drew.ownsRow base e size v n xs := h
theorem ownsRow_below {w w' : World} {base : Nat} {e : TypeId} {size n : Nat} {v : Value} {xs : List Value} (h : w.ownsRow base e size v n xs) (N : Nat) (hN : w.heap.size = N) (hb : Below N w w') : w'.ownsRow base e size v n xs := by
  subst hN; exact ownsRow_belowAll h hb
set_option maxRecDepth 100000 in
theorem points_any (ao : Option Addr) (cap n : Nat) (l : List Sh) (o : Nat) (w : World) (hn' : n = l.length) (hr : RowS w ao l) (hok : ∀ s ∈ l, s.Ok) (hn : l.length ≤ 1099511627776) (ho : o < 32) :
    Calls Try.prog 107 #[.slice ao n cap, .int .i64 o] w fun e w' => ∃ ax cx ay cy, e = .returned (.tuple #[.slice ax n cx, .slice ay n cy]) ∧ n ≤ cx ∧ n ≤ cy ∧ w'.ownsRow w.heap.size 3 1 (.slice ax n cx) n ((xsOf l).map (Value.int .i64)) ∧ w'.ownsRow w.heap.size 3 1 (.slice ay n cy) n ((ysOf l o).map (Value.int .i64)) ∧ Apart2 (.slice ax n cx) (.slice ay n cy) ∧ Below w.heap.size w w' := by
  subst hn'
  have HOK := hid hok
  clear hok
  go_enter Try.func107, Try.ntmps107
  go_wp2
  go_loopw [4, 5, 10] (fun vx vy i wr => ∃ (k : Nat) (ax : Option Addr) (cx : Nat) (ay : Option Addr) (cy : Nat), k ≤ l.length ∧ i = .int .i64 k ∧ vx = .slice ax k cx ∧ vy = .slice ay k cy ∧ k ≤ cx ∧ k ≤ cy ∧
      wr.ownsRow w.heap.size 3 1 (.slice ax k cx) k ((xsOf (l.take k)).map (Value.int .i64)) ∧ wr.ownsRow w.heap.size 3 1 (.slice ay k cy) k ((ysOf (l.take k) o).map (Value.int .i64)) ∧ Apart2 (.slice ax k cx) (.slice ay k cy) ∧ Below w.heap.size w wr) (fun _ _ i _ => l.length - (intOf i).toNat)
  case atStart => exact ⟨0, none, 0, none, 0, Nat.zero_le _, rfl, rfl, rfl, Nat.le_refl _, Nat.le_refl _, World.ownsRow_nil _ _ _ _, World.ownsRow_nil _ _ _ _, Or.inl rfl, Below.refl _ _⟩
  case round =>
    obtain ⟨k, ax, cx, ay, cy, hk, rfl, rfl, rfl, hkx, hky, hX, hY, hap, hbl⟩ := hrel
    by_cases h0 : k < l.length
    · obtain ⟨b, off, s, rfl, hb, HS, hat0⟩ := hr.elem (i := k) h0
      have hs : s.Ok := by rw [HS.out, getD_lt' l nil h0]; exact HOK.out _ (List.getElem_mem h0)
      have hat := At.belowB hat0 hbl hb
      have HCL := hid hs.csl
      have c1 := cs_one s
      clear hat0
      obtain ⟨N, HN⟩ : ∃ N, Hid (wr.heap.size = N) := ⟨_, rfl⟩
      have hlt : w.heap.size ≤ N := by rw [← HN.out]; exact hbl.size
      have hxN : ∀ g, (Value.slice ax k cx).ownBlock = some g → g < N := fun g hg => by rw [← HN.out]; exact ownsRow_lt hX g hg
      have hyN : ∀ g, (Value.slice ay k cy).ownBlock = some g → g < N := fun g hg => by rw [← HN.out]; exact ownsRow_lt hY g hg
      obtain ⟨yv, HYV⟩ : ∃ c, Hid (c = s.y.getD o 0) := ⟨_, rfl⟩
      have ho1 : (0 : Int) ≤ (o : Int) := by omega
      have ho2 : (o : Int) < 32 := by omega
      have hybd : 0 ≤ yv ∧ yv ≤ 65535 := by rw [HYV.out, getD_lt' s.y 0 (by rw [hs.yl]; exact ho)]; exact hs.yb _ (List.getElem_mem _)
      have HXS := hid (xsOf_succ l k h0)
      have HYS := hid (ysOf_succ l o k h0)
      rw [← HS.out] at HXS HYS
      rw [← HYV.out] at HYS
      go_wp2_with (first | (refine wl_loadG (by rfl) 61 _ rfl ⟨b, off + k * 49, none⟩ rfl 49 s.cs HCL.out aggS hat ?_) | (refine wl_allocV rfl 61 rfl sh0.cs sh0_zero N HN.out ?_; intro wA hA hbA hsA) | (refine wl_storeV rfl 61 _ _ rfl 61 N rfl s.cs rfl 49 aggS HCL.out sh0.cs hA sh0_len c1 ?_; intro wS hS hbS hsS))
      have cX := (hS.cell 16).trans (cs_x s hs)
      have cyv : wS.cell? ⟨N, 17 + o, none⟩ = some (.int .u16 yv) := by rw [HYV.out]; exact (hS.cell (17 + o)).trans (cs_yi s hs o ho)
      have hbW := bel_all HN.out hbl hbA hbS
      have hXS := ownsRow_below hX N HN.out (hbA.trans hbS)
      have hYS := ownsRow_below hY N HN.out (hbA.trans hbS)
      have hSz : Hid (wS.heap.size = N + 1) := by show _ = _; omega
      have hneX : some N ≠ (Value.slice ax k cx).ownBlock := fun e => Nat.lt_irrefl _ (hxN N e.symm)
      have hneY : some N ≠ (Value.slice ay k cy).ownBlock := fun e => Nat.lt_irrefl _ (hyN N e.symm)
      have hx1 : ∀ m, N ≤ m → some m ≠ (Value.slice ax k cx).ownBlock := fun m hm e => by have := hxN m e.symm; omega
      have hwN : w.heap.size ≤ wS.heap.size := by rw [hSz.out]; omega
      clear hX hY hA hat hsA hsS hbA hbS
      have hwy : IntKind.i64.wrap yv = yv := IntWalk.i64_in _ (by omega)
      have D1 : At (wS.alloc (.cells #[.int .i64 s.x] 3)).drew ⟨wS.heap.size, 0, none⟩ [.int .i64 s.x] := at_new' wS [.int .i64 s.x] _ rfl
      have D12 : At ((wS.alloc (.cells #[.int .i64 s.x] 3)).alloc (.cells #[.int .i64 yv] 3)).drew ⟨wS.heap.size + 1, 0, none⟩ [.int .i64 yv] := at_new' (wS.alloc (.cells #[.int .i64 s.x] 3)) [.int .i64 yv] _ (by simp)
      have D11 : At ((wS.alloc (.cells #[.int .i64 s.x] 3)).alloc (.cells #[.int .i64 yv] 3)).drew ⟨wS.heap.size, 0, none⟩ [.int .i64 s.x] := At.alloc (w := wS.alloc (.cells #[.int .i64 s.x] 3)) (at_new' wS [.int .i64 s.x] _ rfl) _
      have D21 : At ((wS.alloc (.cells #[.int .i64 yv] 3)).alloc (.cells #[.int .i64 s.x] 3)).drew ⟨wS.heap.size + 1, 0, none⟩ [.int .i64 s.x] := at_new' (wS.alloc (.cells #[.int .i64 yv] 3)) [.int .i64 s.x] _ (by simp)
      have D22 : At ((wS.alloc (.cells #[.int .i64 yv] 3)).alloc (.cells #[.int .i64 s.x] 3)).drew ⟨wS.heap.size, 0, none⟩ [.int .i64 yv] := At.alloc (w := wS.alloc (.cells #[.int .i64 yv] 3)) (at_new' wS [.int .i64 yv] _ rfl) _
      have oX := ownsRow_drew hXS
      have oY := ownsRow_drew hYS
      go_region_held3 (fun w' => w'.cell? ⟨N, 16, none⟩ = some (.int .i64 s.x) ∧ w'.cell? ⟨N, 17 + o, none⟩ = some (.int .u16 yv)) (first | go_keep | (go_split_ands; first | exact ⟨hg12.cell (by assumption) hneY, hg12.cell (by assumption) hneY⟩ | exact ⟨hg4.cell (by assumption) hneX, hg4.cell (by assumption) hneX⟩)) (first | (refine step_push (by rfl) (.tmp 19) (.tmp 25) 26 rfl 3 (.int .i64 0) 1 8 Try.underlying26 infoI rfl (by decide) w.heap.size (.slice ay k cy) k _ (by rfl) (by first | exact ((oY.alloc _).kept hg4 hap.symm).alloc _ | exact ((oY.alloc _).alloc _).kept hg4 hap.symm) _ 1 1 (by rfl) [.int .i64 yv] (by rfl) (by first | exact at_new' _ [.int .i64 yv] _ rfl | exact D12.kept hg4 (hx1 (wS.heap.size + 1) (by rw [hSz.out]; omega)) | exact D22.kept hg4 (hx1 wS.heap.size (by rw [hSz.out]; omega))) (by simp [Value.oneCell']) (by unfold maxLen; omega) (by omega) (by have := hg4.size; simp at this ⊢; omega) (k + 1) rfl ?_; intro ay' cy' w12 hcy' hY12 hg12 hl12) | (refine step_push (by rfl) (.tmp 14) (.tmp 17) 26 rfl 3 (.int .i64 0) 1 8 Try.underlying26 infoI rfl (by decide) w.heap.size (.slice ax k cx) k _ (by rfl) (by first | exact oX.alloc _ | exact (oX.alloc _).alloc _) _ 1 1 (by rfl) [.int .i64 s.x] (by rfl) (by first | exact D1 | exact D11 | exact D21) (by simp [Value.oneCell']) (by unfold maxLen; omega) (by omega) (by simp; omega) (k + 1) rfl ?_; intro ax' cx' w4 hcx' hX4 hg4 hl4))
      all_goals (have hap4 := hap.push hl4 (fun g hg => Nat.lt_of_lt_of_le (hyN g hg) (by have := hSz.out; simp; omega)))
      all_goals (have hX12 : w12.ownsRow w.heap.size 3 1 (.slice ax' (k + 1) cx') (k + 1) ((xsOf (l.take k)).map (Value.int .i64) ++ [.int .i64 s.x]) := by first | exact hX4.kept hg12 hap4 | exact (hX4.alloc _).kept hg12 hap4)
      all_goals (have hap12 := (hap4.symm).push hl12 (fun g hg => by have := ownsRow_lt hX4 g hg; simp; omega))
      all_goals (have hbD : Below w.heap.size w wS.drew := hbW.drew)
      all_goals (have hb4 : Below w.heap.size w w4 := by first | exact (hbD.alloc hwN _).grown hg4 (by simp; omega) (fun g hg => (hXS.lt g hg).1) | exact ((hbD.alloc hwN _).alloc (by simp; omega) _).grown hg4 (by simp; omega) (fun g hg => (hXS.lt g hg).1))
      all_goals (have hb12 : Below w.heap.size w w12 := by first | exact hb4.grown hg12 hb4.size (fun g hg => (hYS.lt g hg).1) | exact (hb4.alloc hb4.size _).grown hg12 (by have := hb4.size; simp; omega) (fun g hg => (hYS.lt g hg).1))
      all_goals go_wp2
      all_goals go_roundw
      any_goals (case rel => exact ⟨k + 1, ax', cx', ay', cy', by omega, by go_num, rfl, rfl, hcx', hcy', by rw [HXS.out, List.map_append]; exact hX12, by rw [HYS.out, List.map_append]; exact hY12, hap12.symm, hb12⟩)
      any_goals (simp [intOf] <;> omega)
    · obtain rfl : k = l.length := by omega
      go_wp2
      go_ret2
      exact ⟨ax, cx, ay, cy, rfl, hkx, hky, by rwa [List.take_length] at hX, by rwa [List.take_length] at hY, hap, hbl⟩
set_option maxRecDepth 100000 in
theorem places_any (ao : Option Addr) (cap n : Nat) (l : List Sh) (o : Nat) (w : World) (hn' : n = l.length) (hr : RowS w ao l) (hok : ∀ s ∈ l, s.Ok) (hn : l.length ≤ 1099511627776) (ho : o < 32) :
    Calls Try.prog 105 #[.slice ao n cap, .int .i64 o] w fun e w' => ∃ ax cx ay cy, e = .returned (.tuple #[.slice ax n cx, .slice ay n cy]) ∧ n ≤ cx ∧ n ≤ cy ∧ w'.ownsRow w.heap.size 3 1 (.slice ax n cx) n ((xsOf l).map (Value.int .i64)) ∧ w'.ownsRow w.heap.size 3 1 (.slice ay n cy) n ((ysOf l o).map (Value.int .i64)) ∧ Apart2 (.slice ax n cx) (.slice ay n cy) ∧ Below w.heap.size w w' := by
  subst hn'
  have HOK := hid hok
  clear hok
  go_enter Try.func105, Try.ntmps105
  go_wp2
  go_loopw [4, 5, 10] (fun vx vy i wr => ∃ (k : Nat) (ax : Option Addr) (cx : Nat) (ay : Option Addr) (cy : Nat), k ≤ l.length ∧ i = .int .i64 k ∧ vx = .slice ax k cx ∧ vy = .slice ay k cy ∧ k ≤ cx ∧ k ≤ cy ∧
      wr.ownsRow w.heap.size 3 1 (.slice ax k cx) k ((xsOf (l.take k)).map (Value.int .i64)) ∧ wr.ownsRow w.heap.size 3 1 (.slice ay k cy) k ((ysOf (l.take k) o).map (Value.int .i64)) ∧ Apart2 (.slice ax k cx) (.slice ay k cy) ∧ Below w.heap.size w wr) (fun _ _ i _ => l.length - (intOf i).toNat)
  case atStart => exact ⟨0, none, 0, none, 0, Nat.zero_le _, rfl, rfl, rfl, Nat.le_refl _, Nat.le_refl _, World.ownsRow_nil _ _ _ _, World.ownsRow_nil _ _ _ _, Or.inl rfl, Below.refl _ _⟩
  case round =>
    obtain ⟨k, ax, cx, ay, cy, hk, rfl, rfl, rfl, hkx, hky, hX, hY, hap, hbl⟩ := hrel
    by_cases h0 : k < l.length
    · obtain ⟨b, off, s, rfl, hb, HS, hat0⟩ := hr.elem (i := k) h0
      have hs : s.Ok := by rw [HS.out, getD_lt' l nil h0]; exact HOK.out _ (List.getElem_mem h0)
      have hat := At.belowB hat0 hbl hb
      have HCL := hid hs.csl
      have c1 := cs_one s
      clear hat0
      obtain ⟨N, HN⟩ : ∃ N, Hid (wr.heap.size = N) := ⟨_, rfl⟩
      have hlt : w.heap.size ≤ N := by rw [← HN.out]; exact hbl.size
      have hxN : ∀ g, (Value.slice ax k cx).ownBlock = some g → g < N := fun g hg => by rw [← HN.out]; exact ownsRow_lt hX g hg
      have hyN : ∀ g, (Value.slice ay k cy).ownBlock = some g → g < N := fun g hg => by rw [← HN.out]; exact ownsRow_lt hY g hg
      obtain ⟨yv, HYV⟩ : ∃ c, Hid (c = s.y.getD o 0) := ⟨_, rfl⟩
      have ho1 : (0 : Int) ≤ (o : Int) := by omega
      have ho2 : (o : Int) < 32 := by omega
      have hybd : 0 ≤ yv ∧ yv ≤ 65535 := by rw [HYV.out, getD_lt' s.y 0 (by rw [hs.yl]; exact ho)]; exact hs.yb _ (List.getElem_mem _)
      have HXS := hid (xsOf_succ l k h0)
      have HYS := hid (ysOf_succ l o k h0)
      rw [← HS.out] at HXS HYS
      rw [← HYV.out] at HYS
      go_wp2_with (first | (refine wl_loadG (by rfl) 61 _ rfl ⟨b, off + k * 49, none⟩ rfl 49 s.cs HCL.out aggS hat ?_) | (refine wl_allocV rfl 61 rfl sh0.cs sh0_zero N HN.out ?_; intro wA hA hbA hsA) | (refine wl_storeV rfl 61 _ _ rfl 61 N rfl s.cs rfl 49 aggS HCL.out sh0.cs hA sh0_len c1 ?_; intro wS hS hbS hsS))
      have cX := (hS.cell 16).trans (cs_x s hs)
      have cyv : wS.cell? ⟨N, 17 + o, none⟩ = some (.int .u16 yv) := by rw [HYV.out]; exact (hS.cell (17 + o)).trans (cs_yi s hs o ho)
      have hbW := bel_all HN.out hbl hbA hbS
      have hXS := ownsRow_below hX N HN.out (hbA.trans hbS)
      have hYS := ownsRow_below hY N HN.out (hbA.trans hbS)
      have hSz : Hid (wS.heap.size = N + 1) := by show _ = _; omega
      have hneX : some N ≠ (Value.slice ax k cx).ownBlock := fun e => Nat.lt_irrefl _ (hxN N e.symm)
      have hneY : some N ≠ (Value.slice ay k cy).ownBlock := fun e => Nat.lt_irrefl _ (hyN N e.symm)
      have hx1 : ∀ m, N ≤ m → some m ≠ (Value.slice ax k cx).ownBlock := fun m hm e => by have := hxN m e.symm; omega
      have hwN : w.heap.size ≤ wS.heap.size := by rw [hSz.out]; omega
      clear hX hY hA hat hsA hsS hbA hbS
      have hwy : IntKind.i64.wrap yv = yv := IntWalk.i64_in _ (by omega)
      have D1 : At (wS.alloc (.cells #[.int .i64 s.x] 3)).drew ⟨wS.heap.size, 0, none⟩ [.int .i64 s.x] := at_new' wS [.int .i64 s.x] _ rfl
      have D12 : At ((wS.alloc (.cells #[.int .i64 s.x] 3)).alloc (.cells #[.int .i64 yv] 3)).drew ⟨wS.heap.size + 1, 0, none⟩ [.int .i64 yv] := at_new' (wS.alloc (.cells #[.int .i64 s.x] 3)) [.int .i64 yv] _ (by simp)
      have D11 : At ((wS.alloc (.cells #[.int .i64 s.x] 3)).alloc (.cells #[.int .i64 yv] 3)).drew ⟨wS.heap.size, 0, none⟩ [.int .i64 s.x] := At.alloc (w := wS.alloc (.cells #[.int .i64 s.x] 3)) (at_new' wS [.int .i64 s.x] _ rfl) _
      have D21 : At ((wS.alloc (.cells #[.int .i64 yv] 3)).alloc (.cells #[.int .i64 s.x] 3)).drew ⟨wS.heap.size + 1, 0, none⟩ [.int .i64 s.x] := at_new' (wS.alloc (.cells #[.int .i64 yv] 3)) [.int .i64 s.x] _ (by simp)
      have D22 : At ((wS.alloc (.cells #[.int .i64 yv] 3)).alloc (.cells #[.int .i64 s.x] 3)).drew ⟨wS.heap.size, 0, none⟩ [.int .i64 yv] := At.alloc (w := wS.alloc (.cells #[.int .i64 yv] 3)) (at_new' wS [.int .i64 yv] _ rfl) _
      have oX := ownsRow_drew hXS
      have oY := ownsRow_drew hYS
      go_region_held3 (fun w' => w'.cell? ⟨N, 16, none⟩ = some (.int .i64 s.x) ∧ w'.cell? ⟨N, 17 + o, none⟩ = some (.int .u16 yv)) (first | go_keep | (go_split_ands; first | exact ⟨hg12.cell (by assumption) hneY, hg12.cell (by assumption) hneY⟩ | exact ⟨hg4.cell (by assumption) hneX, hg4.cell (by assumption) hneX⟩)) (first | (refine step_push (by rfl) (.tmp 19) (.tmp 25) 26 rfl 3 (.int .i64 0) 1 8 Try.underlying26 infoI rfl (by decide) w.heap.size (.slice ay k cy) k _ (by rfl) (by first | exact ((oY.alloc _).kept hg4 hap.symm).alloc _ | exact ((oY.alloc _).alloc _).kept hg4 hap.symm) _ 1 1 (by rfl) [.int .i64 yv] (by rfl) (by first | exact at_new' _ [.int .i64 yv] _ rfl | exact D12.kept hg4 (hx1 (wS.heap.size + 1) (by rw [hSz.out]; omega)) | exact D22.kept hg4 (hx1 wS.heap.size (by rw [hSz.out]; omega))) (by simp [Value.oneCell']) (by unfold maxLen; omega) (by omega) (by have := hg4.size; simp at this ⊢; omega) (k + 1) rfl ?_; intro ay' cy' w12 hcy' hY12 hg12 hl12) | (refine step_push (by rfl) (.tmp 14) (.tmp 17) 26 rfl 3 (.int .i64 0) 1 8 Try.underlying26 infoI rfl (by decide) w.heap.size (.slice ax k cx) k _ (by rfl) (by first | exact oX.alloc _ | exact (oX.alloc _).alloc _) _ 1 1 (by rfl) [.int .i64 s.x] (by rfl) (by first | exact D1 | exact D11 | exact D21) (by simp [Value.oneCell']) (by unfold maxLen; omega) (by omega) (by simp; omega) (k + 1) rfl ?_; intro ax' cx' w4 hcx' hX4 hg4 hl4))
      all_goals (have hap4 := hap.push hl4 (fun g hg => Nat.lt_of_lt_of_le (hyN g hg) (by have := hSz.out; simp; omega)))
      all_goals (have hX12 : w12.ownsRow w.heap.size 3 1 (.slice ax' (k + 1) cx') (k + 1) ((xsOf (l.take k)).map (Value.int .i64) ++ [.int .i64 s.x]) := by first | exact hX4.kept hg12 hap4 | exact (hX4.alloc _).kept hg12 hap4)
      all_goals (have hap12 := (hap4.symm).push hl12 (fun g hg => by have := ownsRow_lt hX4 g hg; simp; omega))
      all_goals (have hbD : Below w.heap.size w wS.drew := hbW.drew)
      all_goals (have hb4 : Below w.heap.size w w4 := by first | exact (hbD.alloc hwN _).grown hg4 (by simp; omega) (fun g hg => (hXS.lt g hg).1) | exact ((hbD.alloc hwN _).alloc (by simp; omega) _).grown hg4 (by simp; omega) (fun g hg => (hXS.lt g hg).1))
      all_goals (have hb12 : Below w.heap.size w w12 := by first | exact hb4.grown hg12 hb4.size (fun g hg => (hYS.lt g hg).1) | exact (hb4.alloc hb4.size _).grown hg12 (by have := hb4.size; simp; omega) (fun g hg => (hYS.lt g hg).1))
      all_goals go_wp2
      all_goals go_roundw
      any_goals (case rel => exact ⟨k + 1, ax', cx', ay', cy', by omega, by go_num, rfl, rfl, hcx', hcy', by rw [HXS.out, List.map_append]; exact hX12, by rw [HYS.out, List.map_append]; exact hY12, hap12.symm, hb12⟩)
      any_goals (simp [intOf] <;> omega)
    · obtain rfl : k = l.length := by omega
      go_wp2
      go_ret2
      exact ⟨ax, cx, ay, cy, rfl, hkx, hky, by rwa [List.take_length] at hX, by rwa [List.take_length] at hY, hap, hbl⟩
end Go.Proofs.Ytbljihhelladbaa.shr
namespace Go.Proofs.Ytbljihhelladbaa.sh
set_option linter.unusedVariables false
open Go.RowKit Go.Proofs.Ytbljihhelladbaa.Fld
set_option linter.unusedSimpArgs false
set_option pp.maxSteps 6000
theorem overOf_hit (a b : Int) (k : Nat) (hk : k < 257) (h0 : ∀ j, j < k → hit a b j = false) (h : hit a b k = true) : overOf a b = (k : Int) := by
  unfold overOf
  have hf : (List.range 257).find? (hit a b) = some k := by
    rw [List.find?_eq_some_iff_getElem]
    exact ⟨h, k, by simpa using hk, by simp, fun j hj => by simp [h0 j hj]⟩
  rw [hf]
theorem overOf_miss (a b : Int) (h0 : ∀ j, j < 257 → hit a b j = false) : overOf a b = 0 := by
  unfold overOf
  have hf : (List.range 257).find? (hit a b) = none := by
    rw [List.find?_eq_none]
    intro j hj
    simp [h0 j (by simpa using hj)]
  rw [hf]
theorem mod_n (n : Int) (w : World) : Calls Try.prog 93 #[.int .i64 n] w fun e w' => e = .returned (.int .i64 (n % 257)) ∧ w' = w :=
  (mod_any n w).mono fun _ _ ⟨h1, h2⟩ => ⟨h1, h2.symm⟩
theorem mul_bds {a d : Int} (ha : 0 ≤ a ∧ a ≤ 256) (hd : -256 ≤ d ∧ d ≤ 256) : -65536 ≤ a * d ∧ a * d ≤ 65536 := by
  constructor
  · have := Int.mul_le_mul_of_nonneg_left hd.1 ha.1
    have := Int.mul_le_mul_of_nonneg_right ha.2 (show (0 : Int) ≤ 256 by omega)
    omega
  · have := Int.mul_le_mul_of_nonneg_left hd.2 ha.1
    have := Int.mul_le_mul_of_nonneg_right ha.2 (show (0 : Int) ≤ 256 by omega)
    omega
set_option maxRecDepth 100000 in
theorem OverOf_any (a b : Int) (w : World) (hb : 0 ≤ b ∧ b ≤ 256) :
    Calls Try.prog 157 #[.int .i64 a, .int .i64 b] w fun e w' => e = .returned (.int .i64 (overOf a b)) ∧ w = w' := by
  go_enter Try.func157, Try.ntmps157
  go_wp2
  go_loop [6] (fun i => ∃ k : Nat, k ≤ 257 ∧ i = .int .i64 k ∧ Hid (∀ j, j < k → hit a b j = false)) (fun i => 257 - (intOf i).toNat)
  case atStart => exact ⟨0, by omega, rfl, fun j hj => absurd hj (Nat.not_lt_zero j)⟩
  case round =>
    obtain ⟨k, hk, rfl, HA⟩ := hrel
    by_cases h0 : k < 257
    · have hm := mul_bds (a := (k : Int)) (d := b) ⟨by omega, by omega⟩ ⟨by omega, by omega⟩
      by_cases h1 : (k : Int) * b % 257 = a
      · have H1 := hid h1
        have h1' : ((k : Int) * b % 257 == a) = true := by simp [h1]
        clear h1
        go_wp2_with (first | (go_at_call 93; refine (mod_any _ _).mono ?_; rintro e w1 ⟨rfl, rfl⟩))
        go_ret
        exact ⟨rv (ri (overOf_hit a b k h0 HA.out (by unfold hit; simp [H1.out])).symm), rfl⟩
      · have H1 := hid h1
        have h1' : ((k : Int) * b % 257 == a) = false := by simp [h1]
        clear h1
        go_wp2_with (first | (go_at_call 93; refine (mod_any _ _).mono ?_; rintro e w1 ⟨rfl, rfl⟩))
        go_round
        case rel => exact ⟨k + 1, by omega, by go_num, fun j hj => by
          by_cases e : j = k
          · rw [e]; unfold hit; simp [H1.out]
          · exact HA.out j (by omega)⟩
        case measure => simp [intOf] <;> omega
    · obtain rfl : k = 257 := by omega
      go_wp2
      go_ret
      exact ⟨rv (ri (overOf_miss a b HA.out).symm), rfl⟩
theorem upTo_rng (xs : List Int) (i : Nat) (t u : Int) (hu : 0 ≤ u ∧ u ≤ 256) (n : Nat) : 0 ≤ upTo xs i t u n ∧ upTo xs i t u n ≤ 256 := by
  induction n with
  | zero => exact hu
  | succ n ih =>
    unfold upTo
    split
    · exact ih
    · exact mod_range _
set_option maxRecDepth 100000 in
theorem At_quiet (ax ay : Option Addr) (cx cy n : Nat) (xs ys : List Int) (t : Int) (w : World) (hn : n = xs.length) (hx : RowI .i64 w ax xs) (hy : RowI .i64 w ay ys) (hl : ys.length = xs.length) (rx : Rng xs) (ry : Rng ys) (ht : 0 ≤ t ∧ t ≤ 256) (hs : xs.length ≤ 4611686018427387904) :
    Calls Try.prog 106 #[.slice ax n cx, .slice ay n cy, .int .i64 t] w fun e w' => e = .returned (.int .i64 (atR xs ys t)) ∧ ∃ m, w' = w.drewN m := by
  subst hn
  have HL := hid hl; clear hl
  go_enter Try.func106, Try.ntmps106
  go_wp2
  go_loopw [7, 14] (fun s i wr => ∃ (k : Nat) (a : Int), k ≤ xs.length ∧ i = .int .i64 k ∧ s = .int .i64 a ∧ Hid (a = atTo xs ys xs.length t k) ∧ Hid (∃ d, wr = w.drewN d)) (fun _ i _ => xs.length - (intOf i).toNat)
  case atStart => exact ⟨0, 0, Nat.zero_le _, rfl, rfl, by simp [Hid, atTo], ⟨0, rfl⟩⟩
  case round =>
    obtain ⟨k, a, hk, rfl, rfl, HA, HD⟩ := hrel
    have hb : Below w.heap.size w wr := by obtain ⟨d, h⟩ := HD.out; rw [h]; exact bdN (Below.refl _ _) d
    by_cases h0 : k < xs.length
    · obtain ⟨bx, ox, xk, rfl, hbx, HX, cx0⟩ := hx.elem (i := k) h0
      obtain ⟨by_, oy, y, rfl, hby, HY, cy0⟩ := hy.elem (i := k) (by rw [HL.out]; exact h0)
      have cy1 := (hb.cell (p := ⟨by_, oy + k, none⟩) hby).trans cy0
      have ryk : 0 ≤ y ∧ y ≤ 256 := by rw [HY.out]; exact ry.getD k
      have rxk : 0 ≤ xk ∧ xk ≤ 256 := by rw [HX.out]; exact rx.getD k
      have hkl : (k : Int) < (xs.length : Int) := by omega
      have hkd : decide ((k : Int) < (xs.length : Int)) = true := by simp; omega
      have ra : 0 ≤ a ∧ a ≤ 256 := by rw [HA.out]; exact atTo_range ..
      have hz := hx.at (i := k) h0
      clear cy0
      go_wp2
      go_loopw [9, 10, 23] (fun u d j wi => ∃ (m : Nat) (p q : Int), m ≤ xs.length ∧ j = .int .i64 m ∧ u = .int .i64 p ∧ d = .int .i64 q ∧ Hid (p = upTo xs k t y m) ∧ Hid (q = upTo xs k xk 1 m) ∧ Hid (∃ d, wi = w.drewN d)) (fun _ _ j _ => xs.length - (intOf j).toNat)
      case atStart => exact ⟨0, y, 1, Nat.zero_le _, rfl, rfl, rfl, by simp [Hid, upTo], by simp [Hid, upTo], HD⟩
      case round =>
        obtain ⟨m, p, q, hm, rfl, rfl, rfl, HP, HQ, HDi⟩ := hrel
        have hbi : Below w.heap.size w wr := by obtain ⟨d, h⟩ := HDi.out; rw [h]; exact bdN (Below.refl _ _) d
        have rp : 0 ≤ p ∧ p ≤ 256 := by rw [HP.out]; exact upTo_rng xs k t y ryk m
        have rq : 0 ≤ q ∧ q ≤ 256 := by rw [HQ.out]; exact upTo_rng xs k xk 1 (by omega) m
        by_cases h1 : m < xs.length
        · obtain ⟨b2, o2, xm, e2, hb2, HXM, cm0⟩ := hx.elem (i := m) h1
          obtain ⟨rfl, rfl⟩ : bx = b2 ∧ ox = o2 := by simpa using e2
          have cm := (hbi.cell (p := ⟨bx, ox + m, none⟩) hbx).trans cm0
          have ck := (hbi.cell (p := ⟨bx, ox + k, none⟩) hbx).trans cx0
          have rxm : 0 ≤ xm ∧ xm ≤ 256 := by rw [HXM.out]; exact rx.getD m
          have m1 := mul_bds (a := p) (d := t - xm) rp (by omega)
          have m2 := mul_bds (a := q) (d := xk - xm) rq (by omega)
          by_cases h2 : m = k
          · have H2 := hid h2
            have h2' : ((m : Int) != (k : Int)) = false := by simp [h2]
            have hP : Hid (p = upTo xs k t y (m + 1)) := by show _ = _; unfold upTo; rw [if_pos H2.out]; exact HP.out
            have hQ : Hid (q = upTo xs k xk 1 (m + 1)) := by show _ = _; unfold upTo; rw [if_pos H2.out]; exact HQ.out
            clear h2 cm0 e2
            go_wp2
            go_roundw
            case rel => exact ⟨m + 1, p, q, by omega, by go_num, rfl, rfl, hP, hQ, HDi⟩
            case measure => simp [intOf] <;> omega
          · have H2 := hid h2
            have h2' : ((m : Int) != (k : Int)) = true := by simp; omega
            have hP : Hid (p * (t - xm) % 257 = upTo xs k t y (m + 1)) := by show _ = _; rw [show upTo xs k t y (m + 1) = (if m = k then upTo xs k t y m else upTo xs k t y m * (t - xs.getD m 0) % 257) from rfl, if_neg H2.out, ← HP.out, ← HXM.out]
            have hQ : Hid (q * (xk - xm) % 257 = upTo xs k xk 1 (m + 1)) := by show _ = _; rw [show upTo xs k xk 1 (m + 1) = (if m = k then upTo xs k xk 1 m else upTo xs k xk 1 m * (xk - xs.getD m 0) % 257) from rfl, if_neg H2.out, ← HQ.out, ← HXM.out]
            clear h2 cm0 e2
            go_wp2_with (first | (go_at_call 93; refine (mod_any _ _).mono ?_; rintro e w1 ⟨rfl, rfl⟩))
            go_quiet ((go_at_call 93; exact Calls.quiet_of_same (mod_n _ _)))
            go_wp2
            go_roundw
            case rel => exact ⟨m + 1, _, _, by omega, by go_num, rfl, rfl, hP, hQ, hid (by obtain ⟨d, h⟩ := HDi.out; exact ⟨d + nq, by rw [h, World.drewN_drewN]⟩)⟩
            case measure => simp [intOf] <;> omega
        · obtain rfl : m = xs.length := by omega
          have ho := overOf_range (p % 257) q
          have hT : Hid ((a + overOf (p % 257) q) % 257 = atTo xs ys xs.length t (k + 1)) := by
            show _ = _
            rw [show atTo xs ys xs.length t (k + 1) = (atTo xs ys xs.length t k + termAt xs ys xs.length t k) % 257 from rfl, ← HA.out]
            unfold termAt
            rw [← HX.out, ← HY.out, ← HP.out, ← HQ.out]
          go_wp2_with (first | (go_at_call 93; refine (mod_any _ _).mono ?_; rintro e w1 ⟨rfl, rfl⟩) | (go_at_call 157; refine (OverOf_any _ _ _ rq).mono ?_; rintro e w1 ⟨rfl, rfl⟩))
          go_roundw
          case rel => exact ⟨k + 1, _, by omega, by go_num, rfl, hT, HDi⟩
          case measure => simp [intOf] <;> omega
    · obtain rfl : k = xs.length := by omega
      go_wp2
      go_ret
      exact ⟨rv (ri HA.out), HD.out⟩
theorem At_any (ax ay : Option Addr) (cx cy n : Nat) (xs ys : List Int) (t : Int) (w : World) (hn : n = xs.length) (hx : RowI .i64 w ax xs) (hy : RowI .i64 w ay ys) (hl : ys.length = xs.length) (rx : Rng xs) (ry : Rng ys) (ht : 0 ≤ t ∧ t ≤ 256) (hs : xs.length ≤ 4611686018427387904) :
    Calls Try.prog 106 #[.slice ax n cx, .slice ay n cy, .int .i64 t] w fun e w' => e = .returned (.int .i64 (atR xs ys t)) ∧ Below w.heap.size w w' :=
  (At_quiet ax ay cx cy n xs ys t w hn hx hy hl rx ry ht hs).mono fun e w' ⟨h1, m, h2⟩ => ⟨h1, by rw [h2]; exact bdN (Below.refl _ _) m⟩
/-- At, in a region of which nothing but the draws turns the world -/
theorem At_q (ax ay : Option Addr) (cx cy n : Nat) (xs ys : List Int) (t V : Int) (w : World) (nq : Nat) (hn : n = xs.length) (hx : RowI .i64 w ax xs) (hy : RowI .i64 w ay ys) (hl : ys.length = xs.length) (rx : Rng xs) (ry : Rng ys) (ht : 0 ≤ t ∧ t ≤ 256) (hs : xs.length ≤ 4611686018427387904) (hV : atR xs ys t = V) :
    Calls Try.prog 106 #[.slice ax n cx, .slice ay n cy, .int .i64 t] (w.drewN nq) fun e w' => e = .returned (.int .i64 V) ∧ ∃ m, w' = w.drewN m := by
  subst hV
  exact Calls.quiet_of (At_quiet ax ay cx cy n xs ys t (w.drewN nq) hn (hx.drewN nq) (hy.drewN nq) hl rx ry ht hs)
end Go.Proofs.Ytbljihhelladbaa.sh
namespace Go.Proofs.Ytbljihhelladbaa.shr
set_option linter.unusedVariables false
open Go.RowKit Go.Proofs.Ytbljihhelladbaa.sh Go.Proofs.Ytbljihhelladbaa.Fld
set_option linter.unusedSimpArgs false
set_option pp.maxSteps 6000
theorem through_n (ax ay : Option Addr) (cx cy n : Nat) (xs ys : List Int) (w : World) (hn' : n = xs.length) (hx : RowI .i64 w ax xs) (hy : RowI .i64 w ay ys) (hl : ys.length = xs.length) (rx : Rng xs) (ry : Rng ys) (hap : ApartTo xs xs.length) (hn : xs.length ≤ 64) :
    Calls Try.prog 94 #[.slice ax n cx, .slice ay n cy] w fun e w' => e = .returned (.slice (some ⟨w.heap.size, 0, none⟩) n n) ∧ BlkI .i64 3 w' w.heap.size (through xs ys) ∧ Below w.heap.size w w' := by
  subst hn'
  exact through_any ax ay cx cy xs ys w hx hy hl rx ry hap hn
/-- the first polynomials lie in rows above B -/
structure PolyBlk (B : Nat) (w : World) (l : List Sh) (ps : List Value) (k : Nat) : Prop where
  len : ps.length = 32
  one : ∀ u ∈ ps, u.oneCell' = true
  at_ : ∀ o, o < k → ∃ g, B < g ∧ ps[o]? = some (.slice (some ⟨g, 0, none⟩) l.length l.length) ∧ BlkI .i64 3 w g (polyOf l o)
/-- the polynomials through shares, as a value -/
structure PolysAt (w : World) (l : List Sh) (ps : List Value) : Prop where
  len : ps.length = 32
  one : ∀ u ∈ ps, u.oneCell' = true
  at_ : ∀ o, o < 32 → ∃ ao, ps[o]? = some (.slice ao l.length l.length) ∧ RowI .i64 w ao (polyOf l o)
theorem PolysAt.below {w w' : World} {l : List Sh} {ps : List Value} (h : PolysAt w l ps) (hb : Below w.heap.size w w') : PolysAt w' l ps :=
  ⟨h.len, h.one, fun o ho => by obtain ⟨ao, h1, h2⟩ := h.at_ o ho; exact ⟨ao, h1, h2.below hb⟩⟩
/-- the same, the rows in blocks of the call's own -/
structure PolysHi (B : Nat) (w : World) (l : List Sh) (ps : List Value) : Prop where
  len : ps.length = 32
  one : ∀ u ∈ ps, u.oneCell' = true
  at_ : ∀ o, o < 32 → ∃ g, B ≤ g ∧ ps[o]? = some (.slice (some ⟨g, 0, none⟩) l.length l.length) ∧ BlkI .i64 3 w g (polyOf l o)
theorem PolysHi.at {B : Nat} {w : World} {l : List Sh} {ps : List Value} (h : PolysHi B w l ps) : PolysAt w l ps :=
  ⟨h.len, h.one, fun o ho => by obtain ⟨g, _, h1, h2⟩ := h.at_ o ho; exact ⟨_, h1, h2.row⟩⟩
def noSlices : List Value := List.replicate 32 (.slice none 0 0)
theorem aggP : Agg Try.prog 139 32 := Agg.arr Try.underlying139 (by kernel_rfl)
theorem zeroP : (Try.prog.info? 139).map (·.zero) = some (some (.agg noSlices.toArray)) := by kernel_rfl
theorem row_of_owns {w : World} {base n : Nat} {ao : Option Addr} {cap : Nat} {l : List Int} (h : w.ownsRow base 3 1 (.slice ao n cap) n (l.map (Value.int .i64))) : RowI .i64 w ao l := by
  obtain ⟨a, c, h1, _, h2⟩ := Mine.row (Or.inl h)
  cases h1
  exact h2.i
set_option maxRecDepth 100000 in
theorem polynomials_hi (ao : Option Addr) (cap n : Nat) (l : List Sh) (w : World) (hn' : n = l.length) (hr : RowS w ao l) (hok : ∀ s ∈ l, s.Ok) (hg : Good l) (hn : l.length ≤ 64) :
    Calls Try.prog 100 #[.slice ao n cap] w fun e w' => ∃ ps, e = .returned (.agg ps.toArray) ∧ PolysHi w.heap.size w' l ps ∧ Below w.heap.size w w' := by
  subst hn'
  have HOK := hid hok
  clear hok
  obtain ⟨Z, HZ⟩ : ∃ Z, Hid (Z = noSlices) := ⟨_, rfl⟩
  have HZ0 := hid zeroP
  rw [← HZ.out] at HZ0
  have HZL : Hid (Z.length = 32) := by rw [HZ.out]; rfl
  go_enter Try.func100, Try.ntmps100
  go_wp2_with (first | (refine wl_alloc rfl 139 rfl Z HZ0.out ?_))
  go_loopw [5] (fun i wr => ∃ (k : Nat) (ps : List Value), k ≤ 32 ∧ i = .int .i64 k ∧ BlkV 139 wr w.heap.size Z ∧ BlkV 139 wr (w.heap.size + 1) ps ∧ PolyBlk (w.heap.size + 1) wr l ps k ∧ Below w.heap.size w wr) (fun i _ => 32 - (intOf i).toNat)
  case atStart => exact ⟨0, Z, by omega, rfl, (BlkV.new _ w Z rfl).alloc _, BlkV.new _ _ Z (by simp), ⟨HZL.out, by rw [HZ.out]; intro u hu; rw [List.eq_of_mem_replicate hu]; rfl, fun o ho => absurd ho (Nat.not_lt_zero o)⟩, ((Below.refl _ _).alloc (Nat.le_refl _) _).alloc (by simp) _⟩
  case round =>
    obtain ⟨k, ps, hk, rfl, hR, hC, hP, hbl⟩ := hrel
    by_cases h0 : k < 32
    · have hrw := hr.below hbl
      have hkI : (k : Int) < 32 := by omega
      have hkI0 : (0 : Int) ≤ (k : Int) := by omega
      have hltC := hC.lt
      go_wp2_with fail
      refine (points_any _ _ _ l k wr rfl hrw HOK.out (by omega) h0).mono ?_
      rintro e w1 ⟨ax, cx, ay, cy, rfl, hcx, hcy, hX, hY, _, hb1⟩
      go_wp2_with fail
      refine (through_n ax ay cx cy l.length (xsOf l) (ysOf l k) w1 (xsOf_length l).symm (row_of_owns hX) (row_of_owns hY) (by rw [ysOf_length, xsOf_length]) hg.rx (hg.ry k) hg.ap (by rw [xsOf_length]; exact hn)).mono ?_
      rintro e w2 ⟨rfl, hG, hb2⟩
      have hb12 : Below wr.heap.size wr w2 := hb1.trans (hb2.mono hb1.size)
      have hC2 := hC.below hb12 hltC
      have hc1 := hC2.cell k
      have hfz := hC2.frozen k
      have hpk : ps[k]? = some (ps[k]'(by rw [hP.len]; exact h0)) := List.getElem?_eq_getElem _
      rw [hpk] at hc1
      have h1 := hb1.size
      go_wp2
      go_roundw
      case rel =>
        refine ⟨k + 1, ps.set k (.slice (some ⟨w1.heap.size, 0, none⟩) l.length l.length), by omega, by go_num, (hR.below hb12 (by omega)).other (by simp) _, hC2.set k _, ⟨by rw [List.length_set]; exact hP.len, ?_, ?_⟩, (hbl.trans (hb12.mono hbl.size)).setCell (by simp) _⟩
        · intro u hu
          rcases List.mem_or_eq_of_mem_set hu with h | rfl
          · exact hP.one u h
          · rfl
        · intro o ho
          by_cases e : o = k
          · subst e
            exact ⟨w1.heap.size, by omega, by rw [List.getElem?_set_self (by rw [hP.len]; exact h0)], hG.other (by simp; omega) _⟩
          · obtain ⟨g, h2, h3, h4⟩ := hP.at_ o (by omega)
            exact ⟨g, h2, by rw [List.getElem?_set_ne (fun h => e h.symm)]; exact h3, (h4.below hb12 h4.lt).other (by simp; omega) _⟩
      case measure => simp [intOf] <;> omega
    · obtain rfl : k = 32 := by omega
      have hPL := hid hP.len
      have hZl : Hid (Z.length = 32) := HZL
      have ha := hC.at0
      go_wp2_with (first | (refine wl_loadG (by rfl) 139 _ rfl ⟨w.heap.size + 1, 0, none⟩ rfl 32 ps hPL.out aggP ha ?_) | (refine wl_storeAll rfl 139 _ _ rfl 139 w.heap.size rfl ps rfl 32 aggP hPL.out Z hR hZl.out hP.one ?_; intro hS))
      (try simp only [Exit.inBlock, Exit.then]); refine bodyPost_ret (results_cell rfl _ _ _ _ rfl ps (by rw [hPL.out]; exact aggP) hS.at0) rfl ?_
      refine ⟨ps, rfl, ⟨hPL.out, hP.one, fun o ho => ?_⟩, below_setRow' hbl (Nat.le_refl _) _⟩
      obtain ⟨g, h2, h3, h4⟩ := hP.at_ o ho
      have h5 : BlkI .i64 3 (wr.setRow w.heap.size ps.toArray) g (polyOf l o) := BlkV.otherRow h4.v (by omega) _
      exact ⟨g, by omega, h3, h5⟩
theorem polynomials_any (ao : Option Addr) (cap n : Nat) (l : List Sh) (w : World) (hn' : n = l.length) (hr : RowS w ao l) (hok : ∀ s ∈ l, s.Ok) (hg : Good l) (hn : l.length ≤ 64) :
    Calls Try.prog 100 #[.slice ao n cap] w fun e w' => ∃ ps, e = .returned (.agg ps.toArray) ∧ PolysAt w' l ps ∧ Below w.heap.size w w' :=
  (polynomials_hi ao cap n l w hn' hr hok hg hn).mono fun _ _ ⟨ps, h1, h2, h3⟩ => ⟨ps, h1, h2.at, h3⟩
end Go.Proofs.Ytbljihhelladbaa.shr
