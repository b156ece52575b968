/-
  Contracts of share.points and keyref2.places: places and values of an octet, in rows of the call's own. Conditions: shares of the type's form, 2^40 at most.
-/
import Derived.Test.YtbljihhelladbaaShJ
import Derived.Test.YtbljihhelladbaaMem
namespace Go.Proofs.Ytbljihhelladbaa.shr
set_option linter.unusedVariables false
open Go.RowKit Go.Proofs.Ytbljihhelladbaa.sh
set_option linter.unusedSimpArgs false
set_option pp.maxSteps 6000

theorem infoI : Info Try.prog 3 (.int .i64 0) 1 8 := by unfold Info; kernel_rfl
theorem xsOf_succ (l : List Sh) (k : Nat) (hk : k < l.length) : xsOf (l.take (k + 1)) = xsOf (l.take k) ++ [(l.getD k nil).x] := by
  unfold xsOf
  rw [List.take_succ_eq_append_getElem hk, List.map_append, getD_lt' l nil hk]; rfl
theorem ysOf_succ (l : List Sh) (o k : Nat) (hk : k < l.length) : ysOf (l.take (k + 1)) o = ysOf (l.take k) o ++ [(l.getD k nil).y.getD o 0] := by
  unfold ysOf
  rw [List.take_succ_eq_append_getElem hk, List.map_append, getD_lt' l nil hk]; rfl
theorem ownsRow_nil' (w : World) (base : Nat) (e : TypeId) (size : Nat) : w.ownsRow base e size (.slice none 0 0) 0 [] := World.ownsRow_nil w base e size
theorem ownsRow_drew {w : World} {base : Nat} {e : TypeId} {size n : Nat} {v : Value} {xs : List Value} (h : w.ownsRow base e size v n xs) : w.drew.ownsRow base e size v n xs := h
theorem ownsRow_below {w w' : World} {base : Nat} {e : TypeId} {size n : Nat} {v : Value} {xs : List Value} (h : w.ownsRow base e size v n xs) (N : Nat) (hN : w.heap.size = N) (hb : Below N w w') : w'.ownsRow base e size v n xs := by
  subst hN; exact ownsRow_belowAll h hb

set_option maxRecDepth 100000 in
theorem points_any (ao : Option Addr) (cap n : Nat) (l : List Sh) (o : Nat) (w : World) (hn' : n = l.length) (hr : RowS w ao l) (hok : ∀ s ∈ l, s.Ok) (hn : l.length ≤ 1099511627776) (ho : o < 32) :
    Calls Try.prog 107 #[.slice ao n cap, .int .i64 o] w fun e w' => ∃ ax cx ay cy, e = .returned (.tuple #[.slice ax n cx, .slice ay n cy]) ∧ n ≤ cx ∧ n ≤ cy ∧ w'.ownsRow w.heap.size 3 1 (.slice ax n cx) n ((xsOf l).map (Value.int .i64)) ∧ w'.ownsRow w.heap.size 3 1 (.slice ay n cy) n ((ysOf l o).map (Value.int .i64)) ∧ Apart2 (.slice ax n cx) (.slice ay n cy) ∧ Below w.heap.size w w' := by
  subst hn'
  have HOK := hid hok
  clear hok
  go_enter Try.func107, Try.ntmps107
  go_wp2
  go_loopw [4, 5, 10] (fun vx vy i wr => ∃ (k : Nat) (ax : Option Addr) (cx : Nat) (ay : Option Addr) (cy : Nat), k ≤ l.length ∧ i = .int .i64 k ∧ vx = .slice ax k cx ∧ vy = .slice ay k cy ∧ k ≤ cx ∧ k ≤ cy ∧
      wr.ownsRow w.heap.size 3 1 (.slice ax k cx) k ((xsOf (l.take k)).map (Value.int .i64)) ∧ wr.ownsRow w.heap.size 3 1 (.slice ay k cy) k ((ysOf (l.take k) o).map (Value.int .i64)) ∧ Apart2 (.slice ax k cx) (.slice ay k cy) ∧ Below w.heap.size w wr) (fun _ _ i _ => l.length - (intOf i).toNat)
  case atStart => exact ⟨0, none, 0, none, 0, Nat.zero_le _, rfl, rfl, rfl, Nat.le_refl _, Nat.le_refl _, World.ownsRow_nil _ _ _ _, World.ownsRow_nil _ _ _ _, Or.inl rfl, Below.refl _ _⟩
  case round =>
    obtain ⟨k, ax, cx, ay, cy, hk, rfl, rfl, rfl, hkx, hky, hX, hY, hap, hbl⟩ := hrel
    by_cases h0 : k < l.length
    · obtain ⟨b, off, s, rfl, hb, HS, hat0⟩ := hr.elem (i := k) h0
      have hs : s.Ok := by rw [HS.out, getD_lt' l nil h0]; exact HOK.out _ (List.getElem_mem h0)
      have hat := At.belowB hat0 hbl hb
      have HCL := hid hs.csl
      have c1 := cs_one s
      clear hat0
      obtain ⟨N, HN⟩ : ∃ N, Hid (wr.heap.size = N) := ⟨_, rfl⟩
      have hlt : w.heap.size ≤ N := by rw [← HN.out]; exact hbl.size
      have hxN : ∀ g, (Value.slice ax k cx).ownBlock = some g → g < N := fun g hg => by rw [← HN.out]; exact ownsRow_lt hX g hg
      have hyN : ∀ g, (Value.slice ay k cy).ownBlock = some g → g < N := fun g hg => by rw [← HN.out]; exact ownsRow_lt hY g hg
      obtain ⟨yv, HYV⟩ : ∃ c, Hid (c = s.y.getD o 0) := ⟨_, rfl⟩
      have ho1 : (0 : Int) ≤ (o : Int) := by omega
      have ho2 : (o : Int) < 32 := by omega
      have hybd : 0 ≤ yv ∧ yv ≤ 65535 := by rw [HYV.out, getD_lt' s.y 0 (by rw [hs.yl]; exact ho)]; exact hs.yb _ (List.getElem_mem _)
      have HXS := hid (xsOf_succ l k h0)
      have HYS := hid (ysOf_succ l o k h0)
      rw [← HS.out] at HXS HYS
      rw [← HYV.out] at HYS
      go_wp2_with (first | (refine wl_loadG (by rfl) 61 _ rfl ⟨b, off + k * 49, none⟩ rfl 49 s.cs HCL.out aggS hat ?_) | (refine wl_allocV rfl 61 rfl sh0.cs sh0_zero N HN.out ?_; intro wA hA hbA hsA) | (refine wl_storeV rfl 61 _ _ rfl 61 N rfl s.cs rfl 49 aggS HCL.out sh0.cs hA sh0_len c1 ?_; intro wS hS hbS hsS))
      have cX := (hS.cell 16).trans (cs_x s hs)
      have cyv : wS.cell? ⟨N, 17 + o, none⟩ = some (.int .u16 yv) := by rw [HYV.out]; exact (hS.cell (17 + o)).trans (cs_yi s hs o ho)
      have hbW := bel_all HN.out hbl hbA hbS
      have hXS := ownsRow_below hX N HN.out (hbA.trans hbS)
      have hYS := ownsRow_below hY N HN.out (hbA.trans hbS)
      have hSz : Hid (wS.heap.size = N + 1) := by show _ = _; omega
      have hneX : some N ≠ (Value.slice ax k cx).ownBlock := fun e => Nat.lt_irrefl _ (hxN N e.symm)
      have hneY : some N ≠ (Value.slice ay k cy).ownBlock := fun e => Nat.lt_irrefl _ (hyN N e.symm)
      have hx1 : ∀ m, N ≤ m → some m ≠ (Value.slice ax k cx).ownBlock := fun m hm e => by have := hxN m e.symm; omega
      have hwN : w.heap.size ≤ wS.heap.size := by rw [hSz.out]; omega
      clear hX hY hA hat hsA hsS hbA hbS
      have hwy : IntKind.i64.wrap yv = yv := IntWalk.i64_in _ (by omega)
      have D1 : At (wS.alloc (.cells #[.int .i64 s.x] 3)).drew ⟨wS.heap.size, 0, none⟩ [.int .i64 s.x] := at_new' wS [.int .i64 s.x] _ rfl
      have D12 : At ((wS.alloc (.cells #[.int .i64 s.x] 3)).alloc (.cells #[.int .i64 yv] 3)).drew ⟨wS.heap.size + 1, 0, none⟩ [.int .i64 yv] := at_new' (wS.alloc (.cells #[.int .i64 s.x] 3)) [.int .i64 yv] _ (by simp)
      have D11 : At ((wS.alloc (.cells #[.int .i64 s.x] 3)).alloc (.cells #[.int .i64 yv] 3)).drew ⟨wS.heap.size, 0, none⟩ [.int .i64 s.x] := At.alloc (w := wS.alloc (.cells #[.int .i64 s.x] 3)) (at_new' wS [.int .i64 s.x] _ rfl) _
      have D21 : At ((wS.alloc (.cells #[.int .i64 yv] 3)).alloc (.cells #[.int .i64 s.x] 3)).drew ⟨wS.heap.size + 1, 0, none⟩ [.int .i64 s.x] := at_new' (wS.alloc (.cells #[.int .i64 yv] 3)) [.int .i64 s.x] _ (by simp)
      have D22 : At ((wS.alloc (.cells #[.int .i64 yv] 3)).alloc (.cells #[.int .i64 s.x] 3)).drew ⟨wS.heap.size, 0, none⟩ [.int .i64 yv] := At.alloc (w := wS.alloc (.cells #[.int .i64 yv] 3)) (at_new' wS [.int .i64 yv] _ rfl) _
      have oX := ownsRow_drew hXS
      have oY := ownsRow_drew hYS
      go_region_held3 (fun w' => w'.cell? ⟨N, 16, none⟩ = some (.int .i64 s.x) ∧ w'.cell? ⟨N, 17 + o, none⟩ = some (.int .u16 yv)) (first | go_keep | (go_split_ands; first | exact ⟨hg12.cell (by assumption) hneY, hg12.cell (by assumption) hneY⟩ | exact ⟨hg4.cell (by assumption) hneX, hg4.cell (by assumption) hneX⟩)) (first | (refine step_push (by rfl) (.tmp 19) (.tmp 25) 26 rfl 3 (.int .i64 0) 1 8 Try.underlying26 infoI rfl (by decide) w.heap.size (.slice ay k cy) k _ (by rfl) (by first | exact ((oY.alloc _).kept hg4 hap.symm).alloc _ | exact ((oY.alloc _).alloc _).kept hg4 hap.symm) _ 1 1 (by rfl) [.int .i64 yv] (by rfl) (by first | exact at_new' _ [.int .i64 yv] _ rfl | exact D12.kept hg4 (hx1 (wS.heap.size + 1) (by rw [hSz.out]; omega)) | exact D22.kept hg4 (hx1 wS.heap.size (by rw [hSz.out]; omega))) (by simp [Value.oneCell']) (by unfold maxLen; omega) (by omega) (by have := hg4.size; simp at this ⊢; omega) (k + 1) rfl ?_; intro ay' cy' w12 hcy' hY12 hg12 hl12) | (refine step_push (by rfl) (.tmp 14) (.tmp 17) 26 rfl 3 (.int .i64 0) 1 8 Try.underlying26 infoI rfl (by decide) w.heap.size (.slice ax k cx) k _ (by rfl) (by first | exact oX.alloc _ | exact (oX.alloc _).alloc _) _ 1 1 (by rfl) [.int .i64 s.x] (by rfl) (by first | exact D1 | exact D11 | exact D21) (by simp [Value.oneCell']) (by unfold maxLen; omega) (by omega) (by simp; omega) (k + 1) rfl ?_; intro ax' cx' w4 hcx' hX4 hg4 hl4))
      all_goals (have hap4 := hap.push hl4 (fun g hg => Nat.lt_of_lt_of_le (hyN g hg) (by have := hSz.out; simp; omega)))
      all_goals (have hX12 : w12.ownsRow w.heap.size 3 1 (.slice ax' (k + 1) cx') (k + 1) ((xsOf (l.take k)).map (Value.int .i64) ++ [.int .i64 s.x]) := by first | exact hX4.kept hg12 hap4 | exact (hX4.alloc _).kept hg12 hap4)
      all_goals (have hap12 := (hap4.symm).push hl12 (fun g hg => by have := ownsRow_lt hX4 g hg; simp; omega))
      all_goals (have hbD : Below w.heap.size w wS.drew := hbW.drew)
      all_goals (have hb4 : Below w.heap.size w w4 := by first | exact (hbD.alloc hwN _).grown hg4 (by simp; omega) (fun g hg => (hXS.lt g hg).1) | exact ((hbD.alloc hwN _).alloc (by simp; omega) _).grown hg4 (by simp; omega) (fun g hg => (hXS.lt g hg).1))
      all_goals (have hb12 : Below w.heap.size w w12 := by first | exact hb4.grown hg12 hb4.size (fun g hg => (hYS.lt g hg).1) | exact (hb4.alloc hb4.size _).grown hg12 (by have := hb4.size; simp; omega) (fun g hg => (hYS.lt g hg).1))
      all_goals go_wp2
      all_goals go_roundw
      any_goals (case rel => exact ⟨k + 1, ax', cx', ay', cy', by omega, by go_num, rfl, rfl, hcx', hcy', by rw [HXS.out, List.map_append]; exact hX12, by rw [HYS.out, List.map_append]; exact hY12, hap12.symm, hb12⟩)
      any_goals (simp [intOf] <;> omega)
    · obtain rfl : k = l.length := by omega
      go_wp2
      go_ret2
      exact ⟨ax, cx, ay, cy, rfl, hkx, hky, by rwa [List.take_length] at hX, by rwa [List.take_length] at hY, hap, hbl⟩

set_option maxRecDepth 100000 in
theorem places_any (ao : Option Addr) (cap n : Nat) (l : List Sh) (o : Nat) (w : World) (hn' : n = l.length) (hr : RowS w ao l) (hok : ∀ s ∈ l, s.Ok) (hn : l.length ≤ 1099511627776) (ho : o < 32) :
    Calls Try.prog 105 #[.slice ao n cap, .int .i64 o] w fun e w' => ∃ ax cx ay cy, e = .returned (.tuple #[.slice ax n cx, .slice ay n cy]) ∧ n ≤ cx ∧ n ≤ cy ∧ w'.ownsRow w.heap.size 3 1 (.slice ax n cx) n ((xsOf l).map (Value.int .i64)) ∧ w'.ownsRow w.heap.size 3 1 (.slice ay n cy) n ((ysOf l o).map (Value.int .i64)) ∧ Apart2 (.slice ax n cx) (.slice ay n cy) ∧ Below w.heap.size w w' := by
  subst hn'
  have HOK := hid hok
  clear hok
  go_enter Try.func105, Try.ntmps105
  go_wp2
  go_loopw [4, 5, 10] (fun vx vy i wr => ∃ (k : Nat) (ax : Option Addr) (cx : Nat) (ay : Option Addr) (cy : Nat), k ≤ l.length ∧ i = .int .i64 k ∧ vx = .slice ax k cx ∧ vy = .slice ay k cy ∧ k ≤ cx ∧ k ≤ cy ∧
      wr.ownsRow w.heap.size 3 1 (.slice ax k cx) k ((xsOf (l.take k)).map (Value.int .i64)) ∧ wr.ownsRow w.heap.size 3 1 (.slice ay k cy) k ((ysOf (l.take k) o).map (Value.int .i64)) ∧ Apart2 (.slice ax k cx) (.slice ay k cy) ∧ Below w.heap.size w wr) (fun _ _ i _ => l.length - (intOf i).toNat)
  case atStart => exact ⟨0, none, 0, none, 0, Nat.zero_le _, rfl, rfl, rfl, Nat.le_refl _, Nat.le_refl _, World.ownsRow_nil _ _ _ _, World.ownsRow_nil _ _ _ _, Or.inl rfl, Below.refl _ _⟩
  case round =>
    obtain ⟨k, ax, cx, ay, cy, hk, rfl, rfl, rfl, hkx, hky, hX, hY, hap, hbl⟩ := hrel
    by_cases h0 : k < l.length
    · obtain ⟨b, off, s, rfl, hb, HS, hat0⟩ := hr.elem (i := k) h0
      have hs : s.Ok := by rw [HS.out, getD_lt' l nil h0]; exact HOK.out _ (List.getElem_mem h0)
      have hat := At.belowB hat0 hbl hb
      have HCL := hid hs.csl
      have c1 := cs_one s
      clear hat0
      obtain ⟨N, HN⟩ : ∃ N, Hid (wr.heap.size = N) := ⟨_, rfl⟩
      have hlt : w.heap.size ≤ N := by rw [← HN.out]; exact hbl.size
      have hxN : ∀ g, (Value.slice ax k cx).ownBlock = some g → g < N := fun g hg => by rw [← HN.out]; exact ownsRow_lt hX g hg
      have hyN : ∀ g, (Value.slice ay k cy).ownBlock = some g → g < N := fun g hg => by rw [← HN.out]; exact ownsRow_lt hY g hg
      obtain ⟨yv, HYV⟩ : ∃ c, Hid (c = s.y.getD o 0) := ⟨_, rfl⟩
      have ho1 : (0 : Int) ≤ (o : Int) := by omega
      have ho2 : (o : Int) < 32 := by omega
      have hybd : 0 ≤ yv ∧ yv ≤ 65535 := by rw [HYV.out, getD_lt' s.y 0 (by rw [hs.yl]; exact ho)]; exact hs.yb _ (List.getElem_mem _)
      have HXS := hid (xsOf_succ l k h0)
      have HYS := hid (ysOf_succ l o k h0)
      rw [← HS.out] at HXS HYS
      rw [← HYV.out] at HYS
      go_wp2_with (first | (refine wl_loadG (by rfl) 61 _ rfl ⟨b, off + k * 49, none⟩ rfl 49 s.cs HCL.out aggS hat ?_) | (refine wl_allocV rfl 61 rfl sh0.cs sh0_zero N HN.out ?_; intro wA hA hbA hsA) | (refine wl_storeV rfl 61 _ _ rfl 61 N rfl s.cs rfl 49 aggS HCL.out sh0.cs hA sh0_len c1 ?_; intro wS hS hbS hsS))
      have cX := (hS.cell 16).trans (cs_x s hs)
      have cyv : wS.cell? ⟨N, 17 + o, none⟩ = some (.int .u16 yv) := by rw [HYV.out]; exact (hS.cell (17 + o)).trans (cs_yi s hs o ho)
      have hbW := bel_all HN.out hbl hbA hbS
      have hXS := ownsRow_below hX N HN.out (hbA.trans hbS)
      have hYS := ownsRow_below hY N HN.out (hbA.trans hbS)
      have hSz : Hid (wS.heap.size = N + 1) := by show _ = _; omega
      have hneX : some N ≠ (Value.slice ax k cx).ownBlock := fun e => Nat.lt_irrefl _ (hxN N e.symm)
      have hneY : some N ≠ (Value.slice ay k cy).ownBlock := fun e => Nat.lt_irrefl _ (hyN N e.symm)
      have hx1 : ∀ m, N ≤ m → some m ≠ (Value.slice ax k cx).ownBlock := fun m hm e => by have := hxN m e.symm; omega
      have hwN : w.heap.size ≤ wS.heap.size := by rw [hSz.out]; omega
      clear hX hY hA hat hsA hsS hbA hbS
      have hwy : IntKind.i64.wrap yv = yv := IntWalk.i64_in _ (by omega)
      have D1 : At (wS.alloc (.cells #[.int .i64 s.x] 3)).drew ⟨wS.heap.size, 0, none⟩ [.int .i64 s.x] := at_new' wS [.int .i64 s.x] _ rfl
      have D12 : At ((wS.alloc (.cells #[.int .i64 s.x] 3)).alloc (.cells #[.int .i64 yv] 3)).drew ⟨wS.heap.size + 1, 0, none⟩ [.int .i64 yv] := at_new' (wS.alloc (.cells #[.int .i64 s.x] 3)) [.int .i64 yv] _ (by simp)
      have D11 : At ((wS.alloc (.cells #[.int .i64 s.x] 3)).alloc (.cells #[.int .i64 yv] 3)).drew ⟨wS.heap.size, 0, none⟩ [.int .i64 s.x] := At.alloc (w := wS.alloc (.cells #[.int .i64 s.x] 3)) (at_new' wS [.int .i64 s.x] _ rfl) _
      have D21 : At ((wS.alloc (.cells #[.int .i64 yv] 3)).alloc (.cells #[.int .i64 s.x] 3)).drew ⟨wS.heap.size + 1, 0, none⟩ [.int .i64 s.x] := at_new' (wS.alloc (.cells #[.int .i64 yv] 3)) [.int .i64 s.x] _ (by simp)
      have D22 : At ((wS.alloc (.cells #[.int .i64 yv] 3)).alloc (.cells #[.int .i64 s.x] 3)).drew ⟨wS.heap.size, 0, none⟩ [.int .i64 yv] := At.alloc (w := wS.alloc (.cells #[.int .i64 yv] 3)) (at_new' wS [.int .i64 yv] _ rfl) _
      have oX := ownsRow_drew hXS
      have oY := ownsRow_drew hYS
      go_region_held3 (fun w' => w'.cell? ⟨N, 16, none⟩ = some (.int .i64 s.x) ∧ w'.cell? ⟨N, 17 + o, none⟩ = some (.int .u16 yv)) (first | go_keep | (go_split_ands; first | exact ⟨hg12.cell (by assumption) hneY, hg12.cell (by assumption) hneY⟩ | exact ⟨hg4.cell (by assumption) hneX, hg4.cell (by assumption) hneX⟩)) (first | (refine step_push (by rfl) (.tmp 19) (.tmp 25) 26 rfl 3 (.int .i64 0) 1 8 Try.underlying26 infoI rfl (by decide) w.heap.size (.slice ay k cy) k _ (by rfl) (by first | exact ((oY.alloc _).kept hg4 hap.symm).alloc _ | exact ((oY.alloc _).alloc _).kept hg4 hap.symm) _ 1 1 (by rfl) [.int .i64 yv] (by rfl) (by first | exact at_new' _ [.int .i64 yv] _ rfl | exact D12.kept hg4 (hx1 (wS.heap.size + 1) (by rw [hSz.out]; omega)) | exact D22.kept hg4 (hx1 wS.heap.size (by rw [hSz.out]; omega))) (by simp [Value.oneCell']) (by unfold maxLen; omega) (by omega) (by have := hg4.size; simp at this ⊢; omega) (k + 1) rfl ?_; intro ay' cy' w12 hcy' hY12 hg12 hl12) | (refine step_push (by rfl) (.tmp 14) (.tmp 17) 26 rfl 3 (.int .i64 0) 1 8 Try.underlying26 infoI rfl (by decide) w.heap.size (.slice ax k cx) k _ (by rfl) (by first | exact oX.alloc _ | exact (oX.alloc _).alloc _) _ 1 1 (by rfl) [.int .i64 s.x] (by rfl) (by first | exact D1 | exact D11 | exact D21) (by simp [Value.oneCell']) (by unfold maxLen; omega) (by omega) (by simp; omega) (k + 1) rfl ?_; intro ax' cx' w4 hcx' hX4 hg4 hl4))
      all_goals (have hap4 := hap.push hl4 (fun g hg => Nat.lt_of_lt_of_le (hyN g hg) (by have := hSz.out; simp; omega)))
      all_goals (have hX12 : w12.ownsRow w.heap.size 3 1 (.slice ax' (k + 1) cx') (k + 1) ((xsOf (l.take k)).map (Value.int .i64) ++ [.int .i64 s.x]) := by first | exact hX4.kept hg12 hap4 | exact (hX4.alloc _).kept hg12 hap4)
      all_goals (have hap12 := (hap4.symm).push hl12 (fun g hg => by have := ownsRow_lt hX4 g hg; simp; omega))
      all_goals (have hbD : Below w.heap.size w wS.drew := hbW.drew)
      all_goals (have hb4 : Below w.heap.size w w4 := by first | exact (hbD.alloc hwN _).grown hg4 (by simp; omega) (fun g hg => (hXS.lt g hg).1) | exact ((hbD.alloc hwN _).alloc (by simp; omega) _).grown hg4 (by simp; omega) (fun g hg => (hXS.lt g hg).1))
      all_goals (have hb12 : Below w.heap.size w w12 := by first | exact hb4.grown hg12 hb4.size (fun g hg => (hYS.lt g hg).1) | exact (hb4.alloc hb4.size _).grown hg12 (by have := hb4.size; simp; omega) (fun g hg => (hYS.lt g hg).1))
      all_goals go_wp2
      all_goals go_roundw
      any_goals (case rel => exact ⟨k + 1, ax', cx', ay', cy', by omega, by go_num, rfl, rfl, hcx', hcy', by rw [HXS.out, List.map_append]; exact hX12, by rw [HYS.out, List.map_append]; exact hY12, hap12.symm, hb12⟩)
      any_goals (simp [intOf] <;> omega)
    · obtain rfl : k = l.length := by omega
      go_wp2
      go_ret2
      exact ⟨ax, cx, ay, cy, rfl, hkx, hky, by rwa [List.take_length] at hX, by rwa [List.take_length] at hY, hap, hbl⟩
end Go.Proofs.Ytbljihhelladbaa.shr
