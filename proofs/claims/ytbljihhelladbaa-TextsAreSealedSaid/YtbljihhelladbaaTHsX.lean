/-
  Sums: a summer takes octets in. Conditions: as each theorem says.
-/
import Derived.Test.YtbljihhelladbaaTStE
import Derived.Test.YtbljihhelladbaaTEqA
/- Sums, plain: a state takes in blocks of 32 octets; a text with its padding. No program, no condition. -/
namespace Go.Proofs.Ytbljihhelladbaa.hs
open Go.RowKit Go.Proofs.Ytbljihhelladbaa.st
set_option linter.unusedSimpArgs false
set_option linter.unusedVariables false
set_option pp.maxSteps 6000
/-- a block is laid over the first k octets of a state -/
def xorTo (s b : List Int) (k : Nat) : List Int := (List.range 64).map fun i => if i < k then bits .xor .u8 (s.getD i 0) (b.getD i 0) else s.getD i 0
theorem xorTo_length (s b : List Int) (k : Nat) : (xorTo s b k).length = 64 := by simp [xorTo]
theorem xorTo_get (s b : List Int) (k i : Nat) (hi : i < 64) : (xorTo s b k).getD i 0 = if i < k then bits .xor .u8 (s.getD i 0) (b.getD i 0) else s.getD i 0 := by simp [xorTo, List.getD_eq_getElem?_getD, hi]
theorem xorTo_zero (s b : List Int) (hs : s.length = 64) : xorTo s b 0 = s := by
  apply List.ext_getElem
  · rw [xorTo_length, hs]
  · intro i h1 h2
    simp only [xorTo, List.getElem_map, List.getElem_range]
    rw [if_neg (Nat.not_lt_zero i), getD_lt' s 0 h2]
theorem xorTo_set (s b : List Int) (k : Nat) (hk : k < 64) : (xorTo s b k).set k (bits .xor .u8 (s.getD k 0) (b.getD k 0)) = xorTo s b (k + 1) := by
  apply List.ext_getElem
  · rw [List.length_set, xorTo_length, xorTo_length]
  · intro i h1 h2
    rw [xorTo_length] at h2
    rw [List.getElem_set]
    by_cases e : k = i
    · subst e; simp [xorTo]
    · rw [if_neg e]
      simp only [xorTo, List.getElem_map, List.getElem_range]
      by_cases h : i < k
      · rw [if_pos h, if_pos (by omega)]
      · rw [if_neg h, if_neg (by omega)]
/-- the state behind a block; behind n blocks of a text -/
def absorb (s b : List Int) : List Int := stirL (xorTo s b 32)
def absN (s t : List Int) : Nat → List Int
  | 0 => s
  | n + 1 => absorb (absN s t n) ((t.drop (32 * n)).take 32)
theorem xorTo_congr (s : List Int) {b c : List Int} (h : ∀ i, i < 32 → b.getD i 0 = c.getD i 0) : xorTo s b 32 = xorTo s c 32 := by
  unfold xorTo
  refine List.map_congr_left fun i hi => ?_
  split
  · rename_i h1; rw [h i h1]
  · rfl
theorem absorb_congr (s : List Int) {b c : List Int} (h : ∀ i, i < 32 → b.getD i 0 = c.getD i 0) : absorb s b = absorb s c := by unfold absorb; rw [xorTo_congr s h]
theorem absN_append (s t u : List Int) (n : Nat) (h : 32 * n ≤ t.length) : absN s (t ++ u) n = absN s t n := by
  induction n with
  | zero => rfl
  | succ n ih =>
    unfold absN
    rw [ih (by omega), List.drop_append_of_le_length (by omega), List.take_append_of_le_length (by rw [List.length_drop]; omega)]
theorem stirL_length' (s : List Int) : (stirL s).length = 64 := by unfold stirL; exact octL_length _ _
theorem absN_length (s t : List Int) (hs : s.length = 64) : ∀ n, (absN s t n).length = 64
  | 0 => hs
  | n + 1 => stirL_length' _
theorem o4_octs (n : Int) : Octs (o4 n) := by
  intro c hc
  simp only [o4, List.mem_cons, List.not_mem_nil, or_false] at hc
  rcases hc with rfl | rfl | rfl | rfl <;> exact ⟨by omega, by omega⟩
theorem octL_octs' (ws : List Int) : Octs (octL ws 64) := by
  intro c hc
  obtain ⟨i, hi, rfl⟩ := List.mem_map.1 hc
  exact (o4_octs _).getD _
theorem stirL_octs' (s : List Int) : Octs (stirL s) := by unfold stirL; exact octL_octs' _
theorem absN_octs (s t : List Int) (hs : Octs s) : ∀ n, Octs (absN s t n)
  | 0 => hs
  | n + 1 => stirL_octs' _
theorem xor_oct {a b : Int} (ha : Oct a) (hb : Oct b) : Oct (bits .xor .u8 a b) := by
  have := bounds_u8 (wf_bits .xor .u8 a b)
  exact ⟨this.1, by omega⟩
theorem xorTo_octs {s b : List Int} (hs : Octs s) (hb : Octs b) (k : Nat) : Octs (xorTo s b k) := by
  intro c hc
  obtain ⟨i, hi, rfl⟩ := List.mem_map.1 hc
  split
  · exact xor_oct (hs.getD i) (hb.getD i)
  · exact hs.getD i
/-- the first state -/
def start (d : Int) : List Int := List.replicate 63 0 ++ [d]
theorem start_length (d : Int) : (start d).length = 64 := by simp [start]
end Go.Proofs.Ytbljihhelladbaa.hs
/- Contract of mix.Summer.block: a block is taken into the state. Conditions: a summer's cells, a block of octets that stays as it is. -/
namespace Go.Proofs.Ytbljihhelladbaa.hs
open Go.RowKit Go.Proofs.Ytbljihhelladbaa.st Go.Proofs.Ytbljihhelladbaa.shr
set_option linter.unusedSimpArgs false
set_option linter.unusedVariables false
set_option pp.maxSteps 6000
/-- a summer's cells -/
def sumC (s r : List Int) (h t : Int) : List Value := s.map (Value.int .u8) ++ (r.map (Value.int .u8) ++ [.int .i64 h, .int .i64 t])
theorem sumC_length {s r : List Int} (hs : s.length = 64) (hr : r.length = 32) (h t : Int) : (sumC s r h t).length = 98 := by simp [sumC, hs, hr]
theorem sumC_s {s r : List Int} (hs : s.length = 64) (h t : Int) {i : Nat} (hi : i < 64) : (sumC s r h t)[i]? = some (.int .u8 (s.getD i 0)) := by
  unfold sumC
  rw [List.getElem?_append_left (by simp [hs]; exact hi), List.getElem?_map, List.getElem?_eq_getElem (by omega), getD_lt' s 0 (by omega)]; rfl
theorem sumC_r {s r : List Int} (hs : s.length = 64) (hr : r.length = 32) (h t : Int) {i : Nat} (hi : i < 32) : (sumC s r h t)[64 + i]? = some (.int .u8 (r.getD i 0)) := by
  unfold sumC
  rw [List.getElem?_append_right (by simp [hs]), List.getElem?_append_left (by simp [hs, hr]; omega)]
  simp [hs]
  rw [List.getElem?_eq_getElem (by omega)]; simp
theorem sumC_h {s r : List Int} (hs : s.length = 64) (hr : r.length = 32) (h t : Int) : (sumC s r h t)[96]? = some (.int .i64 h) := by
  unfold sumC
  rw [List.getElem?_append_right (by simp [hs]), List.getElem?_append_right (by simp [hs, hr])]
  simp [hs, hr]
theorem sumC_t {s r : List Int} (hs : s.length = 64) (hr : r.length = 32) (h t : Int) : (sumC s r h t)[97]? = some (.int .i64 t) := by
  unfold sumC
  rw [List.getElem?_append_right (by simp [hs]), List.getElem?_append_right (by simp [hs, hr])]
  simp [hs, hr]
theorem sumC_set {s r : List Int} (hs : s.length = 64) (h t : Int) {i : Nat} (hi : i < 64) (v : Int) : (sumC s r h t).set i (.int .u8 v) = sumC (s.set i v) r h t := by
  unfold sumC
  rw [List.set_append_left _ _ (by simp [hs]; exact hi), List.map_set]
theorem sumC_one (s r : List Int) (h t : Int) : ∀ u ∈ sumC s r h t, u.oneCell' = true := by
  intro u hu
  unfold sumC at hu
  rcases List.mem_append.1 hu with hu | hu
  · exact ints_one _ _ u hu
  · rcases List.mem_append.1 hu with hu | hu
    · exact ints_one _ _ u hu
    · simp at hu
      rcases hu with rfl | rfl <;> rfl
theorem at_s {w : World} {t : TypeId} {p : Nat} {s r : List Int} {h u : Int} (hs : s.length = 64) (hb : BlkV t w p (sumC s r h u)) : At w ⟨p, 0, none⟩ (s.map (Value.int .u8)) := by
  refine hb.at 0 _ fun j v hv => ?_
  rw [Nat.zero_add]
  unfold sumC
  rw [List.getElem?_append_left (List.getElem?_eq_some_iff.1 hv).1]
  exact hv
theorem agg64' : Agg Try.prog 152 64 := Agg.arr Try.underlying152 (by kernel_rfl)
/-- a store into a part of a block, the world behind it a letter -/
theorem wl_putAt {P : Program} {w : World} {ops : Array Oper} {rest : List Oper} {o : Oper} {a : Act} {Q : Exit → Act → World → Prop} (hgd : o.guard = none) (ty : TypeId) (x y : Operand) (ho : o.op = .store ty x y)
    (t : TypeId) (g off : Nat) (hx : a.eval x = .pointer (some ⟨g, off, none⟩)) (cs : List Value) (hy : a.eval y = .agg cs.toArray) (hi : (P.info? ty).map (·.size) = some cs.length) (cur : List Value) (hg : BlkV t w g cur) (hfit : off + cs.length ≤ cur.length) (h1 : ∀ u ∈ cs, u.oneCell' = true)
    (h : ∀ w', BlkV t w' g (cur.take off ++ cs ++ cur.drop (off + cs.length)) → w.grownBy w' (some g) → w'.heap.size = w.heap.size → wpList P ops Q rest (a.put o.dst undef) w') : wpList P ops Q (o :: rest) a w :=
  wl_store hgd ty x y ho t g off hx cs hy hi cur hg hfit h1 (h _ (hg.setRow _) (grown_setRow _ _ _) (by simp))
set_option maxRecDepth 100000 in
set_option maxHeartbeats 1000000 in
theorem block_any (p bb bo : Nat) (s r bs : List Int) (h t : Int) (w : World) (hs : s.length = 64) (hr : r.length = 32) (hso : Octs s) (hbo : Octs bs) (hP : BlkV 244 w p (sumC s r h t))
    (HB : ∀ wx s', s'.length = 64 → BlkV 244 wx p (sumC s' r h t) → w.grownBy wx (some p) → ∀ i, i < 32 → wx.cell? ⟨bb, bo + i, none⟩ = some (.int .u8 (bs.getD i 0))) :
    Calls Try.prog 219 #[.pointer (some ⟨p, 0, none⟩), .pointer (some ⟨bb, bo, none⟩)] w fun e w' => e = .returned (.tuple #[]) ∧ BlkV 244 w' p (sumC (absorb s bs) r h t) ∧ w.grownBy w' (some p) := by
  have HBB := hid HB
  clear HB
  go_enter Try.func219, Try.ntmps219
  go_wp2
  go_loopw [7] (fun i wr => ∃ k : Nat, k ≤ 32 ∧ i = .int .i64 k ∧ BlkV 244 wr p (sumC (xorTo s bs k) r h t) ∧ w.grownBy wr (some p)) (fun i _ => 32 - (intOf i).toNat)
  case atStart => exact ⟨0, by omega, rfl, by rw [xorTo_zero s bs hs]; exact hP, World.grownBy.refl _ _⟩
  case round =>
    obtain ⟨k, hk, rfl, hG, hgr⟩ := hrel
    by_cases h0 : k < 32
    · have hkI : (k : Int) < 32 := by omega
      have hkI6 : (k : Int) < 64 := by omega
      have hkI0 : (0 : Int) ≤ (k : Int) := by omega
      obtain ⟨x, Hx⟩ : ∃ x, Hid (x = s.getD k 0) := ⟨_, rfl⟩
      obtain ⟨y, Hy⟩ : ∃ y, Hid (y = bs.getD k 0) := ⟨_, rfl⟩
      have cB := HBB.out wr _ (xorTo_length s bs k) hG hgr k h0
      rw [← Hy.out] at cB
      have cX := (hG.cell k).trans (sumC_s (xorTo_length s bs k) h t (by omega))
      rw [xorTo_get s bs k k (by omega), if_neg (Nat.lt_irrefl k), ← Hx.out] at cX
      have fX := hG.frozen k
      have HS := hid (xorTo_set s bs k (by omega))
      rw [← Hx.out, ← Hy.out] at HS
      have cB1 : wr.drew.cell? ⟨bb, bo + k, none⟩ = some (.int .u8 y) := cB
      go_wp2_with fail
      go_quiet (fail)
      generalize HWX : wr.drewN nq = wx
      have hGx : BlkV 244 wx p (sumC (xorTo s bs k) r h t) := by rw [← HWX]; exact hG.drewN nq
      have hgx : w.grownBy wx (some p) := by rw [← HWX]; exact ⟨hgr.os, hgr.tape, hgr.output, hgr.size, hgr.block⟩
      have cX2 : wx.cell? ⟨p, k, none⟩ = some (.int .u8 x) := by rw [← HWX]; exact cX
      have fX2 : wx.frozen? ⟨p, k, none⟩ = false := hGx.frozen k
      clear cB cB1 cX fX hG hgr HWX
      go_wp2_with fail
      refine wp_region_still_tail 11 (by kernel_rfl) (by kernel_rfl) ?_
      simp only [List.take_succ_cons, List.take_zero, List.drop_succ_cons, List.drop_zero]
      change wpStill _ _ wx.drew (fun a' => wpList _ _ _ _ a' wx.drew) _ _
      repeat still_step
      refine wpStill_nil ?_
      go_wp2
      go_roundw
      case rel => exact ⟨k + 1, by omega, by go_num, by rw [← HS.out, ← sumC_set (xorTo_length s bs k) h t (by omega)]; exact hGx.drew.set k _, grown_set (grown_drew hgx) _ _⟩
      case measure => simp [intOf] <;> omega
    · obtain rfl : k = 32 := by omega
      have hxl := xorTo_length s bs 32
      have hxo := xorTo_octs hso hbo 32
      obtain ⟨X, HX⟩ : ∃ X, Hid (X = xorTo s bs 32) := ⟨_, rfl⟩
      rw [← HX.out] at hG hxl hxo
      obtain ⟨XV, HXV⟩ : ∃ V, Hid (V = X.map (Value.int .u8)) := ⟨_, rfl⟩
      have HXL : Hid (XV.length = 64) := by show _ = _; rw [HXV.out, List.length_map]; exact hxl
      have aX : At wr ⟨p, 0, none⟩ XV := by rw [HXV.out]; exact at_s hxl hG
      have HST := hid (stirM X wr hxl hxo)
      rw [← HXV.out] at HST
      obtain ⟨YV, HYV⟩ : ∃ V, Hid (V = (stirL X).map (Value.int .u8)) := ⟨_, rfl⟩
      rw [← HYV.out] at HST
      have HYL : Hid (YV.length = 64) := by show _ = _; rw [HYV.out, List.length_map]; exact stirL_length' _
      have hY1 : ∀ u ∈ YV, u.oneCell' = true := by rw [HYV.out]; exact ints_one _ _
      go_wp2_with (first | (refine wl_load rfl 152 _ rfl ⟨p, 0, none⟩ rfl XV (by rw [HXL.out]; exact agg64') aX ?_; clear aX) | (go_at_call 217; refine HST.out.mono ?_; rintro e w1 ⟨rfl, hb1⟩; have hG1 := hG.below hb1 hG.lt) | (refine wl_putAt rfl 152 _ _ rfl 244 p 0 rfl YV rfl (by rw [HYL.out]; exact agg64'.2) _ hG1 (by rw [sumC_length hxl hr, HYL.out]; decide) hY1 ?_; intro w2 hG2 hg2 hs2))
      go_end0
      refine ⟨rfl, ?_, (hgr.trans (grown_below hb1)).trans hg2⟩
      have e : (sumC X r h t).take 0 ++ YV ++ (sumC X r h t).drop (0 + YV.length) = sumC (absorb s bs) r h t := by
        rw [HYL.out, List.take_zero, List.nil_append, HYV.out]
        unfold sumC absorb
        rw [← HX.out, Nat.zero_add, List.drop_left' (by simp [hxl])]
      rw [← e]
      exact hG2
end Go.Proofs.Ytbljihhelladbaa.hs
/- Contract of mix.Summer.take: octets are taken in. Conditions: a summer that has taken a text, a row of octets apart from it. -/
namespace Go.Proofs.Ytbljihhelladbaa.hs
open Go.RowKit Go.Proofs.Ytbljihhelladbaa.st Go.Proofs.Ytbljihhelladbaa.shr
set_option linter.unusedSimpArgs false
set_option linter.unusedVariables false
set_option pp.maxSteps 6000
/-- a summer that began with a state and has taken a text -/
structure SumOk (w : World) (p : Nat) (s0 T : List Int) (tot : Int) : Prop where
  ex : ∃ r : List Int, r.length = 32 ∧ Octs r ∧ (∀ i, i < T.length % 32 → r.getD i 0 = T.getD (32 * (T.length / 32) + i) 0) ∧ BlkV 244 w p (sumC (absN s0 T (T.length / 32)) r ((T.length % 32 : Nat) : Int) tot)
/-- what is laid into the rest -/
def lay (r l : List Int) (k n : Nat) : List Int := (List.range 32).map fun i => if k ≤ i ∧ i < k + n then l.getD (i - k) 0 else r.getD i 0
theorem lay_length (r l : List Int) (k n : Nat) : (lay r l k n).length = 32 := by simp [lay]
theorem lay_get (r l : List Int) (k n i : Nat) (hi : i < 32) : (lay r l k n).getD i 0 = if k ≤ i ∧ i < k + n then l.getD (i - k) 0 else r.getD i 0 := by simp [lay, List.getD_eq_getElem?_getD, hi]
theorem lay_octs {r l : List Int} (hr : Octs r) (hl : Octs l) (k n : Nat) : Octs (lay r l k n) := by
  intro c hc
  obtain ⟨i, hi, rfl⟩ := List.mem_map.1 hc
  split
  · exact hl.getD _
  · exact hr.getD i
theorem lay_cells {s r l : List Int} (hs : s.length = 64) (hr : r.length = 32) (h t : Int) (k n : Nat) (hn : k + n ≤ 32) (hl : n ≤ l.length) :
    (sumC s r h t).take (64 + k) ++ ((l.take n).map (Value.int .u8) ++ (sumC s r h t).drop (64 + k + n)) = sumC s (lay r l k n) h t := by
  apply List.ext_getElem?
  intro i
  have hS := sumC_length hs hr h t
  have hL := sumC_length (s := s) (r := lay r l k n) hs (lay_length ..) h t
  have hln : ((l.take n).map (Value.int .u8)).length = n := by rw [List.length_map, List.length_take]; omega
  by_cases h1 : i < 64 + k
  · rw [List.getElem?_append_left (by rw [List.length_take, hS]; omega), List.getElem?_take, if_pos h1]
    by_cases h2 : i < 64
    · rw [sumC_s hs h t h2, sumC_s hs h t h2]
    · obtain ⟨j, rfl⟩ : ∃ j, i = 64 + j := ⟨i - 64, by omega⟩
      rw [sumC_r hs hr h t (by omega), sumC_r hs (lay_length ..) h t (by omega), lay_get r l k n j (by omega), if_neg (by omega)]
  · rw [List.getElem?_append_right (by rw [List.length_take, hS]; omega), List.length_take, hS, Nat.min_eq_left (by omega)]
    by_cases h2 : i < 64 + k + n
    · rw [List.getElem?_append_left (by rw [hln]; omega)]
      obtain ⟨j, rfl⟩ : ∃ j, i = 64 + j := ⟨i - 64, by omega⟩
      rw [sumC_r hs (lay_length ..) h t (by omega), lay_get r l k n j (by omega), if_pos (by omega), show 64 + j - (64 + k) = j - k by omega, List.getElem?_map, List.getElem?_take, if_pos (by omega), List.getElem?_eq_getElem (by omega), getD_lt' l 0 (by omega)]
      rfl
    · rw [List.getElem?_append_right (by rw [hln]; omega), hln, List.getElem?_drop, show 64 + k + n + (i - (64 + k) - n) = i by omega]
      by_cases h3 : i < 96
      · obtain ⟨j, rfl⟩ : ∃ j, i = 64 + j := ⟨i - 64, by omega⟩
        rw [sumC_r hs hr h t (by omega), sumC_r hs (lay_length ..) h t (by omega), lay_get r l k n j (by omega), if_neg (by omega)]
      · by_cases h4 : i = 96
        · subst h4; rw [sumC_h hs hr, sumC_h hs (lay_length ..)]
        · by_cases h5 : i = 97
          · subst h5; rw [sumC_t hs hr, sumC_t hs (lay_length ..)]
          · rw [List.getElem?_eq_none (by omega), List.getElem?_eq_none (by omega)]
theorem sumC_seth {s r : List Int} (hs : s.length = 64) (hr : r.length = 32) (h t v : Int) : (sumC s r h t).set 96 (.int .i64 v) = sumC s r v t := by
  unfold sumC
  rw [List.set_append_right _ _ (by simp [hs]), List.set_append_right _ _ (by simp [hs, hr])]
  simp [hs, hr]
theorem sumC_sett {s r : List Int} (hs : s.length = 64) (hr : r.length = 32) (h t v : Int) : (sumC s r h t).set 97 (.int .i64 v) = sumC s r h v := by
  unfold sumC
  rw [List.set_append_right _ _ (by simp [hs]), List.set_append_right _ _ (by simp [hs, hr])]
  simp [hs, hr]
theorem run_arrayAt32 (w : World) (a : Addr) (n cap : Nat) (hn : 32 ≤ n) : (Instr.arrayAt 22 (.slice (some a) n cap)).run Try.prog w = .ok (.pointer (some a)) w := by
  have h1 : ¬ n < 32 := by omega
  simp [Instr.arrayAt, run_underlying Try.underlying22, Result.andThen, h1]
/-- copy into a summer's rest, the world behind it a letter -/
theorem wl_copyR {w : World} {ops : Array Oper} {rest : List Oper} {o : Oper} {a : Act} {Q : Exit → Act → World → Prop} (hgd : o.guard = none) (x y : Operand)
    (ho : o.op = .call { callee := .builtin .copy, args := #[x, y], argTypes := #[69, 69] }) (p k : Nat) (dc : Nat) (hk : k ≤ 32) (hx : a.eval x = .slice (some ⟨p, 64 + k, none⟩) (32 - k) dc)
    (ao : Option Addr) (m c : Nat) (hy : a.eval y = .slice ao m c) (l : List Int) (hm : m = l.length) (hrow : RowI .u8 w ao l) (s r : List Int) (hs : s.length = 64) (hr : r.length = 32) (h t : Int) (hG : BlkV 244 w p (sumC s r h t)) (n : Nat) (hn : n = min m (32 - k))
    (hK : ∀ w', BlkV 244 w' p (sumC s (lay r l k n) h t) → w.grownBy w' (some p) → w'.heap.size = w.heap.size → wpList Try.prog ops Q rest (a.put o.dst (.int .i64 n)) w') : wpList Try.prog ops Q (o :: rest) a w := by
  subst hm
  have hnl : n ≤ l.length := by omega
  have hcl : ((l.take n).map (Value.int .u8)).length = n := by rw [List.length_map, List.length_take]; omega
  by_cases h0 : n = 0
  · subst h0
    refine wpList_copy_nothing hgd x y _ _ ho 5 Try.underlying69 size5 _ ao (32 - k) dc l.length c hx hy (by rw [hn]) ?_
    have e : sumC s (lay r l k 0) h t = sumC s r h t := by
      have := lay_cells hs hr h t (l := l) k 0 (by omega) (by omega)
      rw [← this]
      simp
    exact hK w (by rw [e]; exact hG) (World.grownBy.refl _ _) rfl
  · obtain ⟨b, off, rfl, hb, hc⟩ := hrow.at (i := 0) (by omega)
    refine wpList_copy_own hgd x y _ _ ho 5 Try.underlying69 size5 p (64 + k) (32 - k) dc ⟨b, off, none⟩ l.length c hx hy _ 244 hG ((l.take n).map (Value.int .u8)) (by rw [hcl, hn]) (fun j v hv => ?_) (by rw [hcl]; simp [sumC_length hs hr]; omega) (ints_one _ _) ?_
    · have hj : j < n := by rw [← hcl]; exact (List.getElem?_eq_some_iff.1 hv).1
      rw [List.getElem?_map, List.getElem?_take, if_pos hj, List.getElem?_eq_getElem (by omega)] at hv
      rw [Addr.add_mid, hc j (by omega), getD_lt' l 0 (by omega)]
      exact hv
    · rw [hcl]
      have e : (sumC s r h t).toArray.toList = sumC s r h t := rfl
      rw [e, lay_cells hs hr h t k n (by omega) hnl]
      exact hK _ (hG.setRow _) (grown_setRow _ _ _) (by simp)
end Go.Proofs.Ytbljihhelladbaa.hs
/- Contract of mix.Summer.take: octets are taken in. Conditions: a summer that has taken a text, a row of octets apart from it. -/
namespace Go.Proofs.Ytbljihhelladbaa.hs
open Go.RowKit Go.Proofs.Ytbljihhelladbaa.st Go.Proofs.Ytbljihhelladbaa.shr
set_option linter.unusedSimpArgs false
set_option linter.unusedVariables false
set_option pp.maxSteps 6000
theorem absN_cat (s0 T l : List Int) (n q : Nat) (h : T.length = 32 * n) : absN s0 (T ++ l) (n + q) = absN (absN s0 T n) l q := by
  induction q with
  | zero => exact absN_append s0 T l n (by omega)
  | succ q ih =>
    show absorb (absN s0 (T ++ l) (n + q)) _ = absorb (absN (absN s0 T n) l q) _
    rw [ih, show 32 * Nat.add n q = T.length + 32 * q by rw [h]; show 32 * (n + q) = _; omega, List.drop_append, List.drop_eq_nil_of_le (by omega : T.length ≤ T.length + 32 * q), List.nil_append]
    simp
theorem sizeInt : (Try.prog.info? 3).map (·.size) = some 1 := by kernel_rfl
def slLen : Value → Nat
  | .slice _ n _ => n
  | _ => 0
set_option maxRecDepth 100000 in
set_option maxHeartbeats 1000000 in
theorem take_zero (p : Nat) (s r l : List Int) (t : Int) (ao : Option Addr) (cap n : Nat) (w : World) (hn : n = l.length) (hcap : n ≤ cap) (hmax : cap ≤ maxLen) (hs : s.length = 64) (hr : r.length = 32) (hso : Octs s) (hl : Octs l) (hrow : RowI .u8 w ao l) (hap : ∀ b, ao = some b → b.block ≠ p) (hP : BlkV 244 w p (sumC s r 0 t)) :
    Calls Try.prog 203 #[.pointer (some ⟨p, 0, none⟩), .slice ao n cap] w fun e w' => e = .returned (.tuple #[]) ∧ w.grownBy w' (some p) ∧ BlkV 244 w' p (sumC (absN s l (n / 32)) (lay r (l.drop (32 * (n / 32))) 0 (n % 32)) ((n % 32 : Nat) : Int) t) := by
  have c96 := (hP.cell 96).trans (sumC_h hs hr 0 t)
  have hAA := fun w a n cap h => run_arrayAt32 w a n cap h
  have HAA := hid hAA
  clear hAA
  unfold maxLen at hmax
  go_enter Try.func203, Try.ntmps203
  go_wp2
  go_loopw [1] (fun v wr => ∃ (q m : Nat) (ao' : Option Addr) (c' : Nat), 32 * q + m = n ∧ m ≤ c' ∧ c' ≤ cap ∧ v = .slice ao' m c' ∧ RowI .u8 wr ao' (l.drop (32 * q)) ∧ (∀ b, ao' = some b → b.block ≠ p) ∧ BlkV 244 wr p (sumC (absN s l q) r 0 t) ∧ w.grownBy wr (some p)) (fun v _ => slLen v)
  case atStart => exact ⟨0, n, ao, cap, by omega, hcap, Nat.le_refl _, rfl, by simpa using hrow, hap, hP, World.grownBy.refl _ _⟩
  case round =>
    clear c96
    obtain ⟨q, m, ao', c', hq, hmc, hcc, rfl, hrw, hapw, hG, hgr⟩ := hrel
    have hdl : (l.drop (32 * q)).length = m := by rw [List.length_drop]; omega
    have hsl := absN_length s l hs q
    have hsoq := absN_octs s l hso q
    by_cases h0 : 32 ≤ m
    · obtain ⟨b, off, rfl, hb, hc⟩ := hrw.at (i := 0) (by omega)
      have hbp : b ≠ p := hapw _ rfl
      have hmI : (32 : Int) ≤ (m : Int) := by omega
      have hAA := fun w => HAA.out w ⟨b, off, none⟩ m c' h0
      have hbo : Octs ((l.drop (32 * q)).take 32) := fun c hc => hl c (List.mem_of_mem_drop (List.mem_of_mem_take hc))
      have hblk := hid (block_any p b off (absN s l q) r ((l.drop (32 * q)).take 32) 0 t wr hsl hr hsoq hbo hG (fun wx s' _ _ hg i hi => by
        have h1 := hc i (by omega)
        have e : ((l.drop (32 * q)).take 32).getD i 0 = (l.drop (32 * q)).getD i 0 := by simp [List.getD_eq_getElem?_getD, List.getElem?_take, hi]
        rw [e]
        exact hg.cell h1 (by intro e; cases e; exact hbp rfl)))
      have hstep : absorb (absN s l q) ((l.drop (32 * q)).take 32) = absN s l (q + 1) := rfl
      rw [hstep] at hblk
      have hdd : l.drop (32 * (q + 1)) = (l.drop (32 * q)).drop 32 := by rw [List.drop_drop]; congr 1
      by_cases hc32 : c' = 32
      · obtain rfl : m = 32 := by omega
        subst hc32
        go_wp2_with (go_at_call 219; refine hblk.out.mono ?_; rintro e w1 ⟨rfl, hG1, hg1⟩)
        refine ⟨⟨q + 1, 0, _, _, by omega, by omega, by omega, rfl, Or.inl (List.drop_eq_nil_of_le (by omega)), (fun b h => by cases h; exact hbp), hG1, hgr.trans hg1⟩, by simp [slLen]⟩
      · have hc32' : ¬ (c' : Int) = 32 := by omega
        go_wp2_with (go_at_call 219; refine hblk.out.mono ?_; rintro e w1 ⟨rfl, hG1, hg1⟩)
        refine ⟨⟨q + 1, m - 32, _, _, by omega, by omega, by omega, rfl, ?_, (fun b h => by cases h; exact hbp), hG1, hgr.trans hg1⟩, by simp [slLen]; omega⟩
        by_cases hm0 : m = 32
        · exact Or.inl (List.drop_eq_nil_of_le (by omega))
        · refine Or.inr ⟨b, off + 32, rfl, Nat.lt_of_lt_of_le hb hg1.size, fun i hi => ?_⟩
          rw [hdd, List.length_drop] at hi
          have h1 := hc (32 + i) (by omega)
          rw [← Nat.add_assoc] at h1
          have h2 := hg1.cell h1 (by intro e; cases e; exact hbp rfl)
          rw [h2, hdd]
          simp [List.getD_eq_getElem?_getD, Nat.add_assoc]
    · have HQ2 : Hid (q = n / 32) := by show _ = _; omega
      have HM2 : Hid (m = n % 32) := by show _ = _; omega
      have hmI : ¬ (32 : Int) ≤ (m : Int) := by omega
      have hm31 : m ≤ 32 := by omega
      have HDL := hid hdl
      clear hn hq hdl
      go_wp2_with (first | (refine wl_copyR rfl _ _ rfl p 0 32 (by decide) rfl ao' m c' rfl (l.drop (32 * q)) HDL.out.symm hrw (absN s l q) r hsl hr 0 t hG m (by omega) ?_; intro w1 hG1 hg1 hs1) | (refine wl_setV rfl 3 _ _ rfl 244 p 96 rfl (.int .i64 m) rfl rfl rfl sizeInt _ hG1 (by rw [sumC_length hsl (lay_length ..)]; decide) ?_; intro w2 hG2 hg2 hs2))
      go_end0
      rw [sumC_seth hsl (lay_length ..)] at hG2
      have e : ((n % 32 : Nat) : Int) = (m : Int) := by rw [HM2.out]
      have e2 : (n : Int) % 32 = (m : Int) := by rw [← e]; simp
      refine ⟨rfl, (hgr.trans hg1).trans hg2, ?_⟩
      rw [← HQ2.out, ← HM2.out]
      first | exact hG2 | (rw [e2]; exact hG2)
end Go.Proofs.Ytbljihhelladbaa.hs
/- Contract of mix.Summer.take: octets are taken in where some are kept. Conditions: a summer that has taken a text, a row of octets apart from it. -/
namespace Go.Proofs.Ytbljihhelladbaa.hs
open Go.RowKit Go.Proofs.Ytbljihhelladbaa.st Go.Proofs.Ytbljihhelladbaa.shr
set_option linter.unusedSimpArgs false
set_option linter.unusedVariables false
set_option pp.maxSteps 6000
/-- copy into a summer's rest as a step of a region that draws its order, the world behind it a letter -/
theorem step_copyR {ops : Array Oper} {o : Oper} {a : Act} {w : World} {K : Act → World → Prop} {Q : Exit → Act → World → Prop} {E : Prop} (hgd : o.guard = none) (x y : Operand)
    (ho : o.op = .call { callee := .builtin .copy, args := #[x, y], argTypes := #[69, 69] }) (p k : Nat) (dc : Nat) (hk : k ≤ 32) (hx : a.eval x = .slice (some ⟨p, 64 + k, none⟩) (32 - k) dc)
    (ao : Option Addr) (m c : Nat) (hy : a.eval y = .slice ao m c) (l : List Int) (hm : m = l.length) (hrow : RowI .u8 w ao l) (s r : List Int) (hs : s.length = 64) (hr : r.length = 32) (h t : Int) (hG : BlkV 244 w p (sumC s r h t)) (n : Nat) (hn : n = min m (32 - k))
    (hK : ∀ w', Hid (BlkV 244 w' p (sumC s (lay r l k n) h t)) → Hid (w.grownBy w' (some p)) → K (a.put o.dst (.int .i64 n)) w') :
    if Region.wanted o (yielded ops a.tmps) = true then Oper.wp Try.prog o a w K Q else E := by
  have hw : Region.wanted o (yielded ops a.tmps) = true := by simp [Region.wanted, hgd]
  rw [if_pos hw]
  have hcl : ((l.take n).map (Value.int .u8)).length = n := by rw [List.length_map, List.length_take]; omega
  subst hm
  by_cases h0 : n = 0
  · subst h0
    have hrun := run_copy_none (P := Try.prog) w 69 69 o.type 5 (some ⟨p, 64 + k, none⟩) ao (32 - k) dc l.length c Try.underlying69 size5 (by rw [hn])
    have e : sumC s (lay r l k 0) h t = sumC s r h t := by
      have := lay_cells hs hr h t (l := l) k 0 (by omega) (by omega)
      rw [← this]
      simp
    unfold Oper.wp
    simp [execOp, ho, resolve, invoke, builtin, hx, hy, hrun, Result.andThen]
    exact hK w (by rw [e]; exact hid hG) (hid (World.grownBy.refl _ _))
  · obtain ⟨b, off, rfl, hb, hc⟩ := hrow.at (i := 0) (by omega)
    have hnl : n ≤ l.length := by omega
    have hrun := run_copy_row (P := Try.prog) w 69 69 o.type 5 p (64 + k) (32 - k) dc ⟨b, off, none⟩ l.length c (sumC s r h t).toArray 244 ((l.take n).map (Value.int .u8)) Try.underlying69 size5 hG (by rw [hcl, hn]) (fun j v hv => by
        have hj : j < n := by rw [← hcl]; exact (List.getElem?_eq_some_iff.1 hv).1
        rw [List.getElem?_map, List.getElem?_take, if_pos hj, List.getElem?_eq_getElem (by omega)] at hv
        rw [Addr.add_mid, hc j (by omega), getD_lt' l 0 (by omega)]
        exact hv) (by rw [hcl]; simp [sumC_length hs hr]; omega) (ints_one _ _)
    unfold Oper.wp
    simp only [execOp, ho, resolve, invoke, builtin, hx, hy, hrun, Result.andThen, List.mapM_cons, List.mapM_nil]
    simp [hx, hy, hrun, Result.andThen]
    have e : (sumC s r h t).toArray.toList = sumC s r h t := rfl
    have hB := hG.setRow ((sumC s r h t).take (64 + k) ++ ((l.take n).map (Value.int .u8) ++ (sumC s r h t).drop (64 + k + n)))
    rw [lay_cells hs hr h t k n (by omega) hnl] at hB
    have hgo : goInt n = Value.int .i64 n := rfl
    have hl2 : min n l.length = n := by omega
    have := hK (w.setRow p (sumC s (lay r l k n) h t).toArray) (hid hB) (hid (grown_setRow _ _ _))
    have e3 := lay_cells hs hr h t k n (by omega) hnl
    simp only [List.map_take, hl2] at *
    first | exact this | (rw [e3]; exact this) | (rw [← e3] at this; simpa [hl2] using this)
end Go.Proofs.Ytbljihhelladbaa.hs
/- Contract of mix.Summer.take: octets are taken in where some are kept. Conditions: a summer that has taken a text, a row of octets apart from it. -/
namespace Go.Proofs.Ytbljihhelladbaa.hs
open Go.RowKit Go.Proofs.Ytbljihhelladbaa.st Go.Proofs.Ytbljihhelladbaa.shr
set_option linter.unusedSimpArgs false
set_option linter.unusedVariables false
set_option pp.maxSteps 6000
set_option maxRecDepth 100000 in
set_option maxHeartbeats 1000000 in
theorem take_few (p : Nat) (s r l : List Int) (h : Nat) (t : Int) (ao : Option Addr) (cap n : Nat) (w : World) (hn : n = l.length) (hcap : n ≤ cap) (hmax : cap ≤ maxLen) (hs : s.length = 64) (hr : r.length = 32) (hh : 0 < h) (hlt : h + n < 32) (hl : Octs l) (hrow : RowI .u8 w ao l) (hap : ∀ b, ao = some b → b.block ≠ p) (hP : BlkV 244 w p (sumC s r h t)) :
    Calls Try.prog 203 #[.pointer (some ⟨p, 0, none⟩), .slice ao n cap] w fun e w' => e = .returned (.tuple #[]) ∧ w.grownBy w' (some p) ∧ BlkV 244 w' p (sumC s (lay r l h n) ((h + n : Nat) : Int) t) := by
  have c96 := (hP.cell 96).trans (sumC_h hs hr h t)
  unfold maxLen at hmax
  have HN := hid hn
  clear hn
  have hhI : (0 : Int) < (h : Int) := by omega
  have hb1 : (0 : Int) ≤ (h : Int) := by omega
  have hb2 : (h : Int) ≤ 32 := by omega
  have hh32 : ¬ 32 = h := by omega
  go_enter Try.func203, Try.ntmps203
  go_wp2
  go_region_law (refine step_copyR rfl (.tmp 17) (.tmp 18) rfl p h (32 - h) (by omega) ?_ ao n cap rfl l HN.out hrow s r hs hr h t hP n (by omega) ?_; rfl; intro w4 hG4 hg4)
  have hG4' := hG4.out
  have hgw : w.grownBy w4 (some p) := World.grownBy.trans (⟨rfl, rfl, rfl, Nat.le_refl _, fun _ _ _ => rfl⟩ : w.grownBy w.drew (some p)) hg4.out
  have c4 := (hG4'.cell 96).trans (sumC_h hs (lay_length ..) h t)
  have hw1 : IntKind.i64.wrap ((h : Int) + (n : Int)) = ((h + n : Nat) : Int) := IntWalk.i64_in _ (by omega)
  have hlt' : ((h + n : Nat) : Int) < 32 := by omega
  have hnI : (0 : Int) ≤ (n : Int) := by omega
  have hcI : (n : Int) ≤ (cap : Int) := by omega
  clear hG4 hg4
  go_wp2_with (refine wl_setV rfl 3 _ _ rfl 244 p 96 rfl (.int .i64 ((h + n : Nat) : Int)) (by simp [Act.eval, hw1]) rfl rfl sizeInt _ hG4' (by rw [sumC_length hs (lay_length ..)]; decide) ?_; intro w2 hG2 hg2 hs2; rw [sumC_seth hs (lay_length ..)] at hG2; have c2 := (hG2.cell 96).trans (sumC_h hs (lay_length ..) _ t); clear hG4')
  all_goals
    refine bodyPost_ret (results_none (h := rfl) ..) rfl ?_
    exact ⟨rfl, hgw.trans hg2, by simpa using hG2⟩
end Go.Proofs.Ytbljihhelladbaa.hs
