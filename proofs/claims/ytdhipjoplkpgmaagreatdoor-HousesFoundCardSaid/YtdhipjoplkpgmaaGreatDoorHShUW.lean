/-
  Contract of keyref2.polynomials; shares with given values. Conditions: a secret and a seed of octets, a need from 1 to 32. Contract of keyref2.ZeroOf; slices of shares that a call has made. Conditions: shares of the type's form. Sums: a summer takes octets in. Conditions: as each theorem says. Sums: take, Write, Copy, end. Conditions: as each theorem says. Sums: Sum, NewSummer, summed, SumOf, Sums. Conditions: as each theorem says.
-/
import Derived.Test.YtdhipjoplkpgmaaGreatDoorHMem
import Derived.Test.YtdhipjoplkpgmaaGreatDoorHShT
import Derived.Test.YtdhipjoplkpgmaaGreatDoorHShL
import Derived.Test.YtdhipjoplkpgmaaGreatDoorHBsl
import Derived.Test.YtdhipjoplkpgmaaGreatDoorHStX
import Derived.Test.YtdhipjoplkpgmaaGreatDoorHLw
import Derived.Maps.RangeWalk
import Derived.StillTailTactics
set_option maxRecDepth 100000
set_option linter.unusedSimpArgs false
set_option linter.unusedVariables false
set_option maxHeartbeats 1000000
namespace Go.Proofs.YtdhipjoplkpgmaaGreatDoor
open Go.RowKit
theorem wl_setV {P : Program} {w : World} {ops : Array Oper} {rest : List Oper} {o : Oper} {a : Act} {Q : Exit → Act → World → Prop} (hgd : o.guard = none) (ty : TypeId) (x y : Operand) (ho : o.op = .store ty x y)
  (t : TypeId) (g i : Nat) (hx : a.eval x = .pointer (some ⟨g, i, none⟩)) (v : Value) (hy : a.eval y = v) (hv : v.cells = #[v]) (h1 : v.oneCell' = true) (hi1 : (P.info? ty).map (·.size) = some 1) (cur : List Value) (hg : BlkV t w g cur) (hi : i < cur.length)
  (h : ∀ w', BlkV t w' g (cur.set i v) → w.grownBy w' (some g) → w'.heap.size = w.heap.size → wpList P ops Q rest (a.put o.dst undef) w') : wpList P ops Q (o :: rest) a w := by
 obtain ⟨f, hf, hs⟩ := Option.map_eq_some_iff.1 hi1
 have hrun : (storeVar ty ⟨g, i, none⟩ v).run P w = .ok () (w.setRow g (cur.set i v).toArray) := by
  have h := run_storeCells_at (P := P) g i t [v] 0 cur.toArray w hg (by simp; omega) (by intro u hu; rw [List.mem_singleton.1 hu]; exact h1)
  simp only [Nat.add_zero] at h
  have e : cur.take i ++ [v] ++ cur.drop (i + 1) = cur.set i v := by
   rw [List.set_eq_take_append_cons_drop, if_pos hi]; simp
  have h' : (storeCells ⟨g, i, none⟩ [v]).run P w = .ok () (w.setRow g (cur.set i v).toArray) := by
   rw [← e]; simpa using h
  simp [storeVar, hv, sizeOf, typeInfo, hf, hs, h']
 refine wpList_plain hgd fun K hK' => ?_
 unfold Oper.wp
 simp [execOp, ho, hx, hy, Instr.storeAt, Instr.sureAddr, hrun, Result.andThen]
 exact hK' _ _ (h _ (hg.setRow _) ⟨rfl, rfl, rfl, by simp, fun k _ hk => setRow_other w g k _ (fun e => hk (by rw [e]))⟩ (by simp))
end Go.Proofs.YtdhipjoplkpgmaaGreatDoor
namespace Go.Proofs.YtdhipjoplkpgmaaGreatDoor.shr
open Go.RowKit sh Fld
theorem grown_setCell (w : World) (a : Addr) (v : Value) : w.grownBy (w.setCell a v) (some a.block) :=
 ⟨rfl, rfl, rfl, by simp, fun i _ hi => heap_setCell_other w a i v (fun e => hi (by rw [e]))⟩
theorem grown_setRow (w : World) (g : Nat) (cs : Array Value) : w.grownBy (w.setRow g cs) (some g) :=
 ⟨rfl, rfl, rfl, by simp, fun i _ hi => setRow_other w g i cs (fun e => hi (by rw [e]))⟩
end Go.Proofs.YtdhipjoplkpgmaaGreatDoor.shr
namespace Go.Proofs.YtdhipjoplkpgmaaGreatDoor.shr
open Go.RowKit sh Fld
theorem wl_build2 {P : Program} {w : World} {ops : Array Oper} {rest : List Oper} {o : Oper} {a : Act} {Q : Exit → Act → World → Prop} (hgd : o.guard = none) (t : TypeId) (i j : Nat) (x y : Operand) (ho : o.op = .build t #[(i, x), (j, y)])
  (u v : Value) (hx : a.eval x = u) (hy : a.eval y = v) (cs : List Value) (hb : P.built t [(i, u), (j, v)] = some cs.toArray) (h : wpList P ops Q rest (a.put o.dst (.agg cs.toArray)) w) : wpList P ops Q (o :: rest) a w :=
 wl_build hgd t _ ho cs (by simp [hx, hy]; exact hb) h
end Go.Proofs.YtdhipjoplkpgmaaGreatDoor.shr
namespace Go.Proofs.YtdhipjoplkpgmaaGreatDoor.shr
open Go.RowKit sh Fld
section
variable {t : TypeId} {w w' : World} {g : Nat} {cs : List Value}
theorem grown_below {row : Option Nat} (hb : Below w.heap.size w w') : w.grownBy w' row := ⟨hb.os, hb.tape, hb.output, hb.size, fun k hk _ => hb.block k hk⟩
theorem grown_drew {row : Option Nat} (h : w.grownBy w' row) : w.grownBy w'.drew row := ⟨h.os, h.tape, h.output, h.size, h.block⟩
theorem grown_set {g : Nat} (h : w.grownBy w' (some g)) (i : Nat) (v : Value) : w.grownBy (w'.setCell ⟨g, i, none⟩ v) (some g) := h.trans (grown_setCell w' ⟨g, i, none⟩ v)
theorem below_of_grown {B g : Nat} (h : w.grownBy w' (some g)) (hB : B ≤ w.heap.size) (hg : B ≤ g) : Below B w w' := (Below.refl B w).grown h hB fun k hk => by cases hk; exact hg
end
end Go.Proofs.YtdhipjoplkpgmaaGreatDoor.shr
namespace Go.Proofs.YtdhipjoplkpgmaaGreatDoor.hs
open Go.RowKit st
def xorTo (s b : List Int) (k : Nat) : List Int := (List.range 64).map fun i => if i < k then bits .xor .u8 (s.getD i 0) (b.getD i 0) else s.getD i 0
theorem xorTo_length (s b : List Int) (k : Nat) : (xorTo s b k).length = 64 := by simp [xorTo]
theorem xorTo_get (s b : List Int) (k i : Nat) (hi : i < 64) : (xorTo s b k).getD i 0 = if i < k then bits .xor .u8 (s.getD i 0) (b.getD i 0) else s.getD i 0 := by simp [xorTo, List.getD_eq_getElem?_getD, hi]
theorem xorTo_zero (s b : List Int) (hs : s.length = 64) : xorTo s b 0 = s := by
 apply List.ext_getElem
 ·rw [xorTo_length, hs]
 ·intro i h1 h2
  simp only [xorTo, List.getElem_map, List.getElem_range]
  rw [if_neg (Nat.not_lt_zero i), getD_lt' s 0 h2]
theorem xorTo_set (s b : List Int) (k : Nat) (hk : k < 64) : (xorTo s b k).set k (bits .xor .u8 (s.getD k 0) (b.getD k 0)) = xorTo s b (k + 1) := by
 apply List.ext_getElem
 ·rw [List.length_set, xorTo_length, xorTo_length]
 ·intro i h1 h2
  rw [xorTo_length] at h2
  rw [List.getElem_set]
  by_cases e : k = i
  ·subst e; simp [xorTo]
  ·rw [if_neg e]
   simp only [xorTo, List.getElem_map, List.getElem_range]
   by_cases h : i < k
   ·rw [if_pos h, if_pos (by omega)]
   ·rw [if_neg h, if_neg (by omega)]
def absorb (s b : List Int) : List Int := stirL (xorTo s b 32)
def absN (s t : List Int) : Nat → List Int
 | 0 => s
 | n + 1 => absorb (absN s t n) ((t.drop (32 * n)).take 32)
theorem xorTo_congr (s : List Int) {b c : List Int} (h : ∀ i, i < 32 → b.getD i 0 = c.getD i 0) : xorTo s b 32 = xorTo s c 32 := by
 unfold xorTo
 refine List.map_congr_left fun i hi => ?_
 split
 ·rename_i h1; rw [h i h1]
 ·rfl
theorem absorb_congr (s : List Int) {b c : List Int} (h : ∀ i, i < 32 → b.getD i 0 = c.getD i 0) : absorb s b = absorb s c := by unfold absorb; rw [xorTo_congr s h]
theorem absN_append (s t u : List Int) (n : Nat) (h : 32 * n ≤ t.length) : absN s (t ++ u) n = absN s t n := by
 induction n with
 | zero => rfl
 | succ n ih =>
  unfold absN
  rw [ih (by omega), List.drop_append_of_le_length (by omega), List.take_append_of_le_length (by rw [List.length_drop]; omega)]
theorem stirL_length' (s : List Int) : (stirL s).length = 64 := by unfold stirL; exact octL_length _ _
theorem absN_length (s t : List Int) (hs : s.length = 64) : ∀ n, (absN s t n).length = 64
 | 0 => hs
 | n + 1 => stirL_length' _
theorem o4_octs (n : Int) : Octs (o4 n) := by
 intro c hc
 simp only [o4, List.mem_cons, List.not_mem_nil, or_false] at hc
 rcases hc with rfl | rfl | rfl | rfl <;> exact ⟨by omega, by omega⟩
theorem octL_octs' (ws : List Int) : Octs (octL ws 64) := by
 intro c hc
 obtain ⟨i, hi, rfl⟩ := List.mem_map.1 hc
 exact (o4_octs _).getD _
theorem stirL_octs' (s : List Int) : Octs (stirL s) := by unfold stirL; exact octL_octs' _
theorem absN_octs (s t : List Int) (hs : Octs s) : ∀ n, Octs (absN s t n)
 | 0 => hs
 | n + 1 => stirL_octs' _
theorem xor_oct {a b : Int} (ha : Oct a) (hb : Oct b) : Oct (bits .xor .u8 a b) := by
 have := bounds_u8 (wf_bits .xor .u8 a b)
 exact ⟨this.1, by omega⟩
theorem xorTo_octs {s b : List Int} (hs : Octs s) (hb : Octs b) (k : Nat) : Octs (xorTo s b k) := by
 intro c hc
 obtain ⟨i, hi, rfl⟩ := List.mem_map.1 hc
 split
 ·exact xor_oct (hs.getD i) (hb.getD i)
 ·exact hs.getD i
def start (d : Int) : List Int := List.replicate 63 0 ++ [d]
theorem start_length (d : Int) : (start d).length = 64 := by simp [start]
end Go.Proofs.YtdhipjoplkpgmaaGreatDoor.hs
namespace Go.Proofs.YtdhipjoplkpgmaaGreatDoor.hs
open Go.RowKit st shr
def sumC (s r : List Int) (h t : Int) : List Value := s.map (Value.int .u8) ++ (r.map (Value.int .u8) ++ [.int .i64 h, .int .i64 t])
theorem sumC_length {s r : List Int} (hs : s.length = 64) (hr : r.length = 32) (h t : Int) : (sumC s r h t).length = 98 := by simp [sumC, hs, hr]
theorem sumC_s {s r : List Int} (hs : s.length = 64) (h t : Int) {i : Nat} (hi : i < 64) : (sumC s r h t)[i]? = some (.int .u8 (s.getD i 0)) := by
 unfold sumC
 rw [List.getElem?_append_left (by simp [hs]; exact hi), List.getElem?_map, List.getElem?_eq_getElem (by omega), getD_lt' s 0 (by omega)]; rfl
theorem sumC_r {s r : List Int} (hs : s.length = 64) (hr : r.length = 32) (h t : Int) {i : Nat} (hi : i < 32) : (sumC s r h t)[64 + i]? = some (.int .u8 (r.getD i 0)) := by
 unfold sumC
 rw [List.getElem?_append_right (by simp [hs]), List.getElem?_append_left (by simp [hs, hr]; omega)]
 simp [hs]
 rw [List.getElem?_eq_getElem (by omega)]; simp
theorem sumC_h {s r : List Int} (hs : s.length = 64) (hr : r.length = 32) (h t : Int) : (sumC s r h t)[96]? = some (.int .i64 h) := by
 unfold sumC
 rw [List.getElem?_append_right (by simp [hs]), List.getElem?_append_right (by simp [hs, hr])]
 simp [hs, hr]
theorem sumC_t {s r : List Int} (hs : s.length = 64) (hr : r.length = 32) (h t : Int) : (sumC s r h t)[97]? = some (.int .i64 t) := by
 unfold sumC
 rw [List.getElem?_append_right (by simp [hs]), List.getElem?_append_right (by simp [hs, hr])]
 simp [hs, hr]
theorem sumC_set {s r : List Int} (hs : s.length = 64) (h t : Int) {i : Nat} (hi : i < 64) (v : Int) : (sumC s r h t).set i (.int .u8 v) = sumC (s.set i v) r h t := by
 unfold sumC
 rw [List.set_append_left _ _ (by simp [hs]; exact hi), List.map_set]
theorem sumC_one (s r : List Int) (h t : Int) : ∀ u ∈ sumC s r h t, u.oneCell' = true := by
 intro u hu
 unfold sumC at hu
 rcases List.mem_append.1 hu with hu | hu
 ·exact ints_one _ _ u hu
 ·rcases List.mem_append.1 hu with hu | hu
  ·exact ints_one _ _ u hu
  ·simp at hu
   rcases hu with rfl | rfl <;> rfl
theorem at_s {w : World} {t : TypeId} {p : Nat} {s r : List Int} {h u : Int} (hs : s.length = 64) (hb : BlkV t w p (sumC s r h u)) : At w ⟨p, 0, none⟩ (s.map (Value.int .u8)) := by
 refine hb.at 0 _ fun j v hv => ?_
 rw [Nat.zero_add]
 unfold sumC
 rw [List.getElem?_append_left (List.getElem?_eq_some_iff.1 hv).1]
 exact hv
theorem agg64' : Agg Tryz.prog 53 64 := Agg.arr Tryz.underlying53 (by kernel_rfl)
theorem wl_putAt {P : Program} {w : World} {ops : Array Oper} {rest : List Oper} {o : Oper} {a : Act} {Q : Exit → Act → World → Prop} (hgd : o.guard = none) (ty : TypeId) (x y : Operand) (ho : o.op = .store ty x y)
  (t : TypeId) (g off : Nat) (hx : a.eval x = .pointer (some ⟨g, off, none⟩)) (cs : List Value) (hy : a.eval y = .agg cs.toArray) (hi : (P.info? ty).map (·.size) = some cs.length) (cur : List Value) (hg : BlkV t w g cur) (hfit : off + cs.length ≤ cur.length) (h1 : ∀ u ∈ cs, u.oneCell' = true)
  (h : ∀ w', BlkV t w' g (cur.take off ++ cs ++ cur.drop (off + cs.length)) → w.grownBy w' (some g) → w'.heap.size = w.heap.size → wpList P ops Q rest (a.put o.dst undef) w') : wpList P ops Q (o :: rest) a w :=
 wl_store hgd ty x y ho t g off hx cs hy hi cur hg hfit h1 (h _ (hg.setRow _) (grown_setRow _ _ _) (by simp))
theorem block_any (p bb bo : Nat) (s r bs : List Int) (h t : Int) (w : World) (hs : s.length = 64) (hr : r.length = 32) (hso : Octs s) (hbo : Octs bs) (hP : BlkV 370 w p (sumC s r h t))
  (HB : ∀ wx s', s'.length = 64 → BlkV 370 wx p (sumC s' r h t) → w.grownBy wx (some p) → ∀ i, i < 32 → wx.cell? ⟨bb, bo + i, none⟩ = some (.int .u8 (bs.getD i 0))) :
  Calls Tryz.prog 294 #[.pointer (some ⟨p, 0, none⟩), .pointer (some ⟨bb, bo, none⟩)] w fun e w' => e = .returned (.tuple #[]) ∧ BlkV 370 w' p (sumC (absorb s bs) r h t) ∧ w.grownBy w' (some p) := by
 have HBB := hid HB
 clear HB
 go_enter Tryz.func294, Tryz.ntmps294
 go_wp2
 go_loopw [7] (fun i wr => ∃ k : Nat, k ≤ 32 ∧ i = .int .i64 k ∧ BlkV 370 wr p (sumC (xorTo s bs k) r h t) ∧ w.grownBy wr (some p)) (fun i _ => 32 - (intOf i).toNat)
 case atStart => exact ⟨0, by omega, rfl, by rw [xorTo_zero s bs hs]; exact hP, World.grownBy.refl _ _⟩
 case round =>
  obtain ⟨k, hk, rfl, hG, hgr⟩ := hrel
  by_cases h0 : k < 32
  ·have hkI : (k : Int) < 32 := by omega
   have hkI6 : (k : Int) < 64 := by omega
   have hkI0 : (0 : Int) ≤ (k : Int) := by omega
   obtain ⟨x, Hx⟩ := hidE (s.getD k 0)
   obtain ⟨y, Hy⟩ := hidE (bs.getD k 0)
   have cB := HBB.out wr _ (xorTo_length s bs k) hG hgr k h0
   rw [← Hy.out] at cB
   have cX := (hG.cell k).trans (sumC_s (xorTo_length s bs k) h t (by omega))
   rw [xorTo_get s bs k k (by omega), if_neg (Nat.lt_irrefl k), ← Hx.out] at cX
   have fX := hG.frozen k
   have HS := hid (xorTo_set s bs k (by omega))
   rw [← Hx.out, ← Hy.out] at HS
   have cB1 : wr.drew.cell? ⟨bb, bo + k, none⟩ = some (.int .u8 y) := cB
   go_wp2_with fail
   go_quiet (fail)
   generalize HWX : wr.drewN nq = wx
   have hGx : BlkV 370 wx p (sumC (xorTo s bs k) r h t) := by rw [← HWX]; exact hG.drewN nq
   have hgx : w.grownBy wx (some p) := by rw [← HWX]; exact ⟨hgr.os, hgr.tape, hgr.output, hgr.size, hgr.block⟩
   have cX2 : wx.cell? ⟨p, k, none⟩ = some (.int .u8 x) := by rw [← HWX]; exact cX
   have fX2 : wx.frozen? ⟨p, k, none⟩ = false := hGx.frozen k
   clear cB cB1 cX fX hG hgr HWX
   go_wp2_with fail
   refine wp_region_still_tail 11 (by kernel_rfl) (by kernel_rfl) ?_
   simp only [List.take_succ_cons, List.take_zero, List.drop_succ_cons, List.drop_zero]
   change wpStill _ _ wx.drew (fun a' => wpList _ _ _ _ a' wx.drew) _ _
   repeat still_step
   refine wpStill_nil ?_
   go_wp2
   go_roundw
   case rel => exact ⟨k + 1, by omega, by go_num, by rw [← HS.out, ← sumC_set (xorTo_length s bs k) h t (by omega)]; exact hGx.drew.set k _, grown_set (grown_drew hgx) _ _⟩
   case measure => simp [intOf] <;> omega
  ·obtain rfl : k = 32 := by omega
   have hxl := xorTo_length s bs 32
   have hxo := xorTo_octs hso hbo 32
   obtain ⟨X, HX⟩ := hidE (xorTo s bs 32)
   rw [← HX.out] at hG hxl hxo
   obtain ⟨XV, HXV⟩ := hidE (X.map (Value.int .u8))
   have HXL : Hid (XV.length = 64) := by show _ = _; rw [HXV.out, List.length_map]; exact hxl
   have aX : At wr ⟨p, 0, none⟩ XV := by rw [HXV.out]; exact at_s hxl hG
   have HST := hid (stirM X wr hxl hxo)
   rw [← HXV.out] at HST
   obtain ⟨YV, HYV⟩ := hidE ((stirL X).map (Value.int .u8))
   rw [← HYV.out] at HST
   have HYL : Hid (YV.length = 64) := by show _ = _; rw [HYV.out, List.length_map]; exact stirL_length' _
   have hY1 : ∀ u ∈ YV, u.oneCell' = true := by rw [HYV.out]; exact ints_one _ _
   go_wp2_with (first | (refine wl_load rfl 53 _ rfl ⟨p, 0, none⟩ rfl XV (by rw [HXL.out]; exact agg64') aX ?_; clear aX) | (go_at_call 183; refine HST.out.mono ?_; rintro e w1 ⟨rfl, hb1⟩; have hG1 := hG.below hb1 hG.lt) | (refine wl_putAt rfl 53 _ _ rfl 370 p 0 rfl YV rfl (by rw [HYL.out]; exact agg64'.2) _ hG1 (by rw [sumC_length hxl hr, HYL.out]; decide) hY1 ?_; intro w2 hG2 hg2 hs2))
   go_end0
   refine ⟨rfl, ?_, (hgr.trans (grown_below hb1)).trans hg2⟩
   have e : (sumC X r h t).take 0 ++ YV ++ (sumC X r h t).drop (0 + YV.length) = sumC (absorb s bs) r h t := by
    rw [HYL.out, List.take_zero, List.nil_append, HYV.out]
    unfold sumC absorb
    rw [← HX.out, Nat.zero_add, List.drop_left' (by simp [hxl])]
   rw [← e]
   exact hG2
end Go.Proofs.YtdhipjoplkpgmaaGreatDoor.hs
namespace Go.Proofs.YtdhipjoplkpgmaaGreatDoor.hs
open Go.RowKit st shr
structure SumOk (w : World) (p : Nat) (s0 T : List Int) (tot : Int) : Prop where
 ex : ∃ r : List Int, r.length = 32 ∧ Octs r ∧ (∀ i, i < T.length % 32 → r.getD i 0 = T.getD (32 * (T.length / 32) + i) 0) ∧ BlkV 370 w p (sumC (absN s0 T (T.length / 32)) r ((T.length % 32 : Nat) : Int) tot)
def lay (r l : List Int) (k n : Nat) : List Int := (List.range 32).map fun i => if k ≤ i ∧ i < k + n then l.getD (i - k) 0 else r.getD i 0
theorem lay_length (r l : List Int) (k n : Nat) : (lay r l k n).length = 32 := by simp [lay]
theorem lay_get (r l : List Int) (k n i : Nat) (hi : i < 32) : (lay r l k n).getD i 0 = if k ≤ i ∧ i < k + n then l.getD (i - k) 0 else r.getD i 0 := by simp [lay, List.getD_eq_getElem?_getD, hi]
theorem lay_octs {r l : List Int} (hr : Octs r) (hl : Octs l) (k n : Nat) : Octs (lay r l k n) := by
 intro c hc
 obtain ⟨i, hi, rfl⟩ := List.mem_map.1 hc
 split
 ·exact hl.getD _
 ·exact hr.getD i
theorem lay_cells {s r l : List Int} (hs : s.length = 64) (hr : r.length = 32) (h t : Int) (k n : Nat) (hn : k + n ≤ 32) (hl : n ≤ l.length) :
  (sumC s r h t).take (64 + k) ++ ((l.take n).map (Value.int .u8) ++ (sumC s r h t).drop (64 + k + n)) = sumC s (lay r l k n) h t := by
 apply List.ext_getElem?
 intro i
 have hS := sumC_length hs hr h t
 have hL := sumC_length (s := s) (r := lay r l k n) hs (lay_length ..) h t
 have hln : ((l.take n).map (Value.int .u8)).length = n := by rw [List.length_map, List.length_take]; omega
 by_cases h1 : i < 64 + k
 ·rw [List.getElem?_append_left (by rw [List.length_take, hS]; omega), List.getElem?_take, if_pos h1]
  by_cases h2 : i < 64
  ·rw [sumC_s hs h t h2, sumC_s hs h t h2]
  ·obtain ⟨j, rfl⟩ : ∃ j, i = 64 + j := ⟨i - 64, by omega⟩
   rw [sumC_r hs hr h t (by omega), sumC_r hs (lay_length ..) h t (by omega), lay_get r l k n j (by omega), if_neg (by omega)]
 ·rw [List.getElem?_append_right (by rw [List.length_take, hS]; omega), List.length_take, hS, Nat.min_eq_left (by omega)]
  by_cases h2 : i < 64 + k + n
  ·rw [List.getElem?_append_left (by rw [hln]; omega)]
   obtain ⟨j, rfl⟩ : ∃ j, i = 64 + j := ⟨i - 64, by omega⟩
   rw [sumC_r hs (lay_length ..) h t (by omega), lay_get r l k n j (by omega), if_pos (by omega), show 64 + j - (64 + k) = j - k by omega, List.getElem?_map, List.getElem?_take, if_pos (by omega), List.getElem?_eq_getElem (by omega), getD_lt' l 0 (by omega)]
   rfl
  ·rw [List.getElem?_append_right (by rw [hln]; omega), hln, List.getElem?_drop, show 64 + k + n + (i - (64 + k) - n) = i by omega]
   by_cases h3 : i < 96
   ·obtain ⟨j, rfl⟩ : ∃ j, i = 64 + j := ⟨i - 64, by omega⟩
    rw [sumC_r hs hr h t (by omega), sumC_r hs (lay_length ..) h t (by omega), lay_get r l k n j (by omega), if_neg (by omega)]
   ·by_cases h4 : i = 96
    ·subst h4; rw [sumC_h hs hr, sumC_h hs (lay_length ..)]
    ·by_cases h5 : i = 97
     ·subst h5; rw [sumC_t hs hr, sumC_t hs (lay_length ..)]
     ·rw [List.getElem?_eq_none (by omega), List.getElem?_eq_none (by omega)]
theorem sumC_seth {s r : List Int} (hs : s.length = 64) (hr : r.length = 32) (h t v : Int) : (sumC s r h t).set 96 (.int .i64 v) = sumC s r v t := by
 unfold sumC
 rw [List.set_append_right _ _ (by simp [hs]), List.set_append_right _ _ (by simp [hs, hr])]
 simp [hs, hr]
theorem sumC_sett {s r : List Int} (hs : s.length = 64) (hr : r.length = 32) (h t v : Int) : (sumC s r h t).set 97 (.int .i64 v) = sumC s r h v := by
 unfold sumC
 rw [List.set_append_right _ _ (by simp [hs]), List.set_append_right _ _ (by simp [hs, hr])]
 simp [hs, hr]
theorem run_arrayAt32 (w : World) (a : Addr) (n cap : Nat) (hn : 32 ≤ n) : (Instr.arrayAt 22 (.slice (some a) n cap)).run Tryz.prog w = .ok (.pointer (some a)) w := by
 have h1 : ¬ n < 32 := by omega
 simp [Instr.arrayAt, run_underlying Tryz.underlying22, Result.andThen, h1]
theorem wl_copyR {w : World} {ops : Array Oper} {rest : List Oper} {o : Oper} {a : Act} {Q : Exit → Act → World → Prop} (hgd : o.guard = none) (x y : Operand)
  (ho : o.op = .call { callee := .builtin .copy, args := #[x, y], argTypes := #[61, 61] }) (p k : Nat) (dc : Nat) (hk : k ≤ 32) (hx : a.eval x = .slice (some ⟨p, 64 + k, none⟩) (32 - k) dc)
  (ao : Option Addr) (m c : Nat) (hy : a.eval y = .slice ao m c) (l : List Int) (hm : m = l.length) (hrow : RowI .u8 w ao l) (s r : List Int) (hs : s.length = 64) (hr : r.length = 32) (h t : Int) (hG : BlkV 370 w p (sumC s r h t)) (n : Nat) (hn : n = min m (32 - k))
  (hK : ∀ w', BlkV 370 w' p (sumC s (lay r l k n) h t) → w.grownBy w' (some p) → w'.heap.size = w.heap.size → wpList Tryz.prog ops Q rest (a.put o.dst (.int .i64 n)) w') : wpList Tryz.prog ops Q (o :: rest) a w := by
 subst hm
 have hnl : n ≤ l.length := by omega
 have hcl : ((l.take n).map (Value.int .u8)).length = n := by rw [List.length_map, List.length_take]; omega
 by_cases h0 : n = 0
 ·subst h0
  refine wpList_copy_nothing hgd x y _ _ ho 5 Tryz.underlying61 size5 _ ao (32 - k) dc l.length c hx hy (by rw [hn]) ?_
  have e : sumC s (lay r l k 0) h t = sumC s r h t := by
   have := lay_cells hs hr h t (l := l) k 0 (by omega) (by omega)
   rw [← this]
   simp
  exact hK w (by rw [e]; exact hG) (World.grownBy.refl _ _) rfl
 ·obtain ⟨b, off, rfl, hb, hc⟩ := hrow.at (i := 0) (by omega)
  refine wpList_copy_own hgd x y _ _ ho 5 Tryz.underlying61 size5 p (64 + k) (32 - k) dc ⟨b, off, none⟩ l.length c hx hy _ 370 hG ((l.take n).map (Value.int .u8)) (by rw [hcl, hn]) (fun j v hv => ?_) (by rw [hcl]; simp [sumC_length hs hr]; omega) (ints_one _ _) ?_
  ·have hj : j < n := by rw [← hcl]; exact (List.getElem?_eq_some_iff.1 hv).1
   rw [List.getElem?_map, List.getElem?_take, if_pos hj, List.getElem?_eq_getElem (by omega)] at hv
   rw [Addr.add_mid, hc j (by omega), getD_lt' l 0 (by omega)]
   exact hv
  ·rw [hcl]
   have e : (sumC s r h t).toArray.toList = sumC s r h t := rfl
   rw [e, lay_cells hs hr h t k n (by omega) hnl]
   exact hK _ (hG.setRow _) (grown_setRow _ _ _) (by simp)
end Go.Proofs.YtdhipjoplkpgmaaGreatDoor.hs
namespace Go.Proofs.YtdhipjoplkpgmaaGreatDoor.hs
open Go.RowKit st shr
theorem absN_cat (s0 T l : List Int) (n q : Nat) (h : T.length = 32 * n) : absN s0 (T ++ l) (n + q) = absN (absN s0 T n) l q := by
 induction q with
 | zero => exact absN_append s0 T l n (by omega)
 | succ q ih =>
  show absorb (absN s0 (T ++ l) (n + q)) _ = absorb (absN (absN s0 T n) l q) _
  rw [ih, show 32 * Nat.add n q = T.length + 32 * q by rw [h]; show 32 * (n + q) = _; omega, List.drop_append, List.drop_eq_nil_of_le (by omega : T.length ≤ T.length + 32 * q), List.nil_append]
  simp
theorem sizeInt : (Tryz.prog.info? 3).map (·.size) = some 1 := by kernel_rfl
def slLen : Value → Nat
 | .slice _ n _ => n
 | _ => 0
theorem take_zero (p : Nat) (s r l : List Int) (t : Int) (ao : Option Addr) (cap n : Nat) (w : World) (hn : n = l.length) (hcap : n ≤ cap) (hmax : cap ≤ maxLen) (hs : s.length = 64) (hr : r.length = 32) (hso : Octs s) (hl : Octs l) (hrow : RowI .u8 w ao l) (hap : ∀ b, ao = some b → b.block ≠ p) (hP : BlkV 370 w p (sumC s r 0 t)) :
  Calls Tryz.prog 293 #[.pointer (some ⟨p, 0, none⟩), .slice ao n cap] w fun e w' => e = .returned (.tuple #[]) ∧ w.grownBy w' (some p) ∧ BlkV 370 w' p (sumC (absN s l (n / 32)) (lay r (l.drop (32 * (n / 32))) 0 (n % 32)) ((n % 32 : Nat) : Int) t) := by
 have c96 := (hP.cell 96).trans (sumC_h hs hr 0 t)
 have hAA := fun w a n cap h => run_arrayAt32 w a n cap h
 have HAA := hid hAA
 clear hAA
 unfold maxLen at hmax
 go_enter Tryz.func293, Tryz.ntmps293
 go_wp2
 go_loopw [1] (fun v wr => ∃ (q m : Nat) (ao' : Option Addr) (c' : Nat), 32 * q + m = n ∧ m ≤ c' ∧ c' ≤ cap ∧ v = .slice ao' m c' ∧ RowI .u8 wr ao' (l.drop (32 * q)) ∧ (∀ b, ao' = some b → b.block ≠ p) ∧ BlkV 370 wr p (sumC (absN s l q) r 0 t) ∧ w.grownBy wr (some p)) (fun v _ => slLen v)
 case atStart => exact ⟨0, n, ao, cap, by omega, hcap, Nat.le_refl _, rfl, by simpa using hrow, hap, hP, World.grownBy.refl _ _⟩
 case round =>
  clear c96
  obtain ⟨q, m, ao', c', hq, hmc, hcc, rfl, hrw, hapw, hG, hgr⟩ := hrel
  have hdl : (l.drop (32 * q)).length = m := by rw [List.length_drop]; omega
  have hsl := absN_length s l hs q
  have hsoq := absN_octs s l hso q
  by_cases h0 : 32 ≤ m
  ·obtain ⟨b, off, rfl, hb, hc⟩ := hrw.at (i := 0) (by omega)
   have hbp : b ≠ p := hapw _ rfl
   have hmI : (32 : Int) ≤ (m : Int) := by omega
   have hAA := fun w => HAA.out w ⟨b, off, none⟩ m c' h0
   have hbo : Octs ((l.drop (32 * q)).take 32) := fun c hc => hl c (List.mem_of_mem_drop (List.mem_of_mem_take hc))
   have hblk := hid (block_any p b off (absN s l q) r ((l.drop (32 * q)).take 32) 0 t wr hsl hr hsoq hbo hG (fun wx s' _ _ hg i hi => by
    have h1 := hc i (by omega)
    have e : ((l.drop (32 * q)).take 32).getD i 0 = (l.drop (32 * q)).getD i 0 := by simp [List.getD_eq_getElem?_getD, List.getElem?_take, hi]
    rw [e]
    exact hg.cell h1 (by intro e; cases e; exact hbp rfl)))
   have hstep : absorb (absN s l q) ((l.drop (32 * q)).take 32) = absN s l (q + 1) := rfl
   rw [hstep] at hblk
   have hdd : l.drop (32 * (q + 1)) = (l.drop (32 * q)).drop 32 := by rw [List.drop_drop]; congr 1
   by_cases hc32 : c' = 32
   ·obtain rfl : m = 32 := by omega
    subst hc32
    go_wp2_with (go_at_call 294; refine hblk.out.mono ?_; rintro e w1 ⟨rfl, hG1, hg1⟩)
    refine ⟨⟨q + 1, 0, _, _, by omega, by omega, by omega, rfl, Or.inl (List.drop_eq_nil_of_le (by omega)), (fun b h => by cases h; exact hbp), hG1, hgr.trans hg1⟩, by simp [slLen]⟩
   ·have hc32' : ¬ (c' : Int) = 32 := by omega
    go_wp2_with (go_at_call 294; refine hblk.out.mono ?_; rintro e w1 ⟨rfl, hG1, hg1⟩)
    refine ⟨⟨q + 1, m - 32, _, _, by omega, by omega, by omega, rfl, ?_, (fun b h => by cases h; exact hbp), hG1, hgr.trans hg1⟩, by simp [slLen]; omega⟩
    by_cases hm0 : m = 32
    ·exact Or.inl (List.drop_eq_nil_of_le (by omega))
    ·refine Or.inr ⟨b, off + 32, rfl, Nat.lt_of_lt_of_le hb hg1.size, fun i hi => ?_⟩
     rw [hdd, List.length_drop] at hi
     have h1 := hc (32 + i) (by omega)
     rw [← Nat.add_assoc] at h1
     have h2 := hg1.cell h1 (by intro e; cases e; exact hbp rfl)
     rw [h2, hdd]
     simp [List.getD_eq_getElem?_getD, Nat.add_assoc]
  ·have HQ2 : Hid (q = n / 32) := by show _ = _; omega
   have HM2 : Hid (m = n % 32) := by show _ = _; omega
   have hmI : ¬ (32 : Int) ≤ (m : Int) := by omega
   have hm31 : m ≤ 32 := by omega
   have HDL := hid hdl
   clear hn hq hdl
   go_wp2_with (first | (refine wl_copyR rfl _ _ rfl p 0 32 (by decide) rfl ao' m c' rfl (l.drop (32 * q)) HDL.out.symm hrw (absN s l q) r hsl hr 0 t hG m (by omega) ?_; intro w1 hG1 hg1 hs1) | (refine wl_setV rfl 3 _ _ rfl 370 p 96 rfl (.int .i64 m) rfl rfl rfl sizeInt _ hG1 (by rw [sumC_length hsl (lay_length ..)]; decide) ?_; intro w2 hG2 hg2 hs2))
   go_end0
   rw [sumC_seth hsl (lay_length ..)] at hG2
   have e : ((n % 32 : Nat) : Int) = (m : Int) := by rw [HM2.out]
   have e2 : (n : Int) % 32 = (m : Int) := by rw [← e]; simp
   refine ⟨rfl, (hgr.trans hg1).trans hg2, ?_⟩
   rw [← HQ2.out, ← HM2.out]
   first | exact hG2 | (rw [e2]; exact hG2)
end Go.Proofs.YtdhipjoplkpgmaaGreatDoor.hs
namespace Go.Proofs.YtdhipjoplkpgmaaGreatDoor.hs
open Go.RowKit st shr
theorem step_copyR {ops : Array Oper} {o : Oper} {a : Act} {w : World} {K : Act → World → Prop} {Q : Exit → Act → World → Prop} {E : Prop} (hgd : o.guard = none) (x y : Operand)
  (ho : o.op = .call { callee := .builtin .copy, args := #[x, y], argTypes := #[61, 61] }) (p k : Nat) (dc : Nat) (hk : k ≤ 32) (hx : a.eval x = .slice (some ⟨p, 64 + k, none⟩) (32 - k) dc)
  (ao : Option Addr) (m c : Nat) (hy : a.eval y = .slice ao m c) (l : List Int) (hm : m = l.length) (hrow : RowI .u8 w ao l) (s r : List Int) (hs : s.length = 64) (hr : r.length = 32) (h t : Int) (hG : BlkV 370 w p (sumC s r h t)) (n : Nat) (hn : n = min m (32 - k))
  (hK : ∀ w', Hid (BlkV 370 w' p (sumC s (lay r l k n) h t)) → Hid (w.grownBy w' (some p)) → K (a.put o.dst (.int .i64 n)) w') :
  if Region.wanted o (yielded ops a.tmps) = true then Oper.wp Tryz.prog o a w K Q else E := by
 have hw : Region.wanted o (yielded ops a.tmps) = true := by simp [Region.wanted, hgd]
 rw [if_pos hw]
 have hcl : ((l.take n).map (Value.int .u8)).length = n := by rw [List.length_map, List.length_take]; omega
 subst hm
 by_cases h0 : n = 0
 ·subst h0
  have hrun := run_copy_none (P := Tryz.prog) w 61 61 o.type 5 (some ⟨p, 64 + k, none⟩) ao (32 - k) dc l.length c Tryz.underlying61 size5 (by rw [hn])
  have e : sumC s (lay r l k 0) h t = sumC s r h t := by
   have := lay_cells hs hr h t (l := l) k 0 (by omega) (by omega)
   rw [← this]
   simp
  unfold Oper.wp
  simp [execOp, ho, resolve, invoke, builtin, hx, hy, hrun, Result.andThen]
  exact hK w (by rw [e]; exact hid hG) (hid (World.grownBy.refl _ _))
 ·obtain ⟨b, off, rfl, hb, hc⟩ := hrow.at (i := 0) (by omega)
  have hnl : n ≤ l.length := by omega
  have hrun := run_copy_row (P := Tryz.prog) w 61 61 o.type 5 p (64 + k) (32 - k) dc ⟨b, off, none⟩ l.length c (sumC s r h t).toArray 370 ((l.take n).map (Value.int .u8)) Tryz.underlying61 size5 hG (by rw [hcl, hn]) (fun j v hv => by
    have hj : j < n := by rw [← hcl]; exact (List.getElem?_eq_some_iff.1 hv).1
    rw [List.getElem?_map, List.getElem?_take, if_pos hj, List.getElem?_eq_getElem (by omega)] at hv
    rw [Addr.add_mid, hc j (by omega), getD_lt' l 0 (by omega)]
    exact hv) (by rw [hcl]; simp [sumC_length hs hr]; omega) (ints_one _ _)
  unfold Oper.wp
  simp only [execOp, ho, resolve, invoke, builtin, hx, hy, hrun, Result.andThen, List.mapM_cons, List.mapM_nil]
  simp [hx, hy, hrun, Result.andThen]
  have e : (sumC s r h t).toArray.toList = sumC s r h t := rfl
  have hB := hG.setRow ((sumC s r h t).take (64 + k) ++ ((l.take n).map (Value.int .u8) ++ (sumC s r h t).drop (64 + k + n)))
  rw [lay_cells hs hr h t k n (by omega) hnl] at hB
  have hgo : goInt n = Value.int .i64 n := rfl
  have hl2 : min n l.length = n := by omega
  have := hK (w.setRow p (sumC s (lay r l k n) h t).toArray) (hid hB) (hid (grown_setRow _ _ _))
  have e3 := lay_cells hs hr h t k n (by omega) hnl
  simp only [List.map_take, hl2] at *
  first | exact this | (rw [e3]; exact this) | (rw [← e3] at this; simpa [hl2] using this)
end Go.Proofs.YtdhipjoplkpgmaaGreatDoor.hs
namespace Go.Proofs.YtdhipjoplkpgmaaGreatDoor.hs
open Go.RowKit st shr
theorem take_few (p : Nat) (s r l : List Int) (h : Nat) (t : Int) (ao : Option Addr) (cap n : Nat) (w : World) (hn : n = l.length) (hcap : n ≤ cap) (hmax : cap ≤ maxLen) (hs : s.length = 64) (hr : r.length = 32) (hh : 0 < h) (hlt : h + n < 32) (hl : Octs l) (hrow : RowI .u8 w ao l) (hap : ∀ b, ao = some b → b.block ≠ p) (hP : BlkV 370 w p (sumC s r h t)) :
  Calls Tryz.prog 293 #[.pointer (some ⟨p, 0, none⟩), .slice ao n cap] w fun e w' => e = .returned (.tuple #[]) ∧ w.grownBy w' (some p) ∧ BlkV 370 w' p (sumC s (lay r l h n) ((h + n : Nat) : Int) t) := by
 have c96 := (hP.cell 96).trans (sumC_h hs hr h t)
 unfold maxLen at hmax
 have HN := hid hn
 clear hn
 have hhI : (0 : Int) < (h : Int) := by omega
 have hb1 : (0 : Int) ≤ (h : Int) := by omega
 have hb2 : (h : Int) ≤ 32 := by omega
 have hh32 : ¬ 32 = h := by omega
 go_enter Tryz.func293, Tryz.ntmps293
 go_wp2
 go_region_law (refine step_copyR rfl (.tmp 17) (.tmp 18) rfl p h (32 - h) (by omega) ?_ ao n cap rfl l HN.out hrow s r hs hr h t hP n (by omega) ?_; rfl; intro w4 hG4 hg4)
 have hG4' := hG4.out
 have hgw : w.grownBy w4 (some p) := World.grownBy.trans (⟨rfl, rfl, rfl, Nat.le_refl _, fun _ _ _ => rfl⟩ : w.grownBy w.drew (some p)) hg4.out
 have c4 := (hG4'.cell 96).trans (sumC_h hs (lay_length ..) h t)
 have hw1 : IntKind.i64.wrap ((h : Int) + (n : Int)) = ((h + n : Nat) : Int) := IntWalk.i64_in _ (by omega)
 have hlt' : ((h + n : Nat) : Int) < 32 := by omega
 have hnI : (0 : Int) ≤ (n : Int) := by omega
 have hcI : (n : Int) ≤ (cap : Int) := by omega
 clear hG4 hg4
 go_wp2_with (refine wl_setV rfl 3 _ _ rfl 370 p 96 rfl (.int .i64 ((h + n : Nat) : Int)) (by simp [Act.eval, hw1]) rfl rfl sizeInt _ hG4' (by rw [sumC_length hs (lay_length ..)]; decide) ?_; intro w2 hG2 hg2 hs2; rw [sumC_seth hs (lay_length ..)] at hG2; have c2 := (hG2.cell 96).trans (sumC_h hs (lay_length ..) _ t); clear hG4')
 all_goals
  refine bodyPost_ret (results_none (h := rfl) ..) rfl ?_
  exact ⟨rfl, hgw.trans hg2, by simpa using hG2⟩
end Go.Proofs.YtdhipjoplkpgmaaGreatDoor.hs
namespace Go.Proofs.YtdhipjoplkpgmaaGreatDoor.hs
open Go.RowKit st shr
theorem take_full (p : Nat) (s r l : List Int) (h : Nat) (t : Int) (ao : Option Addr) (cap n : Nat) (w : World) (hn : n = l.length) (hcap : n ≤ cap) (hmax : cap ≤ maxLen) (hs : s.length = 64) (hr : r.length = 32) (hso : Octs s) (hro : Octs r) (hh : 0 < h) (hh2 : h < 32) (hge : 32 ≤ h + n) (hl : Octs l) (hrow : RowI .u8 w ao l) (hap : ∀ b, ao = some b → b.block ≠ p) (hP : BlkV 370 w p (sumC s r h t))
  (r1 s1 l1 : List Int) (n1 : Nat) (er : r1 = lay r l h (32 - h)) (es : s1 = absorb s r1) (el : l1 = l.drop (32 - h)) (en : n1 = n - (32 - h)) :
  Calls Tryz.prog 293 #[.pointer (some ⟨p, 0, none⟩), .slice ao n cap] w fun e w' => e = .returned (.tuple #[]) ∧ w.grownBy w' (some p) ∧ BlkV 370 w' p (sumC (absN s1 l1 (n1 / 32)) (lay r1 (l1.drop (32 * (n1 / 32))) 0 (n1 % 32)) ((n1 % 32 : Nat) : Int) t) := by
 have c96 := (hP.cell 96).trans (sumC_h hs hr h t)
 have hAA := fun w a n cap h => run_arrayAt32 w a n cap h
 have HAA := hid hAA
 clear hAA
 unfold maxLen at hmax
 have HN := hid hn
 clear hn
 have hhI : (0 : Int) < (h : Int) := by omega
 have hb1 : (0 : Int) ≤ (h : Int) := by omega
 have hb2 : (h : Int) ≤ 32 := by omega
 have hh32 : ¬ 32 = h := by omega
 obtain ⟨b, off, rfl, hb, hc⟩ := hrow.at (i := 0) (by have := HN.out; omega)
 have hbp : b ≠ p := hap _ rfl
 obtain ⟨c, HC⟩ : ∃ c : Nat, Hid (c = 32 - h) := ⟨_, rfl⟩
 have hcn : c ≤ n := by have := HC.out; omega
 have hch : h + c = 32 := by have := HC.out; omega
 have HR1 := hid er
 have HS1 := hid es
 have HL1 : Hid (l1 = l.drop c) := by rw [HC.out]; exact hid el
 have HN1 : Hid (n1 = n - c) := by rw [HC.out]; exact hid en
 clear er es el en
 have hr1 : r1.length = 32 := by rw [HR1.out]; exact lay_length ..
 have hr1o : Octs r1 := by rw [HR1.out]; exact lay_octs hro hl _ _
 go_enter Tryz.func293, Tryz.ntmps293
 go_wp2
 go_region_law (refine step_copyR rfl (.tmp 17) (.tmp 18) rfl p h (32 - h) (by omega) ?_ (some ⟨b, off, none⟩) n cap rfl l HN.out hrow s r hs hr h t hP c (by have := HC.out; omega) ?_; rfl; intro w4 hG4 hg4)
 have hG4' : BlkV 370 w4 p (sumC s r1 h t) := by rw [HR1.out, ← HC.out]; exact hG4.out
 have hgw : w.grownBy w4 (some p) := World.grownBy.trans (⟨rfl, rfl, rfl, Nat.le_refl _, fun _ _ _ => rfl⟩ : w.grownBy w.drew (some p)) hg4.out
 have c4 := (hG4'.cell 96).trans (sumC_h hs hr1 h t)
 have hw1 : IntKind.i64.wrap ((h : Int) + (c : Int)) = ((32 : Nat) : Int) := by rw [IntWalk.i64_in _ (by omega)]; omega
 have hnI : (0 : Int) ≤ (c : Int) := by omega
 have hcI : (c : Int) ≤ (cap : Int) := by omega
 have hcI2 : (c : Int) ≤ (n : Int) := by omega
 have hblk := fun w5 (hG : BlkV 370 w5 p (sumC s r1 32 t)) => hid (block_any p p 64 s r1 r1 32 t w5 hs hr1 hso hr1o hG (fun wx s' hs' hGx _ i hi => by
  exact (hGx.cell (64 + i)).trans (sumC_r hs' hr1 32 t (by omega))))
 have hs1 : s1.length = 64 := by rw [HS1.out]; exact stirL_length' _
 have hso1 : Octs s1 := by rw [HS1.out]; exact stirL_octs' _
 have hl1 : Octs l1 := by rw [HL1.out]; exact fun c hc => hl c (List.mem_of_mem_drop hc)
 have HLn : Hid (n1 = l1.length) := by show _ = _; rw [HL1.out, HN1.out, HN.out, List.length_drop]
 clear hG4 hg4
 by_cases hcc : cap = c
 ·have hcn2 : n = c := by omega
  clear hcI
  have hcI : (c : Int) ≤ (cap : Int) := by omega
  go_wp2_with (first | (refine wl_setV rfl 3 _ _ rfl 370 p 96 rfl (.int .i64 (32 : Nat)) (by simp [Act.eval, hw1]) rfl rfl sizeInt _ hG4' (by rw [sumC_length hs hr1]; decide) ?_; intro w5 hG5 hg5 hs5; rw [sumC_seth hs hr1] at hG5; have c5 := (hG5.cell 96).trans (sumC_h hs hr1 _ t); clear hG4') | (go_at_call 294; refine (hblk w5 hG5).out.mono ?_; rintro e w6 ⟨rfl, hG6, hg6⟩; have hG6' : BlkV 370 w6 p (sumC s1 r1 32 t) := (by rw [HS1.out]; exact hG6); clear hG5) | (refine wl_setV rfl 3 _ _ rfl 370 p 96 rfl (.int .i64 0) rfl rfl rfl sizeInt _ hG6' (by rw [sumC_length hs1 hr1]; decide) ?_; intro w7 hG7 hg7 hs7; rw [sumC_seth hs1 hr1] at hG7))
  simp only [Act.put]
  have hgr7 : w.grownBy w7 (some p) := (hgw.trans hg5).trans (hg6.trans hg7)
  have hn1 : n1 = l1.length := HLn.out
  have hrow7 : RowI .u8 w7 (some ⟨b, off, none⟩) l1 := Or.inl (List.eq_nil_of_length_eq_zero (by have := HN1.out; omega))
  go_loopw [1] (fun v wr => ∃ (q m : Nat) (ao' : Option Addr) (c' : Nat), 32 * q + m = n1 ∧ m ≤ c' ∧ c' ≤ cap ∧ v = .slice ao' m c' ∧ RowI .u8 wr ao' (l1.drop (32 * q)) ∧ (∀ b, ao' = some b → b.block ≠ p) ∧ BlkV 370 wr p (sumC (absN s1 l1 q) r1 0 t) ∧ w.grownBy wr (some p)) (fun v _ => slLen v)
  case atStart =>
   have := HN1.out
   have hz : n1 = 0 := by omega
   exact ⟨0, 0, some ⟨b, off, none⟩, 0, by omega, by omega, by omega, rfl, by simpa using hrow7, (fun b h => by cases h; exact hbp), hG7, hgr7⟩
  case round =>
   clear c96 hcn2
   obtain ⟨q, m, ao', c', hq, hmc, hcc, rfl, hrw, hapw, hG, hgr⟩ := hrel
   have hdl : (l1.drop (32 * q)).length = m := by rw [List.length_drop]; omega
   have hsl := absN_length s1 l1 hs1 q
   have hsoq := absN_octs s1 l1 hso1 q
   by_cases h0 : 32 ≤ m
   ·obtain ⟨b, off, rfl, hb, hc⟩ := hrw.at (i := 0) (by omega)
    have hbp : b ≠ p := hapw _ rfl
    have hmI : (32 : Int) ≤ (m : Int) := by omega
    have hAA := fun w => HAA.out w ⟨b, off, none⟩ m c' h0
    have hbo : Octs ((l1.drop (32 * q)).take 32) := fun c hc => hl1 c (List.mem_of_mem_drop (List.mem_of_mem_take hc))
    have hblk := hid (block_any p b off (absN s1 l1 q) r1 ((l1.drop (32 * q)).take 32) 0 t wr hsl hr1 hsoq hbo hG (fun wx s' _ _ hg i hi => by
     have h1 := hc i (by omega)
     have e : ((l1.drop (32 * q)).take 32).getD i 0 = (l1.drop (32 * q)).getD i 0 := by simp [List.getD_eq_getElem?_getD, List.getElem?_take, hi]
     rw [e]
     exact hg.cell h1 (by intro e; cases e; exact hbp rfl)))
    have hstep : absorb (absN s1 l1 q) ((l1.drop (32 * q)).take 32) = absN s1 l1 (q + 1) := rfl
    rw [hstep] at hblk
    have hdd : l1.drop (32 * (q + 1)) = (l1.drop (32 * q)).drop 32 := by rw [List.drop_drop]; congr 1
    by_cases hc32 : c' = 32
    ·obtain rfl : m = 32 := by omega
     subst hc32
     go_wp2_with (go_at_call 294; refine hblk.out.mono ?_; rintro e w1 ⟨rfl, hG1, hg1⟩)
     refine ⟨⟨q + 1, 0, _, _, by omega, by omega, by omega, rfl, Or.inl (List.drop_eq_nil_of_le (by omega)), (fun b h => by cases h; exact hbp), hG1, hgr.trans hg1⟩, by simp [slLen]⟩
    ·have hc32' : ¬ (c' : Int) = 32 := by omega
     go_wp2_with (go_at_call 294; refine hblk.out.mono ?_; rintro e w1 ⟨rfl, hG1, hg1⟩)
     refine ⟨⟨q + 1, m - 32, _, _, by omega, by omega, by omega, rfl, ?_, (fun b h => by cases h; exact hbp), hG1, hgr.trans hg1⟩, by simp [slLen]; omega⟩
     by_cases hm0 : m = 32
     ·exact Or.inl (List.drop_eq_nil_of_le (by omega))
     ·refine Or.inr ⟨b, off + 32, rfl, Nat.lt_of_lt_of_le hb hg1.size, fun i hi => ?_⟩
      rw [hdd, List.length_drop] at hi
      have h1 := hc (32 + i) (by omega)
      rw [← Nat.add_assoc] at h1
      have h2 := hg1.cell h1 (by intro e; cases e; exact hbp rfl)
      rw [h2, hdd]
      simp [List.getD_eq_getElem?_getD, Nat.add_assoc]
   ·have HQ2 : Hid (q = n1 / 32) := by show _ = _; omega
    have HM2 : Hid (m = n1 % 32) := by show _ = _; omega
    have hmI : ¬ (32 : Int) ≤ (m : Int) := by omega
    have hm31 : m ≤ 32 := by omega
    have HDL := hid hdl
    clear hn1 hq hdl
    go_wp2_with (first | (refine wl_copyR rfl _ _ rfl p 0 32 (by decide) rfl ao' m c' rfl (l1.drop (32 * q)) HDL.out.symm hrw (absN s1 l1 q) r1 hsl hr1 0 t hG m (by omega) ?_; intro w1 hG1 hg1 hs1) | (refine wl_setV rfl 3 _ _ rfl 370 p 96 rfl (.int .i64 m) rfl rfl rfl sizeInt _ hG1 (by rw [sumC_length hsl (lay_length ..)]; decide) ?_; intro w2 hG2 hg2 hs2))
    go_end0
    rw [sumC_seth hsl (lay_length ..)] at hG2
    have e : ((n1 % 32 : Nat) : Int) = (m : Int) := by rw [HM2.out]
    have e2 : (n1 : Int) % 32 = (m : Int) := by rw [← e]; simp
    refine ⟨rfl, (hgr.trans hg1).trans hg2, ?_⟩
    rw [← HQ2.out, ← HM2.out]
    first | exact hG2 | (rw [e2]; exact hG2)
 ·have hcc2 : ¬ (cap : Int) = (c : Int) := by omega
  go_wp2_with (first | (refine wl_setV rfl 3 _ _ rfl 370 p 96 rfl (.int .i64 (32 : Nat)) (by simp [Act.eval, hw1]) rfl rfl sizeInt _ hG4' (by rw [sumC_length hs hr1]; decide) ?_; intro w5 hG5 hg5 hs5; rw [sumC_seth hs hr1] at hG5; have c5 := (hG5.cell 96).trans (sumC_h hs hr1 _ t); clear hG4') | (go_at_call 294; refine (hblk w5 hG5).out.mono ?_; rintro e w6 ⟨rfl, hG6, hg6⟩; have hG6' : BlkV 370 w6 p (sumC s1 r1 32 t) := (by rw [HS1.out]; exact hG6); clear hG5) | (refine wl_setV rfl 3 _ _ rfl 370 p 96 rfl (.int .i64 0) rfl rfl rfl sizeInt _ hG6' (by rw [sumC_length hs1 hr1]; decide) ?_; intro w7 hG7 hg7 hs7; rw [sumC_seth hs1 hr1] at hG7))
  simp only [Act.put]
  have hgr7 : w.grownBy w7 (some p) := (hgw.trans hg5).trans (hg6.trans hg7)
  have hn1 : n1 = l1.length := HLn.out
  have hrow7 : RowI .u8 w7 (some ⟨b, off + c, none⟩) l1 := by
   by_cases h0 : l1.length = 0
   ·exact Or.inl (List.eq_nil_of_length_eq_zero h0)
   ·refine Or.inr ⟨b, off + c, rfl, Nat.lt_of_lt_of_le hb hgr7.size, fun i hi => ?_⟩
    have h1 := hc (c + i) (by have := HN.out; have := HN1.out; omega)
    rw [← Nat.add_assoc] at h1
    have h2 := hgr7.cell h1 (by intro e; cases e; exact hbp rfl)
    rw [h2, HL1.out]
    simp [List.getD_eq_getElem?_getD, Nat.add_assoc]
  go_loopw [1] (fun v wr => ∃ (q m : Nat) (ao' : Option Addr) (c' : Nat), 32 * q + m = n1 ∧ m ≤ c' ∧ c' ≤ cap ∧ v = .slice ao' m c' ∧ RowI .u8 wr ao' (l1.drop (32 * q)) ∧ (∀ b, ao' = some b → b.block ≠ p) ∧ BlkV 370 wr p (sumC (absN s1 l1 q) r1 0 t) ∧ w.grownBy wr (some p)) (fun v _ => slLen v)
  case atStart =>
   have := HN1.out
   exact ⟨0, n1, some ⟨b, off + c, none⟩, cap - c, by omega, by omega, by omega, by rw [HN1.out], by simpa using hrow7, (fun b h => by cases h; exact hbp), hG7, hgr7⟩
  case round =>
   clear c96
   obtain ⟨q, m, ao', c', hq, hmc, hcc, rfl, hrw, hapw, hG, hgr⟩ := hrel
   have hdl : (l1.drop (32 * q)).length = m := by rw [List.length_drop]; omega
   have hsl := absN_length s1 l1 hs1 q
   have hsoq := absN_octs s1 l1 hso1 q
   by_cases h0 : 32 ≤ m
   ·obtain ⟨b, off, rfl, hb, hc⟩ := hrw.at (i := 0) (by omega)
    have hbp : b ≠ p := hapw _ rfl
    have hmI : (32 : Int) ≤ (m : Int) := by omega
    have hAA := fun w => HAA.out w ⟨b, off, none⟩ m c' h0
    have hbo : Octs ((l1.drop (32 * q)).take 32) := fun c hc => hl1 c (List.mem_of_mem_drop (List.mem_of_mem_take hc))
    have hblk := hid (block_any p b off (absN s1 l1 q) r1 ((l1.drop (32 * q)).take 32) 0 t wr hsl hr1 hsoq hbo hG (fun wx s' _ _ hg i hi => by
     have h1 := hc i (by omega)
     have e : ((l1.drop (32 * q)).take 32).getD i 0 = (l1.drop (32 * q)).getD i 0 := by simp [List.getD_eq_getElem?_getD, List.getElem?_take, hi]
     rw [e]
     exact hg.cell h1 (by intro e; cases e; exact hbp rfl)))
    have hstep : absorb (absN s1 l1 q) ((l1.drop (32 * q)).take 32) = absN s1 l1 (q + 1) := rfl
    rw [hstep] at hblk
    have hdd : l1.drop (32 * (q + 1)) = (l1.drop (32 * q)).drop 32 := by rw [List.drop_drop]; congr 1
    by_cases hc32 : c' = 32
    ·obtain rfl : m = 32 := by omega
     subst hc32
     go_wp2_with (go_at_call 294; refine hblk.out.mono ?_; rintro e w1 ⟨rfl, hG1, hg1⟩)
     refine ⟨⟨q + 1, 0, _, _, by omega, by omega, by omega, rfl, Or.inl (List.drop_eq_nil_of_le (by omega)), (fun b h => by cases h; exact hbp), hG1, hgr.trans hg1⟩, by simp [slLen]⟩
    ·have hc32' : ¬ (c' : Int) = 32 := by omega
     go_wp2_with (go_at_call 294; refine hblk.out.mono ?_; rintro e w1 ⟨rfl, hG1, hg1⟩)
     refine ⟨⟨q + 1, m - 32, _, _, by omega, by omega, by omega, rfl, ?_, (fun b h => by cases h; exact hbp), hG1, hgr.trans hg1⟩, by simp [slLen]; omega⟩
     by_cases hm0 : m = 32
     ·exact Or.inl (List.drop_eq_nil_of_le (by omega))
     ·refine Or.inr ⟨b, off + 32, rfl, Nat.lt_of_lt_of_le hb hg1.size, fun i hi => ?_⟩
      rw [hdd, List.length_drop] at hi
      have h1 := hc (32 + i) (by omega)
      rw [← Nat.add_assoc] at h1
      have h2 := hg1.cell h1 (by intro e; cases e; exact hbp rfl)
      rw [h2, hdd]
      simp [List.getD_eq_getElem?_getD, Nat.add_assoc]
   ·have HQ2 : Hid (q = n1 / 32) := by show _ = _; omega
    have HM2 : Hid (m = n1 % 32) := by show _ = _; omega
    have hmI : ¬ (32 : Int) ≤ (m : Int) := by omega
    have hm31 : m ≤ 32 := by omega
    have HDL := hid hdl
    clear hn1 hq hdl
    go_wp2_with (first | (refine wl_copyR rfl _ _ rfl p 0 32 (by decide) rfl ao' m c' rfl (l1.drop (32 * q)) HDL.out.symm hrw (absN s1 l1 q) r1 hsl hr1 0 t hG m (by omega) ?_; intro w1 hG1 hg1 hs1) | (refine wl_setV rfl 3 _ _ rfl 370 p 96 rfl (.int .i64 m) rfl rfl rfl sizeInt _ hG1 (by rw [sumC_length hsl (lay_length ..)]; decide) ?_; intro w2 hG2 hg2 hs2))
    go_end0
    rw [sumC_seth hsl (lay_length ..)] at hG2
    have e : ((n1 % 32 : Nat) : Int) = (m : Int) := by rw [HM2.out]
    have e2 : (n1 : Int) % 32 = (m : Int) := by rw [← e]; simp
    refine ⟨rfl, (hgr.trans hg1).trans hg2, ?_⟩
    rw [← HQ2.out, ← HM2.out]
    first | exact hG2 | (rw [e2]; exact hG2)
end Go.Proofs.YtdhipjoplkpgmaaGreatDoor.hs
namespace Go.Proofs.YtdhipjoplkpgmaaGreatDoor.hs
open Go.RowKit st shr
theorem getD_app (T l : List Int) (i : Nat) : (T ++ l).getD i 0 = if i < T.length then T.getD i 0 else l.getD (i - T.length) 0 := by
 simp only [List.getD_eq_getElem?_getD]
 by_cases h : i < T.length
 ·rw [if_pos h, List.getElem?_append_left h]
 ·rw [if_neg h, List.getElem?_append_right (by omega)]
theorem getD_dropI (l : List Int) (k i : Nat) : (l.drop k).getD i 0 = l.getD (k + i) 0 := by simp [List.getD_eq_getElem?_getD]
theorem getD_takeI (l : List Int) (k i : Nat) (h : i < k) : (l.take k).getD i 0 = l.getD i 0 := by simp [List.getD_eq_getElem?_getD, List.getElem?_take, h]
theorem sumOk_whole {w : World} {p : Nat} {s0 T l r : List Int} {q n : Nat} {tot : Int} (hT : T.length = 32 * q) (hn : n = l.length) (hr : r.length = 32) (hro : Octs r) (hl : Octs l)
  (hB : BlkV 370 w p (sumC (absN (absN s0 T q) l (n / 32)) (lay r (l.drop (32 * (n / 32))) 0 (n % 32)) ((n % 32 : Nat) : Int) tot)) : SumOk w p s0 (T ++ l) tot := by
 have e1 : (T ++ l).length / 32 = q + n / 32 := by rw [List.length_append]; omega
 have e2 : (T ++ l).length % 32 = n % 32 := by rw [List.length_append]; omega
 refine ⟨⟨lay r (l.drop (32 * (n / 32))) 0 (n % 32), lay_length .., lay_octs hro (fun c hc => hl c (List.mem_of_mem_drop hc)) _ _, ?_, ?_⟩⟩
 ·intro i hi
  rw [e2] at hi
  rw [e1, lay_get _ _ _ _ _ (by omega), if_pos (by omega), getD_app, if_neg (by omega), getD_dropI]
  congr 1; omega
 ·rw [e1, e2, absN_cat s0 T l q (n / 32) hT]; exact hB
theorem take_all (p : Nat) (s0 T l : List Int) (t : Int) (ao : Option Addr) (cap n : Nat) (w : World) (hn : n = l.length) (hcap : n ≤ cap) (hmax : cap ≤ maxLen) (hs : s0.length = 64) (hso : Octs s0) (hl : Octs l) (hrow : RowI .u8 w ao l) (hap : ∀ b, ao = some b → b.block ≠ p) (hP : SumOk w p s0 T t) :
  Calls Tryz.prog 293 #[.pointer (some ⟨p, 0, none⟩), .slice ao n cap] w fun e w' => e = .returned (.tuple #[]) ∧ w.grownBy w' (some p) ∧ SumOk w' p s0 (T ++ l) t := by
 obtain ⟨r, hr, hro, hrT, hB⟩ := hP.ex
 have hsl := absN_length s0 T hs (T.length / 32)
 have hsoq := absN_octs s0 T hso (T.length / 32)
 obtain ⟨q, hq⟩ : ∃ q, q = T.length / 32 := ⟨_, rfl⟩
 obtain ⟨h, hh⟩ : ∃ h, h = T.length % 32 := ⟨_, rfl⟩
 rw [← hq] at hB hsl hsoq hrT
 rw [← hh] at hB hrT
 by_cases h0 : h = 0
 ·subst h0
  refine (take_zero p _ r l t ao cap n w hn hcap hmax hsl hr hsoq hl hrow hap hB).mono ?_
  rintro e w' ⟨rfl, hg, hB'⟩
  exact ⟨rfl, hg, sumOk_whole (by omega) hn hr hro hl hB'⟩
 ·by_cases hf : h + n < 32
  ·refine (take_few p _ r l h t ao cap n w hn hcap hmax hsl hr (by omega) hf hl hrow hap hB).mono ?_
   rintro e w' ⟨rfl, hg, hB'⟩
   have e1 : (T ++ l).length / 32 = q := by rw [List.length_append]; omega
   have e2 : (T ++ l).length % 32 = h + n := by rw [List.length_append]; omega
   refine ⟨rfl, hg, ⟨lay r l h n, lay_length .., lay_octs hro hl _ _, ?_, ?_⟩⟩
   ·intro i hi
    rw [e2] at hi
    rw [e1, lay_get _ _ _ _ _ (by omega), getD_app]
    by_cases hi2 : i < h
    ·rw [if_neg (by omega), if_pos (by omega)]; exact hrT i hi2
    ·rw [if_pos (by omega), if_neg (by omega)]; congr 1; omega
   ·rw [e1, e2, absN_append s0 T l q (by omega)]; exact hB'
  ·refine (take_full p _ r l h t ao cap n w hn hcap hmax hsl hr hsoq hro (by omega) (by omega) (by omega) hl hrow hap hB _ _ _ _ rfl rfl rfl rfl).mono ?_
   rintro e w' ⟨rfl, hg, hB'⟩
   have e0 : T ++ l = (T ++ l.take (32 - h)) ++ l.drop (32 - h) := by rw [List.append_assoc, List.take_append_drop]
   have eT : (T ++ l.take (32 - h)).length = 32 * (q + 1) := by rw [List.length_append, List.length_take]; omega
   refine ⟨rfl, hg, ?_⟩
   rw [e0]
   refine sumOk_whole eT (n := n - (32 - h)) (r := lay r l h (32 - h)) (by rw [List.length_drop]; omega) (lay_length ..) (lay_octs hro hl _ _) (fun c hc => hl c (List.mem_of_mem_drop hc)) ?_
   have es : absN s0 (T ++ l.take (32 - h)) (q + 1) = absorb (absN s0 T q) (lay r l h (32 - h)) := by
    show absorb (absN s0 (T ++ l.take (32 - h)) q) _ = _
    rw [absN_append s0 T _ q (by omega)]
    refine absorb_congr _ fun i hi => ?_
    rw [getD_takeI _ _ _ hi, getD_dropI, getD_app, lay_get _ _ _ _ _ hi]
    by_cases hi2 : i < h
    ·rw [if_pos (by omega), if_neg (by omega)]; exact (hrT i hi2).symm
    ·rw [if_neg (by omega), if_pos (by omega), getD_takeI _ _ _ (by omega)]; congr 1; omega
   rw [es]; exact hB'
end Go.Proofs.YtdhipjoplkpgmaaGreatDoor.hs
namespace Go.Proofs.YtdhipjoplkpgmaaGreatDoor.hs
open Go.RowKit st shr
theorem rowI_grown {k : IntKind} {w w' : World} {ao : Option Addr} {l : List Int} {p : Nat} (h : RowI k w ao l) (hg : w.grownBy w' (some p)) (hap : ∀ b, ao = some b → b.block ≠ p) : RowI k w' ao l := by
 rcases h with h | ⟨g, off, rfl, hlt, hc⟩
 ·exact Or.inl h
 ·exact Or.inr ⟨g, off, rfl, Nat.lt_of_lt_of_le hlt hg.size, fun i hi => hg.cell (hc i hi) (by intro e; cases e; exact hap _ rfl rfl)⟩
theorem SumOk.grown {w w' : World} {p : Nat} {s0 T : List Int} {t : Int} {B : Nat} (h : SumOk w p s0 T t) (hb : Below B w w') (hp : p < B) : SumOk w' p s0 T t := by
 obtain ⟨r, hr, hro, hrT, hB⟩ := h.ex
 exact ⟨⟨r, hr, hro, hrT, hB.below hb hp⟩⟩
theorem SumOk.lt {w : World} {p : Nat} {s0 T : List Int} {t : Int} (h : SumOk w p s0 T t) : p < w.heap.size := by
 obtain ⟨r, hr, hro, hrT, hB⟩ := h.ex
 exact hB.lt
theorem write_ok (p : Nat) (s0 T l : List Int) (ao : Option Addr) (cap n tl : Nat) (w : World) (hn : n = l.length) (hcap : n ≤ cap) (hmax : cap ≤ maxLen) (hs : s0.length = 64) (hso : Octs s0) (hl : Octs l) (hrow : RowI .u8 w ao l) (hap : ∀ b, ao = some b → b.block ≠ p) (htl : tl = T.length) (hP : SumOk w p s0 T (tl : Int)) (hT : tl + n ≤ 1048576) :
  Calls Tryz.prog 287 #[.pointer (some ⟨p, 0, none⟩), .slice ao n cap] w fun e w' => e = .returned (.int .i64 0) ∧ w.grownBy w' (some p) ∧ SumOk w' p s0 (T ++ l) ((tl + n : Nat) : Int) := by
 obtain ⟨r, hr, hro, hrT, hB⟩ := hP.ex
 have hsl := absN_length s0 T hs (T.length / 32)
 have c97 := (hB.cell 97).trans (sumC_t hsl hr _ _)
 have HN := hid hn
 have HT := hid htl
 have HRT := hid hrT
 clear hn htl hP hrT
 have hlt : ¬ ((1048576 : Int) - (tl : Int) < (n : Int)) := by omega
 have e1 : IntKind.i64.wrap ((1048576 : Int) - (tl : Int)) = 1048576 - (tl : Int) := IntWalk.i64_in _ (by omega)
 have e2 : IntKind.i64.wrap ((tl : Int) + (n : Int)) = ((tl + n : Nat) : Int) := by rw [IntWalk.i64_in _ (by omega)]; omega
 go_enter Tryz.func287, Tryz.ntmps287
 go_wp2_with (first | (refine wl_setV rfl 3 _ _ rfl 370 p 97 rfl (.int .i64 ((tl + n : Nat) : Int)) (by simp [Act.eval, e2]) rfl rfl sizeInt _ hB (by rw [sumC_length hsl hr]; decide) ?_; intro w1 hG1 hg1 hs1; rw [sumC_sett hsl hr] at hG1; have hP1 : SumOk w1 p s0 T ((tl + n : Nat) : Int) := ⟨⟨r, hr, hro, HRT.out, hG1⟩⟩; have hrow1 : RowI .u8 w1 ao l := rowI_grown hrow hg1 hap; clear hB hG1) | (go_at_call 293; refine (take_all p s0 T l _ ao cap n w1 HN.out hcap hmax hs hso hl hrow1 hap hP1).mono ?_; rintro e w2 ⟨rfl, hg2, hP2⟩))
 go_ret
 exact ⟨rfl, hg1.trans hg2, hP2⟩
theorem write_large (p : Nat) (s0 T : List Int) (ao : Option Addr) (cap n tl : Nat) (w : World) (hcap : n ≤ cap) (hmax : cap ≤ maxLen) (hs : s0.length = 64) (htm : tl ≤ 1048576) (hP : SumOk w p s0 T (tl : Int)) (hT : 1048576 < tl + n) :
  Calls Tryz.prog 287 #[.pointer (some ⟨p, 0, none⟩), .slice ao n cap] w fun e w' => e = .returned (.int .i64 5) ∧ w' = w := by
 obtain ⟨r, hr, hro, hrT, hB⟩ := hP.ex
 have hsl := absN_length s0 T hs (T.length / 32)
 have c97 := (hB.cell 97).trans (sumC_t hsl hr _ _)
 clear hP hrT
 have hlt : ((1048576 : Int) - (tl : Int) < (n : Int)) := by omega
 unfold maxLen at hmax
 have e1 : IntKind.i64.wrap ((1048576 : Int) - (tl : Int)) = 1048576 - (tl : Int) := IntWalk.i64_in _ (by omega)
 go_enter Tryz.func287, Tryz.ntmps287
 go_wp2
 go_ret
 exact ⟨rfl, rfl⟩
theorem aggSum : Agg Tryz.prog 370 98 := Agg.str Tryz.underlying370 (by kernel_rfl)
theorem zeroSum : (Tryz.prog.info? 370).map (·.zero) = some (some (.agg (sumC (List.replicate 64 0) (List.replicate 32 0) 0 0).toArray)) := by kernel_rfl
theorem copy_ok (p : Nat) (s0 T : List Int) (t : Int) (w : World) (hs : s0.length = 64) (hP : SumOk w p s0 T t) :
  Calls Tryz.prog 292 #[.pointer (some ⟨p, 0, none⟩)] w fun e w' => e = .returned (.pointer (some ⟨w.heap.size, 0, none⟩)) ∧ Below w.heap.size w w' ∧ SumOk w' w.heap.size s0 T t := by
 obtain ⟨r, hr, hro, hrT, hB⟩ := hP.ex
 have hsl := absN_length s0 T hs (T.length / 32)
 have HRT := hid hrT
 clear hP hrT
 have hZ := hid zeroSum
 obtain ⟨Z, HZ⟩ := hidE (sumC (List.replicate 64 0) (List.replicate 32 0) 0 0)
 rw [← HZ.out] at hZ
 have hZl : Z.length = 98 := by rw [HZ.out]; exact sumC_length (by simp) (by simp) _ _
 obtain ⟨C, HC⟩ := hidE (sumC (absN s0 T (T.length / 32)) r ((T.length % 32 : Nat) : Int) t)
 have hCl : C.length = 98 := by rw [HC.out]; exact sumC_length hsl hr _ _
 have hC1 : ∀ u ∈ C, u.oneCell' = true := by rw [HC.out]; exact sumC_one _ _ _ _
 rw [← HC.out] at hB
 go_enter Tryz.func292, Tryz.ntmps292
 go_wp2_with (first | (refine wl_load rfl 370 _ rfl ⟨p, 0, none⟩ rfl C (by rw [hCl]; exact aggSum) hB.at0 ?_) | (refine wl_allocV rfl 370 rfl Z hZ.out w.heap.size rfl ?_; intro w1 hG1 hb1 hs1; clear hB) | (refine wl_storeV rfl 370 _ _ rfl 370 w.heap.size rfl C rfl 98 aggSum hCl Z hG1 hZl hC1 ?_; intro w2 hG2 hb2 hs2; clear hG1))
 rw [HC.out] at hG2
 go_ret
 exact ⟨rfl, hb1.trans hb2, ⟨⟨r, hr, hro, HRT.out, hG2⟩⟩⟩
end Go.Proofs.YtdhipjoplkpgmaaGreatDoor.hs
namespace Go.Proofs.YtdhipjoplkpgmaaGreatDoor.hs
open Go.RowKit st shr
def padOf (T : List Int) : List Int := (T ++ [128]) ++ List.replicate ((32 - (T.length + 1) % 32) % 32) 0
def endL (s0 T : List Int) : List Int := absorb (absN s0 (padOf T) ((padOf T).length / 32)) (List.replicate 24 0 ++ o8 T.length)
theorem zeroA64 : (Tryz.prog.info? 53).map (·.zero) = some (some (.agg ((List.replicate 64 (0 : Int)).map (Value.int .u8)).toArray)) := by kernel_rfl
theorem zeroA32 : (Tryz.prog.info? 22).map (·.zero) = some (some (.agg ((List.replicate 32 (0 : Int)).map (Value.int .u8)).toArray)) := by kernel_rfl
theorem zeroA8 : (Tryz.prog.info? 280).map (·.zero) = some (some (.agg ((List.replicate 8 (0 : Int)).map (Value.int .u8)).toArray)) := by kernel_rfl
theorem padOf_length (T : List Int) : (padOf T).length % 32 = 0 := by
 unfold padOf
 simp only [List.length_append, List.length_replicate, List.length_cons, List.length_nil]
 omega
theorem sumOk_tot {w : World} {p : Nat} {s0 T : List Int} {t : Int} (hs : s0.length = 64) (h : SumOk w p s0 T t) : w.cell? ⟨p, 97, none⟩ = some (.int .i64 t) := by
 obtain ⟨r, hr, hro, hrT, hB⟩ := h.ex
 exact (hB.cell 97).trans (sumC_t (absN_length s0 _ hs _) hr _ _)
theorem padEq (T : List Int) (h m : Nat) (hh : h = (T ++ [128]).length % 32) (h0 : (0 : Int) < (h : Int)) (T2 : List Int) (e : T2 = T ++ [128]) (hm : m = 32 - h) : T2 ++ List.replicate m 0 = padOf T := by
 subst e
 unfold padOf
 have h1 : (T.length + 1) % 32 = h := by rw [hh, List.length_append]; rfl
 rw [h1, hm, show (32 - h) % 32 = 32 - h by omega]
theorem wl_makeO {w : World} {ops : Array Oper} {rest : List Oper} {o : Oper} {a : Act} {Q : Exit → Act → World → Prop} (hgd : o.guard = none) (x y : Operand) (ho : o.op = .makeSlice 61 x y)
  (n : Nat) (hn : n ≤ 281474976710656) (hx : a.eval x = .int .i64 n) (hy : a.eval y = .int .i64 n) (N : Nat) (hN : w.heap.size = N)
  (h : ∀ w', BlkI .u8 5 w' N (List.replicate n 0) → Below N w w' → w'.heap.size = N + 1 → wpList Tryz.prog ops Q rest (a.put o.dst (.slice (some ⟨N, 0, none⟩) n n)) w') : wpList Tryz.prog ops Q (o :: rest) a w := by
 subst hN
 have hrun := run_make_row' (P := Tryz.prog) 61 5 (.int .u8 0) 1 Tryz.underlying61 infoU8 rfl .i64 .i64 n (by omega) (by omega) w
 refine wpList_plain hgd fun K hK' => ?_
 unfold Oper.wp
 simp [execOp, ho, hx, hy, hrun, Result.andThen]
 exact hK' _ _ (h _ (BlkI.made .u8 _ w n) ((Below.refl _ _).alloc (Nat.le_refl _) _) (by simp))
theorem end_ok (p : Nat) (s0 T : List Int) (tl : Nat) (w : World) (hs : s0.length = 64) (hso : Octs s0) (htl : tl = T.length) (htm : tl ≤ 1048576) (hP : SumOk w p s0 T (tl : Int)) :
  Calls Tryz.prog 184 #[.pointer (some ⟨p, 0, none⟩)] w fun e w' => e = .returned (.agg ((endL s0 T).map (Value.int .u8)).toArray) ∧ Below w.heap.size w w' := by
 obtain ⟨Z, HZ⟩ := hidE ((List.replicate 64 (0 : Int)).map (Value.int .u8))
 have hz64 := hid zeroA64
 rw [← HZ.out] at hz64
 obtain ⟨B, HB⟩ := hidE w.heap.size
 have hsz : w.heap.size = B := HB.out.symm
 have hpB : p < B := by rw [HB.out]; exact hP.lt
 have HTL := hid htl
 clear htl
 obtain ⟨h, HH⟩ : ∃ h : Nat, Hid (h = (T ++ [(128 : Int)]).length % 32) := ⟨_, rfl⟩
 have hh : h < 32 := by rw [HH.out]; omega
 have o128 : Octs [128] := by intro c hc; simp at hc; subst hc; exact ⟨by decide, by decide⟩
 have HM := hid hs
 go_enter Tryz.func184, Tryz.ntmps184
 go_wp2_with (first | (refine wl_allocV rfl 53 rfl Z hz64.out B hsz ?_; intro w1 hR1 hb1 hs1; have hP1 := hP.grown hb1 hpB; clear hP hz64) | (go_at_call 292; refine (copy_ok p s0 T tl w1 hs hP1).mono ?_; rintro e w2 ⟨rfl, hb2, hC2⟩))
 rw [hs1] at hb2 hC2
 have hR2 := hR1.below hb2 (by omega)
 have hP2 := hP1.grown hb2 (by omega)
 have bb2 : Below B w w2 := hb1.trans (hb2.mono (by omega))
 have hlt2 := hC2.lt
 clear hb1 hb2 hR1 hP1 hs1
 obtain ⟨w3, HW3⟩ := hidE (w2.alloc (.cells #[.int .u8 128] 5))
 have hb3 : Below w2.heap.size w2 w3 := by rw [HW3.out]; exact (Below.refl _ _).alloc (Nat.le_refl _) _
 have hrow3 : BlkI .u8 5 w3 w2.heap.size [128] := by rw [HW3.out]; exact BlkI.new .u8 5 w2 [128]
 rw [← HW3.out]
 have hR3 := hR2.below hb3 (by omega)
 have hP3 := hP2.grown hb3 (by omega)
 have hC3 := hC2.grown hb3 (by omega)
 have bb3 : Below B w w3 := bb2.trans (hb3.mono (by omega))
 refine (take_all (B + 1) s0 T [128] _ _ 1 1 w3 rfl (Nat.le_refl _) (by decide) hs hso o128 hrow3.row (fun b e => by cases e; simp; omega) hC3).mono ?_
 rintro e w4 ⟨rfl, hg4, hC4⟩
 have hlt3 := hC3.lt
 have hb4 := below_of_grown (B := B + 1) hg4 (by omega) (Nat.le_refl _)
 have hR4 := hR3.below hb4 (by omega)
 have hP4 := hP3.grown hb4 (by omega)
 have bb4 : Below B w w4 := bb3.trans (hb4.mono (by omega))
 clear hlt2 hlt3 hb3 hrow3 hR3 hP3 hC3 bb3 bb2 hR2 hP2 hC2 hg4 hb4
 have hcell : w4.cell? ⟨B + 1, 96, none⟩ = some (.int .i64 (h : Int)) := by
  obtain ⟨r, hr, hro, hrT, hB⟩ := hC4.ex
  rw [HH.out]
  exact (hB.cell 96).trans (sumC_h (absN_length s0 _ hs _) hr _ _)
 obtain ⟨T2, HT2⟩ : ∃ T2 : List Int, Hid (T2 = T ++ [(128 : Int)]) := ⟨_, rfl⟩
 rw [← HT2.out] at hC4
 obtain ⟨L, HL⟩ : ∃ L : List Int, Hid (L = padOf T) := ⟨_, rfl⟩
 have hLm : L.length % 32 = 0 := by rw [HL.out]; exact padOf_length T
 obtain ⟨Z3, HZ3⟩ := hidE ((List.replicate 32 (0 : Int)).map (Value.int .u8))
 have hz32 := hid zeroA32
 rw [← HZ3.out] at hz32
 obtain ⟨O, HO⟩ := hidE ((o8 tl).map (Value.int .u8))
 have HOL : Hid (O.length = 8) := by show O.length = 8; rw [HO.out]; rfl
 have hO1 : ∀ u ∈ O, u.oneCell' = true := by rw [HO.out]; exact ints_one _ _
 obtain ⟨Z8, HZ8⟩ := hidE ((List.replicate 8 (0 : Int)).map (Value.int .u8))
 have hz8 := hid zeroA8
 rw [← HZ8.out] at hz8
 have hal8 : Tryz.prog.arrayLen 280 = 8 := by kernel_rfl
 have hal32 : Tryz.prog.arrayLen 22 = 32 := by kernel_rfl
 by_cases h0 : h = 0
 case' pos =>
  subst h0
  obtain ⟨w5, hw5⟩ : ∃ w5, w5 = w4 := ⟨_, rfl⟩
  have hC5 : SumOk w5 (B + 1) s0 L tl := by
   subst hw5
   have e : L = T2 := by
    rw [HL.out, HT2.out]; unfold padOf
    have h1 : (T.length + 1) % 32 = 0 := by have h2 := HH.out; rw [List.length_append] at h2; exact h2.symm
    rw [h1]; simp
   rw [e]; exact hC4
  have hlt5 := hC5.lt
  subst hw5
  have hR5 := hR4
  have hP5 := hP4
  have bb5 := bb4
  have hsB : B < w5.heap.size := hR5.lt
  clear hC4 hR4 hP4 bb4
  go_wp2_with (first | (refine wl_allocV rfl 22 rfl Z3 hz32.out w5.heap.size rfl ?_; intro w6 hL6 hb6 hs6; clear hz32; have hR6 := hR5.below hb6 (by omega); have hP6 := hP5.grown hb6 (by omega); have hC6 := hC5.grown hb6 hlt5; have bb6 : Below B w w6 := bb5.trans (hb6.mono (by omega)); have c97 := sumOk_tot hs hP6; clear hR5 hP5 hC5 bb5 hb6) | (go_at_call 186; refine (longOctets tl w6 (by omega)).mono ?_; rintro e w7 ⟨rfl, hb7⟩; rw [← HO.out]; have hR7 := hR6.below hb7 (by omega); have hC7 := hC6.grown hb7 hC6.lt; have hL7 := hL6.below hb7 hL6.lt; have bb7 : Below B w w7 := bb6.trans (hb7.mono (by omega)); have hsz7 := hb7.size; clear hR6 hP6 hC6 hL6 bb6 hb7 c97) | (refine wl_allocV rfl 280 rfl Z8 hz8.out w7.heap.size rfl ?_; intro w8 hO8 hb8 hs8; clear hz8; have hR8 := hR7.below hb8 (by omega); have hC8 := hC7.grown hb8 hC7.lt; have hL8 := hL7.below hb8 hL7.lt; have bb8 : Below B w w8 := bb7.trans (hb8.mono (by omega)); clear hR7 hC7 hL7 bb7 hb8) | (refine wl_storeV rfl 280 _ _ rfl 280 w7.heap.size rfl O rfl 8 agg8 HOL.out Z8 hO8 (by rw [HZ8.out]; rfl) hO1 ?_; intro w9 hO9 hb9 hs9; have hR9 := hR8.below hb9 (by omega); have hC9 := hC8.grown hb9 (by omega); have hL9 := hL8.below hb9 (by omega); have bb9 : Below B w w9 := bb8.trans (hb9.mono (by omega)); clear hR8 hC8 hL8 bb8 hO8 hb9))
 case' neg =>
  have hI : (0 : Int) < (h : Int) := by omega
  have e1 : IntKind.i64.wrap ((32 : Int) - (h : Int)) = ((32 - h : Nat) : Int) := by rw [IntWalk.i64_in _ (by omega)]; omega
  have hlt4 := hC4.lt
  go_wp2_with (first | (refine wl_makeO rfl _ _ rfl (32 - h) (by omega) (by simp [Act.eval, e1]) (by simp [Act.eval, e1]) w4.heap.size rfl ?_; intro v5 hM5 hb5 hs5; have hC4' := hC4.grown hb5 hlt4) | (go_at_call 293; refine (take_all (B + 1) s0 T2 (List.replicate (32 - h) 0) _ _ (32 - h) (32 - h) v5 (by simp) (Nat.le_refl _) (by unfold maxLen; omega) hs hso (zeros_octs _) hM5.row (fun b e => by cases e; simp; omega) hC4').mono ?_; rintro e w5 ⟨rfl, hg5, hC5'⟩; have hC5 : SumOk w5 (B + 1) s0 L tl := (by rw [HL.out, ← padEq T h (32 - h) HH.out hI T2 HT2.out rfl]; exact hC5'); have hlt5 := hC5.lt; have hbx := below_of_grown (B := B + 1) hg5 (by omega) (Nat.le_refl _); have hb45 := (hb5.mono (by omega : B + 1 ≤ w4.heap.size)).trans hbx; have hR5 := hR4.below hb45 (by omega); have hP5 := hP4.grown hb45 (by omega); have bb5 : Below B w w5 := bb4.trans (hb45.mono (by omega)); have hsB : B < w5.heap.size := hR5.lt; clear hC5' hg5 hbx hb45 hC4 hC4' hM5 hb5 hR4 hP4 bb4) | (refine wl_allocV rfl 22 rfl Z3 hz32.out w5.heap.size rfl ?_; intro w6 hL6 hb6 hs6; clear hz32; have hR6 := hR5.below hb6 (by omega); have hP6 := hP5.grown hb6 (by omega); have hC6 := hC5.grown hb6 hlt5; have bb6 : Below B w w6 := bb5.trans (hb6.mono (by omega)); have c97 := sumOk_tot hs hP6; clear hR5 hP5 hC5 bb5 hb6) | (go_at_call 186; refine (longOctets tl w6 (by omega)).mono ?_; rintro e w7 ⟨rfl, hb7⟩; rw [← HO.out]; have hR7 := hR6.below hb7 (by omega); have hC7 := hC6.grown hb7 hC6.lt; have hL7 := hL6.below hb7 hL6.lt; have bb7 : Below B w w7 := bb6.trans (hb7.mono (by omega)); have hsz7 := hb7.size; clear hR6 hP6 hC6 hL6 bb6 hb7 c97) | (refine wl_allocV rfl 280 rfl Z8 hz8.out w7.heap.size rfl ?_; intro w8 hO8 hb8 hs8; clear hz8; have hR8 := hR7.below hb8 (by omega); have hC8 := hC7.grown hb8 hC7.lt; have hL8 := hL7.below hb8 hL7.lt; have bb8 : Below B w w8 := bb7.trans (hb8.mono (by omega)); clear hR7 hC7 hL7 bb7 hb8) | (refine wl_storeV rfl 280 _ _ rfl 280 w7.heap.size rfl O rfl 8 agg8 HOL.out Z8 hO8 (by rw [HZ8.out]; rfl) hO1 ?_; intro w9 hO9 hb9 hs9; have hR9 := hR8.below hb9 (by omega); have hC9 := hC8.grown hb9 (by omega); have hL9 := hL8.below hb9 (by omega); have bb9 : Below B w w9 := bb8.trans (hb9.mono (by omega)); clear hR8 hC8 hL8 bb8 hO8 hb9))
 all_goals
  obtain ⟨g5, HG5⟩ := hidE w5.heap.size
  obtain ⟨g7, HG7⟩ := hidE w7.heap.size
  have hg5B : B + 1 < g5 := by rw [HG5.out]; exact hlt5
  have hg57 : g5 < g7 := by rw [HG5.out, HG7.out]; omega
  rw [← HG5.out] at hL9
  rw [← HG7.out] at hO9
  rw [← HG5.out, ← HG7.out]
  have hfit : 24 + O.length ≤ Z3.length := by rw [HOL.out, HZ3.out, List.length_map, List.length_replicate]; omega
  have hmin : O.length = Nat.min 8 8 := by rw [HOL.out]; rfl
  go_region_law (refine step_copy_splice rfl (.tmp 30) (.tmp 31) 61 61 rfl 5 Tryz.underlying61 size5 (some ⟨g5, 24, none⟩) (some ⟨g7, 0, none⟩) 8 8 8 8 rfl rfl g5 24 Z3 22 hL9 O hmin (fun _ => ⟨rfl, _, rfl, hO9.at0⟩) hfit hO1 g5 w9 ((Below.refl _ _).drew) (Nat.le_refl _) ?_; intro w10 hg10 hb10)
  obtain ⟨bs, HBS⟩ : ∃ bs : List Int, Hid (bs = (List.replicate 24 (0 : Int) ++ o8 (tl : Int) : List Int)) := ⟨_, rfl⟩
  have hL10 : BlkV 22 w10 g5 (bs.map (Value.int .u8)) := by
   have e : splice (List.replicate 32 (0 : Int)) 24 (o8 tl) = bs := by rw [HBS.out]; rfl
   have h1 := hg10.out
   rw [HZ3.out, HO.out, splice_map, e] at h1
   exact h1
  have hbo : Octs bs := by
   rw [HBS.out]; intro c hc
   rcases List.mem_append.1 hc with h1 | h1
   ·exact zeros_octs 24 c h1
   ·exact o8_octs _ c h1
  have hR10 := hR9.below hb10 (by omega)
  have hC10 := hC9.grown hb10 (by omega)
  have bb10 : Below B w w10 := bb9.trans (hb10.mono (by omega))
  clear hR9 hC9 hL9 bb9 hb10 hg10 hO9 hfit hmin
  obtain ⟨r, hr, hro, hrT, hB10⟩ := hC10.ex
  have hsl := absN_length s0 L hs (L.length / 32)
  have hsoq := absN_octs s0 L hso (L.length / 32)
  obtain ⟨S, HS⟩ : ∃ S : List Int, Hid (S = absN s0 L (L.length / 32)) := ⟨_, rfl⟩
  rw [← HS.out] at hB10 hsl hsoq
  obtain ⟨E, HE⟩ : ∃ E : List Int, Hid (E = absorb S bs) := ⟨_, rfl⟩
  have hEl : E.length = 64 := by rw [HE.out]; exact stirL_length' _
  have hE1 : ∀ u ∈ E.map (Value.int .u8), u.oneCell' = true := ints_one _ _
  have hEm : (E.map (Value.int .u8)).length = 64 := by rw [List.length_map, hEl]
  have hZl : Z.length = 64 := by rw [HZ.out]; simp
  have hblk := hid (block_any (B + 1) g5 0 S r bs ((L.length % 32 : Nat) : Int) tl w10 hsl hr hsoq hbo hB10 (fun wx s' hs' hGx hgx i hi => by
   have h1 := hL10.grown hgx (by intro e; cases e; omega)
   rw [Nat.zero_add, h1.cell i, List.getElem?_map]
   have h2 : i < bs.length := by rw [HBS.out]; simp [o8]; omega
   rw [List.getElem?_eq_getElem h2, getD_lt' bs 0 h2]; rfl))
  rw [← HE.out] at hblk
  go_wp2_with (first | (go_at_call 294; refine hblk.out.mono ?_; rintro e w11 ⟨rfl, hG11, hg11⟩; have hR11 := hR10.grown hg11 (by intro e; have := Option.some.inj e; omega); have bb11 : Below B w w11 := bb10.trans (below_of_grown hg11 (by have := bb10.size; omega) (by omega)); clear hR10 bb10 hB10) | (refine wl_load rfl 53 _ rfl ⟨B + 1, 0, none⟩ rfl (E.map (Value.int .u8)) (by rw [hEm]; exact agg64') (at_s hEl hG11) ?_) | (refine wl_storeAll rfl 53 _ _ rfl 53 B rfl (E.map (Value.int .u8)) rfl 64 agg64' hEm Z hR11 hZl hE1 ?_; intro hRR))
  (try simp only [Exit.inBlock, Exit.then]); refine bodyPost_ret (results_cell rfl _ _ _ _ rfl (E.map (Value.int .u8)) (by rw [hEm]; exact agg64') hRR.at0) rfl ?_
  refine ⟨?_, by rw [← HB.out]; exact below_setRow' bb11 (Nat.le_refl _) _⟩
  rw [HE.out, HS.out, HBS.out, HL.out, HTL.out]; rfl
end Go.Proofs.YtdhipjoplkpgmaaGreatDoor.hs
namespace Go.Proofs.YtdhipjoplkpgmaaGreatDoor.hs
open Go.RowKit st shr
def sumL (d : Int) (T : List Int) : List Int := (endL (start d) T).take 32
theorem endL_length (s0 T : List Int) : (endL s0 T).length = 64 := stirL_length' _
theorem endL_octs (s0 T : List Int) : Octs (endL s0 T) := stirL_octs' _
theorem sumL_length (d : Int) (T : List Int) : (sumL d T).length = 32 := by unfold sumL; rw [List.length_take, endL_length]; decide
theorem sumL_octs (d : Int) (T : List Int) : Octs (sumL d T) := fun c hc => endL_octs _ _ c (List.mem_of_mem_take hc)
theorem aggSumT : Agg Tryz.prog 39 32 := Agg.arr Tryz.underlying39 (by kernel_rfl)
theorem zeroSumT : (Tryz.prog.info? 39).map (·.zero) = some (some (.agg ((List.replicate 32 (0 : Int)).map (Value.int .u8)).toArray)) := by kernel_rfl
theorem run_arrayAtS (w : World) (a : Addr) (n cap : Nat) (hn : 32 ≤ n) : (Instr.arrayAt 39 (.slice (some a) n cap)).run Tryz.prog w = .ok (.pointer (some a)) w := by
 have h1 : ¬ n < 32 := by omega
 simp [Instr.arrayAt, run_underlying Tryz.underlying39, Result.andThen, h1]
theorem start_octs {d : Int} (h : Oct d) : Octs (start d) := by
 intro c hc
 rcases List.mem_append.1 hc with h1 | h1
 ·exact zeros_octs 63 c h1
 ·simp at h1; subst h1; exact h
theorem sum_ok (p : Nat) (d : Int) (T : List Int) (tl : Nat) (w : World) (hd : Oct d) (htl : tl = T.length) (htm : tl ≤ 1048576) (hP : SumOk w p (start d) T (tl : Int)) :
  Calls Tryz.prog 182 #[.pointer (some ⟨p, 0, none⟩)] w fun e w' => e = .returned (.agg ((sumL d T).map (Value.int .u8)).toArray) ∧ Below w.heap.size w w' := by
 obtain ⟨Z, HZ⟩ := hidE ((List.replicate 64 (0 : Int)).map (Value.int .u8))
 have hz64 := hid zeroA64
 rw [← HZ.out] at hz64
 obtain ⟨Y, HY⟩ := hidE ((List.replicate 32 (0 : Int)).map (Value.int .u8))
 have hz32 := hid zeroSumT
 rw [← HY.out] at hz32
 obtain ⟨B, HB⟩ := hidE w.heap.size
 have hsz : w.heap.size = B := HB.out.symm
 have hpB : p < B := by rw [HB.out]; exact hP.lt
 obtain ⟨E, HE⟩ : ∃ E : List Int, Hid (E = endL (start d) T) := ⟨_, rfl⟩
 have hEl : E.length = 64 := by rw [HE.out]; exact endL_length _ _
 have hE1 : ∀ u ∈ E.map (Value.int .u8), u.oneCell' = true := ints_one _ _
 have hEm : (E.map (Value.int .u8)).length = 64 := by rw [List.length_map, hEl]
 obtain ⟨S, HS⟩ : ∃ S : List Int, Hid (S = sumL d T) := ⟨_, rfl⟩
 have hS1 : ∀ u ∈ S.map (Value.int .u8), u.oneCell' = true := ints_one _ _
 have hSm : (S.map (Value.int .u8)).length = 32 := by rw [List.length_map, HS.out, sumL_length]
 have hYl : Y.length = 32 := by rw [HY.out]; simp
 have hZl : Z.length = 64 := by rw [HZ.out]; simp
 have hal : Tryz.prog.arrayLen 53 = 64 := by kernel_rfl
 have hAA := fun w a n cap h => run_arrayAtS w a n cap h
 have hend := hid (end_ok p (start d) T tl)
 have HTL := hid htl
 rw [← HE.out] at hend
 rw [← HS.out]
 go_enter Tryz.func182, Tryz.ntmps182
 go_wp2_with (first | (refine wl_allocV rfl 39 rfl Y hz32.out B hsz ?_; intro w1 hR1 hb1 hs1; have hP1 := hP.grown hb1 hpB; clear hP hz32) | (go_at_call 184; refine (hend.out w1 (start_length d) (start_octs hd) HTL.out htm hP1).mono ?_; rintro e w2 ⟨rfl, hb2⟩; have hR2 := hR1.below hb2 (by omega); have bb2 : Below B w w2 := hb1.trans (hb2.mono (by omega)); have hsz2 := hb2.size; clear hP1 hR1 hb1 hb2) | (refine wl_allocV rfl 53 rfl Z hz64.out w2.heap.size rfl ?_; intro w3 hE3 hb3 hs3; clear hz64; have hR3 := hR2.below hb3 (by omega); have bb3 : Below B w w3 := bb2.trans (hb3.mono (by omega)); clear hR2 bb2 hb3) | (refine wl_storeV rfl 53 _ _ rfl 53 w2.heap.size rfl (E.map (Value.int .u8)) rfl 64 agg64' hEm Z hE3 hZl hE1 ?_; intro w4 hE4 hb4 hs4; have hR4 := hR3.below hb4 (by omega); have bb4 : Below B w w4 := bb3.trans (hb4.mono (by omega)); clear hR3 bb3 hb4 hE3) | (refine wl_load rfl 39 _ rfl ⟨w2.heap.size, 0, none⟩ rfl (S.map (Value.int .u8)) (by rw [hSm]; exact aggSumT) (hE4.at 0 _ fun j u hu => by rw [Nat.zero_add]; rw [HS.out, sumL, ← HE.out, List.map_take, List.getElem?_take] at hu; split at hu; exact hu; cases hu) ?_) | (refine wl_storeV rfl 39 _ _ rfl 39 B rfl (S.map (Value.int .u8)) rfl 32 aggSumT hSm Y hR4 hYl hS1 ?_; intro w5 hR5 hb5 hs5))
 (try simp only [Exit.inBlock, Exit.then]); refine bodyPost_ret (results_cell rfl _ _ _ _ rfl (S.map (Value.int .u8)) (by rw [hSm]; exact aggSumT) hR5.at0) rfl ?_
 exact ⟨rfl, by rw [← HB.out]; exact bb4.trans hb5⟩
theorem sumOk_start {w : World} {p : Nat} {d : Int} (h : BlkV 370 w p (sumC (start d) (List.replicate 32 0) 0 0)) : SumOk w p (start d) [] 0 :=
 ⟨⟨List.replicate 32 0, by simp, zeros_octs 32, fun i hi => absurd hi (Nat.not_lt_zero _), h⟩⟩
theorem new_ok (d : Int) (w : World) (hd : Oct d) :
  Calls Tryz.prog 286 #[.int .i64 d] w fun e w' => e = .returned (.tuple #[.pointer (some ⟨w.heap.size, 0, none⟩), .int .i64 0]) ∧ Below w.heap.size w w' ∧ SumOk w' w.heap.size (start d) [] 0 := by
 have h1 := hd.1
 have h2 : ¬ (255 < d) := by have := hd.2; omega
 have h3 : d < 256 := by have := hd.2; omega
 have hal : Tryz.prog.arrayLen 53 = 64 := by kernel_rfl
 obtain ⟨Z, HZ⟩ := hidE (sumC (List.replicate 64 0) (List.replicate 32 0) 0 0)
 have hb : Hid (Tryz.prog.built 370 [] = some Z.toArray) := by show _ = _; rw [HZ.out]; kernel_rfl
 have hZl : Z.length = 98 := by rw [HZ.out]; exact sumC_length (by simp) (by simp) _ _
 go_enter Tryz.func286, Tryz.ntmps286
 go_wp2_with (first | (refine wl_build0 rfl 370 rfl Z hb.out ?_))
 go_ret2
 have e : Z.set 63 (Value.int .u8 d) = sumC (start d) (List.replicate 32 0) 0 0 := by rw [HZ.out, sumC_set (by simp) 0 0 (by omega)]; rfl
 rw [e]
 exact ⟨rfl, (Below.refl _ _).alloc (Nat.le_refl _) _, sumOk_start (BlkV.new _ w _ rfl)⟩
end Go.Proofs.YtdhipjoplkpgmaaGreatDoor.hs
namespace Go.Proofs.YtdhipjoplkpgmaaGreatDoor.hs
open Go.RowKit st shr
structure Pt where
 a : Option Addr
 c : Nat
 l : List Int
def Pt.v (x : Pt) : Value := .slice x.a x.l.length x.c
structure Pt.Ok (w : World) (x : Pt) : Prop where
 row : RowI .u8 w x.a x.l
 len : x.l.length ≤ x.c
 cap : x.c ≤ maxLen
 oct : Octs x.l
 lt : ∀ b, x.a = some b → b.block < w.heap.size
theorem Pt.Ok.below {w w' : World} {x : Pt} (h : x.Ok w) (hb : Below w.heap.size w w') : x.Ok w' :=
 ⟨h.row.below hb, h.len, h.cap, h.oct, fun b e => Nat.lt_of_lt_of_le (h.lt b e) hb.size⟩
def cat (ps : List Pt) : List Int := (ps.map Pt.l).flatten
theorem cat_snoc (ps : List Pt) (k : Nat) (h : k < ps.length) : cat (ps.take (k + 1)) = cat (ps.take k) ++ ps[k].l := by
 unfold cat
 rw [List.take_succ_eq_append_getElem h, List.map_append, List.flatten_append]; simp
theorem cat_take_le (ps : List Pt) (k : Nat) : (cat (ps.take k)).length ≤ (cat ps).length := by
 conv => rhs; rw [← List.take_append_drop k ps]
 unfold cat
 rw [List.map_append, List.flatten_append, List.length_append]; omega
theorem summed_ok (d : Int) (hd : Oct d) (po : Option Addr) (cap n : Nat) (ps : List Pt) (w : World) (hn : n = ps.length) (hnm : n ≤ 4611686018427387904) (hrow : RowV w po (ps.map Pt.v)) (hps : ∀ x ∈ ps, x.Ok w) :
  Calls Tryz.prog 181 #[.int .i64 d, .slice po n cap] w fun e w' => Below w.heap.size w w' ∧ ((cat ps).length ≤ 1048576 ∧ e = .returned (.tuple #[.pointer (some ⟨w.heap.size, 0, none⟩), .int .i64 0]) ∧ SumOk w' w.heap.size (start d) (cat ps) ((cat ps).length : Int) ∨ 1048576 < (cat ps).length ∧ e = .returned (.tuple #[.pointer none, .int .i64 5])) := by
 obtain ⟨B, HB⟩ := hidE w.heap.size
 have HN := hid hn
 clear hn
 have hnew := hid (new_ok d w hd)
 have hsd := start_length d
 have hsdo := start_octs hd
 go_enter Tryz.func181, Tryz.ntmps181
 go_wp2_with (first | (go_at_call 286; refine hnew.out.mono ?_; rintro e w1 ⟨rfl, hb1, hS1⟩; rw [← HB.out] at hb1 hS1; rw [← HB.out]))
 go_loopw [21] (fun i wr => ∃ k : Nat, k ≤ n ∧ i = .int .i64 k ∧ SumOk wr B (start d) (cat (ps.take k)) ((cat (ps.take k)).length : Int) ∧ (cat (ps.take k)).length ≤ 1048576 ∧ Below B w wr) (fun i _ => n - (intOf i).toNat)
 case atStart => exact ⟨0, by omega, rfl, hS1, by simp [cat], hb1⟩
 case round =>
  obtain ⟨k, hk, rfl, hS, hle, hb⟩ := hrel
  obtain ⟨tl, HTL⟩ := hidE ((cat (ps.take k)).length)
  rw [← HTL.out] at hS hle
  by_cases h0 : k < n
  ·have hkI : (k : Int) < (n : Int) := by omega
   have hkp : k < ps.length := by have := HN.out; omega
   have hkm : k < (ps.map Pt.v).length := by rw [List.length_map]; exact hkp
   obtain ⟨b, off, rfl, hbw, hcell⟩ := hrow.resolve_left (by intro e; rw [e] at hkm; cases hkm)
   have hx := hps ps[k] (List.getElem_mem hkp)
   have hc := hcell k _ (List.getElem?_eq_getElem hkm)
   rw [List.getElem_map] at hc
   obtain ⟨xa, HXA⟩ := hidE ((ps[k]'hkp).a)
   obtain ⟨xc, HXC⟩ := hidE ((ps[k]'hkp).c)
   obtain ⟨xl, HXL⟩ : ∃ xl : List Int, Hid (xl = (ps[k]'hkp).l) := ⟨_, rfl⟩
   obtain ⟨m, HM⟩ := hidE xl.length
   have hv : Pt.v ps[k] = .slice xa m xc := by rw [HM.out, HXA.out, HXC.out, HXL.out]; rfl
   rw [hv] at hc
   have hcw : wr.cell? ⟨b, off + k, none⟩ = some (.slice xa m xc) := by rw [hb.cell (p := ⟨b, off + k, none⟩) (by rw [HB.out]; exact hbw)]; exact hc
   have hxw := hx.below (by rw [← HB.out]; exact hb)
   have hxr : RowI .u8 wr xa xl := by rw [HXA.out, HXL.out]; exact hxw.row
   have hxl : m ≤ xc := by rw [HM.out, HXL.out, HXC.out]; exact hxw.len
   have hxm : xc ≤ maxLen := by rw [HXC.out]; exact hxw.cap
   have hxo : Octs xl := by rw [HXL.out]; exact hxw.oct
   have hxp : ∀ b, xa = some b → b.block ≠ B := by rw [HXA.out, HB.out]; intro b e; have := hx.lt b e; omega
   have hcat : cat (ps.take (k + 1)) = cat (ps.take k) ++ xl := by rw [HXL.out]; exact cat_snoc ps k hkp
   have hwo := fun h => hid (write_ok B (start d) (cat (ps.take k)) xl xa xc m tl wr HM.out hxl hxm hsd hsdo hxo hxr hxp HTL.out hS h)
   have hwl := fun h => hid (write_large B (start d) (cat (ps.take k)) xa xc m tl wr hxl hxm hsd hle hS h)
   have HCAT := hid hcat
   clear hc hcell hv hx hxw hcat hkm hxm hps
   by_cases h1 : tl + m ≤ 1048576
   ·have hw1 := hwo h1
    clear hwo hwl
    go_wp2_with (go_at_call 287; refine hw1.out.mono ?_; rintro e w2 ⟨rfl, hg2, hS2⟩)
    go_roundw
    case rel =>
     have e1 : ((cat (ps.take (k + 1))).length : Int) = ((tl + m : Nat) : Int) := by rw [HCAT.out, List.length_append, HTL.out, HM.out]
     refine ⟨k + 1, by omega, by go_num, ?_, ?_, hb.trans (below_of_grown hg2 (by rw [HB.out]; exact hb.size) (Nat.le_refl _))⟩
     ·rw [e1, HCAT.out]; exact hS2
     ·rw [HCAT.out, List.length_append, ← HTL.out, ← HM.out]; exact h1
    case measure => simp [intOf] <;> omega
   ·have hw1 := hwl (by omega)
    clear hwo hwl
    go_wp2_with (go_at_call 287; refine hw1.out.mono ?_; rintro e w2 ⟨rfl, rfl⟩)
    go_ret2
    refine ⟨by rw [← HB.out]; exact hb, Or.inr ⟨?_, rfl⟩⟩
    have h2 := cat_take_le ps (k + 1)
    rw [HCAT.out, List.length_append, ← HTL.out, ← HM.out] at h2
    omega
  ·obtain rfl : k = n := by omega
   have e : ps.take k = ps := List.take_of_length_le (by rw [← HN.out]; exact Nat.le_refl _)
   rw [e] at hS HTL
   go_wp2
   go_ret2
   rw [← HB.out, ← HTL.out]
   exact ⟨hb, Or.inl ⟨hle, rfl, hS⟩⟩
end Go.Proofs.YtdhipjoplkpgmaaGreatDoor.hs
namespace Go.Proofs.YtdhipjoplkpgmaaGreatDoor.hs
open Go.RowKit st shr
def zSum : List Value := (List.replicate 32 (0 : Int)).map (Value.int .u8)
theorem zeroSumZ : (Tryz.prog.info? 39).map (·.zero) = some (some (.agg zSum.toArray)) := by kernel_rfl
theorem built0 : Tryz.prog.built 39 [] = some zSum.toArray := by kernel_rfl
theorem summed_in (d : Int) (hd : Oct d) (po : Option Addr) (cap n : Nat) (ps : List Pt) (w : World) (hn : n = ps.length) (hnm : n ≤ 4611686018427387904) (hrow : RowV w po (ps.map Pt.v)) (hps : ∀ x ∈ ps, x.Ok w) (h : (cat ps).length ≤ 1048576) :
  Calls Tryz.prog 181 #[.int .i64 d, .slice po n cap] w fun e w' => Below w.heap.size w w' ∧ e = .returned (.tuple #[.pointer (some ⟨w.heap.size, 0, none⟩), .int .i64 0]) ∧ SumOk w' w.heap.size (start d) (cat ps) ((cat ps).length : Int) :=
 (summed_ok d hd po cap n ps w hn hnm hrow hps).mono fun _ _ hh => ⟨hh.1, (hh.2.resolve_right fun x => absurd x.1 (Nat.not_lt.2 h)).2⟩
theorem one_part {w w0' : World} {B n cap : Nat} {ao : Option Addr} {l : List Int} (hn : n = l.length) (hb : Below B w w0') (hsz : B ≤ w0'.heap.size) (hw : w.heap.size = B) (HP : Pt.Ok w ⟨ao, cap, l⟩) {w0 : World} (h0 : w0 = w0'.alloc (.cells #[.slice ao n cap] 61)) :
  RowV w0 (some ⟨w0'.heap.size, 0, none⟩) ([(⟨ao, cap, l⟩ : Pt)].map Pt.v) ∧ ∀ x ∈ [(⟨ao, cap, l⟩ : Pt)], x.Ok w0 := by
 subst h0 hn
 refine ⟨Or.inr ⟨w0'.heap.size, 0, rfl, by simp, fun j u hu => ?_⟩, fun x hx => ?_⟩
 ·have hc := (BlkV.new 61 w0' [.slice ao l.length cap] rfl).cell j
  have e : [(⟨ao, cap, l⟩ : Pt)].map Pt.v = [.slice ao l.length cap] := rfl
  rw [e] at hu
  rw [Nat.zero_add, hc]
  exact hu
 ·rw [List.mem_singleton] at hx
  rw [hx]
  exact HP.below (by rw [hw]; exact hb.alloc hsz _)
theorem sumOf_in (d : Int) (hd : Oct d) (ao : Option Addr) (cap n : Nat) (l : List Int) (w : World) (hn : n = l.length) (HP : Pt.Ok w ⟨ao, cap, l⟩) (hm : n ≤ 1048576) :
  Calls Tryz.prog 100 #[.int .i64 d, .slice ao n cap] w fun e w' => e = .returned (.tuple #[.agg ((sumL d l).map (Value.int .u8)).toArray, .int .i64 0]) ∧ Below w.heap.size w w' := by
 obtain ⟨Y, HY⟩ := hidE zSum
 have hz32 := hid zeroSumZ
 rw [← HY.out] at hz32
 have hYl : Y.length = 32 := by rw [HY.out]; simp [zSum]
 obtain ⟨B, HB⟩ := hidE w.heap.size
 have hsz : w.heap.size = B := HB.out.symm
 obtain ⟨S, HS⟩ : ∃ S : List Int, Hid (S = sumL d l) := ⟨_, rfl⟩
 have hS1 : ∀ u ∈ S.map (Value.int .u8), u.oneCell' = true := ints_one _ _
 have hSm : (S.map (Value.int .u8)).length = 32 := by rw [List.length_map, HS.out, sumL_length]
 rw [← HS.out]
 have HN := hid hn
 clear hn
 have hsum := fun w1 (hb : Below B w w1) (hs : w1.heap.size = B + 1) => hid (summed_in d hd (some ⟨B + 1, 0, none⟩) 1 1 [⟨ao, cap, l⟩] (w1.alloc (.cells #[.slice ao n cap] 61)) rfl (by omega) (hs ▸ (one_part HN.out hb (by omega) hsz HP rfl).1) (one_part HN.out hb (by omega) hsz HP rfl).2 (by simp [cat]; rw [← HN.out]; exact hm))
 have ec : cat [⟨ao, cap, l⟩] = l := by simp [cat]
 rw [ec, ← HN.out] at hsum
 have hend := fun p w => hid (sum_ok p d l n w hd HN.out)
 rw [← HS.out] at hend
 have hmH := hid hm
 clear hm
 go_enter Tryz.func100, Tryz.ntmps100
 go_wp2_with (first | (refine wl_allocV rfl 39 rfl Y hz32.out B hsz ?_; intro w1 hR1 hb1 hs1; clear hz32) | (go_at_call 181; refine (hsum w1 hb1 hs1).out.mono ?_; rintro e w2 ⟨hb2, rfl, hS2⟩; have ha : (w1.alloc (.cells #[.slice ao n cap] 61)).heap.size = B + 2 := (by simp [hs1]); rw [ha] at hb2 hS2; rw [ha]; have hR2 := (hR1.alloc (.cells #[.slice ao n cap] 61)).below hb2 (by omega); have bb2 : Below B w w2 := (hb1.alloc (by omega) _).trans (hb2.mono (by omega)); clear hb2 hR1 hb1 hsum) | (go_at_call 182; refine ((hend _ w2).out hmH.out hS2).mono ?_; rintro e w3 ⟨rfl, hb3⟩; have hR3 := hR2.below hb3 (by have := hS2.lt; omega); have bb3 : Below B w w3 := bb2.trans (hb3.mono (by have := hS2.lt; omega)); clear hR2 hS2 bb2 hb3) | (refine wl_storeV rfl 39 _ _ rfl 39 B rfl (S.map (Value.int .u8)) rfl 32 aggSumT hSm Y hR3 hYl hS1 ?_; intro w4 hR4 hb4 hs4))
 (try simp only [Exit.inBlock, Exit.then]); refine bodyPost_ret (results_cell2 rfl _ _ _ _ rfl (S.map (Value.int .u8)) (by rw [hSm]; exact aggSumT) hR4.at0) rfl ?_
 exact ⟨rfl, by rw [← HB.out]; exact bb3.trans hb4⟩
end Go.Proofs.YtdhipjoplkpgmaaGreatDoor.hs
namespace Go.Proofs.YtdhipjoplkpgmaaGreatDoor.hs
open Go.RowKit st shr
theorem o4_length (n : Int) : (o4 n).length = 4 := rfl
theorem octets4 (n : Int) (w : World) : Calls Tryz.prog 251 #[.int .u32 n] w fun e w' => e = .returned (.agg ((o4 n).map (Value.int .u8)).toArray) ∧ Below w.heap.size w w' := octets' n w
theorem rowI_belowB {k : IntKind} {w w' : World} {ao : Option Addr} {l : List Int} {B : Nat} (h : RowI k w ao l) (hb : Below B w w') (hlt : ∀ b, ao = some b → b.block < B) : RowI k w' ao l := by
 rcases h with h | ⟨g, off, rfl, hl, hc⟩
 ·exact Or.inl h
 ·exact Or.inr ⟨g, off, rfl, Nat.lt_of_lt_of_le hl hb.size, fun i hi => by rw [hb.cell (p := ⟨g, off + i, none⟩) (show g < B from hlt ⟨g, off, none⟩ rfl)]; exact hc i hi⟩
theorem agg4 : Agg Tryz.prog 334 4 := Agg.arr Tryz.underlying334 (by kernel_rfl)
theorem zeroA4 : (Tryz.prog.info? 334).map (·.zero) = some (some (.agg ((List.replicate 4 (0 : Int)).map (Value.int .u8)).toArray)) := by kernel_rfl
end Go.Proofs.YtdhipjoplkpgmaaGreatDoor.hs
