/-
  Contracts of package slices at []int. Conditions: the bounds that append asks. Contracts of package slices at []byte. Conditions: the bounds that append asks.
-/
import Derived.Test.YtdhipjoplkpgmaaGreatDoorHMem
import Derived.Lib.SliceRun
import Derived.Lib.AppendZeros
set_option maxRecDepth 100000
set_option linter.unusedSimpArgs false
set_option linter.unusedVariables false
set_option maxHeartbeats 1000000
namespace Go.Proofs.YtdhipjoplkpgmaaGreatDoor.slInt
open Go.RowKit
theorem info : Info Tryz.prog 3 (.int .i64 0) 1 8 := by unfold Info; kernel_rfl
theorem bel2 {w w1 w2 : World} {row : Option Nat} (h : Below w.heap.size w w1) (hg : w1.grownBy w2 row) (hr : ∀ k, row = some k → w.heap.size ≤ k) : Below w.heap.size w w2 := h.grown hg h.size hr
structure Part where
 ao : Option Addr
 n : Nat
 cap : Nat
 cells : List Value
def Part.val (p : Part) : Value := .slice p.ao p.n p.cap
def Part.ok (w : World) (p : Part) : Prop := RowV w p.ao p.cells ∧ p.cells.length = p.n * 1 ∧ (∀ u ∈ p.cells, u.oneCell' = true) ∧ (p.ao = none → p.cap = 0)
def noPart : Part := ⟨none, 0, 0, []⟩
def sumN : List Part → Nat
 | [] => 0
 | p :: l => p.n + sumN l
def flat : List Part → List Value
 | [] => []
 | p :: l => p.cells ++ flat l
theorem sumN_append (l m : List Part) : sumN (l ++ m) = sumN l + sumN m := by
 induction l with
 | nil => simp [sumN]
 | cons p l ih => simp [sumN, ih]; omega
theorem flat_append (l m : List Part) : flat (l ++ m) = flat l ++ flat m := by
 induction l with
 | nil => rfl
 | cons p l ih => simp [flat, ih]
theorem sumN_take (l : List Part) (k : Nat) (hk : k < l.length) : sumN (l.take (k + 1)) = sumN (l.take k) + (l.getD k noPart).n := by
 rw [List.take_succ_eq_append_getElem hk, sumN_append, getD_lt' l noPart hk]; simp [sumN]
theorem flat_take (l : List Part) (k : Nat) (hk : k < l.length) : flat (l.take (k + 1)) = flat (l.take k) ++ (l.getD k noPart).cells := by
 rw [List.take_succ_eq_append_getElem hk, flat_append, getD_lt' l noPart hk]; simp [flat]
theorem sumN_le (l : List Part) (k : Nat) : sumN (l.take k) ≤ sumN l := by
 conv => rhs; rw [← List.take_append_drop k l]
 rw [sumN_append]; omega
def Parts (w : World) (ps : List Part) (po : Addr) : Prop := po.spot = none ∧ po.block < w.heap.size ∧ ∀ k, k < ps.length → w.cell? ⟨po.block, po.off + k, none⟩ = some (ps.getD k noPart).val
theorem Parts.below {w w' : World} {ps : List Part} {po : Addr} (h : Parts w ps po) (hb : Below w.heap.size w w') : Parts w' ps po :=
 ⟨h.1, Nat.lt_of_lt_of_le h.2.1 hb.size, fun k hk => by rw [hb.cell (p := ⟨po.block, po.off + k, none⟩) h.2.1]; exact h.2.2 k hk⟩
def findI {α : Type} (p : α → Bool) : List α → Nat → Int
 | [], _ => -1
 | x :: l, i => if p x then (i : Int) else findI p l (i + 1)
theorem findI_drop {α : Type} (p : α → Bool) (l : List α) (d : α) (k : Nat) (hk : k < l.length) : findI p (l.drop k) k = if p (l.getD k d) then (k : Int) else findI p (l.drop (k + 1)) (k + 1) := by
 have e : l.drop k = l[k] :: l.drop (k + 1) := List.drop_eq_getElem_cons hk
 rw [e, getD_lt' l d hk]
 rfl
theorem Index_any (ao : Option Addr) (cap : Nat) (l : List Int) (x : Int) (w : World) (hr : RowI .i64 w ao l) (hn : l.length ≤ 4611686018427387904) :
  Calls Tryz.prog 275 #[.slice ao l.length cap, .int .i64 x] w fun e w' => e = .returned (.int .i64 (findI (fun y => x == y) l 0)) ∧ w = w' := by
 go_enter Tryz.func275, Tryz.ntmps275
 go_wp2
 go_loop [5, 8] (fun _ i => ∃ k : Nat, k ≤ l.length ∧ i = .int .i64 k ∧ Hid (findI (fun y => x == y) (l.drop k) k = findI (fun y => x == y) l 0)) (fun _ i => l.length - (intOf i).toNat)
 case atStart => exact ⟨0, Nat.zero_le _, rfl, rfl⟩
 case round =>
  obtain ⟨k, hk, rfl, HA⟩ := hrel
  by_cases h0 : k < l.length
  ·obtain ⟨b, off, c, rfl, hb, HC, hcell⟩ := hr.elem (i := k) h0
   have HD := findI_drop (fun y => x == y) l 0 k h0
   rw [← HC.out, HA.out] at HD
   replace HD := hid HD
   cases hc : (x == c)
   ·have HN := hid hc
    go_wp2
    go_round
    case rel => exact ⟨k + 1, by omega, by go_num, by show _ = _; rw [HD.out, if_neg (by rw [HN.out]; simp)]⟩
    case measure => simp [intOf] <;> omega
   ·have HN := hid hc
    go_wp2
    go_ret
    exact ⟨rv (ri (by rw [HD.out, if_pos HN.out])), rfl⟩
  ·go_wp2
   go_ret
   exact ⟨rv (ri (by rw [← HA.out, List.drop_eq_nil_of_le (by omega)]; rfl)), rfl⟩
end Go.Proofs.YtdhipjoplkpgmaaGreatDoor.slInt
namespace Go.Proofs.YtdhipjoplkpgmaaGreatDoor.slB
open Go.RowKit
theorem info : Info Tryz.prog 5 (.int .u8 0) 1 1 := by unfold Info; kernel_rfl
theorem bel2 {w w1 w2 : World} {row : Option Nat} (h : Below w.heap.size w w1) (hg : w1.grownBy w2 row) (hr : ∀ k, row = some k → w.heap.size ≤ k) : Below w.heap.size w w2 := h.grown hg h.size hr
theorem Grow_nil (n : Nat) (w : World) (hn : n * 1 ≤ 140737488355328) :
  Calls Tryz.prog 191 #[.slice none 0 0, .int .i64 n] w fun e w' => ∃ v, e = .returned v ∧ Mine w' w.heap.size 5 1 v 0 [] ∧ Below w.heap.size w w' := by
 obtain ⟨i, hi, hz, hs, hb⟩ := info.parts
 by_cases h0 : 0 < n
 ·have happ := fun w => Lib.run_append_nil_zeros (P := Tryz.prog) w 61 3 61 5 i (.int .u8 0) .i64 .i64 Tryz.underlying61 Tryz.underlying3 hi hz n h0 (by rw [hs]; decide) (by omega) (by rw [hb]; omega)
  have hge := grownCap_ge w n 0 5
  have hle := grownCap_le_maxLen w n 0 5 (by unfold maxLen; omega)
  obtain ⟨C, HC⟩ := hidE (grownCap w n 0 5)
  have happ0 := happ w
  rw [← HC.out] at happ0 hge hle
  have HLE := hid hle
  have HAPP := hid happ0
  clear happ hle happ0 hi hz hs hb
  go_enter Tryz.func191, Tryz.ntmps191
  go_wp2_with (at_builtin; refine Lib.wpList_append_run _ rfl _ _ _ _ rfl _ _ rfl rfl _ _ HAPP.out ?_)
  go_ret
  refine ⟨_, rfl, Or.inl ⟨by simp, Or.inr ⟨w.heap.size, C, _, rfl, Nat.le_refl _, heap_alloc_new w.drew _, Nat.zero_le _, HLE.out, ?_, by simp⟩⟩, ((Below.refl _ _).drew).alloc (by simp) _⟩
  simp [Builtin.zeroCells, Value.cells]
  omega
 ·obtain rfl : n = 0 := by omega
  go_enter Tryz.func191, Tryz.ntmps191
  go_wp2
  go_ret
  exact ⟨_, rfl, Mine.nil _ _ _ _, Below.refl _ _⟩
structure Part where
 ao : Option Addr
 n : Nat
 cap : Nat
 cells : List Value
def Part.val (p : Part) : Value := .slice p.ao p.n p.cap
def Part.ok (w : World) (p : Part) : Prop := RowV w p.ao p.cells ∧ p.cells.length = p.n * 1 ∧ (∀ u ∈ p.cells, u.oneCell' = true) ∧ (p.ao = none → p.cap = 0)
def noPart : Part := ⟨none, 0, 0, []⟩
def sumN : List Part → Nat
 | [] => 0
 | p :: l => p.n + sumN l
def flat : List Part → List Value
 | [] => []
 | p :: l => p.cells ++ flat l
theorem sumN_append (l m : List Part) : sumN (l ++ m) = sumN l + sumN m := by
 induction l with
 | nil => simp [sumN]
 | cons p l ih => simp [sumN, ih]; omega
theorem flat_append (l m : List Part) : flat (l ++ m) = flat l ++ flat m := by
 induction l with
 | nil => rfl
 | cons p l ih => simp [flat, ih]
theorem sumN_take (l : List Part) (k : Nat) (hk : k < l.length) : sumN (l.take (k + 1)) = sumN (l.take k) + (l.getD k noPart).n := by
 rw [List.take_succ_eq_append_getElem hk, sumN_append, getD_lt' l noPart hk]; simp [sumN]
theorem flat_take (l : List Part) (k : Nat) (hk : k < l.length) : flat (l.take (k + 1)) = flat (l.take k) ++ (l.getD k noPart).cells := by
 rw [List.take_succ_eq_append_getElem hk, flat_append, getD_lt' l noPart hk]; simp [flat]
theorem sumN_le (l : List Part) (k : Nat) : sumN (l.take k) ≤ sumN l := by
 conv => rhs; rw [← List.take_append_drop k l]
 rw [sumN_append]; omega
def Parts (w : World) (ps : List Part) (po : Addr) : Prop := po.spot = none ∧ po.block < w.heap.size ∧ ∀ k, k < ps.length → w.cell? ⟨po.block, po.off + k, none⟩ = some (ps.getD k noPart).val
theorem Parts.below {w w' : World} {ps : List Part} {po : Addr} (h : Parts w ps po) (hb : Below w.heap.size w w') : Parts w' ps po :=
 ⟨h.1, Nat.lt_of_lt_of_le h.2.1 hb.size, fun k hk => by rw [hb.cell (p := ⟨po.block, po.off + k, none⟩) h.2.1]; exact h.2.2 k hk⟩
theorem Concat_any (ps : List Part) (pb po pc : Nat) (w : World) (hp : Parts w ps ⟨pb, po, none⟩) (hok : ∀ p ∈ ps, p.ok w) (hb : sumN ps * 1 ≤ 140737488355328) (hn : ps.length ≤ 1000000) :
  Calls Tryz.prog 112 #[.slice (some ⟨pb, po, none⟩) ps.length pc] w fun e w' => ∃ v, e = .returned v ∧ Mine w' w.heap.size 5 1 v (sumN ps) (flat ps) ∧ Below w.heap.size w w' := by
 go_enter Tryz.func112, Tryz.ntmps112
 go_wp2
 go_loop [3, 11] (fun s i => ∃ k z : Nat, k ≤ ps.length ∧ i = .int .i64 k ∧ s = .int .i64 z ∧ Hid (z = sumN (ps.take k))) (fun _ i => ps.length - (intOf i).toNat)
 case atStart => exact ⟨0, 0, Nat.zero_le _, rfl, rfl, rfl⟩
 case round =>
  obtain ⟨k, z, hk, rfl, rfl, HZ⟩ := hrel
  have hz := sumN_le ps k
  rw [← HZ.out] at hz
  by_cases h0 : k < ps.length
  ·obtain ⟨p, HP⟩ := hidE (ps.getD k noPart)
   have hc := hp.2.2 k h0
   rw [← HP.out] at hc
   unfold Part.val at hc
   have hz1 := sumN_le ps (k + 1)
   rw [sumN_take ps k h0, ← HP.out, ← HZ.out] at hz1
   go_wp2
   go_round
   case rel => exact ⟨k + 1, z + p.n, by omega, by go_num, by go_num, by show z + p.n = _; rw [sumN_take ps k h0, ← HP.out, HZ.out]⟩
   case measure => simp [intOf] <;> omega
  ·have HE : Hid (sumN ps = z) := by show sumN ps = z; rw [HZ.out, List.take_of_length_le (by omega)]
   go_wp2_with fail
   refine (Grow_nil z w (by omega)).mono ?_
   rintro e w1 ⟨v, rfl, hM, hbl⟩
   go_wp2_with fail
   go_loopw [6, 27] (fun s i wr => ∃ k : Nat, k ≤ ps.length ∧ i = .int .i64 k ∧ Mine wr w.heap.size 5 1 s (sumN (ps.take k)) (flat (ps.take k)) ∧ Below w.heap.size w wr) (fun _ i _ => ps.length - (intOf i).toNat)
   case atStart => exact ⟨0, Nat.zero_le _, rfl, hM, hbl⟩
   case round =>
    rename_i sv _
    obtain ⟨j, hj, rfl, hMj, hbj⟩ := hrel
    by_cases h1 : j < ps.length
    ·obtain ⟨p, HP⟩ := hidE (ps.getD j noPart)
     have hc := (hp.below hbj).2.2 j h1
     rw [← HP.out] at hc
     unfold Part.val at hc
     have hpo := hok p (by rw [HP.out, getD_lt' ps noPart h1]; exact List.getElem_mem h1)
     obtain ⟨q1, q2, q3, q4⟩ := hpo
     have Q2 := hid q2
     have hz1 := sumN_le ps (j + 1)
     rw [sumN_take ps j h1, ← HP.out] at hz1
     have hrow := q1.below hbj
     have HT : Hid (sumN (ps.take (j + 1)) = sumN (ps.take j) + p.n ∧ flat (ps.take (j + 1)) = flat (ps.take j) ++ p.cells) := ⟨by rw [sumN_take ps j h1, HP.out], by rw [flat_take ps j h1, HP.out]⟩
     obtain ⟨sn, SN⟩ := hidE (sumN (ps.take j))
     rw [← SN.out] at hMj hz1 HT
     have hsz := hbj.size
     clear q1 q2
     go_wp2_with (at_builtin; refine wl_append rfl _ _ 61 rfl 5 (.int .u8 0) 1 1 Tryz.underlying61 info rfl (by decide) w.heap.size _ sn _ rfl hMj p.ao p.n p.cap rfl q4 p.cells Q2.out hrow q3 (by unfold maxLen; omega) (by omega) hsz ?_; intro v' w' row hM' hg' hrow')
     go_roundw
     case rel => exact ⟨j + 1, by omega, by go_num, by rw [HT.out.1, HT.out.2]; exact hM', bel2 hbj hg' fun k hk => (hrow' k hk).1⟩
     case measure => simp [intOf] <;> omega
    ·have HE2 : Hid (ps.take j = ps) := List.take_of_length_le (by omega)
     go_wp2
     go_ret
     rw [HE2.out] at hMj
     exact ⟨_, rfl, hMj, hbj⟩
theorem Concat_two (p q : Part) (g : Nat) (w : World) (hg : w.heap[g]? = some (.cells #[p.val, q.val] 61 (0, 0))) (hp : p.ok w) (hq : q.ok w) (hb : (p.n + q.n) * 1 ≤ 140737488355328) :
  Calls Tryz.prog 112 #[.slice (some ⟨g, 0, none⟩) 2 2] w fun e w' => ∃ v, e = .returned v ∧ Mine w' w.heap.size 5 1 v (p.n + q.n) (p.cells ++ q.cells) ∧ Below w.heap.size w w' := by
 have h := Concat_any [p, q] g 0 2 w ⟨rfl, lt_of_block hg, fun k hk => ?_⟩ ?_ ?_ (by simp)
 ·simpa [sumN, flat] using h
 ·simp only [List.length_cons, List.length_nil] at hk
  rw [Nat.zero_add, cell_of_row w g k _ _ _ hg]
  match k, hk with
  | 0, _ => rfl
  | 1, _ => rfl
 ·intro r hr
  simp at hr
  rcases hr with rfl | rfl
  ·exact hp
  ·exact hq
 ·simpa [sumN] using hb
end Go.Proofs.YtdhipjoplkpgmaaGreatDoor.slB
