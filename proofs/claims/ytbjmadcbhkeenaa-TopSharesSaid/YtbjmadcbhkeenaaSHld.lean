/-
  A region that draws its order, walked by hand: reading operations are taken first, each by its own law; whole loads, literals, new variables and stores as steps. Conditions: what each names. Reading operations of a region that draws its order, in short words. Conditions: what each names. Contracts of slices.Reverse at []int, of the closure of share.divide, and of share.divide. Conditions: rows of at most 100 numbers from 0 to 256 that lie in memory. Contract of share.divide. Conditions: rows of at most 100 numbers from 0 to 256 that lie in memory. Sums: a summer takes octets in. Conditions: as each theorem says. Sums: Sum, NewSummer, summed, SumOf, Sums. Conditions: as each theorem says. The reference of sums: state, Sum, short, Framed. Conditions: as each theorem says.
-/
import Derived.Test.YtbjmadcbhkeenaaSShF
import Derived.Test.YtbjmadcbhkeenaaSGsD
import Derived.Test.YtbjmadcbhkeenaaSShr
import Derived.Test.YtbjmadcbhkeenaaSShM
import Derived.Test.YtbjmadcbhkeenaaSStG
import Derived.Test.YtbjmadcbhkeenaaSShXY
import Derived.Deep.RegionHeld3
namespace Go.Proofs.Ytbjmadcbhkeenaa
set_option linter.unusedSimpArgs false
set_option linter.unusedVariables false
open Go.RowKit
section
variable {P : Program} {md : Region.Mode} {ops : Array Oper} {Q : Exit → Act → World → Prop} {S : World → Prop}
/-- number i is taken first; its operation is read off the list of operations -/
theorem take_l {i : Nat} {oi : Oper} {v : Value} {fuel : Nat} {listed : Array Bool} {a : Act} {w : World} (hi : ops.toList[i]? = some oi)
    (hs : Region.noSelect ops = true) (hf : Region.free md ops listed i = true) (hr : (Region.ready md ops listed).contains i = true)
    (hQ : ∀ c a w, Q (.panic c) (a.put oi.dst v) w → Q (.panic c) a w) (hy : YieldsIf P ops S oi v a) (hS : S w)
    (h : wpAnyH P md ops Q S fuel (listed.setIfInBounds i true) (a.put oi.dst v) w) : wpAnyH P md ops Q S (fuel + 1) listed a w :=
  wpAnyH_take (by simpa using hi) hs hf hr hQ hy hS h
theorem cons_l {fuel : Nat} {listed : Array Bool} {a : Act} {w : World} {i : Nat} {o : Oper} {rs : List Nat} (ho : ops.toList[i]? = some o)
    (h : ∀ K' : Act → World → Prop, Shut (∀ a w, S w → (S w → wpAnyH P md ops Q S fuel (listed.setIfInBounds i true) a w) → K' a w) → if Region.wanted o (yielded ops a.tmps) = true then Oper.wp P o a w K' Q else K' (a.put o.dst undef) w)
    (hs : AllReadyH P md ops Q S fuel listed a w rs) : AllReadyH P md ops Q S fuel listed a w (i :: rs) :=
  AllReadyH.cons (by simpa using ho) h hs
end
theorem step_allocV {P : Program} {ops : Array Oper} {o : Oper} {a : Act} {w : World} {K : Act → World → Prop} {Q : Exit → Act → World → Prop} {E : Prop} (hgd : o.guard = none) (t : TypeId) (ho : o.op = .alloc t)
    (cs : List Value) (hz : (P.info? t).map (·.zero) = some (some (.agg cs.toArray))) (N : Nat) (hN : w.heap.size = N)
    (h : ∀ w', BlkV t w' N cs → Below N w w' → w'.heap.size = N + 1 → K (a.put o.dst (.pointer (some ⟨N, 0, none⟩))) w') : if Region.wanted o (yielded ops a.tmps) = true then Oper.wp P o a w K Q else E := by
  subst hN
  have hw : Region.wanted o (yielded ops a.tmps) = true := by simp [Region.wanted, hgd]
  rw [if_pos hw]
  obtain ⟨i, hi, hs⟩ := Option.map_eq_some_iff.1 hz
  unfold Oper.wp
  simp [execOp, ho, Instr.alloc, zeroValue, typeInfo, hi, hs, newVar, newRow, Value.cells, Result.andThen]
  exact h _ (BlkV.new t w cs rfl) ((Below.refl _ _).alloc (Nat.le_refl _) _) (by simp)
theorem step_storeV {P : Program} {ops : Array Oper} {o : Oper} {a : Act} {w : World} {K : Act → World → Prop} {Q : Exit → Act → World → Prop} {E : Prop} (hgd : o.guard = none) (ty : TypeId) (x y : Operand) (ho : o.op = .store ty x y)
    (t : TypeId) (g : Nat) (hx : a.eval x = .pointer (some ⟨g, 0, none⟩)) (cs : List Value) (hy : a.eval y = .agg cs.toArray) (n : Nat) (hi : Agg P ty n) (hn : cs.length = n) (cur : List Value) (hg : BlkV t w g cur) (hc : cur.length = n) (h1 : ∀ u ∈ cs, u.oneCell' = true)
    (h : ∀ w', BlkV t w' g cs → Below g w w' → w'.heap.size = w.heap.size → K (a.put o.dst undef) w') : if Region.wanted o (yielded ops a.tmps) = true then Oper.wp P o a w K Q else E := by
  have hw : Region.wanted o (yielded ops a.tmps) = true := by simp [Region.wanted, hgd]
  rw [if_pos hw]
  have hrun := run_store_agg (P := P) w ty t g 0 cur cs (by rw [hi.2, hn]) hg (by omega) h1
  rw [List.take_zero, List.nil_append, Nat.zero_add, List.drop_eq_nil_of_le (by omega), List.append_nil] at hrun
  unfold Oper.wp
  simp [execOp, ho, hx, hy, Instr.storeAt, Instr.sureAddr, hrun, Result.andThen]
  exact h _ (hg.setRow cs) (below_setRow' (Below.refl _ _) (Nat.le_refl _) _) (by simp)
end Go.Proofs.Ytbjmadcbhkeenaa
namespace Go.Proofs.Ytbjmadcbhkeenaa
set_option linter.unusedSimpArgs false
set_option linter.unusedVariables false
open Go.RowKit
section
variable {P : Program} {md : Region.Mode} {ops : Array Oper} {Q : Exit → Act → World → Prop} {S : World → Prop}
theorem tkR (i : Nat) {oi : Oper} {v : Value} {fuel : Nat} {listed : Array Bool} {a : Act} {w : World} (hi : ops.toList[i]? = some oi) (hy : YieldsIf P ops S oi v a) (hS : S w)
    (h : wpAnyH P md ops Q S fuel (listed.setIfInBounds i true) (a.put oi.dst v) w)
    (hs : Region.noSelect ops = true := by kernel_rfl) (hf : Region.free md ops listed i = true := by kernel_rfl) (hr : (Region.ready md ops listed).contains i = true := by kernel_rfl)
    (hQ : ∀ c a w, Q (.panic c) (a.put oi.dst v) w → Q (.panic c) a w := by exact fun _ _ _ h => h) : wpAnyH P md ops Q S (fuel + 1) listed a w :=
  take_l hi hs hf hr hQ hy hS h
theorem tkP (i : Nat) {oi : Oper} {fuel : Nat} {listed : Array Bool} {a : Act} {w : World} (hi : ops.toList[i]? = some oi) (hS : S w)
    (h : ∃ v, (∀ w, S w → (execOp a.eval oi).run P w = .ok (.value v) w) ∧ wpAnyH P md ops Q S fuel (listed.setIfInBounds i true) (a.put oi.dst v) w)
    (hs : Region.noSelect ops = true := by kernel_rfl) (hf : Region.free md ops listed i = true := by kernel_rfl) (hr : (Region.ready md ops listed).contains i = true := by kernel_rfl) (hw : Region.wanted oi (yielded ops a.tmps) = true := by rfl)
    (hQ : ∀ v c a w, Q (.panic c) (a.put oi.dst v) w → Q (.panic c) a w := by exact fun _ _ _ _ h => h) : wpAnyH P md ops Q S (fuel + 1) listed a w := by
  obtain ⟨v, h1, h2⟩ := h
  exact take_l hi hs hf hr (hQ v) (Or.inl ⟨hw, h1⟩) hS h2
end
theorem sArr {α : Type} (l : List α) (i : Nat) (x : α) : l.toArray.setIfInBounds i x = (l.set i x).toArray := by simp
theorem sZ {α : Type} (a x : α) (l : List α) : (a :: l).set 0 x = x :: l := rfl
theorem sS {α : Type} (a x : α) (l : List α) (n : Nat) : (a :: l).set (n + 1) x = a :: l.set n x := rfl
end Go.Proofs.Ytbjmadcbhkeenaa
namespace Go.Proofs.Ytbjmadcbhkeenaa.gs
open Go.RowKit Go.Proofs.Ytbjmadcbhkeenaa.Fld Go.Proofs.Ytbjmadcbhkeenaa.sh Go.Proofs.Ytbjmadcbhkeenaa.shr Go.Proofs.Ytbjmadcbhkeenaa.slInt
set_option linter.unusedSimpArgs false
set_option linter.unusedVariables false
set_option pp.maxSteps 6000
/-- nothing but the block g is changed -/
structure KeptBut (B g : Nat) (w w' : World) : Prop where
  below : Below B w w'
  size : w'.heap.size = w.heap.size
  kept : ∀ k, k ≠ g → w'.heap[k]? = w.heap[k]?
theorem KeptBut.refl (B g : Nat) (w : World) : KeptBut B g w w := ⟨Below.refl _ _, rfl, fun _ _ => rfl⟩
theorem KeptBut.set {B g : Nat} {w w' : World} (h : KeptBut B g w w') (hB : B ≤ g) (i : Nat) (v : Value) : KeptBut B g w (w'.setCell ⟨g, i, none⟩ v) :=
  ⟨h.below.setCell hB _, by rw [← h.size]; simp, fun k hk => (heap_setCell_other w' ⟨g, i, none⟩ k v hk).trans (h.kept k hk)⟩
theorem KeptBut.drew {B g : Nat} {w w' : World} (h : KeptBut B g w w') : KeptBut B g w w'.drew := ⟨h.below.drew, h.size, h.kept⟩
def revAt (l L : List Int) (i : Nat) : Prop := L.length = l.length ∧ ∀ m, m < l.length → L.getD m 0 = if m < i ∨ l.length - i ≤ m then l.getD (l.length - 1 - m) 0 else l.getD m 0
theorem revAt_zero (l : List Int) : revAt l l 0 := ⟨rfl, fun m hm => by rw [if_neg (by omega)]⟩
theorem revAt_end {l L : List Int} {i : Nat} (h : revAt l L i) (hi : l.length ≤ 2 * i + 1) : L = l.reverse := by
  apply List.ext_getElem?
  intro m
  by_cases hm : m < l.length
  · rw [List.getElem?_eq_getElem (by rw [h.1]; exact hm), List.getElem?_eq_getElem (by simpa using hm), ← getD_lt' L 0 (by rw [h.1]; exact hm), ← getD_lt' l.reverse 0 (by simpa using hm), h.2 m hm, getD_reverse l m hm]
    split
    · rfl
    · rw [show l.length - 1 - m = m by omega]
  · rw [List.getElem?_eq_none (by rw [h.1]; omega), List.getElem?_eq_none (by simp; omega)]
theorem revAt_succ {l L : List Int} {i j : Nat} (h : revAt l L i) (hj : j + i + 1 = l.length) (hij : i < j) : revAt l ((L.set i (L.getD j 0)).set j (L.getD i 0)) (i + 1) := by
  refine ⟨by simp [h.1], fun m hm => ?_⟩
  have hj' := h.2 j (by omega)
  have hi' := h.2 i (by omega)
  rw [if_neg (by omega)] at hj' hi'
  rw [getD_set, List.length_set, h.1]
  by_cases e : j = m
  · subst e
    rw [if_pos ⟨rfl, hm⟩, if_pos (by omega), hi']
    congr 1; omega
  · rw [if_neg (fun h => e h.1.symm), getD_set, h.1]
    by_cases e2 : i = m
    · subst e2
      rw [if_pos ⟨rfl, hm⟩, if_pos (by omega), hj']
      congr 1; omega
    · rw [if_neg (fun h => e2 h.1.symm), h.2 m hm]
      by_cases e3 : m < i ∨ l.length - i ≤ m
      · rw [if_pos e3, if_pos (by omega)]
      · rw [if_neg e3, if_neg (by omega)]
theorem Reverse_any (B g n cap : Nat) (l : List Int) (w : World) (hn : n = l.length) (h1 : 1 ≤ n) (hmax : n ≤ 100) (hR : RowB 3 w g (l.map (Value.int .i64))) (hB : B ≤ g) :
    Calls Try.prog 56 #[.slice (some ⟨g, 0, none⟩) n cap] w fun e w' => e = .returned (.tuple #[]) ∧ RowB 3 w' g (l.reverse.map (Value.int .i64)) ∧ KeptBut B g w w' := by
  have HN := hid hn; clear hn
  go_enter Try.func56, Try.ntmps56
  go_wp2_with fail
  go_loopw [2, 3] (fun i j wr => ∃ (k q : Nat) (L : List Int), i = .int .i64 k ∧ j = .int .i64 q ∧ q + k + 1 = n ∧ k ≤ q + 1 ∧ revAt l L k ∧ RowB 3 wr g (L.map (Value.int .i64)) ∧ KeptBut B g w wr) (fun i _ _ => n - (intOf i).toNat)
  case atStart => exact ⟨0, n - 1, l, rfl, by rw [show ((n - 1 : Nat) : Int) = (n : Int) - 1 by omega], by omega, by omega, revAt_zero l, hR, KeptBut.refl _ _ _⟩
  case round =>
    clear hR
    obtain ⟨k, q, L, rfl, rfl, hq, hkq, HA, hR, hk⟩ := hrel
    have HLn : Hid (L.length = n) := hid (by rw [HA.1, HN.out])
    by_cases hc : k < q
    · have hcI : (k : Int) < (q : Int) := by omega
      have hkI : (k : Int) < (n : Int) := by omega
      have hkI0 : (0 : Int) ≤ (k : Int) := by omega
      have hqI : (q : Int) < (n : Int) := by omega
      have hqI0 : (0 : Int) ≤ (q : Int) := by omega
      have hd : decide ((k : Int) < (q : Int)) = true := decide_eq_true hcI
      obtain ⟨x, HX⟩ : ∃ x, Hid (x = L.getD k 0) := ⟨_, rfl⟩
      obtain ⟨y, HY⟩ : ∃ y, Hid (y = L.getD q 0) := ⟨_, rfl⟩
      have cx : wr.cell? ⟨g, k, none⟩ = some (.int .i64 x) := hR.cell (by rw [List.getElem?_map, List.getElem?_eq_getElem (by rw [HLn.out]; omega), HX.out, getD_lt' L 0 (by rw [HLn.out]; omega)]; rfl)
      have cy : wr.cell? ⟨g, q, none⟩ = some (.int .i64 y) := hR.cell (by rw [List.getElem?_map, List.getElem?_eq_getElem (by rw [HLn.out]; omega), HY.out, getD_lt' L 0 (by rw [HLn.out]; omega)]; rfl)
      have fx := hR.frozen k
      have fy := hR.frozen q
      have hS := hR.set k (.int .i64 y)
      have fyS := hS.frozen q
      have HNX := hid (revAt_succ HA (by rw [← HN.out]; omega) hc)
      rw [← HX.out, ← HY.out] at HNX
      obtain ⟨q', rfl⟩ : ∃ q', q = q' + 1 := ⟨q - 1, by omega⟩
      clear HA
      go_wp2_with fail
      go_region
      go_wp2_with fail
      go_roundw
      case rel =>
        refine ⟨k + 1, q', _, by go_num, by go_num, by omega, by omega, HNX.out, ?_, ?_⟩
        · rw [List.map_set, List.map_set]; exact (hS.set (q' + 1) (.int .i64 x)).drew
        · exact ((hk.set hB k (.int .i64 y)).set hB (q' + 1) (.int .i64 x)).drew
      case measure => simp [intOf] <;> omega
    · have hcI : ¬ (k : Int) < (q : Int) := by omega
      have hd : decide ((k : Int) < (q : Int)) = false := decide_eq_false hcI
      have HE := hid (revAt_end HA (by rw [← HN.out]; omega))
      go_wp2_with fail
      (try simp only [Exit.inBlock, Exit.then]); refine bodyPost_end (results_none rfl _ _ _) rfl ?_
      exact ⟨rfl, by rw [← List.map_reverse, ← HE.out]; exact hR, hk⟩
theorem divide1_any (x : Int) (w : World) : Calls Try.prog 58 #[.int .i64 x] w fun e w' => e = .returned (.bool (!(x == 0))) ∧ Below w.heap.size w w' := by
  by_cases h : x = 0
  · subst h
    go_enter Try.func58, Try.ntmps58
    go_wp2
    go_ret
    exact ⟨rfl, Below.refl _ _⟩
  · have hb : (x == 0) = false := by simp [h]
    rw [hb]
    go_enter Try.func58, Try.ntmps58
    go_wp2
    go_ret
    exact ⟨by simp [h], Below.refl _ _⟩
theorem IndexFunc_div (caps : Array Value) (p : Int → Bool) (ao : Option Addr) (cap : Nat) (l : List Int) (w : World) (hr : RowI .i64 w ao l) (hn : l.length ≤ 4611686018427387904)
    (hf : ∀ i, i < l.length → ∀ w', Below w.heap.size w w' → Calls Try.prog 58 (#[.int .i64 (l.getD i 0)] ++ caps) w' fun e w'' => e = .returned (.bool (p (l.getD i 0))) ∧ Below w'.heap.size w' w'') :
    Calls Try.prog 66 #[.slice ao l.length cap, .func (.func 58) #[] caps] w fun e w' => e = .returned (.int .i64 (findI p l 0)) ∧ Below w.heap.size w w' := by
  go_enter Try.func66, Try.ntmps66
  go_wp2
  go_loopw [5, 8] (fun _ i wr => ∃ k : Nat, k ≤ l.length ∧ i = .int .i64 k ∧ Hid (findI p (l.drop k) k = findI p l 0) ∧ Below w.heap.size w wr) (fun _ i _ => l.length - (intOf i).toNat)
  case atStart => exact ⟨0, Nat.zero_le _, rfl, rfl, Below.refl _ _⟩
  case round =>
    obtain ⟨k, hk, rfl, HA, hbl⟩ := hrel
    by_cases h0 : k < l.length
    · obtain ⟨b, off, c, rfl, hb, HC, hcell0⟩ := hr.elem (i := k) h0
      have hcell := (hbl.cell (p := ⟨b, off + k, none⟩) hb).trans hcell0
      have HD := findI_drop p l 0 k h0
      rw [← HC.out, HA.out] at HD
      replace HD := hid HD
      have HF := hf k h0 _ hbl
      rw [← HC.out] at HF
      replace HF := hid HF
      clear hf hcell0
      cases hc : p c
      · have HN := hid hc
        rw [hc] at HF
        clear hc
        go_wp2_with (go_at_call 58; refine HF.out.mono ?_; rintro e w1 ⟨rfl, hb1⟩)
        go_roundw
        case rel => exact ⟨k + 1, by omega, by go_num, by show _ = _; rw [HD.out, if_neg (by rw [HN.out]; simp)], hbl.trans (hb1.mono hbl.size)⟩
        case measure => simp [intOf] <;> omega
      · have HN := hid hc
        rw [hc] at HF
        clear hc
        go_wp2_with (go_at_call 58; refine HF.out.mono ?_; rintro e w1 ⟨rfl, hb1⟩)
        go_ret
        exact ⟨rv (ri (by rw [HD.out, if_pos HN.out])), hbl.trans (hb1.mono hbl.size)⟩
    · go_wp2
      go_ret
      exact ⟨rv (ri (by rw [← HA.out, List.drop_eq_nil_of_le (by omega)]; rfl)), hbl⟩
theorem ContainsFunc_div (caps : Array Value) (p : Int → Bool) (ao : Option Addr) (cap : Nat) (l : List Int) (w : World) (hr : RowI .i64 w ao l) (hn : l.length ≤ 4611686018427387904)
    (hf : ∀ i, i < l.length → ∀ w', Below w.heap.size w w' → Calls Try.prog 58 (#[.int .i64 (l.getD i 0)] ++ caps) w' fun e w'' => e = .returned (.bool (p (l.getD i 0))) ∧ Below w'.heap.size w' w'') :
    Calls Try.prog 57 #[.slice ao l.length cap, .func (.func 58) #[] caps] w fun e w' => e = .returned (.bool (l.any p)) ∧ Below w.heap.size w w' := by
  have HF := hid (findI_any p l 0)
  have HI := hid (IndexFunc_div caps p ao cap l w hr hn hf)
  clear hf
  go_enter Try.func57, Try.ntmps57
  go_wp2_with (go_at_call 66; refine HI.out.mono ?_; rintro e w1 ⟨rfl, hb1⟩)
  go_ret
  exact ⟨rv (rb HF.out), hb1⟩
theorem left_any (ao : Option Addr) (cap : Nat) (l : List Int) (n : Nat) (w : World) (hn : n = l.length) (hr : RowI .i64 w ao l) (hl : n ≤ 100) :
    Calls Try.prog 57 #[.slice ao n cap, .func (.func 58) #[] #[]] w fun e w' => e = .returned (.bool (!(l.all (· == 0)))) ∧ Below w.heap.size w w' := by
  subst hn
  have h := ContainsFunc_div #[] (fun x => !(x == 0)) ao cap l w hr (by omega) (fun i hi w' hb => divide1_any _ _)
  rwa [← List.not_all_eq_any_not] at h
def DivPost (a b : List Int) (w : World) (e : Ending) (w' : World) : Prop := Below w.heap.size w w' ∧ ((divL a b = none ∧ ∃ v, e = .returned (.tuple #[v, .bool false])) ∨
  ∃ p g c n, divL a b = some p ∧ e = .returned (.tuple #[.slice (some ⟨g, 0, none⟩) n c, .bool true]) ∧ n = p.length ∧ n ≤ c ∧ w.heap.size ≤ g ∧ RowB 3 w' g (p.map (Value.int .i64)))
theorem rowI_of {w : World} {g : Nat} {l : List Int} (h : RowB 3 w g (l.map (Value.int .i64))) : RowI .i64 w (some ⟨g, 0, none⟩) l := Or.inr ⟨g, 0, rfl, h.lt, fun j hj => by rw [Nat.zero_add]; exact h.cell (by rw [List.getElem?_map, List.getElem?_eq_getElem hj, getD_lt' l 0 hj]; rfl)⟩
theorem rowB_int {w : World} {g : Nat} {l : List Int} (h : RowB 3 w g (l.map (Value.int .i64))) (hr : Rng l) {i : Nat} (hi : i < l.length) : ∃ x, Hid (x = l.getD i 0) ∧ (0 ≤ x ∧ x ≤ 256) ∧ w.cell? ⟨g, i, none⟩ = some (.int .i64 x) :=
  ⟨_, rfl, hr.getD i, h.cell (by rw [List.getElem?_map, List.getElem?_eq_getElem hi, getD_lt' l 0 hi]; rfl)⟩
end Go.Proofs.Ytbjmadcbhkeenaa.gs
namespace Go.Proofs.Ytbjmadcbhkeenaa.gs
open Go.RowKit Go.Proofs.Ytbjmadcbhkeenaa.Fld Go.Proofs.Ytbjmadcbhkeenaa.sh Go.Proofs.Ytbjmadcbhkeenaa.shr Go.Proofs.Ytbjmadcbhkeenaa.slInt
set_option linter.unusedSimpArgs false
set_option linter.unusedVariables false
set_option pp.maxSteps 6000
set_option maxRecDepth 100000 in
set_option maxHeartbeats 400000 in
theorem divide_any (a b : List Int) (na nb' d ca cb ga gb : Nat) (w : World) (hna : na = a.length) (hnb : b.length = nb' + 1) (hd : nb' + 1 + d = na) (h3 : na ≤ 100) (ra : Rng a) (rb : Rng b) (hA : RowB 3 w ga (a.map (Value.int .i64))) (hBb : RowB 3 w gb (b.map (Value.int .i64))) :
    Calls Try.prog 40 #[.slice (some ⟨ga, 0, none⟩) na ca, .slice (some ⟨gb, 0, none⟩) (nb' + 1) cb] w (DivPost a b w) := by
  obtain ⟨B, HB⟩ : ∃ B, Hid (B = w.heap.size) := ⟨_, rfl⟩
  have hsz : w.heap.size = B := HB.out.symm
  have hcl := hid (Clone_any (some ⟨ga, 0, none⟩) na ca (a.map (Value.int .i64)) w hA.row (by rw [List.length_map, hna]; omega) (ints_one _ _) (fun h => by cases h) (by omega))
  have HDD : Hid (a.length - b.length = d) := hid (by omega)
  have HNB := hid hnb
  have HNA := hid hna
  have hgb : gb < B := by rw [← hsz]; exact hBb.lt
  clear hna hnb
  go_enter Try.func40, Try.ntmps40
  go_wp2_with fail
  refine hcl.out.mono ?_
  rintro e w1 ⟨v1, rfl, hM1, hb1⟩
  rw [hsz] at hM1 hb1
  obtain ⟨gr, cr, rfl, hgr, hcr, hR1⟩ : ∃ g c, v1 = .slice (some ⟨g, 0, none⟩) na c ∧ B ≤ g ∧ na ≤ c ∧ RowB 3 w1 g (a.map (Value.int .i64)) := by
    rcases hM1 with h | ⟨h, _⟩
    · exact RowB.of_owns h (by omega)
    · omega
  obtain ⟨B3, HB3⟩ : ∃ B3, Hid (B3 = w1.heap.size) := ⟨_, rfl⟩
  have hB3 : gr < B3 := by rw [HB3.out]; exact hR1.lt
  go_wp2_with fail
  go_loopw [7, 8] (fun o i wr => ∃ (t : Nat) (rest outs : List Int) (pa : Option Addr) (pc : Nat), t ≤ d + 1 ∧ i = .int .i64 ((d : Int) - (t : Int)) ∧ o = .slice pa t pc ∧ Hid ((rest, outs) = divTo a b t) ∧ RowB 3 wr gr (rest.map (Value.int .i64)) ∧ Mine wr B3 3 1 (.slice pa t pc) t (outs.map (Value.int .i64)) ∧ Below B w wr ∧ B3 ≤ wr.heap.size) (fun _ i _ => (intOf i + 1).toNat)
  case atStart => exact ⟨0, a, [], none, 0, by omega, by congr 1; omega, rfl, rfl, hR1, Mine.nil _ _ _ _, hb1, by rw [HB3.out]; exact Nat.le_refl _⟩
  case round =>
    clear hM1 hb1 hR1 hA
    obtain ⟨t, rest, outs, pa, pc, ht, rfl, rfl, HT, hR, hP, hb, hs⟩ := hrel
    rename World => wo
    have HL : Hid (rest.length = na) := hid (by have := divTo_length a b t; rw [← HT.out] at this; rw [HNA.out]; exact this.1)
    have HG : Hid (Rng rest) := hid (by have := divTo_rng a b ra t; rw [← HT.out] at this; exact this.1)
    by_cases hc : t ≤ d
    · obtain ⟨q, hq⟩ : ∃ q, q + t = d := ⟨d - t, by omega⟩
      have eq : (d : Int) - (t : Int) = (q : Int) := by omega
      rw [eq]
      have hq0 : (0 : Int) ≤ (q : Int) := by omega
      have hd0 : decide ((q : Int) ≥ 0) = true := decide_eq_true hq0
      obtain ⟨x, HX, bx, cx⟩ := rowB_int hR HG.out (i := q + nb') (by rw [HL.out]; omega)
      obtain ⟨y, HY, by', cy0⟩ := rowB_int hBb rb (i := nb') (by rw [HNB.out]; omega)
      have cy := (hb.cell (p := ⟨gb, nb', none⟩) hgb).trans cy0
      clear cy0
      obtain ⟨r, Hr⟩ : ∃ r, Hid (r = q + nb') := ⟨_, rfl⟩
      rw [← Hr.out] at cx HX
      have cx' : wo.drew.cell? ⟨gr, r, none⟩ = some (.int .i64 x) := cx
      have cy' : wo.drew.cell? ⟨gb, nb', none⟩ = some (.int .i64 y) := cy
      have hrI : (r : Int) < (na : Int) := by have := Hr.out; omega
      have hr0 : (0 : Int) ≤ (r : Int) := by omega
      have hnI : (nb' : Int) < (nb' : Int) + 1 := by omega
      have hn0 : (0 : Int) ≤ (nb' : Int) := by omega
      have hwA : IntKind.i64.wrap ((q : Int) + ((nb' : Int) + 1)) = (r : Int) + 1 := by have := Hr.out; rw [IntWalk.i64_in _ (by omega)]; omega
      have hwB : IntKind.i64.wrap ((r : Int) + 1 - 1) = (r : Int) := by have := Hr.out; rw [IntWalk.i64_in _ (by omega)]; omega
      have hwB' : IntKind.i64.wrap (r : Int) = (r : Int) := IntWalk.i64_in _ (by have := Hr.out; omega)
      have hwC : IntKind.i64.wrap (nb' : Int) = (nb' : Int) := IntWalk.i64_in _ (by omega)
      obtain ⟨f, HF⟩ : ∃ f, Hid (f = overP x y) := ⟨_, rfl⟩
      go_wp2_with fail
      refine wp_region_held_drew (S := fun w' => w' = wo.drew) (by kernel_rfl) rfl (fun hHeld => ?_)
      refine tkP 0 rfl (by assumption) ⟨?_, ?_, ?_⟩
      rotate_left
      · intro w hSw; (try dsimp only at hSw); go_simp; (try with_reducible rfl)
      try simp only [Act.put, sArr, sZ, sS]
      refine tkP 1 rfl (by assumption) ⟨?_, ?_, ?_⟩
      rotate_left
      · intro w hSw; (try dsimp only at hSw); go_simp; (try with_reducible rfl)
      try simp only [Act.put, sArr, sZ, sS]
      refine tkP 2 rfl (by assumption) ⟨?_, ?_, ?_⟩
      rotate_left
      · intro w hSw; (try dsimp only at hSw); go_simp; (try with_reducible rfl)
      try simp only [Act.put, sArr, sZ, sS]
      refine tkP 3 rfl (by assumption) ⟨?_, ?_, ?_⟩
      rotate_left
      · intro w hSw; (try dsimp only at hSw); go_simp; (try with_reducible rfl)
      try simp only [Act.put, sArr, sZ, sS]
      refine tkP 4 rfl (by assumption) ⟨?_, ?_, ?_⟩
      rotate_left
      · intro w hSw; go_simp; (try simp only [hwA]); (try with_reducible rfl)
      try simp only [Act.put, sArr, sZ, sS]
      refine tkP 5 rfl (by assumption) ⟨?_, ?_, ?_⟩
      rotate_left
      · intro w hSw; go_simp; (try simp only [hwB, hwB']); (try with_reducible rfl)
      try simp only [Act.put, sArr, sZ, sS]
      refine tkP 6 rfl (by assumption) ⟨?_, ?_, ?_⟩
      rotate_left
      · intro w hSw; subst hSw; go_simp; (try simp only [hr0, hrI, and_self, if_true, Int.toNat_natCast]); (try with_reducible rfl)
      try simp only [Act.put, sArr, sZ, sS]
      refine tkP 7 rfl (by assumption) ⟨?_, ?_, ?_⟩
      rotate_left
      · intro w hSw; subst hSw; go_simp; (try with_reducible rfl)
      try simp only [Act.put, sArr, sZ, sS]
      refine tkP 8 rfl (by assumption) ⟨?_, ?_, ?_⟩
      rotate_left
      · intro w hSw; (try dsimp only at hSw); go_simp; (try with_reducible rfl)
      try simp only [Act.put, sArr, sZ, sS]
      refine tkP 9 rfl (by assumption) ⟨?_, ?_, ?_⟩
      rotate_left
      · intro w hSw; (try dsimp only at hSw); go_simp; (try with_reducible rfl)
      try simp only [Act.put, sArr, sZ, sS]
      refine tkP 10 rfl (by assumption) ⟨?_, ?_, ?_⟩
      rotate_left
      · intro w hSw; (try dsimp only at hSw); go_simp; (try with_reducible rfl)
      try simp only [Act.put, sArr, sZ, sS]
      refine tkP 11 rfl (by assumption) ⟨?_, ?_, ?_⟩
      rotate_left
      · intro w hSw; go_simp; (try simp only [hwC]); (try with_reducible rfl)
      try simp only [Act.put, sArr, sZ, sS]
      refine tkP 12 rfl (by assumption) ⟨?_, ?_, ?_⟩
      rotate_left
      · intro w hSw; subst hSw; go_simp; (try simp only [hn0, hnI, and_self, if_true, Int.toNat_natCast]); (try with_reducible rfl)
      try simp only [Act.put, sArr, sZ, sS]
      refine tkP 13 rfl (by assumption) ⟨?_, ?_, ?_⟩
      rotate_left
      · intro w hSw; subst hSw; go_simp; (try with_reducible rfl)
      try simp only [Act.put, sArr, sZ, sS]
      refine wpAnyH_ready (rs := [14]) (by kernel_rfl) (by simp) (cons_l rfl (fun K' hK' => ?_) AllReadyH.nil)
      rw [if_pos (by kernel_rfl)]
      go_simp
      go_at_call 55
      refine (over_any x y _ bx by').mono ?_
      rintro e y1 ⟨rfl, rfl⟩
      refine hK'.out _ _ rfl (fun hHeld => ?_)
      clear hK' K'
      try simp only [Act.put, sArr, sZ, sS]
      refine tkP 15 rfl (by assumption) ⟨?_, ?_, ?_⟩
      rotate_left
      · intro w hSw; (try dsimp only at hSw); go_simp; (try with_reducible rfl)
      try simp only [Act.put, sArr, sZ, sS]
      refine wpAnyH_done (by kernel_rfl) ?_ _
      clear hHeld
      rw [← HF.out]
      have HFB : Hid (0 ≤ f ∧ f ≤ 256) := hid (by rw [HF.out]; exact overP_range _ _)
      have HDS : Hid (divTo a b (t + 1) = (subAt rest b q f (nb' + 1), outs ++ [f])) := hid (by
        rw [divTo, ← HT.out, HDD.out, HNB.out]
        dsimp only
        rw [show d - t = q by omega, show q + (nb' + 1) - 1 = r by have := Hr.out; omega, Nat.add_sub_cancel, ← HX.out, ← HY.out, ← HF.out])
      obtain ⟨wd, HWD⟩ : ∃ z, Hid (z = wo.drew) := ⟨_, rfl⟩
      rw [← HWD.out]
      have hRd : RowB 3 wd gr (rest.map (Value.int .i64)) := by rw [HWD.out]; exact hR.drew
      have hPd : Mine wd B3 3 1 (.slice pa t pc) t (outs.map (Value.int .i64)) := by rw [HWD.out]; exact hP
      have hbd : Below B w wd := by rw [HWD.out]; exact hb.drew
      have hsd : B3 ≤ wd.heap.size := by rw [HWD.out]; exact hs
      clear hR hP hb hs cx cy cx' cy' hrI hr0 hnI hn0 hwA hwB hwB' hwC bx by'
      go_wp2_with (at_builtin; refine wl_appendS rfl _ _ 24 rfl 3 (.int .i64 0) 1 8 Try.underlying24 slInt.info rfl (by decide) B3 (.slice pa t pc) t _ rfl (hPd.belowAll ((Below.refl _ _).alloc (Nat.le_refl _) _)) (some ⟨wd.heap.size, 0, none⟩) 1 1 rfl (fun h => by cases h) [.int .i64 f] rfl (RowI.v (l := [f]) (BlkI.new .i64 3 wd [f]).row) (by simp [Value.oneCell']) (by unfold maxLen; omega) (by omega) (by simp; omega) (t + 1) rfl ?_; intro pa5 pc5 w5 row5 hcap5 hM5 hR5 hg5 hrow5)
      have hRd5 : RowB 3 w5 gr (rest.map (Value.int .i64)) := (hRd.below ((Below.refl wd.heap.size wd).alloc (Nat.le_refl _) _) hRd.lt).grown hg5 (fun e => by have := (hrow5 _ e).1; omega)
      have hb5 : Below B w w5 := (hbd.alloc (by omega) _).grown hg5 (by simp; omega) (fun k hk => by have := (hrow5 k hk).1; omega)
      have hs5 : B3 ≤ w5.heap.size := by have := hg5.size; simp at this; omega
      clear hRd hPd hbd hsd hg5 hrow5 hR5
      go_loopw [44] (fun i wk => ∃ k : Nat, k ≤ nb' + 1 ∧ i = .int .i64 k ∧ RowB 3 wk gr ((subAt rest b q f k).map (Value.int .i64)) ∧ Mine wk B3 3 1 (.slice pa5 (t + 1) pc5) (t + 1) ((outs ++ [f]).map (Value.int .i64)) ∧ Below B w wk ∧ B3 ≤ wk.heap.size) (fun i _ => nb' + 1 - (intOf i).toNat)
      case atStart => exact ⟨0, by omega, rfl, hRd5, by rw [List.map_append]; exact hM5, hb5, hs5⟩
      case round =>
        clear hM5 hRd5 hb5 hs5
        obtain ⟨k, hk, rfl, hR, hP, hb, hs⟩ := hrel
        rename World => wk
        by_cases hkn : k < nb' + 1
        · have hkI : (k : Int) < (nb' : Int) + 1 := by omega
          have hk0 : (0 : Int) ≤ (k : Int) := by omega
          have hqk : (q : Int) + (k : Int) < (na : Int) := by omega
          have hqk0 : (0 : Int) ≤ (q : Int) + (k : Int) := by omega
          obtain ⟨x1, HX1, bx1, cx1⟩ := rowB_int hR (subAt_rng HG.out k) (i := q + k) (by rw [subAt_length, HL.out]; omega)
          obtain ⟨y1, HY1, by1, cy0⟩ := rowB_int hBb rb (i := k) (by rw [HNB.out]; omega)
          have cy1 := (hb.cell (p := ⟨gb, k, none⟩) hgb).trans cy0
          clear cy0
          have fx := hR.frozen (q + k)
          obtain ⟨g, HGG⟩ : ∃ g, Hid (g = 257 - f) := ⟨_, rfl⟩
          have bg : 1 ≤ g ∧ g ≤ 257 := by have := HFB.out; rw [HGG.out]; omega
          have hgq : 0 ≤ g * y1 ∧ g * y1 ≤ 65792 := ⟨Int.mul_nonneg (by omega) by1.1, by have := Int.mul_le_mul (a := g) (c := 257) (b := y1) (d := 256) (by omega) by1.2 by1.1 (by omega); omega⟩
          have hw0 : RowKit.wrap64 (257 - f) = g := by have := HFB.out; rw [HGG.out]; unfold RowKit.wrap64; omega
          have hwm : RowKit.wrap64 (g * y1) = g * y1 := by unfold RowKit.wrap64; omega
          have hws : RowKit.wrap64 (x1 + g * y1) = x1 + g * y1 := by unfold RowKit.wrap64; omega
          have hwt : (x1 + g * y1).tmod 257 = (x1 + g * y1) % 257 := Int.tmod_eq_emod_of_nonneg (by omega)
          go_wp2_with fail
          go_roundw
          case rel =>
            have es : subAt rest b q f (k + 1) = (subAt rest b q f k).set (q + k) ((x1 + g * y1) % 257) := by rw [subAt, ← HX1.out, ← HY1.out, ← HGG.out]
            (try simp only [hw0, hwm, hws, hwt])
            refine ⟨k + 1, by omega, by go_num, ?_, ?_, hb.setCell hgr _, by simpa using hs⟩
            · rw [es, List.map_set]; exact hR.set (q + k) (.int .i64 ((x1 + g * y1) % 257))
            · exact mine_keep hP fun g' hg' _ => heap_setCell_other _ ⟨gr, q + k, none⟩ g' _ (show g' ≠ gr by omega)
          case measure => simp [intOf] <;> omega
        · obtain rfl : k = nb' + 1 := by omega
          have ev : Value.int .i64 ((q : Int) - 1) = .int .i64 ((d : Int) - ((t + 1 : Nat) : Int)) := by congr 1; omega
          have hwq : RowKit.wrap64 ((q : Int) - 1) = (q : Int) - 1 := by unfold RowKit.wrap64; omega
          go_wp2_with fail
          go_roundw
          case rel =>
            (try simp only [hwq])
            exact ⟨t + 1, _, _, pa5, pc5, by omega, ev, rfl, HDS.out.symm, hR, hP, hb, hs⟩
          case measure => simp [intOf] <;> omega
    · obtain rfl : t = d + 1 := by omega
      have eq : (d : Int) - ((d + 1 : Nat) : Int) = -1 := by omega
      rw [eq]
      obtain ⟨go, co, hpe, hgo, hco, hO⟩ : ∃ g c, Value.slice pa (d + 1) pc = .slice (some ⟨g, 0, none⟩) (d + 1) c ∧ B3 ≤ g ∧ d + 1 ≤ c ∧ RowB 3 wo g (outs.map (Value.int .i64)) := by
        rcases hP with h | ⟨h, _⟩
        · exact RowB.of_owns h (by omega)
        · omega
      injection hpe with e1 e2 e3
      subst e1 e3
      have HOL : Hid (outs.length = d + 1) := hid (by have := divTo_length a b (d + 1); rw [← HT.out] at this; exact this.2)
      have hrv := fun (y : World) (h : RowB 3 y go (outs.map (Value.int .i64))) => hid (Reverse_any B3 go (d + 1) pc outs y HOL.out.symm (by omega) (by omega) h hgo)
      have HW : Hid (divL a b = if rest.all (· == 0) = true then some outs.reverse else none) := hid (by unfold divL; rw [HDD.out, ← HT.out])
      have HRL : Hid (outs.reverse.length = d + 1) := hid (by rw [List.length_reverse]; exact HOL.out)
      have hcf := fun (y : World) (h : RowB 3 y gr (rest.map (Value.int .i64))) => hid (left_any (some ⟨gr, 0, none⟩) cr rest na y HL.out.symm (rowI_of h) h3)
      obtain ⟨R, HR⟩ : ∃ R, Hid (R = outs.reverse) := ⟨_, rfl⟩
      simp only [← HR.out] at hrv
      obtain ⟨L, HL0⟩ : ∃ L, Hid (L = rest.all (· == 0)) := ⟨_, rfl⟩
      simp only [← HL0.out] at hcf
      clear hP
      go_wp2_with (first | (go_at_call 57; refine (hcf _ hRz).out.mono ?_; rintro e wz ⟨rfl, hbz⟩) | (go_at_call 56; refine (hrv _ hO).out.mono ?_; rintro e wy ⟨rfl, hOy, hky⟩; have hRz : RowB 3 wy gr (rest.map (Value.int .i64)) := hR.below hky.below hB3; have hby : Below B w wy := hb.trans (hky.below.mono (by omega))))
      go_ret2
      have hbw : Below B w wz := hby.trans (hbz.mono (by have := hky.size; have := hb.size; omega))
      refine ⟨by rw [hsz]; exact hbw, ?_⟩
      cases L with
      | true => exact Or.inr ⟨R, go, pc, d + 1, by rw [HW.out, ← HL0.out, if_pos rfl, HR.out], rfl, by rw [HR.out]; exact HRL.out.symm, hco, by rw [hsz]; omega, hOy.below hbz hOy.lt⟩
      | false => exact Or.inl ⟨by rw [HW.out, ← HL0.out]; rfl, _, rfl⟩
end Go.Proofs.Ytbjmadcbhkeenaa.gs
/- Sums, plain: a state takes in blocks of 32 octets; a text with its padding. No program, no condition. -/
namespace Go.Proofs.Ytbjmadcbhkeenaa.hs
open Go.RowKit Go.Proofs.Ytbjmadcbhkeenaa.st
set_option linter.unusedSimpArgs false
set_option linter.unusedVariables false
set_option pp.maxSteps 6000
theorem o4_octs (n : Int) : Octs (o4 n) := by
  intro c hc
  simp only [o4, List.mem_cons, List.not_mem_nil, or_false] at hc
  rcases hc with rfl | rfl | rfl | rfl <;> exact ⟨by omega, by omega⟩
theorem octL_octs' (ws : List Int) : Octs (octL ws 64) := by
  intro c hc
  obtain ⟨i, hi, rfl⟩ := List.mem_map.1 hc
  exact (o4_octs _).getD _
theorem stirL_octs' (s : List Int) : Octs (stirL s) := by unfold stirL; exact octL_octs' _
end Go.Proofs.Ytbjmadcbhkeenaa.hs
/- Contract of mix.Summer.block: a block is taken into the state. Conditions: a summer's cells, a block of octets that stays as it is. -/
namespace Go.Proofs.Ytbjmadcbhkeenaa.hs
open Go.RowKit Go.Proofs.Ytbjmadcbhkeenaa.st Go.Proofs.Ytbjmadcbhkeenaa.shr
set_option linter.unusedSimpArgs false
set_option linter.unusedVariables false
set_option pp.maxSteps 6000
end Go.Proofs.Ytbjmadcbhkeenaa.hs
/- Contract of mix.Summer.take: octets are taken in. Conditions: a summer that has taken a text, a row of octets apart from it. -/
namespace Go.Proofs.Ytbjmadcbhkeenaa.hs
open Go.RowKit Go.Proofs.Ytbjmadcbhkeenaa.st Go.Proofs.Ytbjmadcbhkeenaa.shr
set_option linter.unusedSimpArgs false
set_option linter.unusedVariables false
set_option pp.maxSteps 6000
/-- what is laid into the rest -/
def lay (r l : List Int) (k n : Nat) : List Int := (List.range 32).map fun i => if k ≤ i ∧ i < k + n then l.getD (i - k) 0 else r.getD i 0
end Go.Proofs.Ytbjmadcbhkeenaa.hs
/- Contract of mix.Summer.take: octets are taken in. Conditions: a summer that has taken a text, a row of octets apart from it. -/
namespace Go.Proofs.Ytbjmadcbhkeenaa.hs
open Go.RowKit Go.Proofs.Ytbjmadcbhkeenaa.st Go.Proofs.Ytbjmadcbhkeenaa.shr
set_option linter.unusedSimpArgs false
set_option linter.unusedVariables false
set_option pp.maxSteps 6000
end Go.Proofs.Ytbjmadcbhkeenaa.hs
/- Contract of mix.Summer.take: octets are taken in where some are kept. Conditions: a summer that has taken a text, a row of octets apart from it. -/
namespace Go.Proofs.Ytbjmadcbhkeenaa.hs
open Go.RowKit Go.Proofs.Ytbjmadcbhkeenaa.st Go.Proofs.Ytbjmadcbhkeenaa.shr
set_option linter.unusedSimpArgs false
set_option linter.unusedVariables false
set_option pp.maxSteps 6000
end Go.Proofs.Ytbjmadcbhkeenaa.hs
/- Contract of mix.Summer.take: octets are taken in where some are kept. Conditions: a summer that has taken a text, a row of octets apart from it. -/
namespace Go.Proofs.Ytbjmadcbhkeenaa.hs
open Go.RowKit Go.Proofs.Ytbjmadcbhkeenaa.st Go.Proofs.Ytbjmadcbhkeenaa.shr
set_option linter.unusedSimpArgs false
set_option linter.unusedVariables false
set_option pp.maxSteps 6000
end Go.Proofs.Ytbjmadcbhkeenaa.hs
/- Contracts of mix.Summer.Sum and mix.NewSummer. Conditions: a summer that has taken a text; a domain of one octet. -/
namespace Go.Proofs.Ytbjmadcbhkeenaa.hs
open Go.RowKit Go.Proofs.Ytbjmadcbhkeenaa.st Go.Proofs.Ytbjmadcbhkeenaa.shr
set_option linter.unusedSimpArgs false
set_option linter.unusedVariables false
set_option pp.maxSteps 6000
end Go.Proofs.Ytbjmadcbhkeenaa.hs
/- Contracts of mix.summed and mix.SumOf: a sum of parts. Conditions: a domain of one octet; slices of octets that lie in memory. -/
namespace Go.Proofs.Ytbjmadcbhkeenaa.hs
open Go.RowKit Go.Proofs.Ytbjmadcbhkeenaa.st Go.Proofs.Ytbjmadcbhkeenaa.shr
set_option linter.unusedSimpArgs false
set_option linter.unusedVariables false
set_option pp.maxSteps 6000
/-- a slice of octets, as a part -/
structure Pt where
  a : Option Addr
  c : Nat
  l : List Int
def Pt.v (x : Pt) : Value := .slice x.a x.l.length x.c
structure Pt.Ok (w : World) (x : Pt) : Prop where
  row : RowI .u8 w x.a x.l
  len : x.l.length ≤ x.c
  cap : x.c ≤ maxLen
  oct : Octs x.l
  lt : ∀ b, x.a = some b → b.block < w.heap.size
theorem Pt.Ok.below {w w' : World} {x : Pt} (h : x.Ok w) (hb : Below w.heap.size w w') : x.Ok w' :=
  ⟨h.row.below hb, h.len, h.cap, h.oct, fun b e => Nat.lt_of_lt_of_le (h.lt b e) hb.size⟩
end Go.Proofs.Ytbjmadcbhkeenaa.hs
/- Contracts of mix.SumOf and mix.Sums. Conditions: a domain of one octet; slices of octets that lie in memory. -/
namespace Go.Proofs.Ytbjmadcbhkeenaa.hs
open Go.RowKit Go.Proofs.Ytbjmadcbhkeenaa.st Go.Proofs.Ytbjmadcbhkeenaa.shr
set_option linter.unusedSimpArgs false
set_option linter.unusedVariables false
set_option pp.maxSteps 6000
end Go.Proofs.Ytbjmadcbhkeenaa.hs
/- Contract of mix.Sums: a sum of framed parts. Conditions: a domain of one octet; slices of octets that lie in memory; together, with their lengths, at most 2^20 octets. -/
namespace Go.Proofs.Ytbjmadcbhkeenaa.hs
open Go.RowKit Go.Proofs.Ytbjmadcbhkeenaa.st Go.Proofs.Ytbjmadcbhkeenaa.shr
set_option linter.unusedSimpArgs false
set_option linter.unusedVariables false
set_option pp.maxSteps 6000
theorem o4_length (n : Int) : (o4 n).length = 4 := rfl
theorem agg4 : Agg Try.prog 121 4 := Agg.arr Try.underlying121 (by kernel_rfl)
end Go.Proofs.Ytbjmadcbhkeenaa.hs
/- append of zeros to an own row of octets, as a law of the walk; a clone of octets; append of octets. Conditions: the bounds that append asks. -/
namespace Go.Proofs.Ytbjmadcbhkeenaa.hs
open Go.RowKit Go.Proofs.Ytbjmadcbhkeenaa.st Go.Proofs.Ytbjmadcbhkeenaa.shr
set_option linter.unusedSimpArgs false
set_option linter.unusedVariables false
set_option pp.maxSteps 6000
end Go.Proofs.Ytbjmadcbhkeenaa.hs
/- Contract of keyref1.state: the state behind a text. Conditions: a domain of one octet; a text of at most 2^21 octets. -/
namespace Go.Proofs.Ytbjmadcbhkeenaa.hs
open Go.RowKit Go.Proofs.Ytbjmadcbhkeenaa.st Go.Proofs.Ytbjmadcbhkeenaa.shr
set_option linter.unusedSimpArgs false
set_option linter.unusedVariables false
set_option pp.maxSteps 6000
theorem mine_own {w : World} {base : Nat} {e : TypeId} {size : Nat} {v : Value} {n : Nat} {xs : List Value} (h : Mine w base e size v n xs) (hn : 0 < n) : w.ownsRow base e size v n xs := by
  rcases h with h | ⟨h, _⟩
  · exact h
  · omega
end Go.Proofs.Ytbjmadcbhkeenaa.hs
/- Contracts of keyref1.Sum, short, Framed. Conditions: a domain of one octet; texts of at most 2^21 octets. -/
namespace Go.Proofs.Ytbjmadcbhkeenaa.hs
open Go.RowKit Go.Proofs.Ytbjmadcbhkeenaa.st Go.Proofs.Ytbjmadcbhkeenaa.shr
set_option linter.unusedSimpArgs false
set_option linter.unusedVariables false
set_option pp.maxSteps 6000
end Go.Proofs.Ytbjmadcbhkeenaa.hs
/- Contract of keyref1.Framed. Conditions: slices of octets that lie in memory; together, with their lengths, at most 2^21 octets. -/
namespace Go.Proofs.Ytbjmadcbhkeenaa.hs
open Go.RowKit Go.Proofs.Ytbjmadcbhkeenaa.st Go.Proofs.Ytbjmadcbhkeenaa.shr
set_option linter.unusedSimpArgs false
set_option linter.unusedVariables false
set_option pp.maxSteps 6000
end Go.Proofs.Ytbjmadcbhkeenaa.hs
