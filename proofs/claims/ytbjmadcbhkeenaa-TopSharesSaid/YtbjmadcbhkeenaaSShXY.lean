/-
  Contract of keyref2.ZeroOf; slices of shares that a call has made. Conditions: shares of the type's form. A matrix in memory: a slice of rows, each a block of its own. Conditions: as stated.
-/
import Derived.Test.YtbjmadcbhkeenaaSShQ
import Derived.Test.YtbjmadcbhkeenaaSGsB
import Derived.StillTailTactics
/- Contract of keyref2.ZeroOf. Conditions: shares of the type's form at places from 0 to 256, 32 at most; a seed of octets, a need from 1 to 32. -/
namespace Go.Proofs.Ytbjmadcbhkeenaa.shr
open Go.RowKit Go.Proofs.Ytbjmadcbhkeenaa.sh Go.Proofs.Ytbjmadcbhkeenaa.Fld
set_option linter.unusedSimpArgs false
set_option linter.unusedVariables false
set_option pp.maxSteps 6000
end Go.Proofs.Ytbjmadcbhkeenaa.shr
/- A slice of shares that a call has made, as a block whose first cells are known (RowB); its shares are given values one by one. No program, no condition but the form. -/
namespace Go.Proofs.Ytbjmadcbhkeenaa.shr
open Go.RowKit Go.Proofs.Ytbjmadcbhkeenaa.sh Go.Proofs.Ytbjmadcbhkeenaa.Fld
set_option linter.unusedSimpArgs false
set_option linter.unusedVariables false
set_option pp.maxSteps 6000
/-- block g begins with these cells, and none is frozen -/
def RowB (t : TypeId) (w : World) (g : Nat) (cs : List Value) : Prop := ∃ cur, BlkV t w g cur ∧ cur.take cs.length = cs
section
variable {t : TypeId} {w w' : World} {g : Nat} {cs : List Value}
theorem RowB.lt (h : RowB t w g cs) : g < w.heap.size := by obtain ⟨cur, h, _⟩ := h; exact h.lt
theorem RowB.cell (h : RowB t w g cs) {i : Nat} {u : Value} (hi : cs[i]? = some u) : w.cell? ⟨g, i, none⟩ = some u := by
  obtain ⟨cur, h, h2⟩ := h
  rw [h.cell]
  have hlt : i < cs.length := (List.getElem?_eq_some_iff.1 hi).1
  rw [← hi, ← h2, List.getElem?_take, if_pos hlt]
theorem RowB.frozen (h : RowB t w g cs) (i : Nat) : w.frozen? ⟨g, i, none⟩ = false := by obtain ⟨cur, h, _⟩ := h; exact h.frozen i
theorem RowB.set (h : RowB t w g cs) (i : Nat) (v : Value) : RowB t (w.setCell ⟨g, i, none⟩ v) g (cs.set i v) := by
  obtain ⟨cur, h, h2⟩ := h
  refine ⟨cur.set i v, h.set i v, ?_⟩
  rw [List.length_set, List.take_set, h2]
theorem RowB.drew (h : RowB t w g cs) : RowB t w.drew g cs := h
theorem RowB.drewN (h : RowB t w g cs) (n : Nat) : RowB t (w.drewN n) g cs := h
theorem RowB.below {B : Nat} (h : RowB t w g cs) (hb : Below B w w') (hg : g < B) : RowB t w' g cs := by obtain ⟨cur, h, h2⟩ := h; exact ⟨cur, h.below hb hg, h2⟩
theorem RowB.grown {row : Option Nat} (h : RowB t w g cs) (hg : w.grownBy w' row) (hr : row ≠ some g) : RowB t w' g cs := by obtain ⟨cur, h, h2⟩ := h; exact ⟨cur, h.grown hg hr, h2⟩
theorem RowB.row (h : RowB t w g cs) : RowV w (some ⟨g, 0, none⟩) cs := Or.inr ⟨g, 0, rfl, h.lt, fun j u hu => by rw [Nat.zero_add]; exact h.cell hu⟩
theorem RowB.of_owns {base size n : Nat} {v : Value} (h : w.ownsRow base t size v n cs) (hn : 0 < n) : ∃ g cap, v = .slice (some ⟨g, 0, none⟩) n cap ∧ base ≤ g ∧ n ≤ cap ∧ RowB t w g cs := by
  obtain ⟨hl, h | ⟨g, cap, cur, hv, hg, hh, h1, h2, h3, h4⟩⟩ := h
  · omega
  · exact ⟨g, cap, hv, hg, h1, cur.toList, by unfold BlkV; simpa using hh, by rw [hl]; exact h4⟩
theorem grown_below {row : Option Nat} (hb : Below w.heap.size w w') : w.grownBy w' row := ⟨hb.os, hb.tape, hb.output, hb.size, fun k hk _ => hb.block k hk⟩
theorem grown_drew {row : Option Nat} (h : w.grownBy w' row) : w.grownBy w'.drew row := ⟨h.os, h.tape, h.output, h.size, h.block⟩
theorem grown_set {g : Nat} (h : w.grownBy w' (some g)) (i : Nat) (v : Value) : w.grownBy (w'.setCell ⟨g, i, none⟩ v) (some g) := h.trans (grown_setCell w' ⟨g, i, none⟩ v)
theorem below_of_grown {B g : Nat} (h : w.grownBy w' (some g)) (hB : B ≤ w.heap.size) (hg : B ≤ g) : Below B w w' := (Below.refl B w).grown h hB fun k hk => by cases hk; exact hg
end
theorem flatS_set (l : List Sh) (hl : ∀ s ∈ l, s.Ok) (i j : Nat) (hi : i < l.length) (hj : j < 49) (v : Value) (s' : Sh) (hs : (l.getD i nil).cs.set j v = s'.cs) : (flatS l).set (i * 49 + j) v = flatS (l.set i s') := by
  induction l generalizing i with
  | nil => simp at hi
  | cons s l ih =>
    have hsl := (hl s (List.mem_cons_self ..)).csl
    unfold flatS at *
    cases i with
    | zero =>
      rw [List.flatMap_cons, List.set_append_left _ _ (by rw [hsl]; omega), List.set_cons_zero, List.flatMap_cons]
      rw [show (s :: l).getD 0 nil = s from rfl] at hs
      rw [Nat.zero_mul, Nat.zero_add, hs]
    | succ i =>
      rw [List.flatMap_cons, List.set_append_right _ _ (by rw [hsl]; omega), hsl, show (i + 1) * 49 + j - 49 = i * 49 + j by omega, ih (fun t ht => hl t (List.mem_cons_of_mem _ ht)) i (by simpa using hi) (by simpa using hs), List.set_cons_succ, List.flatMap_cons]
/-- the values that given polynomials have at a share's place -/
def vals (f : Nat → List Int) (s : Sh) (o : Nat) : Int := ev (f o) s.x % 257
/-- a share with k values laid; all shares; all, and of the first i one more -/
def toSh (f : Nat → List Int) (k : Nat) (s : Sh) : Sh := shTo s.h s.x (vals f s) k
def stp (f : Nat → List Int) (l : List Sh) (k i : Nat) : List Sh := (l.take i).map (toSh f (k + 1)) ++ (l.drop i).map (toSh f k)
theorem vals_bd (f : Nat → List Int) (s : Sh) (o : Nat) : 0 ≤ vals f s o ∧ vals f s o ≤ 65535 := by unfold vals; omega
theorem toSh_ok (f : Nat → List Int) {k : Nat} (hk : k ≤ 32) {s : Sh} (hs : s.Ok) : (toSh f k s).Ok := shTo_ok hs.hl hs.hb hs.xb (vals_bd f s) hk
theorem stp_zero (f : Nat → List Int) (l : List Sh) (k : Nat) : stp f l k 0 = l.map (toSh f k) := by unfold stp; simp
theorem stp_all (f : Nat → List Int) (l : List Sh) (k : Nat) : stp f l k l.length = stp f l (k + 1) 0 := by unfold stp; simp
theorem stp_length (f : Nat → List Int) (l : List Sh) (k i : Nat) : (stp f l k i).length = l.length := by unfold stp; simp; omega
theorem stp_get (f : Nat → List Int) (l : List Sh) (k i : Nat) (hi : i < l.length) : (stp f l k i).getD i nil = toSh f k (l.getD i nil) := by
  unfold stp
  rw [List.getD_eq_getElem?_getD, List.getElem?_append_right (by simp; omega)]
  simp [List.getD_eq_getElem?_getD, hi, Nat.min_eq_left (Nat.le_of_lt hi)]
theorem stp_set (f : Nat → List Int) (l : List Sh) (k i : Nat) (hi : i < l.length) : (stp f l k i).set i (toSh f (k + 1) (l.getD i nil)) = stp f l k (i + 1) := by
  unfold stp
  rw [List.set_append_right _ _ (by simp; omega), List.take_succ_eq_append_getElem hi, List.map_append, List.append_assoc]
  congr 1
  rw [List.drop_eq_getElem_cons hi, List.map_cons, show i - ((l.take i).map (toSh f (k + 1))).length = 0 by simp; omega, List.set_cons_zero, getD_lt' l nil hi]
  rfl
theorem stp_ok (f : Nat → List Int) {l : List Sh} (hl : ∀ s ∈ l, s.Ok) {k : Nat} (hk : k < 32) (i : Nat) : ∀ s ∈ stp f l k i, s.Ok := by
  intro s hs
  unfold stp at hs
  rcases List.mem_append.1 hs with h | h
  · obtain ⟨t, ht, rfl⟩ := List.mem_map.1 h
    exact toSh_ok f (by omega) (hl t (List.mem_of_mem_take ht))
  · obtain ⟨t, ht, rfl⟩ := List.mem_map.1 h
    exact toSh_ok f (by omega) (hl t (List.mem_of_mem_drop ht))
theorem stp_flat (f : Nat → List Int) {l : List Sh} (hl : ∀ s ∈ l, s.Ok) {k : Nat} (hk : k < 32) {i : Nat} (hi : i < l.length) : (flatS (stp f l k i)).set (i * 49 + (17 + k)) (.int .u16 (vals f (l.getD i nil) k)) = flatS (stp f l k (i + 1)) := by
  have hs := hl _ (getD_mem l i hi)
  rw [flatS_set (stp f l k i) (stp_ok f hl hk i) i (17 + k) (by rw [stp_length]; exact hi) (by omega) _ (toSh f (k + 1) (l.getD i nil)) (by rw [stp_get f l k i hi]; exact shTo_set _ _ hs.hl hk), stp_set f l k i hi]
/-- the cells of one share in the midst -/
theorem stp_x (f : Nat → List Int) {l : List Sh} (hl : ∀ s ∈ l, s.Ok) {k : Nat} (hk : k < 32) {i : Nat} (hi : i < l.length) : (flatS (stp f l k i))[i * 49 + 16]? = some (.int .i64 (l.getD i nil).x) := by
  have hs := hl _ (getD_mem l i hi)
  rw [flatS_get _ (stp_ok f hl hk i) i 16 (by rw [stp_length]; exact hi) (by omega), stp_get f l k i hi]
  exact cs_x _ (toSh_ok f (by omega) hs)
theorem stp_y (f : Nat → List Int) {l : List Sh} (hl : ∀ s ∈ l, s.Ok) {k : Nat} (hk : k < 32) {i : Nat} (hi : i < l.length) : ∃ c, (flatS (stp f l k i))[i * 49 + (17 + k)]? = some (.int .u16 c) := by
  have hs := hl _ (getD_mem l i hi)
  rw [flatS_get _ (stp_ok f hl hk i) i (17 + k) (by rw [stp_length]; exact hi) (by omega), stp_get f l k i hi]
  exact ⟨_, cs_yi _ (toSh_ok f (by omega) hs) k hk⟩
theorem stp_end (f : Nat → List Int) (l : List Sh) : l.map (toSh f 32) = onAll f l := rfl
theorem map_succ (f : Sh → Sh) (l : List Sh) (k : Nat) (hk : k < l.length) : (l.take (k + 1)).map f = (l.take k).map f ++ [f (l.getD k nil)] := by
  rw [List.take_succ_eq_append_getElem hk, List.map_append, getD_lt' l nil hk]; rfl
end Go.Proofs.Ytbjmadcbhkeenaa.shr
namespace Go.Proofs.Ytbjmadcbhkeenaa.gs
open Go.RowKit Go.Proofs.Ytbjmadcbhkeenaa.Fld Go.Proofs.Ytbjmadcbhkeenaa.sh Go.Proofs.Ytbjmadcbhkeenaa.shr
set_option linter.unusedSimpArgs false
set_option linter.unusedVariables false
/-- a row of the matrix: its block, its room, its numbers -/
structure Rw where
  b : Nat
  c : Nat
  l : List Int
def Rw.v (u : Nat) (r : Rw) : Value := .slice (some ⟨r.b, 0, none⟩) (u + 1) r.c
/-- the matrix: its blocks lie from B on, below B2 -/
structure MatW (B B2 : Nat) (w : World) (R u : Nat) (rs : List Rw) : Prop where
  hd : RowB 24 w R (rs.map (Rw.v u))
  R0 : B ≤ R ∧ R < B2
  nd : ∀ (i j : Nat) (r s : Rw), rs[i]? = some r → rs[j]? = some s → i ≠ j → r.b ≠ s.b
  nR : ∀ (i : Nat) (r : Rw), rs[i]? = some r → r.b ≠ R ∧ B ≤ r.b ∧ r.b < B2
  row : ∀ (i : Nat) (r : Rw), rs[i]? = some r → RowB 3 w r.b (r.l.map (Value.int .i64)) ∧ r.l.length = u + 1 ∧ Rng r.l ∧ u + 1 ≤ r.c
section
variable {B B2 R u : Nat} {w w' : World} {rs : List Rw}
theorem rowB_kept {t : TypeId} {g : Nat} {cs : List Value} (h : RowB t w g cs) (hh : w'.heap[g]? = w.heap[g]?) : RowB t w' g cs := by
  obtain ⟨cur, h1, h2⟩ := h
  exact ⟨cur, by unfold BlkV; rw [hh]; exact h1, h2⟩
theorem rowB_other {t : TypeId} {g : Nat} {cs : List Value} (h : RowB t w g cs) {a : Addr} (ha : g ≠ a.block) (u : Value) : RowB t (w.setCell a u) g cs :=
  rowB_kept h (heap_setCell_other w a g u ha)
theorem MatW.keep (h : MatW B B2 w R u rs) (hb : ∀ g, g < B2 → w'.heap[g]? = w.heap[g]?) : MatW B B2 w' R u rs :=
  ⟨rowB_kept h.hd (hb _ h.R0.2), h.R0, h.nd, h.nR, fun i r hi => ⟨rowB_kept (h.row i r hi).1 (hb _ (h.nR i r hi).2.2), (h.row i r hi).2⟩⟩
theorem MatW.below (h : MatW B B2 w R u rs) (hb : Below B2 w w') : MatW B B2 w' R u rs := h.keep fun g hg => hb.block g hg
theorem MatW.hdr (h : MatW B B2 w R u rs) {i : Nat} {r : Rw} (hi : rs[i]? = some r) : w.cell? ⟨R, i, none⟩ = some (.slice (some ⟨r.b, 0, none⟩) (u + 1) r.c) :=
  h.hd.cell (by rw [List.getElem?_map, hi]; rfl)
theorem MatW.cell (h : MatW B B2 w R u rs) {i : Nat} {r : Rw} (hi : rs[i]? = some r) {j : Nat} (hj : j < u + 1) : ∃ x, Hid (x = r.l.getD j 0) ∧ (0 ≤ x ∧ x ≤ 256) ∧ w.cell? ⟨r.b, j, none⟩ = some (.int .i64 x) := by
  obtain ⟨h1, h2, h3, _⟩ := h.row i r hi
  exact ⟨_, rfl, h3.getD j, h1.cell (by rw [List.getElem?_map, List.getElem?_eq_getElem (by omega), getD_lt' _ _ (by omega)]; rfl)⟩
theorem map_set_same {α β : Type} (f : α → β) (l : List α) (i : Nat) (x y : α) (hi : l[i]? = some x) (h : f y = f x) : (l.set i y).map f = l.map f := by
  apply List.ext_getElem?
  intro k
  rw [List.getElem?_map, List.getElem?_map, List.getElem?_set]
  by_cases e : i = k
  · subst e
    have hl : i < l.length := (List.getElem?_eq_some_iff.1 hi).1
    rw [if_pos rfl, if_pos hl, hi]; simp [h]
  · rw [if_neg e]
theorem MatW.setI (h : MatW B B2 w R u rs) {i : Nat} {r : Rw} (hi : rs[i]? = some r) {j : Nat} (v : Int) (hv : 0 ≤ v ∧ v ≤ 256) : MatW B B2 (w.setCell ⟨r.b, j, none⟩ (.int .i64 v)) R u (rs.set i ⟨r.b, r.c, r.l.set j v⟩) := by
  have hl : i < rs.length := (List.getElem?_eq_some_iff.1 hi).1
  have hb : ∀ (k : Nat) s, (rs.set i ⟨r.b, r.c, r.l.set j v⟩)[k]? = some s → ∃ t, rs[k]? = some t ∧ t.b = s.b := by
    intro k s hs
    rw [List.getElem?_set] at hs
    by_cases e : i = k
    · rw [if_pos e, if_pos hl] at hs
      cases hs
      exact ⟨r, by rw [← e]; exact hi, rfl⟩
    · rw [if_neg e] at hs
      exact ⟨s, hs, rfl⟩
  refine ⟨?_, h.R0, ?_, ?_, ?_⟩
  · rw [map_set_same (Rw.v u) rs i r ⟨r.b, r.c, r.l.set j v⟩ hi rfl]
    exact rowB_other h.hd (fun e => (h.nR i r hi).1 e.symm) _
  · intro a b x y ha hb' hab
    obtain ⟨x', h1, h2⟩ := hb a x ha
    obtain ⟨y', h3, h4⟩ := hb b y hb'
    rw [← h2, ← h4]; exact h.nd a b x' y' h1 h3 hab
  · intro k s hs
    obtain ⟨t, h1, h2⟩ := hb k s hs
    rw [← h2]; exact h.nR k t h1
  · intro k s hs
    rw [List.getElem?_set] at hs
    by_cases e : i = k
    · rw [if_pos e, if_pos hl] at hs
      cases hs
      obtain ⟨h1, h2, h3, h4⟩ := h.row i r hi
      refine ⟨?_, by simp [h2], ?_, h4⟩
      · rw [List.map_set]; exact h1.set j _
      · refine Rng.of_getD fun m hm => ?_
        rw [getD_set]
        split
        · exact hv
        · exact h3.getD m
    · rw [if_neg e] at hs
      obtain ⟨h1, h2⟩ := h.row k s hs
      exact ⟨rowB_other h1 (fun e2 => h.nd k i s r hs hi (fun e3 => e e3.symm) e2) _, h2⟩
theorem MatW.swap (h : MatW B B2 w R u rs) {i k : Nat} {x y : Rw} (hi : rs[i]? = some x) (hk : rs[k]? = some y) : MatW B B2 ((w.setCell ⟨R, i, none⟩ (y.v u)).setCell ⟨R, k, none⟩ (x.v u)) R u ((rs.set i y).set k x) := by
  have hil : i < rs.length := (List.getElem?_eq_some_iff.1 hi).1
  have hkl : k < rs.length := (List.getElem?_eq_some_iff.1 hk).1
  have key : ∀ (m : Nat) s, ((rs.set i y).set k x)[m]? = some s → rs[if m = k then i else if m = i then k else m]? = some s := by
    intro m s hs
    rw [List.getElem?_set] at hs
    by_cases e : k = m
    · rw [if_pos e, if_pos (by rw [List.length_set]; exact hkl)] at hs
      rw [if_pos e.symm, hi]; exact hs
    · rw [if_neg e, List.getElem?_set] at hs
      rw [if_neg (fun g => e g.symm)]
      by_cases e2 : i = m
      · rw [if_pos e2, if_pos hil] at hs
        rw [if_pos e2.symm, hk]; exact hs
      · rw [if_neg e2] at hs
        rw [if_neg (fun g => e2 g.symm)]; exact hs
  have hr : ∀ (g : Nat), g ≠ R → ((w.setCell ⟨R, i, none⟩ (y.v u)).setCell ⟨R, k, none⟩ (x.v u)).heap[g]? = w.heap[g]? := fun g hg =>
    (heap_setCell_other _ ⟨R, k, none⟩ g _ hg).trans (heap_setCell_other w ⟨R, i, none⟩ g _ hg)
  refine ⟨?_, h.R0, ?_, ?_, ?_⟩
  · rw [List.map_set, List.map_set]
    exact (h.hd.set i _).set k _
  · intro a b s t ha hb hab
    refine h.nd _ _ s t (key a s ha) (key b t hb) ?_
    intro e
    apply hab
    by_cases a1 : a = k
    · by_cases b1 : b = k
      · rw [a1, b1]
      · rw [if_pos a1, if_neg b1] at e
        by_cases b2 : b = i
        · rw [if_pos b2] at e; omega
        · rw [if_neg b2] at e; omega
    · rw [if_neg a1] at e
      by_cases a2 : a = i
      · rw [if_pos a2] at e
        by_cases b1 : b = k
        · rw [if_pos b1] at e; omega
        · rw [if_neg b1] at e
          by_cases b2 : b = i
          · rw [a2, b2]
          · rw [if_neg b2] at e; omega
      · rw [if_neg a2] at e
        by_cases b1 : b = k
        · rw [if_pos b1] at e; omega
        · rw [if_neg b1] at e
          by_cases b2 : b = i
          · rw [if_pos b2] at e; omega
          · rw [if_neg b2] at e; exact e
  · intro m s hs
    exact h.nR _ s (key m s hs)
  · intro m s hs
    obtain ⟨h1, h2⟩ := h.row _ s (key m s hs)
    exact ⟨rowB_kept h1 (hr _ (h.nR _ s (key m s hs)).1), h2⟩
theorem MatW.len (h : MatW B B2 w R u rs) {i : Nat} {r : Rw} (hi : rs[i]? = some r) : r.l.length = u + 1 := (h.row i r hi).2.1
theorem mat_getD {i : Nat} {r : Rw} (hi : rs[i]? = some r) : (rs.map (·.l)).getD i [] = r.l := by
  rw [List.getD_eq_getElem?_getD, List.getElem?_map, hi]; rfl
theorem mat_set (i : Nat) (b c : Nat) (l : List Int) : (rs.set i ⟨b, c, l⟩).map (·.l) = (rs.map (·.l)).set i l := by rw [List.map_set]
end
end Go.Proofs.Ytbjmadcbhkeenaa.gs
