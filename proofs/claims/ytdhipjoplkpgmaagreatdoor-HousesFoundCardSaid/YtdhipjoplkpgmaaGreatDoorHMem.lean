/-
  Rows of integers and of cells, whole values, append to own rows: laws for the walks. Conditions: what each law names. ChainsMatch, plain: ways over links: the shortest way of which the list of numbers is the least, by the distances to the end and by the best ways from the start: the two agree. No condition.
-/
import Derived.Test.YtdhipjoplkpgmaaGreatDoorRows
import Derived.WalkKit
import Derived.Deep.QuietTactic
import Derived.BigQuiet
import Derived.Laws.AppendOwnNone
import Derived.Deep.OwnRows
import Derived.Laws.CopyOwn
import Derived.Maps.AppendAt
set_option linter.unusedSimpArgs false
set_option linter.unusedVariables false
namespace Go.Proofs.YtdhipjoplkpgmaaGreatDoor
theorem fpA {α : Type _} {l : List α} {i : Nat} {a : α} : l.toArray.setIfInBounds i a = (l.set i a).toArray := List.setIfInBounds_toArray _ _ _
theorem fpZ {α : Type _} {x a : α} {l : List α} : (x :: l).set 0 a = a :: l := rfl
theorem fpN {α : Type _} {x a : α} {l : List α} {i : Nat} : (x :: l).set (i + 1) a = x :: l.set i a := rfl
end Go.Proofs.YtdhipjoplkpgmaaGreatDoor
namespace Go.Proofs.YtdhipjoplkpgmaaGreatDoor
open Go.RowKit
theorem getD_lt' {α : Type} (l : List α) (d : α) {i : Nat} (h : i < l.length) : l.getD i d = l[i] := by simp [List.getD_eq_getElem?_getD, h]
theorem hid {p : Prop} (h : p) : Hid p := h
theorem szE (w : World) : ∃ B, w.heap.size = B := ⟨_, rfl⟩
theorem hidE {α : Type _} (a : α) : ∃ q, Hid (q = a) := ⟨_, rfl⟩
theorem rv {v u : Value} (h : v = u) : Ending.returned v = .returned u := by rw [h]
theorem ri {k : IntKind} {a b : Int} (h : a = b) : Value.int k a = .int k b := by rw [h]
theorem rb {a b : Bool} (h : a = b) : Value.bool a = .bool b := by rw [h]
end Go.Proofs.YtdhipjoplkpgmaaGreatDoor
namespace Go.Proofs.YtdhipjoplkpgmaaGreatDoor
open Go.RowKit
def RowI (k : IntKind) (w : World) (ao : Option Addr) (l : List Int) : Prop :=
 l = [] ∨ ∃ b off, ao = some ⟨b, off, none⟩ ∧ b < w.heap.size ∧ ∀ i, i < l.length → w.cell? ⟨b, off + i, none⟩ = some (.int k (l.getD i 0))
theorem RowI.below {k : IntKind} {w w' : World} {ao : Option Addr} {l : List Int} (h : RowI k w ao l) (hb : Below w.heap.size w w') : RowI k w' ao l := by
 rcases h with h | ⟨b, off, h1, h2, h3⟩
 ·exact Or.inl h
 ·exact Or.inr ⟨b, off, h1, Nat.lt_of_lt_of_le h2 hb.size, fun i hi => by rw [hb.cell (p := ⟨b, off + i, none⟩) h2]; exact h3 i hi⟩
theorem RowI.at {k : IntKind} {w : World} {ao : Option Addr} {l : List Int} (h : RowI k w ao l) {i : Nat} (hi : i < l.length) :
  ∃ b off, ao = some ⟨b, off, none⟩ ∧ b < w.heap.size ∧ ∀ j, j < l.length → w.cell? ⟨b, off + j, none⟩ = some (.int k (l.getD j 0)) := by
 rcases h with h | h
 ·subst h; simp at hi
 ·exact h
theorem RowI.elem {k : IntKind} {w : World} {ao : Option Addr} {l : List Int} (h : RowI k w ao l) {i : Nat} (hi : i < l.length) :
  ∃ b off c, ao = some ⟨b, off, none⟩ ∧ b < w.heap.size ∧ Hid (c = l.getD i 0) ∧ w.cell? ⟨b, off + i, none⟩ = some (.int k c) := by
 obtain ⟨b, off, h1, h2, h3⟩ := h.at hi
 exact ⟨b, off, _, h1, h2, rfl, h3 i hi⟩
theorem bdN {B : Nat} {a w : World} (h : Below B a w) (n : Nat) : Below B a (w.drewN n) := ⟨h.os, h.tape, h.output, h.size, h.block⟩
def BlkI (k : IntKind) (t : TypeId) (w : World) (g : Nat) (l : List Int) : Prop := w.heap[g]? = some (.cells (l.map (Value.int k)).toArray t (0, 0))
section
variable {k : IntKind} {t : TypeId} {w : World} {g : Nat} {l : List Int}
theorem BlkI.lt (h : BlkI k t w g l) : g < w.heap.size := lt_of_block h
theorem BlkI.cell (h : BlkI k t w g l) {i : Nat} (hi : i < l.length) : w.cell? ⟨g, i, none⟩ = some (.int k (l.getD i 0)) := by
 rw [cell_of_row w g i _ t (0, 0) h]
 simp [List.getD_eq_getElem?_getD, hi]
theorem BlkI.frozen (h : BlkI k t w g l) (i : Nat) : w.frozen? ⟨g, i, none⟩ = false := frozen_of_row w g i _ t h
theorem BlkI.elem (h : BlkI k t w g l) {i : Nat} (hi : i < l.length) : ∃ c, Hid (c = l.getD i 0) ∧ w.cell? ⟨g, i, none⟩ = some (.int k c) := ⟨_, rfl, h.cell hi⟩
theorem BlkI.row (h : BlkI k t w g l) : RowI k w (some ⟨g, 0, none⟩) l := Or.inr ⟨g, 0, rfl, h.lt, fun i hi => by rw [Nat.zero_add]; exact h.cell hi⟩
theorem BlkI.below {w' : World} {B : Nat} (h : BlkI k t w g l) (hb : Below B w w') (hg : g < B) : BlkI k t w' g l := by unfold BlkI; rw [hb.block g hg]; exact h
theorem BlkI.drew (h : BlkI k t w g l) : BlkI k t w.drew g l := h
theorem BlkI.drewN (h : BlkI k t w g l) (n : Nat) : BlkI k t (w.drewN n) g l := h
theorem BlkI.set (h : BlkI k t w g l) (i : Nat) (v : Int) : BlkI k t (w.setCell ⟨g, i, none⟩ (.int k v)) g (l.set i v) := by
 unfold BlkI
 rw [heap_setCell_same w g i _ t _ h]
 simp [List.map_set]
end
theorem BlkI.made (k : IntKind) (t : TypeId) (w : World) (n : Nat) : BlkI k t (w.alloc (.cells (madeCells #[.int k 0] n) t)) w.heap.size (List.replicate n 0) := by
 unfold BlkI
 rw [heap_alloc_new]
 congr 2
 apply Array.ext'
 apply List.ext_getElem
 ·simp [madeCells]
 ·intro i h1 h2
  simp [madeCells, Nat.mod_one]
theorem BlkI.new (k : IntKind) (t : TypeId) (w : World) (l : List Int) : BlkI k t (w.alloc (.cells (l.map (Value.int k)).toArray t)) w.heap.size l := by
 unfold BlkI
 rw [heap_alloc_new]
end Go.Proofs.YtdhipjoplkpgmaaGreatDoor
namespace Go.Proofs.YtdhipjoplkpgmaaGreatDoor
open Go.RowKit
def RowV (w : World) (ao : Option Addr) (cs : List Value) : Prop :=
 cs = [] ∨ ∃ b off, ao = some ⟨b, off, none⟩ ∧ b < w.heap.size ∧ ∀ j u, cs[j]? = some u → w.cell? ⟨b, off + j, none⟩ = some u
theorem RowI.v {k : IntKind} {w : World} {ao : Option Addr} {l : List Int} (h : RowI k w ao l) : RowV w ao (l.map (Value.int k)) := by
 rcases h with h | ⟨b, off, h1, h2, h3⟩
 ·exact Or.inl (by simp [h])
 ·refine Or.inr ⟨b, off, h1, h2, fun j u hu => ?_⟩
  have hj : j < l.length := by
   have := (List.getElem?_eq_some_iff.1 hu).1
   simpa using this
  rw [h3 j hj]
  simp [hj] at hu
  simp [List.getD_eq_getElem?_getD, hj, hu]
theorem RowV.i {k : IntKind} {w : World} {ao : Option Addr} {l : List Int} (h : RowV w ao (l.map (Value.int k))) : RowI k w ao l := by
 rcases h with h | ⟨b, off, h1, h2, h3⟩
 ·exact Or.inl (by simpa using h)
 ·refine Or.inr ⟨b, off, h1, h2, fun i hi => h3 i _ ?_⟩
  simp [List.getD_eq_getElem?_getD, hi]
theorem RowV.below {w w' : World} {ao : Option Addr} {cs : List Value} (h : RowV w ao cs) (hb : Below w.heap.size w w') : RowV w' ao cs := by
 rcases h with h | ⟨b, off, h1, h2, h3⟩
 ·exact Or.inl h
 ·exact Or.inr ⟨b, off, h1, Nat.lt_of_lt_of_le h2 hb.size, fun j u hu => by rw [hb.cell (p := ⟨b, off + j, none⟩) h2]; exact h3 j u hu⟩
theorem RowV.kept {w w' : World} {ao : Option Addr} {cs : List Value} {row : Option Nat} (h : RowV w ao cs) (hb : w.grownBy w' row) (hr : ∀ b, ao = some b → row ≠ some b.block) : RowV w' ao cs := by
 rcases h with h | ⟨b, off, h1, h2, h3⟩
 ·exact Or.inl h
 ·refine Or.inr ⟨b, off, h1, Nat.lt_of_lt_of_le h2 hb.size, fun j u hu => ?_⟩
  exact hb.cell (h3 j u hu) (fun e => hr _ h1 e.symm)
theorem RowV.alloc {w : World} {ao : Option Addr} {cs : List Value} (h : RowV w ao cs) (o : Obj) : RowV (w.alloc o) ao cs := h.below ((Below.refl _ _).alloc (Nat.le_refl _) o)
def Mine (w : World) (base : Nat) (e : TypeId) (size : Nat) (v : Value) (n : Nat) (xs : List Value) : Prop :=
 w.ownsRow base e size v n xs ∨ (n = 0 ∧ xs = [] ∧ ∃ ao, v = .slice ao 0 0)
theorem Mine.nil (w : World) (base : Nat) (e : TypeId) (size : Nat) : Mine w base e size (.slice none 0 0) 0 [] := Or.inl (World.ownsRow_nil w base e size)
theorem Mine.row {w : World} {base : Nat} {e : TypeId} {size : Nat} {v : Value} {n : Nat} {xs : List Value} (h : Mine w base e size v n xs) :
  ∃ ao cap, v = .slice ao n cap ∧ n ≤ cap ∧ RowV w ao xs := by
 rcases h with ⟨hl, h | ⟨g, cap, cur, hv, hg, hh, h1, h2, h3, h4⟩⟩ | ⟨rfl, rfl, ao, rfl⟩
 ·obtain ⟨rfl, rfl⟩ := h
  have : xs = [] := by apply List.eq_nil_of_length_eq_zero; rw [hl]; simp
  exact ⟨none, 0, rfl, Nat.le_refl _, Or.inl this⟩
 ·refine ⟨_, cap, hv, h1, Or.inr ⟨g, 0, rfl, lt_of_block hh, fun j u hu => ?_⟩⟩
  rw [Nat.zero_add, cell_of_row w g j cur e (0, 0) hh]
  rw [← h4, List.getElem?_take] at hu
  split at hu
  ·simpa using hu
  ·cases hu
 ·exact ⟨ao, 0, rfl, Nat.le_refl _, Or.inl rfl⟩
theorem Mine.mono {w : World} {base base' : Nat} {e : TypeId} {size : Nat} {v : Value} {n : Nat} {xs : List Value} (h : Mine w base e size v n xs) (hb : base' ≤ base) : Mine w base' e size v n xs := by
 rcases h with ⟨h1, h2⟩ | h
 ·refine Or.inl ⟨h1, ?_⟩
  rcases h2 with h2 | ⟨g, cap, cur, hv, hg, r⟩
  ·exact Or.inl h2
  ·exact Or.inr ⟨g, cap, cur, hv, Nat.le_trans hb hg, r⟩
 ·exact Or.inr h
theorem Mine.below {w w' : World} {base B : Nat} {e : TypeId} {size : Nat} {v : Value} {n : Nat} {xs : List Value} (h : Mine w base e size v n xs) (hb : Below B w w') (hB : ∀ g, v.ownBlock = some g → g < B) : Mine w' base e size v n xs := by
 rcases h with ⟨h1, h2⟩ | h
 ·refine Or.inl ⟨h1, ?_⟩
  rcases h2 with h2 | ⟨g, cap, cur, hv, hg, hh, r⟩
  ·exact Or.inl h2
  ·refine Or.inr ⟨g, cap, cur, hv, hg, ?_, r⟩
   rw [hb.block g (hB g (by rw [hv]; rfl))]
   exact hh
 ·exact Or.inr h
theorem Mine.belowAll {w w' : World} {base : Nat} {e : TypeId} {size : Nat} {v : Value} {n : Nat} {xs : List Value} (h : Mine w base e size v n xs) (hb : Below w.heap.size w w') : Mine w' base e size v n xs := by
 rcases h with h | h
 ·exact Mine.below (Or.inl h) hb fun g hg => (h.lt g hg).2
 ·exact Or.inr h
def Info (P : Program) (e : TypeId) (z : Value) (size bytes : Nat) : Prop := (P.info? e).map (fun i => (i.zero, i.size, i.bytes)) = some (some z, size, bytes)
theorem Info.parts {P : Program} {e : TypeId} {z : Value} {size bytes : Nat} (h : Info P e z size bytes) : ∃ i, P.info? e = some i ∧ i.zero = some z ∧ i.size = size ∧ i.bytes = bytes := by
 obtain ⟨i, hi, h⟩ := Option.map_eq_some_iff.1 h
 simp only [Prod.mk.injEq] at h
 exact ⟨i, hi, h⟩
theorem run_append_mine {P : Program} (w : World) (t ty e : TypeId) (z : Value) (size bytes : Nat) (ht : P.underlying t = some (.slice e)) (hi : Info P e z size bytes) (hzs : z.cells.size = size) (hsz : 0 < size)
  (base : Nat) (v : Value) (n : Nat) (xs : List Value) (hown : Mine w base e size v n xs) (ao : Option Addr) (m c : Nat) (hno : ao = none → c = 0) (news : List Value) (hl : news.length = m * size) (hrow : RowV w ao news) (h1 : ∀ u ∈ news, u.oneCell' = true)
  (b1 : n + m ≤ maxLen) (b2 : (n + m) * bytes ≤ 140737488355328) (hbase : base ≤ w.heap.size) :
  ∃ v' w' row, (Builtin.append_ #[t, t] ty #[v, .slice ao m c]).run P w = .ok v' w' ∧ Mine w' base e size v' (n + m) (xs ++ news) ∧ w.grownBy w' row ∧ (∀ k, row = some k → base ≤ k ∧ v.ownBlock = some k) := by
 obtain ⟨i, hi, hz, hs, hby⟩ := hi.parts
 have hsize : ∀ {k : Nat}, k * size = 0 → k = 0 := fun {k} h => by
  rcases Nat.mul_eq_zero.1 h with h | h
  ·exact h
  ·omega
 -- where nothing is appended, there is a source with an address to the same effect
 have hm0 : news = [] → m = 0 := fun h => hsize (by rw [← hl, h]; rfl)
 rcases hown with hown | ⟨rfl, rfl, bo, rfl⟩
 ·have hrow' : ∀ k, v.ownBlock = some k → base ≤ k ∧ v.ownBlock = some k := fun k hk => ⟨(hown.lt k hk).1, hk⟩
  cases ao with
  | none =>
   have hne : news = [] := by
    rcases hrow with h | ⟨b, off, h, _⟩
    ·exact h
    ·cases h
   obtain rfl := hm0 hne
   obtain rfl := hno rfl
   subst hne
   have hrun := run_append_owned_none (P := P) (w := w) base t ty e i size ht hi v n xs hown
   exact ⟨v, w, none, hrun, Or.inl (by simpa using hown), ⟨rfl, rfl, rfl, Nat.le_refl _, fun _ _ _ => rfl⟩, fun k hk => by cases hk⟩
  | some ad =>
   have hcells : ∀ j u, news[j]? = some u → w.cell? (ad.add j) = some u := by
    intro j u hu
    rcases hrow with h | ⟨b, off, h, _, h3⟩
    ·subst h; simp at hu
    ·obtain rfl : ad = ⟨b, off, none⟩ := by simpa using h
     have := h3 j u hu
     unfold Addr.add
     split
     ·rename_i hj; subst hj; simpa using this
     ·simpa using this
   obtain ⟨v', w', hrun, r1, r2, _⟩ := run_append_own (P := P) w base t ty e i z size bytes ht hi hz hs hby hzs hsz v n xs hown ad m c news hl hcells h1 b1 b2 hbase
   exact ⟨v', w', _, hrun, Or.inl r1, r2, hrow'⟩
 ·by_cases hm : m = 0
  ·subst hm
   have hne : news = [] := List.eq_nil_of_length_eq_zero (by rw [hl]; simp)
   subst hne
   refine ⟨.slice bo 0 0, w, none, ?_, Or.inr ⟨rfl, rfl, bo, rfl⟩, ⟨rfl, rfl, rfl, Nat.le_refl _, fun _ _ _ => rfl⟩, fun k hk => by cases hk⟩
   cases ao <;> cases bo <;> simp [Builtin.append_, run_underlying ht, sizeOf, typeInfo, hi, Builtin.lenOf, Builtin.firstCells, loadCells, loadCellsFrom, storeCells]
  ·have hcells : ∃ b off, ao = some ⟨b, off, none⟩ ∧ ∀ j u, news[j]? = some u → w.cell? ((⟨b, off, none⟩ : Addr).add j) = some u := by
    rcases hrow with h | ⟨b, off, h, _, h3⟩
    ·exact absurd (hm0 h) hm
    ·refine ⟨b, off, h, fun j u hu => ?_⟩
     have := h3 j u hu
     unfold Addr.add
     split
     ·rename_i hj; subst hj; simpa using this
     ·simpa using this
   obtain ⟨b, off, rfl, hc⟩ := hcells
   cases bo with
   | some bb =>
    obtain ⟨v', w', hrun, r1, r2⟩ := run_append_arg_grows (P := P) w t ty e i z size bytes ht hi hz hs hby hzs hsz bb 0 0 [] (by simp) (fun j u hu => by simp at hu) ⟨b, off, none⟩ m c news hl hc (by omega) b1 b2
    refine ⟨v', w', none, hrun, Or.inl ?_, r2, fun k hk => by cases hk⟩
    exact ⟨r1.1, by
     rcases r1.2 with h | ⟨g, cap, cur, hv, hg, r⟩
     ·exact Or.inl h
     ·exact Or.inr ⟨g, cap, cur, hv, Nat.le_trans hbase hg, r⟩⟩
   | none =>
    obtain ⟨v', w', hrun, r1, r2, _⟩ := run_append_own (P := P) w base t ty e i z size bytes ht hi hz hs hby hzs hsz (.slice none 0 0) 0 [] (World.ownsRow_nil w base e size) ⟨b, off, none⟩ m c news hl hc h1 b1 b2 hbase
    exact ⟨v', w', none, hrun, Or.inl r1, r2, fun k hk => by cases hk⟩
theorem wl_append {P : Program} {w : World} {ops : Array Oper} {rest : List Oper} {o : Oper} {a : Act} {Q : Exit → Act → World → Prop} (hgd : o.guard = none) (s x : Operand) (t : TypeId)
  (ho : o.op = .call { callee := .builtin .append, args := #[s, x], argTypes := #[t, t] }) (e : TypeId) (z : Value) (size bytes : Nat) (ht : P.underlying t = some (.slice e)) (hi : Info P e z size bytes) (hzs : z.cells.size = size) (hsz : 0 < size)
  (base : Nat) (v : Value) (n : Nat) (xs : List Value) (hs : a.eval s = v) (hown : Mine w base e size v n xs) (ao : Option Addr) (m c : Nat) (hx : a.eval x = .slice ao m c) (hno : ao = none → c = 0) (news : List Value) (hl : news.length = m * size) (hrow : RowV w ao news) (h1 : ∀ u ∈ news, u.oneCell' = true)
  (b1 : n + m ≤ maxLen) (b2 : (n + m) * bytes ≤ 140737488355328) (hbase : base ≤ w.heap.size)
  (hK : ∀ v' w' row, Mine w' base e size v' (n + m) (xs ++ news) → w.grownBy w' row → (∀ k, row = some k → base ≤ k ∧ v.ownBlock = some k) → wpList P ops Q rest (a.put o.dst v') w') : wpList P ops Q (o :: rest) a w := by
 refine wpList_plain hgd fun K hK' => ?_
 obtain ⟨v', w', row, hrun, r1, r2, r3⟩ := run_append_mine (P := P) w t o.type e z size bytes ht hi hzs hsz base v n xs hown ao m c hno news hl hrow h1 b1 b2 hbase
 unfold Oper.wp
 simp [execOp, ho, resolve, invoke, builtin, hs, hx, hrun, Result.andThen]
 exact hK' _ _ (hK v' w' row r1 r2 r3)
theorem wl_appendS {P : Program} {w : World} {ops : Array Oper} {rest : List Oper} {o : Oper} {a : Act} {Q : Exit → Act → World → Prop} (hgd : o.guard = none) (s x : Operand) (t : TypeId)
  (ho : o.op = .call { callee := .builtin .append, args := #[s, x], argTypes := #[t, t] }) (e : TypeId) (z : Value) (size bytes : Nat) (ht : P.underlying t = some (.slice e)) (hi : Info P e z size bytes) (hzs : z.cells.size = size) (hsz : 0 < size)
  (base : Nat) (v : Value) (n : Nat) (xs : List Value) (hs : a.eval s = v) (hown : Mine w base e size v n xs) (ao : Option Addr) (m c : Nat) (hx : a.eval x = .slice ao m c) (hno : ao = none → c = 0) (news : List Value) (hl : news.length = m * size) (hrow : RowV w ao news) (h1 : ∀ u ∈ news, u.oneCell' = true)
  (b1 : n + m ≤ maxLen) (b2 : (n + m) * bytes ≤ 140737488355328) (hbase : base ≤ w.heap.size) (N : Nat) (hN : N = n + m)
  (hK : ∀ ao' cap' w' row, N ≤ cap' → Mine w' base e size (.slice ao' N cap') N (xs ++ news) → RowV w' ao' (xs ++ news) → w.grownBy w' row → (∀ k, row = some k → base ≤ k ∧ v.ownBlock = some k) → wpList P ops Q rest (a.put o.dst (.slice ao' N cap')) w') : wpList P ops Q (o :: rest) a w := by
 subst hN
 refine wl_append hgd s x t ho e z size bytes ht hi hzs hsz base v n xs hs hown ao m c hx hno news hl hrow h1 b1 b2 hbase fun v' w' row r1 r2 r3 => ?_
 obtain ⟨ao', cap', rfl, h2, h3⟩ := r1.row
 exact hK ao' cap' w' row h2 r1 h3 r2 r3
end Go.Proofs.YtdhipjoplkpgmaaGreatDoor
namespace Go.Proofs.YtdhipjoplkpgmaaGreatDoor
open Go.RowKit
def BlkV (t : TypeId) (w : World) (g : Nat) (cs : List Value) : Prop := w.heap[g]? = some (.cells cs.toArray t (0, 0))
theorem BlkI.v {k : IntKind} {t : TypeId} {w : World} {g : Nat} {l : List Int} (h : BlkI k t w g l) : BlkV t w g (l.map (Value.int k)) := h
def At (w : World) (a : Addr) (cs : List Value) : Prop := ∀ j u, cs[j]? = some u → w.cell? (a.add j) = some u
section
variable {t : TypeId} {w : World} {g : Nat} {cs : List Value}
theorem BlkV.lt (h : BlkV t w g cs) : g < w.heap.size := lt_of_block h
theorem BlkV.cell (h : BlkV t w g cs) (i : Nat) : w.cell? ⟨g, i, none⟩ = cs[i]? := by
 rw [cell_of_row w g i _ t (0, 0) h]; simp
theorem BlkV.frozen (h : BlkV t w g cs) (i : Nat) : w.frozen? ⟨g, i, none⟩ = false := frozen_of_row w g i _ t h
theorem BlkV.below {w' : World} {B : Nat} (h : BlkV t w g cs) (hb : Below B w w') (hg : g < B) : BlkV t w' g cs := by unfold BlkV; rw [hb.block g hg]; exact h
theorem BlkV.alloc (h : BlkV t w g cs) (o : Obj) : BlkV t (w.alloc o) g cs := by unfold BlkV; rw [Below.heap_alloc w o g h.lt]; exact h
theorem BlkV.drew (h : BlkV t w g cs) : BlkV t w.drew g cs := h
theorem BlkV.drewN (h : BlkV t w g cs) (n : Nat) : BlkV t (w.drewN n) g cs := h
theorem BlkV.other (h : BlkV t w g cs) {a : Addr} (ha : g ≠ a.block) (u : Value) : BlkV t (w.setCell a u) g cs := by unfold BlkV; rw [heap_setCell_other w a g u ha]; exact h
theorem BlkV.set (h : BlkV t w g cs) (i : Nat) (v : Value) : BlkV t (w.setCell ⟨g, i, none⟩ v) g (cs.set i v) := by
 unfold BlkV; rw [heap_setCell_same w g i _ t _ h]; simp
theorem BlkV.setRow (h : BlkV t w g cs) (ds : List Value) : BlkV t (w.setRow g ds.toArray) g ds := setRow_heap w g _ _ t (0, 0) h
theorem BlkV.otherRow (h : BlkV t w g cs) {g' : Nat} (hg : g ≠ g') (ds : Array Value) : BlkV t (w.setRow g' ds) g cs := by unfold BlkV; rw [setRow_other w g' g ds hg]; exact h
theorem BlkV.grown {w' : World} {row : Option Nat} (h : BlkV t w g cs) (hg : w.grownBy w' row) (hr : row ≠ some g) : BlkV t w' g cs := by
 unfold BlkV; rw [hg.block g h.lt (fun e => hr e.symm)]; exact h
theorem BlkV.at (h : BlkV t w g cs) (off : Nat) (ds : List Value) (hd : ∀ j u, ds[j]? = some u → cs[off + j]? = some u) : At w ⟨g, off, none⟩ ds := by
 intro j u hu
 have := hd j u hu
 rw [show (⟨g, off, none⟩ : Addr).add j = ⟨g, off + j, none⟩ by unfold Addr.add; split <;> simp_all, h.cell]
 exact this
theorem BlkV.at0 (h : BlkV t w g cs) : At w ⟨g, 0, none⟩ cs := h.at 0 cs fun j u hu => by rw [Nat.zero_add]; exact hu
end
theorem BlkV.new (t : TypeId) (w : World) {g : Nat} (cs : List Value) (hg : g = w.heap.size) : BlkV t (w.alloc (.cells cs.toArray t)) g cs := by
 subst hg; unfold BlkV; rw [heap_alloc_new]
theorem below_setRow' {B : Nat} {a w : World} (h : Below B a w) {g : Nat} (hg : B ≤ g) (cs : Array Value) : Below B a (w.setRow g cs) :=
 h.trans ⟨rfl, rfl, rfl, by simp, fun k hk => setRow_other w g k cs (by omega)⟩
def Agg (P : Program) (t : TypeId) (n : Nat) : Prop := (∃ d, P.underlying t = some d ∧ (match d with | .struct _ => True | .array _ _ => True | _ => False)) ∧ (P.info? t).map (·.size) = some n
theorem Agg.arr {P : Program} {t e : TypeId} {m n : Nat} (h : P.underlying t = some (.array m e)) (k : (P.info? t).map (·.size) = some n) : Agg P t n := ⟨⟨_, h, trivial⟩, k⟩
theorem Agg.str {P : Program} {t : TypeId} {fs : Array Field} {n : Nat} (h : P.underlying t = some (.struct fs)) (k : (P.info? t).map (·.size) = some n) : Agg P t n := ⟨⟨_, h, trivial⟩, k⟩
theorem run_load_agg {P : Program} (w : World) (t : TypeId) (a : Addr) (cs : List Value) (ha : Agg P t cs.length) (hc : At w a cs) : (loadVar t a).run P w = .ok (.agg cs.toArray) w := by
 obtain ⟨⟨d, hu, hd⟩, hi⟩ := ha
 obtain ⟨i, hi, hs⟩ := Option.map_eq_some_iff.1 hi
 have hl := run_loadCells_list (P := P) w a cs hc
 cases d <;> simp_all [loadVar, isAgg, run_underlying hu, sizeOf, typeInfo, Result.andThen]
theorem wl_load {P : Program} {w : World} {ops : Array Oper} {rest : List Oper} {o : Oper} {a : Act} {Q : Exit → Act → World → Prop} (hgd : o.guard = none) (ty : TypeId) (x : Operand) (ho : o.op = .load ty x)
  (p : Addr) (hx : a.eval x = .pointer (some p)) (cs : List Value) (ha : Agg P ty cs.length) (hc : At w p cs) (h : wpList P ops Q rest (a.put o.dst (.agg cs.toArray)) w) : wpList P ops Q (o :: rest) a w := by
 refine wpList_plain hgd fun K hK' => ?_
 unfold Oper.wp
 simp [execOp, ho, hx, Instr.loadAt, Instr.sureAddr, run_load_agg w ty p cs ha hc, Result.andThen]
 exact hK' _ _ h
theorem run_store_agg {P : Program} (w : World) (ty t : TypeId) (g off : Nat) (cur cs : List Value) (hi : (P.info? ty).map (·.size) = some cs.length) (hg : BlkV t w g cur) (hfit : off + cs.length ≤ cur.length) (h1 : ∀ u ∈ cs, u.oneCell' = true) :
  (storeVar ty ⟨g, off, none⟩ (.agg cs.toArray)).run P w = .ok () (w.setRow g (cur.take off ++ cs ++ cur.drop (off + cs.length)).toArray) := by
 obtain ⟨i, hi, hs⟩ := Option.map_eq_some_iff.1 hi
 have h := run_storeCells_at (P := P) g off t cs 0 cur.toArray w hg (by simpa using hfit) h1
 simp only [Nat.add_zero] at h
 simp [storeVar, Value.cells, sizeOf, typeInfo, hi, hs, h]
theorem wl_store {P : Program} {w : World} {ops : Array Oper} {rest : List Oper} {o : Oper} {a : Act} {Q : Exit → Act → World → Prop} (hgd : o.guard = none) (ty : TypeId) (x y : Operand) (ho : o.op = .store ty x y)
  (t : TypeId) (g off : Nat) (hx : a.eval x = .pointer (some ⟨g, off, none⟩)) (cs : List Value) (hy : a.eval y = .agg cs.toArray) (hi : (P.info? ty).map (·.size) = some cs.length) (cur : List Value) (hg : BlkV t w g cur) (hfit : off + cs.length ≤ cur.length) (h1 : ∀ u ∈ cs, u.oneCell' = true)
  (h : wpList P ops Q rest (a.put o.dst undef) (w.setRow g (cur.take off ++ cs ++ cur.drop (off + cs.length)).toArray)) : wpList P ops Q (o :: rest) a w := by
 refine wpList_plain hgd fun K hK' => ?_
 unfold Oper.wp
 simp [execOp, ho, hx, hy, Instr.storeAt, Instr.sureAddr, run_store_agg w ty t g off cur cs hi hg hfit h1, Result.andThen]
 exact hK' _ _ (by simpa using h)
theorem wl_alloc {P : Program} {w : World} {ops : Array Oper} {rest : List Oper} {o : Oper} {a : Act} {Q : Exit → Act → World → Prop} (hgd : o.guard = none) (t : TypeId) (ho : o.op = .alloc t)
  (cs : List Value) (hz : (P.info? t).map (·.zero) = some (some (.agg cs.toArray))) (h : wpList P ops Q rest (a.put o.dst (.pointer (some ⟨w.heap.size, 0, none⟩))) (w.alloc (.cells cs.toArray t))) : wpList P ops Q (o :: rest) a w := by
 obtain ⟨i, hi, hs⟩ := Option.map_eq_some_iff.1 hz
 refine wpList_plain hgd fun K hK' => ?_
 unfold Oper.wp
 simp [execOp, ho, Instr.alloc, zeroValue, typeInfo, hi, hs, newVar, newRow, Value.cells, Result.andThen]
 exact hK' _ _ h
theorem wl_build {P : Program} {w : World} {ops : Array Oper} {rest : List Oper} {o : Oper} {a : Act} {Q : Exit → Act → World → Prop} (hgd : o.guard = none) (t : TypeId) (parts : Array (Nat × Operand)) (ho : o.op = .build t parts)
  (cs : List Value) (hb : P.built t (parts.map fun (i, x) => (i, a.eval x)).toList = some cs.toArray) (h : wpList P ops Q rest (a.put o.dst (.agg cs.toArray)) w) : wpList P ops Q (o :: rest) a w := by
 refine wpList_plain hgd fun K hK' => ?_
 refine wp_build (P := P) t parts ho (by rw [hb]; rfl) ?_
 rw [hb]
 exact hK' _ _ h
theorem wl_build0 {P : Program} {w : World} {ops : Array Oper} {rest : List Oper} {o : Oper} {a : Act} {Q : Exit → Act → World → Prop} (hgd : o.guard = none) (t : TypeId) (ho : o.op = .build t #[])
  (cs : List Value) (hb : P.built t [] = some cs.toArray) (h : wpList P ops Q rest (a.put o.dst (.agg cs.toArray)) w) : wpList P ops Q (o :: rest) a w :=
 wl_build hgd t #[] ho cs (by simpa using hb) h
end Go.Proofs.YtdhipjoplkpgmaaGreatDoor
namespace Go.Proofs.YtdhipjoplkpgmaaGreatDoor
open Go.RowKit
theorem at_new (w : World) (cs : Array Value) (t : TypeId) : At (w.alloc (.cells cs t)) ⟨w.heap.size, 0, none⟩ cs.toList := by
 intro j u hu
 rw [show (⟨w.heap.size, 0, none⟩ : Addr).add j = ⟨w.heap.size, j, none⟩ by unfold Addr.add; split <;> simp_all, World.cell?_alloc_at _ _ _ _ (by simp)]
 simpa using hu
theorem at_new' (w : World) (cs : List Value) (t : TypeId) {g : Nat} (hg : g = w.heap.size) : At (w.alloc (.cells cs.toArray t)) ⟨g, 0, none⟩ cs := by
 subst hg
 have := at_new w cs.toArray t
 simpa using this
end Go.Proofs.YtdhipjoplkpgmaaGreatDoor
namespace Go.Proofs.YtdhipjoplkpgmaaGreatDoor.lk
abbrev Id := List Int
abbrev Mp (β : Type) := Id → Option β
def upd {β : Type} (D : Mp β) (k : Id) (v : β) : Mp β := fun j => if j = k then some v else D j
theorem upd_same {β : Type} (D : Mp β) (k : Id) (v : β) : upd D k v k = some v := by simp [upd]
theorem upd_other {β : Type} (D : Mp β) {k j : Id} (v : β) (h : j ≠ k) : upd D k v j = D j := by simp [upd, h]
def cmpN : List Nat → List Nat → Int
 | [], [] => 0
 | [], _ :: _ => -1
 | _ :: _, [] => 1
 | x :: a, y :: b => if x < y then -1 else if y < x then 1 else cmpN a b
abbrev Link := Id × Id
def join {β : Type} (B N : Mp β) : Mp β := fun k => match N k with
 | some v => some v
 | none => B k
structure RoundOk (B N : Mp (List Nat)) (E : List Link) (i : Nat) : Prop where
 of : ∀ k l, N k = some l → B k = none ∧ ∃ j x way, j < i ∧ E[j]? = some x ∧ x.2 = k ∧ B x.1 = some way ∧ l = way ++ [j]
 least : ∀ j x way, j < i → E[j]? = some x → B x.1 = some way → B x.2 = none → ∃ l, N x.2 = some l ∧ cmpN l (way ++ [j]) ≤ 0
end Go.Proofs.YtdhipjoplkpgmaaGreatDoor.lk
