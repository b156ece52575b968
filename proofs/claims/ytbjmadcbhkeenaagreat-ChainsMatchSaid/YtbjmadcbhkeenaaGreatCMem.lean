/-
  Rows of integers and of cells, whole values, append to own rows: laws for the walks. Conditions: what each law names. ChainsMatch, plain: ways over links: the shortest way of which the list of numbers is the least, by the distances to the end and by the best ways from the start: the two agree. No condition.
-/
import Derived.Test.YtbjmadcbhkeenaaGreatRows
import Derived.WalkKit
import Derived.Deep.QuietTactic
import Derived.BigQuiet
import Derived.Laws.AppendOwnNone
import Derived.Deep.OwnRows
import Derived.Laws.CopyOwn
import Derived.Maps.AppendAt
set_option linter.unusedSimpArgs false
set_option linter.unusedVariables false
namespace Go.Proofs.YtbjmadcbhkeenaaGreat
theorem fpA {α : Type _} {l : List α} {i : Nat} {a : α} : l.toArray.setIfInBounds i a = (l.set i a).toArray := List.setIfInBounds_toArray _ _ _
theorem fpZ {α : Type _} {x a : α} {l : List α} : (x :: l).set 0 a = a :: l := rfl
theorem fpN {α : Type _} {x a : α} {l : List α} {i : Nat} : (x :: l).set (i + 1) a = x :: l.set i a := rfl
end Go.Proofs.YtbjmadcbhkeenaaGreat
namespace Go.Proofs.YtbjmadcbhkeenaaGreat
open Go.RowKit
theorem getD_lt' {α : Type} (l : List α) (d : α) {i : Nat} (h : i < l.length) : l.getD i d = l[i] := by simp [List.getD_eq_getElem?_getD, h]
theorem hid {p : Prop} (h : p) : Hid p := h
theorem rv {v u : Value} (h : v = u) : Ending.returned v = .returned u := by rw [h]
theorem ri {k : IntKind} {a b : Int} (h : a = b) : Value.int k a = .int k b := by rw [h]
theorem rb {a b : Bool} (h : a = b) : Value.bool a = .bool b := by rw [h]
theorem rt2 {a b c d : Value} (h : a = c) (k : b = d) : Value.tuple #[a, b] = .tuple #[c, d] := by rw [h, k]
end Go.Proofs.YtbjmadcbhkeenaaGreat
namespace Go.Proofs.YtbjmadcbhkeenaaGreat
open Go.RowKit
def RowI (k : IntKind) (w : World) (ao : Option Addr) (l : List Int) : Prop :=
 l = [] ∨ ∃ b off, ao = some ⟨b, off, none⟩ ∧ b < w.heap.size ∧ ∀ i, i < l.length → w.cell? ⟨b, off + i, none⟩ = some (.int k (l.getD i 0))
theorem RowI.nil (k : IntKind) (w : World) (ao : Option Addr) : RowI k w ao [] := Or.inl rfl
theorem RowI.below {k : IntKind} {w w' : World} {ao : Option Addr} {l : List Int} (h : RowI k w ao l) (hb : Below w.heap.size w w') : RowI k w' ao l := by
 rcases h with h | ⟨b, off, h1, h2, h3⟩
 ·exact Or.inl h
 ·exact Or.inr ⟨b, off, h1, Nat.lt_of_lt_of_le h2 hb.size, fun i hi => by rw [hb.cell (p := ⟨b, off + i, none⟩) h2]; exact h3 i hi⟩
theorem RowI.at {k : IntKind} {w : World} {ao : Option Addr} {l : List Int} (h : RowI k w ao l) {i : Nat} (hi : i < l.length) :
  ∃ b off, ao = some ⟨b, off, none⟩ ∧ b < w.heap.size ∧ ∀ j, j < l.length → w.cell? ⟨b, off + j, none⟩ = some (.int k (l.getD j 0)) := by
 rcases h with h | h
 ·subst h; simp at hi
 ·exact h
theorem RowI.elem {k : IntKind} {w : World} {ao : Option Addr} {l : List Int} (h : RowI k w ao l) {i : Nat} (hi : i < l.length) :
  ∃ b off c, ao = some ⟨b, off, none⟩ ∧ b < w.heap.size ∧ Hid (c = l.getD i 0) ∧ w.cell? ⟨b, off + i, none⟩ = some (.int k c) := by
 obtain ⟨b, off, h1, h2, h3⟩ := h.at hi
 exact ⟨b, off, _, h1, h2, rfl, h3 i hi⟩
theorem bdN {B : Nat} {a w : World} (h : Below B a w) (n : Nat) : Below B a (w.drewN n) := ⟨h.os, h.tape, h.output, h.size, h.block⟩
def BlkI (k : IntKind) (t : TypeId) (w : World) (g : Nat) (l : List Int) : Prop := w.heap[g]? = some (.cells (l.map (Value.int k)).toArray t (0, 0))
section
variable {k : IntKind} {t : TypeId} {w : World} {g : Nat} {l : List Int}
theorem BlkI.lt (h : BlkI k t w g l) : g < w.heap.size := lt_of_block h
theorem BlkI.cell (h : BlkI k t w g l) {i : Nat} (hi : i < l.length) : w.cell? ⟨g, i, none⟩ = some (.int k (l.getD i 0)) := by
 rw [cell_of_row w g i _ t (0, 0) h]
 simp [List.getD_eq_getElem?_getD, hi]
theorem BlkI.frozen (h : BlkI k t w g l) (i : Nat) : w.frozen? ⟨g, i, none⟩ = false := frozen_of_row w g i _ t h
theorem BlkI.elem (h : BlkI k t w g l) {i : Nat} (hi : i < l.length) : ∃ c, Hid (c = l.getD i 0) ∧ w.cell? ⟨g, i, none⟩ = some (.int k c) := ⟨_, rfl, h.cell hi⟩
theorem BlkI.row (h : BlkI k t w g l) : RowI k w (some ⟨g, 0, none⟩) l := Or.inr ⟨g, 0, rfl, h.lt, fun i hi => by rw [Nat.zero_add]; exact h.cell hi⟩
theorem BlkI.below {w' : World} {B : Nat} (h : BlkI k t w g l) (hb : Below B w w') (hg : g < B) : BlkI k t w' g l := by unfold BlkI; rw [hb.block g hg]; exact h
theorem BlkI.drew (h : BlkI k t w g l) : BlkI k t w.drew g l := h
theorem BlkI.drewN (h : BlkI k t w g l) (n : Nat) : BlkI k t (w.drewN n) g l := h
theorem BlkI.set (h : BlkI k t w g l) (i : Nat) (v : Int) : BlkI k t (w.setCell ⟨g, i, none⟩ (.int k v)) g (l.set i v) := by
 unfold BlkI
 rw [heap_setCell_same w g i _ t _ h]
 simp [List.map_set]
end
theorem BlkI.made (k : IntKind) (t : TypeId) (w : World) (n : Nat) : BlkI k t (w.alloc (.cells (madeCells #[.int k 0] n) t)) w.heap.size (List.replicate n 0) := by
 unfold BlkI
 rw [heap_alloc_new]
 congr 2
 apply Array.ext'
 apply List.ext_getElem
 ·simp [madeCells]
 ·intro i h1 h2
  simp [madeCells, Nat.mod_one]
theorem BlkI.new (k : IntKind) (t : TypeId) (w : World) (l : List Int) : BlkI k t (w.alloc (.cells (l.map (Value.int k)).toArray t)) w.heap.size l := by
 unfold BlkI
 rw [heap_alloc_new]
end Go.Proofs.YtbjmadcbhkeenaaGreat
namespace Go.Proofs.YtbjmadcbhkeenaaGreat
open Go.RowKit
def RowV (w : World) (ao : Option Addr) (cs : List Value) : Prop :=
 cs = [] ∨ ∃ b off, ao = some ⟨b, off, none⟩ ∧ b < w.heap.size ∧ ∀ j u, cs[j]? = some u → w.cell? ⟨b, off + j, none⟩ = some u
theorem RowI.v {k : IntKind} {w : World} {ao : Option Addr} {l : List Int} (h : RowI k w ao l) : RowV w ao (l.map (Value.int k)) := by
 rcases h with h | ⟨b, off, h1, h2, h3⟩
 ·exact Or.inl (by simp [h])
 ·refine Or.inr ⟨b, off, h1, h2, fun j u hu => ?_⟩
  have hj : j < l.length := by
   have := (List.getElem?_eq_some_iff.1 hu).1
   simpa using this
  rw [h3 j hj]
  simp [hj] at hu
  simp [List.getD_eq_getElem?_getD, hj, hu]
theorem RowV.i {k : IntKind} {w : World} {ao : Option Addr} {l : List Int} (h : RowV w ao (l.map (Value.int k))) : RowI k w ao l := by
 rcases h with h | ⟨b, off, h1, h2, h3⟩
 ·exact Or.inl (by simpa using h)
 ·refine Or.inr ⟨b, off, h1, h2, fun i hi => h3 i _ ?_⟩
  simp [List.getD_eq_getElem?_getD, hi]
theorem RowV.below {w w' : World} {ao : Option Addr} {cs : List Value} (h : RowV w ao cs) (hb : Below w.heap.size w w') : RowV w' ao cs := by
 rcases h with h | ⟨b, off, h1, h2, h3⟩
 ·exact Or.inl h
 ·exact Or.inr ⟨b, off, h1, Nat.lt_of_lt_of_le h2 hb.size, fun j u hu => by rw [hb.cell (p := ⟨b, off + j, none⟩) h2]; exact h3 j u hu⟩
theorem RowV.alloc {w : World} {ao : Option Addr} {cs : List Value} (h : RowV w ao cs) (o : Obj) : RowV (w.alloc o) ao cs := h.below ((Below.refl _ _).alloc (Nat.le_refl _) o)
def Mine (w : World) (base : Nat) (e : TypeId) (size : Nat) (v : Value) (n : Nat) (xs : List Value) : Prop :=
 w.ownsRow base e size v n xs ∨ (n = 0 ∧ xs = [] ∧ ∃ ao, v = .slice ao 0 0)
theorem Mine.nil (w : World) (base : Nat) (e : TypeId) (size : Nat) : Mine w base e size (.slice none 0 0) 0 [] := Or.inl (World.ownsRow_nil w base e size)
theorem Mine.row {w : World} {base : Nat} {e : TypeId} {size : Nat} {v : Value} {n : Nat} {xs : List Value} (h : Mine w base e size v n xs) :
  ∃ ao cap, v = .slice ao n cap ∧ n ≤ cap ∧ RowV w ao xs := by
 rcases h with ⟨hl, h | ⟨g, cap, cur, hv, hg, hh, h1, h2, h3, h4⟩⟩ | ⟨rfl, rfl, ao, rfl⟩
 ·obtain ⟨rfl, rfl⟩ := h
  have : xs = [] := by apply List.eq_nil_of_length_eq_zero; rw [hl]; simp
  exact ⟨none, 0, rfl, Nat.le_refl _, Or.inl this⟩
 ·refine ⟨_, cap, hv, h1, Or.inr ⟨g, 0, rfl, lt_of_block hh, fun j u hu => ?_⟩⟩
  rw [Nat.zero_add, cell_of_row w g j cur e (0, 0) hh]
  rw [← h4, List.getElem?_take] at hu
  split at hu
  ·simpa using hu
  ·cases hu
 ·exact ⟨ao, 0, rfl, Nat.le_refl _, Or.inl rfl⟩
theorem Mine.mono {w : World} {base base' : Nat} {e : TypeId} {size : Nat} {v : Value} {n : Nat} {xs : List Value} (h : Mine w base e size v n xs) (hb : base' ≤ base) : Mine w base' e size v n xs := by
 rcases h with ⟨h1, h2⟩ | h
 ·refine Or.inl ⟨h1, ?_⟩
  rcases h2 with h2 | ⟨g, cap, cur, hv, hg, r⟩
  ·exact Or.inl h2
  ·exact Or.inr ⟨g, cap, cur, hv, Nat.le_trans hb hg, r⟩
 ·exact Or.inr h
theorem Mine.below {w w' : World} {base B : Nat} {e : TypeId} {size : Nat} {v : Value} {n : Nat} {xs : List Value} (h : Mine w base e size v n xs) (hb : Below B w w') (hB : ∀ g, v.ownBlock = some g → g < B) : Mine w' base e size v n xs := by
 rcases h with ⟨h1, h2⟩ | h
 ·refine Or.inl ⟨h1, ?_⟩
  rcases h2 with h2 | ⟨g, cap, cur, hv, hg, hh, r⟩
  ·exact Or.inl h2
  ·refine Or.inr ⟨g, cap, cur, hv, hg, ?_, r⟩
   rw [hb.block g (hB g (by rw [hv]; rfl))]
   exact hh
 ·exact Or.inr h
theorem Mine.belowAll {w w' : World} {base : Nat} {e : TypeId} {size : Nat} {v : Value} {n : Nat} {xs : List Value} (h : Mine w base e size v n xs) (hb : Below w.heap.size w w') : Mine w' base e size v n xs := by
 rcases h with h | h
 ·exact Mine.below (Or.inl h) hb fun g hg => (h.lt g hg).2
 ·exact Or.inr h
def Info (P : Program) (e : TypeId) (z : Value) (size bytes : Nat) : Prop := (P.info? e).map (fun i => (i.zero, i.size, i.bytes)) = some (some z, size, bytes)
theorem Info.parts {P : Program} {e : TypeId} {z : Value} {size bytes : Nat} (h : Info P e z size bytes) : ∃ i, P.info? e = some i ∧ i.zero = some z ∧ i.size = size ∧ i.bytes = bytes := by
 obtain ⟨i, hi, h⟩ := Option.map_eq_some_iff.1 h
 simp only [Prod.mk.injEq] at h
 exact ⟨i, hi, h⟩
theorem run_append_mine {P : Program} (w : World) (t ty e : TypeId) (z : Value) (size bytes : Nat) (ht : P.underlying t = some (.slice e)) (hi : Info P e z size bytes) (hzs : z.cells.size = size) (hsz : 0 < size)
  (base : Nat) (v : Value) (n : Nat) (xs : List Value) (hown : Mine w base e size v n xs) (ao : Option Addr) (m c : Nat) (hno : ao = none → c = 0) (news : List Value) (hl : news.length = m * size) (hrow : RowV w ao news) (h1 : ∀ u ∈ news, u.oneCell' = true)
  (b1 : n + m ≤ maxLen) (b2 : (n + m) * bytes ≤ 140737488355328) (hbase : base ≤ w.heap.size) :
  ∃ v' w' row, (Builtin.append_ #[t, t] ty #[v, .slice ao m c]).run P w = .ok v' w' ∧ Mine w' base e size v' (n + m) (xs ++ news) ∧ w.grownBy w' row ∧ (∀ k, row = some k → base ≤ k ∧ v.ownBlock = some k) := by
 obtain ⟨i, hi, hz, hs, hby⟩ := hi.parts
 have hsize : ∀ {k : Nat}, k * size = 0 → k = 0 := fun {k} h => by
  rcases Nat.mul_eq_zero.1 h with h | h
  ·exact h
  ·omega
 -- where nothing is appended, there is a source with an address to the same effect
 have hm0 : news = [] → m = 0 := fun h => hsize (by rw [← hl, h]; rfl)
 rcases hown with hown | ⟨rfl, rfl, bo, rfl⟩
 ·have hrow' : ∀ k, v.ownBlock = some k → base ≤ k ∧ v.ownBlock = some k := fun k hk => ⟨(hown.lt k hk).1, hk⟩
  cases ao with
  | none =>
   have hne : news = [] := by
    rcases hrow with h | ⟨b, off, h, _⟩
    ·exact h
    ·cases h
   obtain rfl := hm0 hne
   obtain rfl := hno rfl
   subst hne
   have hrun := run_append_owned_none (P := P) (w := w) base t ty e i size ht hi v n xs hown
   exact ⟨v, w, none, hrun, Or.inl (by simpa using hown), ⟨rfl, rfl, rfl, Nat.le_refl _, fun _ _ _ => rfl⟩, fun k hk => by cases hk⟩
  | some ad =>
   have hcells : ∀ j u, news[j]? = some u → w.cell? (ad.add j) = some u := by
    intro j u hu
    rcases hrow with h | ⟨b, off, h, _, h3⟩
    ·subst h; simp at hu
    ·obtain rfl : ad = ⟨b, off, none⟩ := by simpa using h
     have := h3 j u hu
     unfold Addr.add
     split
     ·rename_i hj; subst hj; simpa using this
     ·simpa using this
   obtain ⟨v', w', hrun, r1, r2, _⟩ := run_append_own (P := P) w base t ty e i z size bytes ht hi hz hs hby hzs hsz v n xs hown ad m c news hl hcells h1 b1 b2 hbase
   exact ⟨v', w', _, hrun, Or.inl r1, r2, hrow'⟩
 ·by_cases hm : m = 0
  ·subst hm
   have hne : news = [] := List.eq_nil_of_length_eq_zero (by rw [hl]; simp)
   subst hne
   refine ⟨.slice bo 0 0, w, none, ?_, Or.inr ⟨rfl, rfl, bo, rfl⟩, ⟨rfl, rfl, rfl, Nat.le_refl _, fun _ _ _ => rfl⟩, fun k hk => by cases hk⟩
   cases ao <;> cases bo <;> simp [Builtin.append_, run_underlying ht, sizeOf, typeInfo, hi, Builtin.lenOf, Builtin.firstCells, loadCells, loadCellsFrom, storeCells]
  ·have hcells : ∃ b off, ao = some ⟨b, off, none⟩ ∧ ∀ j u, news[j]? = some u → w.cell? ((⟨b, off, none⟩ : Addr).add j) = some u := by
    rcases hrow with h | ⟨b, off, h, _, h3⟩
    ·exact absurd (hm0 h) hm
    ·refine ⟨b, off, h, fun j u hu => ?_⟩
     have := h3 j u hu
     unfold Addr.add
     split
     ·rename_i hj; subst hj; simpa using this
     ·simpa using this
   obtain ⟨b, off, rfl, hc⟩ := hcells
   cases bo with
   | some bb =>
    obtain ⟨v', w', hrun, r1, r2⟩ := run_append_arg_grows (P := P) w t ty e i z size bytes ht hi hz hs hby hzs hsz bb 0 0 [] (by simp) (fun j u hu => by simp at hu) ⟨b, off, none⟩ m c news hl hc (by omega) b1 b2
    refine ⟨v', w', none, hrun, Or.inl ?_, r2, fun k hk => by cases hk⟩
    exact ⟨r1.1, by
     rcases r1.2 with h | ⟨g, cap, cur, hv, hg, r⟩
     ·exact Or.inl h
     ·exact Or.inr ⟨g, cap, cur, hv, Nat.le_trans hbase hg, r⟩⟩
   | none =>
    obtain ⟨v', w', hrun, r1, r2, _⟩ := run_append_own (P := P) w base t ty e i z size bytes ht hi hz hs hby hzs hsz (.slice none 0 0) 0 [] (World.ownsRow_nil w base e size) ⟨b, off, none⟩ m c news hl hc h1 b1 b2 hbase
    exact ⟨v', w', none, hrun, Or.inl r1, r2, fun k hk => by cases hk⟩
theorem wl_append {P : Program} {w : World} {ops : Array Oper} {rest : List Oper} {o : Oper} {a : Act} {Q : Exit → Act → World → Prop} (hgd : o.guard = none) (s x : Operand) (t : TypeId)
  (ho : o.op = .call { callee := .builtin .append, args := #[s, x], argTypes := #[t, t] }) (e : TypeId) (z : Value) (size bytes : Nat) (ht : P.underlying t = some (.slice e)) (hi : Info P e z size bytes) (hzs : z.cells.size = size) (hsz : 0 < size)
  (base : Nat) (v : Value) (n : Nat) (xs : List Value) (hs : a.eval s = v) (hown : Mine w base e size v n xs) (ao : Option Addr) (m c : Nat) (hx : a.eval x = .slice ao m c) (hno : ao = none → c = 0) (news : List Value) (hl : news.length = m * size) (hrow : RowV w ao news) (h1 : ∀ u ∈ news, u.oneCell' = true)
  (b1 : n + m ≤ maxLen) (b2 : (n + m) * bytes ≤ 140737488355328) (hbase : base ≤ w.heap.size)
  (hK : ∀ v' w' row, Mine w' base e size v' (n + m) (xs ++ news) → w.grownBy w' row → (∀ k, row = some k → base ≤ k ∧ v.ownBlock = some k) → wpList P ops Q rest (a.put o.dst v') w') : wpList P ops Q (o :: rest) a w := by
 refine wpList_plain hgd fun K hK' => ?_
 obtain ⟨v', w', row, hrun, r1, r2, r3⟩ := run_append_mine (P := P) w t o.type e z size bytes ht hi hzs hsz base v n xs hown ao m c hno news hl hrow h1 b1 b2 hbase
 unfold Oper.wp
 simp [execOp, ho, resolve, invoke, builtin, hs, hx, hrun, Result.andThen]
 exact hK' _ _ (hK v' w' row r1 r2 r3)
theorem wl_appendS {P : Program} {w : World} {ops : Array Oper} {rest : List Oper} {o : Oper} {a : Act} {Q : Exit → Act → World → Prop} (hgd : o.guard = none) (s x : Operand) (t : TypeId)
  (ho : o.op = .call { callee := .builtin .append, args := #[s, x], argTypes := #[t, t] }) (e : TypeId) (z : Value) (size bytes : Nat) (ht : P.underlying t = some (.slice e)) (hi : Info P e z size bytes) (hzs : z.cells.size = size) (hsz : 0 < size)
  (base : Nat) (v : Value) (n : Nat) (xs : List Value) (hs : a.eval s = v) (hown : Mine w base e size v n xs) (ao : Option Addr) (m c : Nat) (hx : a.eval x = .slice ao m c) (hno : ao = none → c = 0) (news : List Value) (hl : news.length = m * size) (hrow : RowV w ao news) (h1 : ∀ u ∈ news, u.oneCell' = true)
  (b1 : n + m ≤ maxLen) (b2 : (n + m) * bytes ≤ 140737488355328) (hbase : base ≤ w.heap.size) (N : Nat) (hN : N = n + m)
  (hK : ∀ ao' cap' w' row, N ≤ cap' → Mine w' base e size (.slice ao' N cap') N (xs ++ news) → RowV w' ao' (xs ++ news) → w.grownBy w' row → (∀ k, row = some k → base ≤ k ∧ v.ownBlock = some k) → wpList P ops Q rest (a.put o.dst (.slice ao' N cap')) w') : wpList P ops Q (o :: rest) a w := by
 subst hN
 refine wl_append hgd s x t ho e z size bytes ht hi hzs hsz base v n xs hs hown ao m c hx hno news hl hrow h1 b1 b2 hbase fun v' w' row r1 r2 r3 => ?_
 obtain ⟨ao', cap', rfl, h2, h3⟩ := r1.row
 exact hK ao' cap' w' row h2 r1 h3 r2 r3
end Go.Proofs.YtbjmadcbhkeenaaGreat
namespace Go.Proofs.YtbjmadcbhkeenaaGreat
open Go.RowKit
def BlkV (t : TypeId) (w : World) (g : Nat) (cs : List Value) : Prop := w.heap[g]? = some (.cells cs.toArray t (0, 0))
theorem BlkI.v {k : IntKind} {t : TypeId} {w : World} {g : Nat} {l : List Int} (h : BlkI k t w g l) : BlkV t w g (l.map (Value.int k)) := h
def At (w : World) (a : Addr) (cs : List Value) : Prop := ∀ j u, cs[j]? = some u → w.cell? (a.add j) = some u
section
variable {t : TypeId} {w : World} {g : Nat} {cs : List Value}
theorem BlkV.lt (h : BlkV t w g cs) : g < w.heap.size := lt_of_block h
theorem BlkV.cell (h : BlkV t w g cs) (i : Nat) : w.cell? ⟨g, i, none⟩ = cs[i]? := by
 rw [cell_of_row w g i _ t (0, 0) h]; simp
theorem BlkV.frozen (h : BlkV t w g cs) (i : Nat) : w.frozen? ⟨g, i, none⟩ = false := frozen_of_row w g i _ t h
theorem BlkV.below {w' : World} {B : Nat} (h : BlkV t w g cs) (hb : Below B w w') (hg : g < B) : BlkV t w' g cs := by unfold BlkV; rw [hb.block g hg]; exact h
theorem BlkV.alloc (h : BlkV t w g cs) (o : Obj) : BlkV t (w.alloc o) g cs := by unfold BlkV; rw [Below.heap_alloc w o g h.lt]; exact h
theorem BlkV.drew (h : BlkV t w g cs) : BlkV t w.drew g cs := h
theorem BlkV.drewN (h : BlkV t w g cs) (n : Nat) : BlkV t (w.drewN n) g cs := h
theorem BlkV.other (h : BlkV t w g cs) {a : Addr} (ha : g ≠ a.block) (u : Value) : BlkV t (w.setCell a u) g cs := by unfold BlkV; rw [heap_setCell_other w a g u ha]; exact h
theorem BlkV.set (h : BlkV t w g cs) (i : Nat) (v : Value) : BlkV t (w.setCell ⟨g, i, none⟩ v) g (cs.set i v) := by
 unfold BlkV; rw [heap_setCell_same w g i _ t _ h]; simp
theorem BlkV.setRow (h : BlkV t w g cs) (ds : List Value) : BlkV t (w.setRow g ds.toArray) g ds := setRow_heap w g _ _ t (0, 0) h
theorem BlkV.otherRow (h : BlkV t w g cs) {g' : Nat} (hg : g ≠ g') (ds : Array Value) : BlkV t (w.setRow g' ds) g cs := by unfold BlkV; rw [setRow_other w g' g ds hg]; exact h
theorem BlkV.grown {w' : World} {row : Option Nat} (h : BlkV t w g cs) (hg : w.grownBy w' row) (hr : row ≠ some g) : BlkV t w' g cs := by
 unfold BlkV; rw [hg.block g h.lt (fun e => hr e.symm)]; exact h
theorem BlkV.at (h : BlkV t w g cs) (off : Nat) (ds : List Value) (hd : ∀ j u, ds[j]? = some u → cs[off + j]? = some u) : At w ⟨g, off, none⟩ ds := by
 intro j u hu
 have := hd j u hu
 rw [show (⟨g, off, none⟩ : Addr).add j = ⟨g, off + j, none⟩ by unfold Addr.add; split <;> simp_all, h.cell]
 exact this
theorem BlkV.at0 (h : BlkV t w g cs) : At w ⟨g, 0, none⟩ cs := h.at 0 cs fun j u hu => by rw [Nat.zero_add]; exact hu
end
theorem BlkV.new (t : TypeId) (w : World) {g : Nat} (cs : List Value) (hg : g = w.heap.size) : BlkV t (w.alloc (.cells cs.toArray t)) g cs := by
 subst hg; unfold BlkV; rw [heap_alloc_new]
theorem below_setRow' {B : Nat} {a w : World} (h : Below B a w) {g : Nat} (hg : B ≤ g) (cs : Array Value) : Below B a (w.setRow g cs) :=
 h.trans ⟨rfl, rfl, rfl, by simp, fun k hk => setRow_other w g k cs (by omega)⟩
def Agg (P : Program) (t : TypeId) (n : Nat) : Prop := (∃ d, P.underlying t = some d ∧ (match d with | .struct _ => True | .array _ _ => True | _ => False)) ∧ (P.info? t).map (·.size) = some n
theorem Agg.arr {P : Program} {t e : TypeId} {m n : Nat} (h : P.underlying t = some (.array m e)) (k : (P.info? t).map (·.size) = some n) : Agg P t n := ⟨⟨_, h, trivial⟩, k⟩
theorem Agg.str {P : Program} {t : TypeId} {fs : Array Field} {n : Nat} (h : P.underlying t = some (.struct fs)) (k : (P.info? t).map (·.size) = some n) : Agg P t n := ⟨⟨_, h, trivial⟩, k⟩
theorem run_load_agg {P : Program} (w : World) (t : TypeId) (a : Addr) (cs : List Value) (ha : Agg P t cs.length) (hc : At w a cs) : (loadVar t a).run P w = .ok (.agg cs.toArray) w := by
 obtain ⟨⟨d, hu, hd⟩, hi⟩ := ha
 obtain ⟨i, hi, hs⟩ := Option.map_eq_some_iff.1 hi
 have hl := run_loadCells_list (P := P) w a cs hc
 cases d <;> simp_all [loadVar, isAgg, run_underlying hu, sizeOf, typeInfo, Result.andThen]
theorem wl_load {P : Program} {w : World} {ops : Array Oper} {rest : List Oper} {o : Oper} {a : Act} {Q : Exit → Act → World → Prop} (hgd : o.guard = none) (ty : TypeId) (x : Operand) (ho : o.op = .load ty x)
  (p : Addr) (hx : a.eval x = .pointer (some p)) (cs : List Value) (ha : Agg P ty cs.length) (hc : At w p cs) (h : wpList P ops Q rest (a.put o.dst (.agg cs.toArray)) w) : wpList P ops Q (o :: rest) a w := by
 refine wpList_plain hgd fun K hK' => ?_
 unfold Oper.wp
 simp [execOp, ho, hx, Instr.loadAt, Instr.sureAddr, run_load_agg w ty p cs ha hc, Result.andThen]
 exact hK' _ _ h
theorem run_store_agg {P : Program} (w : World) (ty t : TypeId) (g off : Nat) (cur cs : List Value) (hi : (P.info? ty).map (·.size) = some cs.length) (hg : BlkV t w g cur) (hfit : off + cs.length ≤ cur.length) (h1 : ∀ u ∈ cs, u.oneCell' = true) :
  (storeVar ty ⟨g, off, none⟩ (.agg cs.toArray)).run P w = .ok () (w.setRow g (cur.take off ++ cs ++ cur.drop (off + cs.length)).toArray) := by
 obtain ⟨i, hi, hs⟩ := Option.map_eq_some_iff.1 hi
 have h := run_storeCells_at (P := P) g off t cs 0 cur.toArray w hg (by simpa using hfit) h1
 simp only [Nat.add_zero] at h
 simp [storeVar, Value.cells, sizeOf, typeInfo, hi, hs, h]
theorem wl_store {P : Program} {w : World} {ops : Array Oper} {rest : List Oper} {o : Oper} {a : Act} {Q : Exit → Act → World → Prop} (hgd : o.guard = none) (ty : TypeId) (x y : Operand) (ho : o.op = .store ty x y)
  (t : TypeId) (g off : Nat) (hx : a.eval x = .pointer (some ⟨g, off, none⟩)) (cs : List Value) (hy : a.eval y = .agg cs.toArray) (hi : (P.info? ty).map (·.size) = some cs.length) (cur : List Value) (hg : BlkV t w g cur) (hfit : off + cs.length ≤ cur.length) (h1 : ∀ u ∈ cs, u.oneCell' = true)
  (h : wpList P ops Q rest (a.put o.dst undef) (w.setRow g (cur.take off ++ cs ++ cur.drop (off + cs.length)).toArray)) : wpList P ops Q (o :: rest) a w := by
 refine wpList_plain hgd fun K hK' => ?_
 unfold Oper.wp
 simp [execOp, ho, hx, hy, Instr.storeAt, Instr.sureAddr, run_store_agg w ty t g off cur cs hi hg hfit h1, Result.andThen]
 exact hK' _ _ (by simpa using h)
theorem wl_alloc {P : Program} {w : World} {ops : Array Oper} {rest : List Oper} {o : Oper} {a : Act} {Q : Exit → Act → World → Prop} (hgd : o.guard = none) (t : TypeId) (ho : o.op = .alloc t)
  (cs : List Value) (hz : (P.info? t).map (·.zero) = some (some (.agg cs.toArray))) (h : wpList P ops Q rest (a.put o.dst (.pointer (some ⟨w.heap.size, 0, none⟩))) (w.alloc (.cells cs.toArray t))) : wpList P ops Q (o :: rest) a w := by
 obtain ⟨i, hi, hs⟩ := Option.map_eq_some_iff.1 hz
 refine wpList_plain hgd fun K hK' => ?_
 unfold Oper.wp
 simp [execOp, ho, Instr.alloc, zeroValue, typeInfo, hi, hs, newVar, newRow, Value.cells, Result.andThen]
 exact hK' _ _ h
theorem wl_build {P : Program} {w : World} {ops : Array Oper} {rest : List Oper} {o : Oper} {a : Act} {Q : Exit → Act → World → Prop} (hgd : o.guard = none) (t : TypeId) (parts : Array (Nat × Operand)) (ho : o.op = .build t parts)
  (cs : List Value) (hb : P.built t (parts.map fun (i, x) => (i, a.eval x)).toList = some cs.toArray) (h : wpList P ops Q rest (a.put o.dst (.agg cs.toArray)) w) : wpList P ops Q (o :: rest) a w := by
 refine wpList_plain hgd fun K hK' => ?_
 refine wp_build (P := P) t parts ho (by rw [hb]; rfl) ?_
 rw [hb]
 exact hK' _ _ h
theorem wl_build0 {P : Program} {w : World} {ops : Array Oper} {rest : List Oper} {o : Oper} {a : Act} {Q : Exit → Act → World → Prop} (hgd : o.guard = none) (t : TypeId) (ho : o.op = .build t #[])
  (cs : List Value) (hb : P.built t [] = some cs.toArray) (h : wpList P ops Q rest (a.put o.dst (.agg cs.toArray)) w) : wpList P ops Q (o :: rest) a w :=
 wl_build hgd t #[] ho cs (by simpa using hb) h
end Go.Proofs.YtbjmadcbhkeenaaGreat
namespace Go.Proofs.YtbjmadcbhkeenaaGreat
open Go.RowKit
theorem wl_push {P : Program} {w : World} {ops : Array Oper} {rest : List Oper} {o : Oper} {a : Act} {Q : Exit → Act → World → Prop} (hgd : o.guard = none) (s x : Operand) (t : TypeId)
  (ho : o.op = .call { callee := .builtin .append, args := #[s, x], argTypes := #[t, t] }) (e : TypeId) (z : Value) (size bytes : Nat) (ht : P.underlying t = some (.slice e)) (hi : Info P e z size bytes) (hzs : z.cells.size = size) (hsz : 0 < size)
  (base : Nat) (v : Value) (n : Nat) (xs : List Value) (hs : a.eval s = v) (hown : w.ownsRow base e size v n xs) (ad : Addr) (m c : Nat) (hx : a.eval x = .slice (some ad) m c) (news : List Value) (hl : news.length = m * size) (hrow : At w ad news) (h1 : ∀ u ∈ news, u.oneCell' = true)
  (b1 : n + m ≤ maxLen) (b2 : (n + m) * bytes ≤ 140737488355328) (hbase : base ≤ w.heap.size) (N : Nat) (hN : N = n + m)
  (hK : ∀ ao' cap' w', N ≤ cap' → w'.ownsRow base e size (.slice ao' N cap') N (xs ++ news) → w.grownBy w' v.ownBlock → ((Value.slice ao' N cap').ownBlock = v.ownBlock ∨ (Value.slice ao' N cap').ownBlock = some w.heap.size) → wpList P ops Q rest (a.put o.dst (.slice ao' N cap')) w') : wpList P ops Q (o :: rest) a w := by
 subst hN
 obtain ⟨i, hi, hz, hsi, hby⟩ := hi.parts
 refine wpList_append_own_at w hgd s x t ho base e i z size bytes ht hi hz hsi hby hzs hsz v n xs hs hown ad m c news hx hl (fun j u hu => hrow j u hu) h1 b1 b2 hbase fun v' w' r1 r2 _ r4 => ?_
 obtain ⟨ao', cap', rfl, h2, _⟩ := Mine.row (Or.inl r1)
 exact hK ao' cap' w' h2 r1 r2 r4
theorem grown_refl (w : World) (row : Option Nat) : w.grownBy w row := ⟨rfl, rfl, rfl, Nat.le_refl _, fun _ _ _ => rfl⟩
theorem at_new (w : World) (cs : Array Value) (t : TypeId) : At (w.alloc (.cells cs t)) ⟨w.heap.size, 0, none⟩ cs.toList := by
 intro j u hu
 rw [show (⟨w.heap.size, 0, none⟩ : Addr).add j = ⟨w.heap.size, j, none⟩ by unfold Addr.add; split <;> simp_all, World.cell?_alloc_at _ _ _ _ (by simp)]
 simpa using hu
theorem at_new' (w : World) (cs : List Value) (t : TypeId) {g : Nat} (hg : g = w.heap.size) : At (w.alloc (.cells cs.toArray t)) ⟨g, 0, none⟩ cs := by
 subst hg
 have := at_new w cs.toArray t
 simpa using this
end Go.Proofs.YtbjmadcbhkeenaaGreat
namespace Go.Proofs.YtbjmadcbhkeenaaGreat.lk
abbrev Id := List Int
abbrev Mp (β : Type) := Id → Option β
def upd {β : Type} (D : Mp β) (k : Id) (v : β) : Mp β := fun j => if j = k then some v else D j
theorem upd_same {β : Type} (D : Mp β) (k : Id) (v : β) : upd D k v k = some v := by simp [upd]
theorem upd_other {β : Type} (D : Mp β) {k j : Id} (v : β) (h : j ≠ k) : upd D k v j = D j := by simp [upd, h]
def cmpN : List Nat → List Nat → Int
 | [], [] => 0
 | [], _ :: _ => -1
 | _ :: _, [] => 1
 | x :: a, y :: b => if x < y then -1 else if y < x then 1 else cmpN a b
theorem cmpN_refl : ∀ a, cmpN a a = 0
 | [] => rfl
 | x :: a => by rw [cmpN, if_neg (Nat.lt_irrefl _), if_neg (Nat.lt_irrefl _)]; exact cmpN_refl a
theorem cmpN_anti : ∀ a b, cmpN b a = - cmpN a b
 | [], [] => rfl
 | [], _ :: _ => rfl
 | _ :: _, [] => rfl
 | x :: a, y :: b => by
  have ih := cmpN_anti a b
  rw [cmpN, cmpN]
  split <;> split <;> omega
theorem cmpN_le_trans : ∀ a b c, cmpN a b ≤ 0 → cmpN b c ≤ 0 → cmpN a c ≤ 0
 | [], _, [], _, _ => by show (0 : Int) ≤ 0; omega
 | [], _, _ :: _, _, _ => by show (-1 : Int) ≤ 0; omega
 | _ :: _, [], _, h, _ => by rw [cmpN] at h; omega
 | x :: a, y :: b, [], _, h => by rw [cmpN] at h; omega
 | x :: a, y :: b, z :: c, h, k => by
  rw [cmpN] at h k ⊢
  by_cases h1 : x < y
  ·by_cases h2 : y < z
   ·rw [if_pos (by omega)]; omega
   ·rw [if_neg h2] at k
    by_cases h3 : z < y
    ·rw [if_pos h3] at k; omega
    ·rw [if_pos (by omega)]; omega
  ·rw [if_neg h1] at h
   by_cases h2 : y < x
   ·rw [if_pos h2] at h; omega
   ·rw [if_neg h2] at h
    obtain rfl : x = y := by omega
    by_cases h3 : x < z
    ·rw [if_pos h3]; omega
    ·rw [if_neg h3] at k ⊢
     by_cases h4 : z < x
     ·rw [if_pos h4] at k; omega
     ·rw [if_neg h4] at k ⊢
      exact cmpN_le_trans a b c h k
theorem cmpN_eq : ∀ a b, cmpN a b = 0 → a = b
 | [], [], _ => rfl
 | [], _ :: _, h => by rw [cmpN] at h; omega
 | _ :: _, [], h => by rw [cmpN] at h; omega
 | x :: a, y :: b, h => by
  rw [cmpN] at h
  by_cases h1 : x < y
  ·rw [if_pos h1] at h; omega
  ·rw [if_neg h1] at h
   by_cases h2 : y < x
   ·rw [if_pos h2] at h; omega
   ·rw [if_neg h2] at h
    rw [cmpN_eq a b h, show x = y by omega]
theorem cmpN_antisymm {a b : List Nat} (h : cmpN a b ≤ 0) (k : cmpN b a ≤ 0) : a = b := by
 rw [cmpN_anti a b] at k
 exact cmpN_eq a b (by omega)
theorem cmpN_snoc : ∀ (a b : List Nat) (i : Nat), a.length = b.length → cmpN a b ≤ 0 → cmpN (a ++ [i]) (b ++ [i]) ≤ 0
 | [], [], i, _, _ => by rw [cmpN_refl]; omega
 | [], _ :: _, _, h, _ => by simp at h
 | _ :: _, [], _, h, _ => by simp at h
 | x :: a, y :: b, i, h, k => by
  rw [List.cons_append, List.cons_append, cmpN]
  rw [cmpN] at k
  by_cases h1 : x < y
  ·rw [if_pos h1]; omega
  ·rw [if_neg h1] at k ⊢
   by_cases h2 : y < x
   ·rw [if_pos h2] at k; omega
   ·rw [if_neg h2] at k ⊢
    exact cmpN_snoc a b i (by simpa using h) k
abbrev Link := Id × Id
def Way (E : List Link) : Id → Id → List Nat → Prop
 | a, b, [] => a = b
 | a, b, i :: l => ∃ x, E[i]? = some x ∧ x.1 = a ∧ Way E x.2 b l
theorem Way.snoc {E : List Link} : ∀ {l : List Nat} {a b : Id} {i : Nat} {x : Link}, Way E a b l → E[i]? = some x → x.1 = b → Way E a x.2 (l ++ [i])
 | [], a, b, i, x, h, hi, hx => ⟨x, hi, by rw [hx]; exact h.symm, rfl⟩
 | j :: l, a, b, i, x, ⟨y, hy, hya, h⟩, hi, hx => ⟨y, hy, hya, h.snoc hi hx⟩
theorem Way.unsnoc {E : List Link} : ∀ {l : List Nat} {a b : Id} {i : Nat}, Way E a b (l ++ [i]) → ∃ x, E[i]? = some x ∧ x.2 = b ∧ Way E a x.1 l
 | [], a, b, i, ⟨x, hx, hxa, h⟩ => ⟨x, hx, h, hxa.symm⟩
 | j :: l, a, b, i, ⟨y, hy, hya, h⟩ => by
  obtain ⟨x, h1, h2, h3⟩ := h.unsnoc
  exact ⟨x, h1, h2, y, hy, hya, h3⟩
def Dist (E : List Link) (a b : Id) (d : Nat) : Prop := (∃ l, Way E a b l ∧ l.length = d) ∧ ∀ l, Way E a b l → d ≤ l.length
theorem dist_of_way {E : List Link} {a b : Id} : ∀ (n : Nat) (l : List Nat), Way E a b l → l.length ≤ n → ∃ d, d ≤ n ∧ Dist E a b d
 | 0, l, h, hl => ⟨0, Nat.le_refl _, ⟨l, h, by omega⟩, fun _ _ => Nat.zero_le _⟩
 | n + 1, l, h, hl => by
  by_cases hx : ∃ m, Way E a b m ∧ m.length ≤ n
  ·obtain ⟨m, h1, h2⟩ := hx
   obtain ⟨d, h3, h4⟩ := dist_of_way n m h1 h2
   exact ⟨d, by omega, h4⟩
  ·refine ⟨l.length, hl, ⟨l, h, rfl⟩, fun m hm => ?_⟩
   have : ¬ m.length ≤ n := fun e => hx ⟨m, hm, e⟩
   omega
def farX (m : Nat) (D : Mp Nat) (x : Link) : Mp Nat := if D x.2 = some m ∧ D x.1 = none then upd D x.1 (m + 1) else D
def farN (E : List Link) (want : Id) : Nat → Mp Nat
 | 0 => upd (fun _ => none) want 0
 | m + 1 => E.foldl (farX m) (farN E want m)
def FarIn (m : Nat) (D : Mp Nat) (F : List Link) (G : Mp Nat) : Prop := ∀ k d, G k = some d ↔ D k = some d ∨ (d = m + 1 ∧ D k = none ∧ ∃ x ∈ F, x.1 = k ∧ D x.2 = some m)
theorem FarIn.step {m : Nat} {D : Mp Nat} {F : List Link} {G : Mp Nat} (ih : FarIn m D F G) (x : Link) : FarIn m D (F ++ [x]) (farX m G x) := by
  intro k d
  -- at m the map is what it was
  have hm : ∀ k, G k = some m ↔ D k = some m := fun k => by
   rw [ih k m]
   exact ⟨fun h => h.elim id (fun h => absurd h.1 (by omega)), Or.inl⟩
  have hn : ∀ k, G k = none ↔ (D k = none ∧ ¬ ∃ x ∈ F, x.1 = k ∧ D x.2 = some m) := fun k => by
   constructor
   ·intro h
    have h0 : D k = none := by
     cases hk : D k with
     | none => rfl
     | some d =>
      have := (ih k d).2 (Or.inl hk)
      rw [h] at this; cases this
    refine ⟨h0, fun hx => ?_⟩
    have := (ih k (m + 1)).2 (Or.inr ⟨rfl, h0, hx⟩)
    rw [h] at this; cases this
   ·rintro ⟨h1, h2⟩
    cases hk : G k with
    | none => rfl
    | some d =>
     rcases (ih k d).1 hk with h | h
     ·rw [h1] at h; cases h
     ·exact absurd h.2.2 h2
  unfold farX
  by_cases hc : G x.2 = some m ∧ G x.1 = none
  ·rw [if_pos hc]
   by_cases hk : k = x.1
   ·subst hk
    rw [upd_same]
    obtain ⟨c1, c2⟩ := (hn _).1 hc.2
    constructor
    ·intro h
     obtain rfl : m + 1 = d := Option.some.inj h
     exact Or.inr ⟨rfl, c1, x, by simp, rfl, (hm _).1 hc.1⟩
    ·rintro (h | h)
     ·rw [c1] at h; cases h
     ·rw [h.1]
   ·rw [upd_other _ _ hk, ih k d]
    constructor
    ·rintro (h | ⟨h1, h2, y, h3, h4⟩)
     ·exact Or.inl h
     ·exact Or.inr ⟨h1, h2, y, by simp [h3], h4⟩
    ·rintro (h | ⟨h1, h2, y, h3, h4, h5⟩)
     ·exact Or.inl h
     ·rcases List.mem_append.1 h3 with h3 | h3
      ·exact Or.inr ⟨h1, h2, y, h3, h4, h5⟩
      ·rw [List.mem_singleton.1 h3] at h4
       exact absurd h4.symm hk
  ·rw [if_neg hc, ih k d]
   constructor
   ·rintro (h | ⟨h1, h2, y, h3, h4⟩)
    ·exact Or.inl h
    ·exact Or.inr ⟨h1, h2, y, by simp [h3], h4⟩
   ·rintro (h | ⟨h1, h2, y, h3, h4, h5⟩)
    ·exact Or.inl h
    ·rcases List.mem_append.1 h3 with h3 | h3
     ·exact Or.inr ⟨h1, h2, y, h3, h4, h5⟩
     ·obtain rfl := List.mem_singleton.1 h3
      subst h4
      by_cases hx : ∃ z ∈ F, z.1 = y.1 ∧ D z.2 = some m
      ·exact Or.inr ⟨h1, h2, hx⟩
      ·exact absurd ⟨(hm _).2 h5, (hn _).2 ⟨h2, hx⟩⟩ hc
theorem FarIn.fold {m : Nat} {D : Mp Nat} : ∀ (F2 F : List Link) (G : Mp Nat), FarIn m D F G → FarIn m D (F ++ F2) (F2.foldl (farX m) G)
 | [], F, G, h => by rw [List.append_nil]; exact h
 | x :: F2, F, G, h => by
  have := FarIn.fold F2 (F ++ [x]) _ (h.step x)
  rw [List.append_assoc] at this
  exact this
theorem farX_fold (m : Nat) (D : Mp Nat) (F : List Link) (k : Id) (d : Nat) : F.foldl (farX m) D k = some d ↔ D k = some d ∨ (d = m + 1 ∧ D k = none ∧ ∃ x ∈ F, x.1 = k ∧ D x.2 = some m) := by
 have := FarIn.fold (m := m) (D := D) F [] D (fun k d => ⟨Or.inl, fun h => h.elim id (fun h => by obtain ⟨_, _, x, h, _⟩ := h; cases h)⟩)
 exact this k d
theorem farN_spec (E : List Link) (want : Id) : ∀ (m : Nat) (k : Id) (d : Nat), farN E want m k = some d ↔ d ≤ m ∧ Dist E k want d
 | 0, k, d => by
  rw [farN]
  by_cases hk : k = want
  ·subst hk
   rw [upd_same]
   constructor
   ·intro h
    obtain rfl := Option.some.inj h
    exact ⟨Nat.le_refl _, ⟨[], rfl, rfl⟩, fun _ _ => Nat.zero_le _⟩
   ·rintro ⟨h, _⟩
    rw [show d = 0 by omega]
  ·rw [upd_other _ _ hk]
   constructor
   ·intro h; cases h
   ·rintro ⟨h, ⟨l, h1, h2⟩, _⟩
    obtain rfl : l = [] := List.eq_nil_of_length_eq_zero (by omega)
    exact absurd h1 hk
 | m + 1, k, d => by
  have ih := farN_spec E want m
  rw [farN, farX_fold m]
  have hnone : ∀ k, farN E want m k = none ↔ ∀ l, Way E k want l → m < l.length := fun k => by
   constructor
   ·intro h l hl
    by_cases hlm : l.length ≤ m
    ·obtain ⟨d, h1, h2⟩ := dist_of_way m l hl hlm
     have := (ih k d).2 ⟨h1, h2⟩
     rw [h] at this; cases this
    ·omega
   ·intro h
    cases hk : farN E want m k with
    | none => rfl
    | some d =>
     obtain ⟨h1, ⟨l, h2, h3⟩, _⟩ := (ih k d).1 hk
     have := h l h2
     omega
  constructor
  ·rintro (h | ⟨rfl, h2, x, hx, rfl, h4⟩)
   ·have := (ih k d).1 h
    exact ⟨by omega, this.2⟩
   ·obtain ⟨_, ⟨l, h5, h6⟩, h7⟩ := (ih _ _).1 h4
    obtain ⟨i, hi⟩ := List.getElem?_of_mem hx
    refine ⟨Nat.le_refl _, ⟨i :: l, ⟨x, hi, rfl, h5⟩, by simp [h6]⟩, fun q hq => (hnone _).1 h2 q hq⟩
  ·rintro ⟨h1, h2⟩
   by_cases hd : d ≤ m
   ·exact Or.inl ((ih k d).2 ⟨hd, h2⟩)
   ·obtain rfl : d = m + 1 := by omega
    obtain ⟨⟨l, h3, h4⟩, h5⟩ := h2
    cases l with
    | nil => simp at h4
    | cons i l =>
     obtain ⟨x, hx, hxa, hw⟩ := h3
     refine Or.inr ⟨rfl, (hnone _).2 (fun q hq => h5 q hq), x, List.mem_of_getElem? hx, hxa, (ih _ _).2 ⟨Nat.le_refl _, ⟨l, hw, by simpa using h4⟩, fun q hq => ?_⟩⟩
     have := h5 (i :: q) ⟨x, hx, hxa, hq⟩
     simpa using this
def firstI (D : Mp Nat) (fr : Id) (m : Nat) : List Link → Nat → Option (Nat × Id)
 | [], _ => none
 | x :: r, i => if x.1 = fr ∧ D x.2 = some m then some (i, x.2) else firstI D fr m r (i + 1)
def wayGo (D : Mp Nat) (E : List Link) : Nat → Id → List Nat → List Nat
 | 0, _, out => out
 | d + 1, fr, out => match firstI D fr d E 0 with
  | some (i, o) => wayGo D E d o (out ++ [i])
  | none => wayGo D E d fr out
theorem firstI_drop (D : Mp Nat) (fr : Id) (m : Nat) (E : List Link) (j : Nat) (hj : j < E.length) : firstI D fr m (E.drop j) j = if E[j].1 = fr ∧ D E[j].2 = some m then some (j, E[j].2) else firstI D fr m (E.drop (j + 1)) (j + 1) := by
 rw [List.drop_eq_getElem_cons hj, firstI]
theorem firstI_some (D : Mp Nat) (fr : Id) (m : Nat) : ∀ (E : List Link) (s i : Nat) (o : Id), firstI D fr m E s = some (i, o) → s ≤ i ∧ (∃ x, E[i - s]? = some x ∧ x.1 = fr ∧ x.2 = o ∧ D o = some m) ∧ ∀ j x, s ≤ j → j < i → E[j - s]? = some x → ¬ (x.1 = fr ∧ D x.2 = some m)
 | [], s, i, o, h => by cases h
 | x :: r, s, i, o, h => by
  rw [firstI] at h
  split at h
  ·rename_i hc
   cases h
   refine ⟨Nat.le_refl _, ⟨x, by simp, hc.1, rfl, hc.2⟩, fun j _ h1 h2 => by omega⟩
  ·rename_i hc
   obtain ⟨h1, ⟨y, h2, h3⟩, h4⟩ := firstI_some D fr m r (s + 1) i o h
   refine ⟨by omega, ⟨y, by rw [show i - s = (i - (s + 1)) + 1 by omega]; exact h2, h3⟩, fun j z j1 j2 hz => ?_⟩
   by_cases hj : j = s
   ·subst hj
    simp at hz
    rw [← hz]; exact hc
   ·exact h4 j z (by omega) j2 (by rw [show j - s = (j - (s + 1)) + 1 by omega] at hz; exact hz)
theorem firstI_none (D : Mp Nat) (fr : Id) (m : Nat) : ∀ (E : List Link) (s : Nat), firstI D fr m E s = none → ∀ x ∈ E, ¬ (x.1 = fr ∧ D x.2 = some m)
 | [], s, _, x, hx => by cases hx
 | y :: r, s, h, x, hx => by
  rw [firstI] at h
  split at h
  ·cases h
  ·rename_i hc
   rcases List.mem_cons.1 hx with rfl | hx
   ·exact hc
   ·exact firstI_none D fr m r (s + 1) h x hx
theorem wayGo_acc (D : Mp Nat) (E : List Link) : ∀ (d : Nat) (fr : Id) (out : List Nat), wayGo D E d fr out = out ++ wayGo D E d fr []
 | 0, _, out => by simp [wayGo]
 | d + 1, fr, out => by
  rw [wayGo, wayGo]
  split
  ·rename_i i o h
   rw [wayGo_acc D E d o (out ++ [i]), wayGo_acc D E d o ([] ++ [i])]; simp
  ·rw [wayGo_acc D E d fr out]
theorem wayGo_spec (E : List Link) (want : Id) (M : Nat) : ∀ (d : Nat), d ≤ M → ∀ fr, Dist E fr want d → Way E fr want (wayGo (farN E want M) E d fr []) ∧ (wayGo (farN E want M) E d fr []).length = d ∧ ∀ q, Way E fr want q → q.length = d → cmpN (wayGo (farN E want M) E d fr []) q ≤ 0
 | 0, _, fr, h => by
  obtain ⟨⟨l, h1, h2⟩, _⟩ := h
  obtain rfl : l = [] := List.eq_nil_of_length_eq_zero h2
  refine ⟨h1, rfl, fun q _ hq => ?_⟩
  rw [List.eq_nil_of_length_eq_zero hq, wayGo]
  show (0 : Int) ≤ 0; omega
 | d + 1, hd, fr, h => by
  obtain ⟨⟨l, h1, h2⟩, h3⟩ := h
  -- what lies behind the first link of a shortest way
  have behind : ∀ i q, Way E fr want (i :: q) → q.length = d → ∃ x, E[i]? = some x ∧ x.1 = fr ∧ Dist E x.2 want d ∧ Way E x.2 want q := fun i q ⟨x, hx, hxa, hw⟩ hq =>
   ⟨x, hx, hxa, ⟨⟨q, hw, hq⟩, fun p hp => by have := h3 (i :: p) ⟨x, hx, hxa, hp⟩; simpa using this⟩, hw⟩
  rw [wayGo]
  cases hf : firstI (farN E want M) fr d E 0 with
  | none =>
   cases l with
   | nil => simp at h2
   | cons i l =>
    obtain ⟨x, hx, hxa, hxd, _⟩ := behind i l h1 (by simpa using h2)
    exact absurd ⟨hxa, (farN_spec E want M x.2 d).2 ⟨by omega, hxd⟩⟩ (firstI_none _ _ _ E 0 hf x (List.mem_of_getElem? hx))
  | some p =>
   obtain ⟨i, o⟩ := p
   obtain ⟨_, ⟨x, hx, hxa, rfl, hxd⟩, hmin⟩ := firstI_some _ _ _ E 0 i o hf
   have ho := ((farN_spec E want M x.2 d).1 hxd).2
   obtain ⟨r1, r2, r3⟩ := wayGo_spec E want M d (by omega) x.2 ho
   dsimp only
   rw [wayGo_acc]
   refine ⟨⟨x, hx, hxa, r1⟩, by simp [r2], fun q hq hql => ?_⟩
   cases q with
   | nil => simp at hql
   | cons j q =>
    obtain ⟨y, hy, hya, hyd, hyw⟩ := behind j q hq (by simpa using hql)
    show cmpN (i :: _) (j :: q) ≤ 0
    rw [cmpN]
    by_cases hij : i < j
    ·rw [if_pos hij]; omega
    ·by_cases hji : j < i
     ·exact absurd ⟨hya, (farN_spec E want M y.2 d).2 ⟨by omega, hyd⟩⟩ (hmin j y (Nat.zero_le _) hji hy)
     ·rw [if_neg hij, if_neg hji]
      obtain rfl : i = j := by omega
      rw [show E[i - 0]? = E[i]? from rfl, hy] at hx
      obtain rfl := Option.some.inj hx
      exact r3 q hyw (by simpa using hql)
def wofX (B N : Mp (List Nat)) (i : Nat) (x : Link) : Mp (List Nat) := match B x.1, B x.2 with
 | some way, none => match N x.2 with
  | none => upd N x.2 (way ++ [i])
  | some old => if cmpN (way ++ [i]) old < 0 then upd N x.2 (way ++ [i]) else N
 | _, _ => N
def wofR (B : Mp (List Nat)) : List Link → Nat → Mp (List Nat) → Mp (List Nat)
 | [], _, N => N
 | x :: r, i, N => wofR B r (i + 1) (wofX B N i x)
def join {β : Type} (B N : Mp β) : Mp β := fun k => match N k with
 | some v => some v
 | none => B k
def wofN (E : List Link) (from_ : Id) : Nat → Mp (List Nat)
 | 0 => upd (fun _ => none) from_ []
 | m + 1 => join (wofN E from_ m) (wofR (wofN E from_ m) E 0 (fun _ => none))
structure RoundOk (B N : Mp (List Nat)) (E : List Link) (i : Nat) : Prop where
 of : ∀ k l, N k = some l → B k = none ∧ ∃ j x way, j < i ∧ E[j]? = some x ∧ x.2 = k ∧ B x.1 = some way ∧ l = way ++ [j]
 least : ∀ j x way, j < i → E[j]? = some x → B x.1 = some way → B x.2 = none → ∃ l, N x.2 = some l ∧ cmpN l (way ++ [j]) ≤ 0
theorem RoundOk.start (B : Mp (List Nat)) (E : List Link) : RoundOk B (fun _ => none) E 0 := ⟨fun k l h => (by cases h), fun j _ _ h => by omega⟩
theorem RoundOk.idle {B N : Mp (List Nat)} {E : List Link} {i : Nat} {x : Link} (h : RoundOk B N E i) (hx : E[i]? = some x) (hn : ∀ way, B x.1 = some way → B x.2 = none → False) : RoundOk B N E (i + 1) := by
 refine ⟨fun k l hk => ?_, fun j y way hj hy hb hn' => ?_⟩
 ·obtain ⟨h0, j, y, way, h1, h2⟩ := h.of k l hk
  exact ⟨h0, j, y, way, by omega, h2⟩
 ·by_cases hji : j = i
  ·subst hji
   rw [hx] at hy
   cases hy
   exact (hn way hb hn').elim
  ·exact h.least j y way (by omega) hy hb hn'
theorem RoundOk.step {B N : Mp (List Nat)} {E : List Link} {i : Nat} {x : Link} (h : RoundOk B N E i) (hx : E[i]? = some x) : RoundOk B (wofX B N i x) E (i + 1) := by
 unfold wofX
 cases hb : B x.1 with
 | none => exact h.idle hx (fun way h1 => by rw [hb] at h1; cases h1)
 | some way =>
  cases hn : B x.2 with
  | some v => exact h.idle hx (fun way _ h2 => by rw [hn] at h2; cases h2)
  | none =>
   dsimp only
   have take : ∀ N' : Mp (List Nat), N' = upd N x.2 (way ++ [i]) → (∀ old, N x.2 = some old → cmpN (way ++ [i]) old ≤ 0) → RoundOk B N' E (i + 1) := fun N' hN' hold => by
    subst hN'
    refine ⟨fun k l hk => ?_, fun j y w2 hj hy hyb hyn => ?_⟩
    ·by_cases hkx : k = x.2
     ·subst hkx
      rw [upd_same] at hk
      exact ⟨hn, i, x, way, by omega, hx, rfl, hb, (Option.some.inj hk).symm⟩
     ·rw [upd_other _ _ hkx] at hk
      obtain ⟨h0, j, y, way, h1, h2⟩ := h.of k l hk
      exact ⟨h0, j, y, way, by omega, h2⟩
    ·by_cases hyx : y.2 = x.2
     ·rw [hyx, upd_same]
      refine ⟨_, rfl, ?_⟩
      by_cases hji : j = i
      ·subst hji
       rw [hx] at hy
       cases hy
       rw [hb] at hyb
       cases hyb
       rw [cmpN_refl]; omega
      ·obtain ⟨l, h1, h2⟩ := h.least j y w2 (by omega) hy hyb hyn
       rw [hyx] at h1
       exact cmpN_le_trans _ _ _ (hold l h1) h2
     ·rw [upd_other _ _ hyx]
      by_cases hji : j = i
      ·subst hji
       rw [hx] at hy
       cases hy
       exact absurd rfl hyx
      ·exact h.least j y w2 (by omega) hy hyb hyn
   cases ho : N x.2 with
   | none => exact take _ rfl (fun old h1 => by rw [ho] at h1; cases h1)
   | some old =>
    dsimp only
    by_cases hc : cmpN (way ++ [i]) old < 0
    ·rw [if_pos hc]
     exact take _ rfl (fun o h1 => by rw [ho] at h1; cases h1; omega)
    ·rw [if_neg hc]
     refine ⟨fun k l hk => ?_, fun j y w2 hj hy hyb hyn => ?_⟩
     ·obtain ⟨h0, j, y, way, h1, h2⟩ := h.of k l hk
      exact ⟨h0, j, y, way, by omega, h2⟩
     ·by_cases hji : j = i
      ·subst hji
       rw [hx] at hy
       cases hy
       rw [hb] at hyb
       cases hyb
       exact ⟨old, ho, by rw [cmpN_anti]; omega⟩
      ·exact h.least j y w2 (by omega) hy hyb hyn
theorem wofR_ok (B : Mp (List Nat)) (E : List Link) : ∀ (k i : Nat) (N : Mp (List Nat)), E.length - i = k → i ≤ E.length → RoundOk B N E i → RoundOk B (wofR B (E.drop i) i N) E E.length
 | 0, i, N, hk, hi, h => by
  obtain rfl : i = E.length := by omega
  rw [List.drop_eq_nil_of_le (Nat.le_refl _), wofR]
  exact h
 | k + 1, i, N, hk, hi, h => by
  rw [List.drop_eq_getElem_cons (by omega), wofR]
  exact wofR_ok B E k (i + 1) _ (by omega) (by omega) (h.step (List.getElem?_eq_getElem (by omega)))
theorem wofR_drop (B N : Mp (List Nat)) (E : List Link) (i : Nat) (hi : i < E.length) : wofR B (E.drop i) i N = wofR B (E.drop (i + 1)) (i + 1) (wofX B N i E[i]) := by
 rw [List.drop_eq_getElem_cons hi, wofR]
theorem wofN_spec (E : List Link) (fr : Id) : ∀ m, (∀ k l, wofN E fr m k = some l → Way E fr k l ∧ l.length ≤ m) ∧ ∀ k q, Way E fr k q → q.length ≤ m → ∃ l, wofN E fr m k = some l ∧ (l.length < q.length ∨ l.length = q.length ∧ cmpN l q ≤ 0)
 | 0 => by
  refine ⟨fun k l h => ?_, fun k q hq hl => ?_⟩
  ·rw [wofN] at h
   by_cases hk : k = fr
   ·subst hk
    rw [upd_same] at h
    cases h
    exact ⟨rfl, Nat.le_refl _⟩
   ·rw [upd_other _ _ hk] at h; cases h
  ·obtain rfl : q = [] := List.eq_nil_of_length_eq_zero (by omega)
   have hq : fr = k := hq
   subst hq
   exact ⟨[], by rw [wofN, upd_same], Or.inr ⟨rfl, by rw [cmpN_refl]; omega⟩⟩
 | m + 1 => by
  obtain ⟨i1, i2⟩ := wofN_spec E fr m
  have R := wofR_ok (wofN E fr m) E (E.length - 0) 0 _ rfl (Nat.zero_le _) (RoundOk.start _ E)
  rw [List.drop_zero] at R
  obtain ⟨N, hN⟩ : ∃ N, N = wofR (wofN E fr m) E 0 (fun _ => none) := ⟨_, rfl⟩
  rw [← hN] at R
  rw [wofN, ← hN]
  refine ⟨fun k l h => ?_, fun k q hq hl => ?_⟩
  ·unfold join at h
   cases hk : N k with
   | none => rw [hk] at h; have := i1 k l h; exact ⟨this.1, by omega⟩
   | some v =>
    rw [hk] at h
    cases h
    obtain ⟨_, j, x, way, h1, h2, h3, h4, rfl⟩ := R.of k l hk
    have := i1 _ _ h4
    subst h3
    exact ⟨this.1.snoc h2 rfl, by simp; omega⟩
  ·unfold join
   by_cases hlm : q.length ≤ m
   ·obtain ⟨l, h1, h2⟩ := i2 k q hq hlm
    cases hk : N k with
    | none => exact ⟨l, h1, h2⟩
    | some v =>
     have := (R.of k v hk).1
     rw [this] at h1; cases h1
   ·have hqn : q ≠ [] := by intro e; rw [e] at hlm; simp at hlm
    obtain ⟨p, j, rfl⟩ : ∃ p j, q = p ++ [j] := ⟨q.dropLast, q.getLast hqn, (List.dropLast_concat_getLast hqn).symm⟩
    obtain ⟨x, hx, hxk, hw⟩ := hq.unsnoc
    have hpl : p.length = m := by simp at hl hlm; omega
    obtain ⟨l1, h1, h2⟩ := i2 _ p hw (by omega)
    have hl1 := i1 _ _ h1
    cases hb : wofN E fr m k with
    | some v =>
     have hv := i1 _ _ hb
     cases hk : N k with
     | none => exact ⟨v, rfl, Or.inl (by simp; omega)⟩
     | some u => have := (R.of k u hk).1; rw [this] at hb; cases hb
    | none =>
     -- a shorter way to the one ahead would be a way of at most m links to k
     have hlen : l1.length = m := by
      by_cases hlt : l1.length < m
      ·obtain ⟨l, h3, _⟩ := i2 k (l1 ++ [j]) (by rw [← hxk]; exact hl1.1.snoc hx rfl) (by simp; omega)
       rw [hb] at h3; cases h3
      ·omega
     have hj : j < E.length := (List.getElem?_eq_some_iff.1 hx).1
     obtain ⟨l, h3, h4⟩ := R.least j x l1 hj hx h1 (by rw [hxk]; exact hb)
     rw [hxk] at h3
     rw [h3]
     refine ⟨l, rfl, Or.inr ⟨?_, ?_⟩⟩
     ·obtain ⟨_, j2, y, way, g1, g2, g3, g4, rfl⟩ := R.of k l h3
      have hy := i1 _ _ g4
      have : way.length = m := by
       by_cases hlt : way.length < m
       ·obtain ⟨l, h5, _⟩ := i2 k (way ++ [j2]) (by rw [← g3]; exact hy.1.snoc g2 rfl) (by simp; omega)
        rw [hb] at h5; cases h5
       ·omega
      simp; omega
     ·refine cmpN_le_trans _ _ _ h4 (cmpN_snoc _ _ _ (by omega) ?_)
      rcases h2 with h2 | h2
      ·omega
      ·exact h2.2
def wayR (E : List Link) (fr want : Id) : Option (List Nat) := match farN E want E.length fr with
 | none => none
 | some d => some (wayGo (farN E want E.length) E d fr [])
theorem wayR_eq (E : List Link) (fr want : Id) : wofN E fr E.length want = wayR E fr want := by
 obtain ⟨i1, i2⟩ := wofN_spec E fr E.length
 unfold wayR
 cases hf : farN E want E.length fr with
 | none =>
  cases hw : wofN E fr E.length want with
  | none => rfl
  | some l =>
   obtain ⟨h1, h2⟩ := i1 _ _ hw
   obtain ⟨d, h3, h4⟩ := dist_of_way _ l h1 h2
   have := (farN_spec E want E.length fr d).2 ⟨h3, h4⟩
   rw [hf] at this; cases this
 | some d =>
  obtain ⟨h1, h2⟩ := (farN_spec E want E.length fr d).1 hf
  obtain ⟨r1, r2, r3⟩ := wayGo_spec E want E.length d h1 fr h2
  dsimp only
  obtain ⟨l, h3, h4⟩ := i2 want _ r1 (by omega)
  have hl := i1 _ _ h3
  have hmin := h2.2 l hl.1
  rcases h4 with h4 | h4
  ·omega
  ·rw [h3, cmpN_antisymm h4.2 (r3 l hl.1 (by omega))]
end Go.Proofs.YtbjmadcbhkeenaaGreat.lk
