/-
  Slices that a call may append to: 'Mine': its own row, or a slice without room; the law of append on such a slice, from whatever source. Conditions: the bounds that append asks.
-/
import Derived.Test.YtbljihhelladbaaRow
import Derived.Laws.AppendOwnNone
import Derived.Deep.OwnRows
namespace Go.Proofs.Ytbljihhelladbaa
open Go.RowKit

/-- behind the address lie these cells (of an empty list nothing is said of the address) -/
def RowV (w : World) (ao : Option Addr) (cs : List Value) : Prop :=
  cs = [] ∨ ∃ b off, ao = some ⟨b, off, none⟩ ∧ b < w.heap.size ∧ ∀ j u, cs[j]? = some u → w.cell? ⟨b, off + j, none⟩ = some u

theorem RowI.v {k : IntKind} {w : World} {ao : Option Addr} {l : List Int} (h : RowI k w ao l) : RowV w ao (l.map (Value.int k)) := by
  rcases h with h | ⟨b, off, h1, h2, h3⟩
  · exact Or.inl (by simp [h])
  · refine Or.inr ⟨b, off, h1, h2, fun j u hu => ?_⟩
    have hj : j < l.length := by
      have := (List.getElem?_eq_some_iff.1 hu).1
      simpa using this
    rw [h3 j hj]
    simp [hj] at hu
    simp [List.getD_eq_getElem?_getD, hj, hu]

theorem RowV.i {k : IntKind} {w : World} {ao : Option Addr} {l : List Int} (h : RowV w ao (l.map (Value.int k))) : RowI k w ao l := by
  rcases h with h | ⟨b, off, h1, h2, h3⟩
  · exact Or.inl (by simpa using h)
  · refine Or.inr ⟨b, off, h1, h2, fun i hi => h3 i _ ?_⟩
    simp [List.getD_eq_getElem?_getD, hi]

theorem RowV.below {w w' : World} {ao : Option Addr} {cs : List Value} (h : RowV w ao cs) (hb : Below w.heap.size w w') : RowV w' ao cs := by
  rcases h with h | ⟨b, off, h1, h2, h3⟩
  · exact Or.inl h
  · exact Or.inr ⟨b, off, h1, Nat.lt_of_lt_of_le h2 hb.size, fun j u hu => by rw [hb.cell (p := ⟨b, off + j, none⟩) h2]; exact h3 j u hu⟩

theorem RowV.kept {w w' : World} {ao : Option Addr} {cs : List Value} {row : Option Nat} (h : RowV w ao cs) (hb : w.grownBy w' row) (hr : ∀ b, ao = some b → row ≠ some b.block) : RowV w' ao cs := by
  rcases h with h | ⟨b, off, h1, h2, h3⟩
  · exact Or.inl h
  · refine Or.inr ⟨b, off, h1, Nat.lt_of_lt_of_le h2 hb.size, fun j u hu => ?_⟩
    exact hb.cell (h3 j u hu) (fun e => hr _ h1 e.symm)

theorem RowV.alloc {w : World} {ao : Option Addr} {cs : List Value} (h : RowV w ao cs) (o : Obj) : RowV (w.alloc o) ao cs := h.below ((Below.refl _ _).alloc (Nat.le_refl _) o)

/-- its own row, or no room at all -/
def Mine (w : World) (base : Nat) (e : TypeId) (size : Nat) (v : Value) (n : Nat) (xs : List Value) : Prop :=
  w.ownsRow base e size v n xs ∨ (n = 0 ∧ xs = [] ∧ ∃ ao, v = .slice ao 0 0)

theorem Mine.nil (w : World) (base : Nat) (e : TypeId) (size : Nat) : Mine w base e size (.slice none 0 0) 0 [] := Or.inl (World.ownsRow_nil w base e size)

/-- the value, and what lies behind it -/
theorem Mine.row {w : World} {base : Nat} {e : TypeId} {size : Nat} {v : Value} {n : Nat} {xs : List Value} (h : Mine w base e size v n xs) :
    ∃ ao cap, v = .slice ao n cap ∧ n ≤ cap ∧ RowV w ao xs := by
  rcases h with ⟨hl, h | ⟨g, cap, cur, hv, hg, hh, h1, h2, h3, h4⟩⟩ | ⟨rfl, rfl, ao, rfl⟩
  · obtain ⟨rfl, rfl⟩ := h
    have : xs = [] := by apply List.eq_nil_of_length_eq_zero; rw [hl]; simp
    exact ⟨none, 0, rfl, Nat.le_refl _, Or.inl this⟩
  · refine ⟨_, cap, hv, h1, Or.inr ⟨g, 0, rfl, lt_of_block hh, fun j u hu => ?_⟩⟩
    rw [Nat.zero_add, cell_of_row w g j cur e (0, 0) hh]
    rw [← h4, List.getElem?_take] at hu
    split at hu
    · simpa using hu
    · cases hu
  · exact ⟨ao, 0, rfl, Nat.le_refl _, Or.inl rfl⟩

theorem Mine.lt {w : World} {base : Nat} {e : TypeId} {size : Nat} {v : Value} {n : Nat} {xs : List Value} (h : w.ownsRow base e size v n xs) {g : Nat} (hg : v.ownBlock = some g) : base ≤ g ∧ g < w.heap.size := h.lt g hg

theorem Mine.kept {w w' : World} {base : Nat} {e : TypeId} {size : Nat} {v : Value} {n : Nat} {xs : List Value} {row : Option Nat} (h : Mine w base e size v n xs) (hg : w.grownBy w' row) (hr : v.ownBlock = none ∨ v.ownBlock ≠ row) : Mine w' base e size v n xs := by
  rcases h with h | h
  · exact Or.inl (h.kept hg hr)
  · exact Or.inr h

theorem Mine.mono {w : World} {base base' : Nat} {e : TypeId} {size : Nat} {v : Value} {n : Nat} {xs : List Value} (h : Mine w base e size v n xs) (hb : base' ≤ base) : Mine w base' e size v n xs := by
  rcases h with ⟨h1, h2⟩ | h
  · refine Or.inl ⟨h1, ?_⟩
    rcases h2 with h2 | ⟨g, cap, cur, hv, hg, r⟩
    · exact Or.inl h2
    · exact Or.inr ⟨g, cap, cur, hv, Nat.le_trans hb hg, r⟩
  · exact Or.inr h

/-- behind changes that leave all blocks below B as they were: a row that lies below B -/
theorem Mine.below {w w' : World} {base B : Nat} {e : TypeId} {size : Nat} {v : Value} {n : Nat} {xs : List Value} (h : Mine w base e size v n xs) (hb : Below B w w') (hB : ∀ g, v.ownBlock = some g → g < B) : Mine w' base e size v n xs := by
  rcases h with ⟨h1, h2⟩ | h
  · refine Or.inl ⟨h1, ?_⟩
    rcases h2 with h2 | ⟨g, cap, cur, hv, hg, hh, r⟩
    · exact Or.inl h2
    · refine Or.inr ⟨g, cap, cur, hv, hg, ?_, r⟩
      rw [hb.block g (hB g (by rw [hv]; rfl))]
      exact hh
  · exact Or.inr h

theorem Mine.belowAll {w w' : World} {base : Nat} {e : TypeId} {size : Nat} {v : Value} {n : Nat} {xs : List Value} (h : Mine w base e size v n xs) (hb : Below w.heap.size w w') : Mine w' base e size v n xs := by
  rcases h with h | h
  · exact Mine.below (Or.inl h) hb fun g hg => (h.lt g hg).2
  · exact Or.inr h

/-- the type's row of the table, for append and make -/
def Info (P : Program) (e : TypeId) (z : Value) (size bytes : Nat) : Prop := (P.info? e).map (fun i => (i.zero, i.size, i.bytes)) = some (some z, size, bytes)
theorem Info.parts {P : Program} {e : TypeId} {z : Value} {size bytes : Nat} (h : Info P e z size bytes) : ∃ i, P.info? e = some i ∧ i.zero = some z ∧ i.size = size ∧ i.bytes = bytes := by
  obtain ⟨i, hi, h⟩ := Option.map_eq_some_iff.1 h
  simp only [Prod.mk.injEq] at h
  exact ⟨i, hi, h⟩

theorem run_append_mine {P : Program} (w : World) (t ty e : TypeId) (z : Value) (size bytes : Nat) (ht : P.underlying t = some (.slice e)) (hi : Info P e z size bytes) (hzs : z.cells.size = size) (hsz : 0 < size)
    (base : Nat) (v : Value) (n : Nat) (xs : List Value) (hown : Mine w base e size v n xs) (ao : Option Addr) (m c : Nat) (hno : ao = none → c = 0) (news : List Value) (hl : news.length = m * size) (hrow : RowV w ao news) (h1 : ∀ u ∈ news, u.oneCell' = true)
    (b1 : n + m ≤ maxLen) (b2 : (n + m) * bytes ≤ 140737488355328) (hbase : base ≤ w.heap.size) :
    ∃ v' w' row, (Builtin.append_ #[t, t] ty #[v, .slice ao m c]).run P w = .ok v' w' ∧ Mine w' base e size v' (n + m) (xs ++ news) ∧ w.grownBy w' row ∧ (∀ k, row = some k → base ≤ k ∧ v.ownBlock = some k) := by
  obtain ⟨i, hi, hz, hs, hby⟩ := hi.parts
  have hsize : ∀ {k : Nat}, k * size = 0 → k = 0 := fun {k} h => by
    rcases Nat.mul_eq_zero.1 h with h | h
    · exact h
    · omega
  -- where nothing is appended, there is a source with an address to the same effect
  have hm0 : news = [] → m = 0 := fun h => hsize (by rw [← hl, h]; rfl)
  rcases hown with hown | ⟨rfl, rfl, bo, rfl⟩
  · have hrow' : ∀ k, v.ownBlock = some k → base ≤ k ∧ v.ownBlock = some k := fun k hk => ⟨(hown.lt k hk).1, hk⟩
    cases ao with
    | none =>
      have hne : news = [] := by
        rcases hrow with h | ⟨b, off, h, _⟩
        · exact h
        · cases h
      obtain rfl := hm0 hne
      obtain rfl := hno rfl
      subst hne
      have hrun := run_append_owned_none (P := P) (w := w) base t ty e i size ht hi v n xs hown
      exact ⟨v, w, none, hrun, Or.inl (by simpa using hown), ⟨rfl, rfl, rfl, Nat.le_refl _, fun _ _ _ => rfl⟩, fun k hk => by cases hk⟩
    | some ad =>
      have hcells : ∀ j u, news[j]? = some u → w.cell? (ad.add j) = some u := by
        intro j u hu
        rcases hrow with h | ⟨b, off, h, _, h3⟩
        · subst h; simp at hu
        · obtain rfl : ad = ⟨b, off, none⟩ := by simpa using h
          have := h3 j u hu
          unfold Addr.add
          split
          · rename_i hj; subst hj; simpa using this
          · simpa using this
      obtain ⟨v', w', hrun, r1, r2, _⟩ := run_append_own (P := P) w base t ty e i z size bytes ht hi hz hs hby hzs hsz v n xs hown ad m c news hl hcells h1 b1 b2 hbase
      exact ⟨v', w', _, hrun, Or.inl r1, r2, hrow'⟩
  · by_cases hm : m = 0
    · subst hm
      have hne : news = [] := List.eq_nil_of_length_eq_zero (by rw [hl]; simp)
      subst hne
      refine ⟨.slice bo 0 0, w, none, ?_, Or.inr ⟨rfl, rfl, bo, rfl⟩, ⟨rfl, rfl, rfl, Nat.le_refl _, fun _ _ _ => rfl⟩, fun k hk => by cases hk⟩
      cases ao <;> cases bo <;> simp [Builtin.append_, run_underlying ht, sizeOf, typeInfo, hi, Builtin.lenOf, Builtin.firstCells, loadCells, loadCellsFrom, storeCells]
    · have hcells : ∃ b off, ao = some ⟨b, off, none⟩ ∧ ∀ j u, news[j]? = some u → w.cell? ((⟨b, off, none⟩ : Addr).add j) = some u := by
        rcases hrow with h | ⟨b, off, h, _, h3⟩
        · exact absurd (hm0 h) hm
        · refine ⟨b, off, h, fun j u hu => ?_⟩
          have := h3 j u hu
          unfold Addr.add
          split
          · rename_i hj; subst hj; simpa using this
          · simpa using this
      obtain ⟨b, off, rfl, hc⟩ := hcells
      cases bo with
      | some bb =>
        obtain ⟨v', w', hrun, r1, r2⟩ := run_append_arg_grows (P := P) w t ty e i z size bytes ht hi hz hs hby hzs hsz bb 0 0 [] (by simp) (fun j u hu => by simp at hu) ⟨b, off, none⟩ m c news hl hc (by omega) b1 b2
        refine ⟨v', w', none, hrun, Or.inl ?_, r2, fun k hk => by cases hk⟩
        exact ⟨r1.1, by
          rcases r1.2 with h | ⟨g, cap, cur, hv, hg, r⟩
          · exact Or.inl h
          · exact Or.inr ⟨g, cap, cur, hv, Nat.le_trans hbase hg, r⟩⟩
      | none =>
        obtain ⟨v', w', hrun, r1, r2, _⟩ := run_append_own (P := P) w base t ty e i z size bytes ht hi hz hs hby hzs hsz (.slice none 0 0) 0 [] (World.ownsRow_nil w base e size) ⟨b, off, none⟩ m c news hl hc h1 b1 b2 hbase
        exact ⟨v', w', none, hrun, Or.inl r1, r2, fun k hk => by cases hk⟩

/-- THE LAW OF append, for 'go_wp2_with (at_builtin; refine wl_append ..)' -/
theorem wl_append {P : Program} {w : World} {ops : Array Oper} {rest : List Oper} {o : Oper} {a : Act} {Q : Exit → Act → World → Prop} (hgd : o.guard = none) (s x : Operand) (t : TypeId)
    (ho : o.op = .call { callee := .builtin .append, args := #[s, x], argTypes := #[t, t] }) (e : TypeId) (z : Value) (size bytes : Nat) (ht : P.underlying t = some (.slice e)) (hi : Info P e z size bytes) (hzs : z.cells.size = size) (hsz : 0 < size)
    (base : Nat) (v : Value) (n : Nat) (xs : List Value) (hs : a.eval s = v) (hown : Mine w base e size v n xs) (ao : Option Addr) (m c : Nat) (hx : a.eval x = .slice ao m c) (hno : ao = none → c = 0) (news : List Value) (hl : news.length = m * size) (hrow : RowV w ao news) (h1 : ∀ u ∈ news, u.oneCell' = true)
    (b1 : n + m ≤ maxLen) (b2 : (n + m) * bytes ≤ 140737488355328) (hbase : base ≤ w.heap.size)
    (hK : ∀ v' w' row, Mine w' base e size v' (n + m) (xs ++ news) → w.grownBy w' row → (∀ k, row = some k → base ≤ k ∧ v.ownBlock = some k) → wpList P ops Q rest (a.put o.dst v') w') : wpList P ops Q (o :: rest) a w := by
  refine wpList_plain hgd fun K hK' => ?_
  obtain ⟨v', w', row, hrun, r1, r2, r3⟩ := run_append_mine (P := P) w t o.type e z size bytes ht hi hzs hsz base v n xs hown ao m c hno news hl hrow h1 b1 b2 hbase
  unfold Oper.wp
  simp [execOp, ho, resolve, invoke, builtin, hs, hx, hrun, Result.andThen]
  exact hK' _ _ (hK v' w' row r1 r2 r3)

/-- the same, the value written out -/
theorem wl_appendS {P : Program} {w : World} {ops : Array Oper} {rest : List Oper} {o : Oper} {a : Act} {Q : Exit → Act → World → Prop} (hgd : o.guard = none) (s x : Operand) (t : TypeId)
    (ho : o.op = .call { callee := .builtin .append, args := #[s, x], argTypes := #[t, t] }) (e : TypeId) (z : Value) (size bytes : Nat) (ht : P.underlying t = some (.slice e)) (hi : Info P e z size bytes) (hzs : z.cells.size = size) (hsz : 0 < size)
    (base : Nat) (v : Value) (n : Nat) (xs : List Value) (hs : a.eval s = v) (hown : Mine w base e size v n xs) (ao : Option Addr) (m c : Nat) (hx : a.eval x = .slice ao m c) (hno : ao = none → c = 0) (news : List Value) (hl : news.length = m * size) (hrow : RowV w ao news) (h1 : ∀ u ∈ news, u.oneCell' = true)
    (b1 : n + m ≤ maxLen) (b2 : (n + m) * bytes ≤ 140737488355328) (hbase : base ≤ w.heap.size) (N : Nat) (hN : N = n + m)
    (hK : ∀ ao' cap' w' row, N ≤ cap' → Mine w' base e size (.slice ao' N cap') N (xs ++ news) → RowV w' ao' (xs ++ news) → w.grownBy w' row → (∀ k, row = some k → base ≤ k ∧ v.ownBlock = some k) → wpList P ops Q rest (a.put o.dst (.slice ao' N cap')) w') : wpList P ops Q (o :: rest) a w := by
  subst hN
  refine wl_append hgd s x t ho e z size bytes ht hi hzs hsz base v n xs hs hown ao m c hx hno news hl hrow h1 b1 b2 hbase fun v' w' row r1 r2 r3 => ?_
  obtain ⟨ao', cap', rfl, h2, h3⟩ := r1.row
  exact hK ao' cap' w' row h2 r1 h3 r2 r3

end Go.Proofs.Ytbljihhelladbaa
