/-
  append to an own row, with the place where the new slice lies; two own rows that lie apart. Conditions: the bounds that append asks.
-/
import Derived.Test.YtbljihhelladbaaAgg
import Derived.Maps.AppendAt
namespace Go.Proofs.Ytbljihhelladbaa
set_option linter.unusedSimpArgs false
set_option linter.unusedVariables false
open Go.RowKit

theorem wl_push {P : Program} {w : World} {ops : Array Oper} {rest : List Oper} {o : Oper} {a : Act} {Q : Exit → Act → World → Prop} (hgd : o.guard = none) (s x : Operand) (t : TypeId)
    (ho : o.op = .call { callee := .builtin .append, args := #[s, x], argTypes := #[t, t] }) (e : TypeId) (z : Value) (size bytes : Nat) (ht : P.underlying t = some (.slice e)) (hi : Info P e z size bytes) (hzs : z.cells.size = size) (hsz : 0 < size)
    (base : Nat) (v : Value) (n : Nat) (xs : List Value) (hs : a.eval s = v) (hown : w.ownsRow base e size v n xs) (ad : Addr) (m c : Nat) (hx : a.eval x = .slice (some ad) m c) (news : List Value) (hl : news.length = m * size) (hrow : At w ad news) (h1 : ∀ u ∈ news, u.oneCell' = true)
    (b1 : n + m ≤ maxLen) (b2 : (n + m) * bytes ≤ 140737488355328) (hbase : base ≤ w.heap.size) (N : Nat) (hN : N = n + m)
    (hK : ∀ ao' cap' w', N ≤ cap' → w'.ownsRow base e size (.slice ao' N cap') N (xs ++ news) → w.grownBy w' v.ownBlock → ((Value.slice ao' N cap').ownBlock = v.ownBlock ∨ (Value.slice ao' N cap').ownBlock = some w.heap.size) → wpList P ops Q rest (a.put o.dst (.slice ao' N cap')) w') : wpList P ops Q (o :: rest) a w := by
  subst hN
  obtain ⟨i, hi, hz, hsi, hby⟩ := hi.parts
  refine wpList_append_own_at w hgd s x t ho base e i z size bytes ht hi hz hsi hby hzs hsz v n xs hs hown ad m c news hx hl (fun j u hu => hrow j u hu) h1 b1 b2 hbase fun v' w' r1 r2 _ r4 => ?_
  obtain ⟨ao', cap', rfl, h2, _⟩ := Mine.row (Or.inl r1)
  exact hK ao' cap' w' h2 r1 r2 r4

theorem step_push {P : Program} {ops : Array Oper} {o : Oper} {a : Act} {w : World} {K : Act → World → Prop} {Q : Exit → Act → World → Prop} {E : Prop} (hgd : o.guard = none) (s x : Operand) (t : TypeId)
    (ho : o.op = .call { callee := .builtin .append, args := #[s, x], argTypes := #[t, t] }) (e : TypeId) (z : Value) (size bytes : Nat) (ht : P.underlying t = some (.slice e)) (hi : Info P e z size bytes) (hzs : z.cells.size = size) (hsz : 0 < size)
    (base : Nat) (v : Value) (n : Nat) (xs : List Value) (hs : a.eval s = v) (hown : w.ownsRow base e size v n xs) (ad : Addr) (m c : Nat) (hx : a.eval x = .slice (some ad) m c) (news : List Value) (hl : news.length = m * size) (hrow : At w ad news) (h1 : ∀ u ∈ news, u.oneCell' = true)
    (b1 : n + m ≤ maxLen) (b2 : (n + m) * bytes ≤ 140737488355328) (hbase : base ≤ w.heap.size) (N : Nat) (hN : N = n + m)
    (hK : ∀ ao' cap' w', N ≤ cap' → w'.ownsRow base e size (.slice ao' N cap') N (xs ++ news) → w.grownBy w' v.ownBlock → ((Value.slice ao' N cap').ownBlock = v.ownBlock ∨ (Value.slice ao' N cap').ownBlock = some w.heap.size) → K (a.put o.dst (.slice ao' N cap')) w') :
    if Region.wanted o (yielded ops a.tmps) = true then Oper.wp P o a w K Q else E := by
  have hw : Region.wanted o (yielded ops a.tmps) = true := by simp [Region.wanted, hgd]
  rw [if_pos hw]
  subst hN
  obtain ⟨i, hi, hz, hsi, hby⟩ := hi.parts
  obtain ⟨v', w', hrun, r1, r2, _, r4⟩ := run_append_own_at (P := P) w base t o.type e i z size bytes ht hi hz hsi hby hzs hsz v n xs hown ad m c news hl (fun j u hu => hrow j u hu) h1 b1 b2 hbase
  obtain ⟨ao', cap', rfl, h2, _⟩ := Mine.row (Or.inl r1)
  unfold Oper.wp
  simp [execOp, ho, resolve, invoke, builtin, hs, hx, hrun, Result.andThen]
  exact hK ao' cap' w' h2 r1 r2 r4

theorem grown_refl (w : World) (row : Option Nat) : w.grownBy w row := ⟨rfl, rfl, rfl, Nat.le_refl _, fun _ _ _ => rfl⟩
/-- the same, the source maybe nil -/
theorem step_pushO {P : Program} {ops : Array Oper} {o : Oper} {a : Act} {w : World} {K : Act → World → Prop} {Q : Exit → Act → World → Prop} {E : Prop} (hgd : o.guard = none) (s x : Operand) (t : TypeId)
    (ho : o.op = .call { callee := .builtin .append, args := #[s, x], argTypes := #[t, t] }) (e : TypeId) (z : Value) (size bytes : Nat) (ht : P.underlying t = some (.slice e)) (hi : Info P e z size bytes) (hzs : z.cells.size = size) (hsz : 0 < size)
    (base : Nat) (v : Value) (n : Nat) (xs : List Value) (hs : a.eval s = v) (hown : w.ownsRow base e size v n xs) (ao : Option Addr) (m c : Nat) (hx : a.eval x = .slice ao m c) (hno : ao = none → m = 0 ∧ c = 0) (news : List Value) (hl : news.length = m * size) (hrow : RowV w ao news) (h1 : ∀ u ∈ news, u.oneCell' = true)
    (b1 : n + m ≤ maxLen) (b2 : (n + m) * bytes ≤ 140737488355328) (hbase : base ≤ w.heap.size) (N : Nat) (hN : N = n + m)
    (hK : ∀ ao' cap' w', N ≤ cap' → w'.ownsRow base e size (.slice ao' N cap') N (xs ++ news) → w.grownBy w' v.ownBlock → ((Value.slice ao' N cap').ownBlock = v.ownBlock ∨ (Value.slice ao' N cap').ownBlock = some w.heap.size) → K (a.put o.dst (.slice ao' N cap')) w') :
    if Region.wanted o (yielded ops a.tmps) = true then Oper.wp P o a w K Q else E := by
  cases ao with
  | some ad =>
    refine step_push hgd s x t ho e z size bytes ht hi hzs hsz base v n xs hs hown ad m c hx news hl ?_ h1 b1 b2 hbase N hN hK
    intro j u hu
    rcases hrow with h | ⟨b, off, h, _, h3⟩
    · subst h; simp at hu
    · obtain rfl : ad = ⟨b, off, none⟩ := by simpa using h
      rw [show (⟨b, off, none⟩ : Addr).add j = ⟨b, off + j, none⟩ by unfold Addr.add; split <;> simp_all]
      exact h3 j u hu
  | none =>
    obtain ⟨rfl, rfl⟩ := hno rfl
    obtain rfl : news = [] := List.eq_nil_of_length_eq_zero (by rw [hl]; simp)
    have hw : Region.wanted o (yielded ops a.tmps) = true := by simp [Region.wanted, hgd]
    rw [if_pos hw]
    obtain ⟨i, hi, _, hsi, _⟩ := hi.parts
    have hrun := run_append_owned_none (P := P) (w := w) base t o.type e i size ht hi v n xs hown
    obtain ⟨ao', cap', hv, h2, _⟩ := Mine.row (Or.inl hown)
    obtain rfl : N = n := by omega
    unfold Oper.wp
    simp [execOp, ho, resolve, invoke, builtin, hs, hx, hrun, Result.andThen]
    rw [hv]
    exact hK ao' cap' w h2 (by rw [List.append_nil, ← hv]; exact hown) (grown_refl _ _) (Or.inl (by rw [hv]))

/-- two rows of a call's own that lie apart -/
def Apart2 (v u : Value) : Prop := v.ownBlock = none ∨ v.ownBlock ≠ u.ownBlock
theorem Apart2.symm {v u : Value} (h : Apart2 v u) : Apart2 u v := by
  unfold Apart2 at *
  by_cases hu : u.ownBlock = none
  · exact Or.inl hu
  · rcases h with h | h
    · exact Or.inr (by rw [h]; exact fun e => hu e)
    · exact Or.inr fun e => h e.symm
/-- behind an append to v: v' and u still lie apart; n: the heap's size there -/
theorem Apart2.push {v u v' : Value} {n : Nat} (h : Apart2 v u) (hl : v'.ownBlock = v.ownBlock ∨ v'.ownBlock = some n) (hu : ∀ g, u.ownBlock = some g → g < n) : Apart2 v' u := by
  unfold Apart2 at *
  rcases hl with hl | hl
  · rw [hl]; exact h
  · right
    rw [hl]
    intro e
    exact absurd (hu n e.symm) (Nat.lt_irrefl _)
theorem ownsRow_lt {w : World} {base : Nat} {e : TypeId} {size : Nat} {v : Value} {n : Nat} {xs : List Value} (h : w.ownsRow base e size v n xs) : ∀ g, v.ownBlock = some g → g < w.heap.size := fun g hg => (h.lt g hg).2
theorem ownsRow_belowAll {w w' : World} {base : Nat} {e : TypeId} {size : Nat} {v : Value} {n : Nat} {xs : List Value} (h : w.ownsRow base e size v n xs) (hb : Below w.heap.size w w') : w'.ownsRow base e size v n xs := by
  obtain ⟨h1, h2⟩ := h
  refine ⟨h1, ?_⟩
  rcases h2 with h2 | ⟨g, cap, cur, hv, hg, hh, r⟩
  · exact Or.inl h2
  · exact Or.inr ⟨g, cap, cur, hv, hg, by rw [hb.block g (lt_of_block hh)]; exact hh, r⟩
theorem at_new (w : World) (cs : Array Value) (t : TypeId) : At (w.alloc (.cells cs t)) ⟨w.heap.size, 0, none⟩ cs.toList := by
  intro j u hu
  rw [show (⟨w.heap.size, 0, none⟩ : Addr).add j = ⟨w.heap.size, j, none⟩ by unfold Addr.add; split <;> simp_all, World.cell?_alloc_at _ _ _ _ (by simp)]
  simpa using hu
theorem at_new' (w : World) (cs : List Value) (t : TypeId) {g : Nat} (hg : g = w.heap.size) : At (w.alloc (.cells cs.toArray t)) ⟨g, 0, none⟩ cs := by
  subst hg
  have := at_new w cs.toArray t
  simpa using this
theorem At.alloc {w : World} {a : Addr} {cs : List Value} (h : At w a cs) (o : Obj) : At (w.alloc o) a cs := by
  intro j u hu
  have h1 := h j u hu
  rw [World.cell?_alloc_lt _ _ _ (World.block_lt_of_cell? w _ h1)]
  exact h1
theorem At.kept {w w' : World} {a : Addr} {cs : List Value} {row : Option Nat} (h : At w a cs) (hg : w.grownBy w' row) (hne : some a.block ≠ row) : At w' a cs := by
  intro j u hu
  have e : (a.add j).block = a.block := by unfold Addr.add; split <;> rfl
  exact hg.cell (h j u hu) (by rw [e]; exact hne)
end Go.Proofs.Ytbljihhelladbaa
