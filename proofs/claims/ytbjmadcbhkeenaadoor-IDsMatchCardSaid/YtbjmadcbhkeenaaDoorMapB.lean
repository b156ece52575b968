/-
  Sets that a call makes as maps to bools: what is in them, the look-up and the store at the operation. Keys: integers, arrays of integers. Conditions: fewer than 2^40 entries.
-/
import Derived.Test.YtbjmadcbhkeenaaDoorMem
import Derived.Maps.OwnSet
import Derived.Maps.OwnOps
import Derived.DeepKeys4
import Derived.WideKeyArr2
namespace Go.Proofs.YtbjmadcbhkeenaaDoor.mp
set_option linter.unusedSimpArgs false
set_option linter.unusedVariables false
open Go.RowKit Go.Maps Go.WideMaps
/-- block b is a map of at most n entries, true at just the keys of S -/
def SetAt (P : Program) (k e : TypeId) (w : World) (b n : Nat) (S : List Lit) : Prop :=
  ∃ D : DataW Unit, w.ownsMap P k (plainElem P e) b n D ∧ ∀ kl, KeysOf P k kl → ∃ r : Bool, D.atKey kl (.lit (.bool false)) = .lit (.bool r) ∧ (r = true ↔ kl ∈ S)
theorem SetAt.made (P : Program) (k e : TypeId) (w : World) : SetAt P k e (w.alloc (.map #[] 0)) w.heap.size 0 [] :=
  ⟨_, World.ownsMap_made w P k _, fun kl _ => ⟨false, by simp [DataW.atKey], by simp⟩⟩
theorem SetAt.lt {P : Program} {k e : TypeId} {w : World} {b n : Nat} {S : List Lit} (h : SetAt P k e w b n S) : b < w.heap.size := by
  obtain ⟨D, h, _⟩ := h
  exact h.lt
theorem SetAt.kept {P : Program} {k e : TypeId} {w w' : World} {b n : Nat} {S : List Lit} {row : Option Nat} (h : SetAt P k e w b n S) (hg : w.grownBy w' row) (hr : some b ≠ row) : SetAt P k e w' b n S := by
  obtain ⟨D, h, h2⟩ := h
  exact ⟨D, h.kept hg hr, h2⟩
theorem SetAt.alloc {P : Program} {k e : TypeId} {w : World} {b n : Nat} {S : List Lit} (h : SetAt P k e w b n S) (o : Obj) : SetAt P k e (w.alloc o) b n S := h.kept (World.grownBy_alloc w o none) (by simp)
theorem SetAt.drew {P : Program} {k e : TypeId} {w : World} {b n : Nat} {S : List Lit} (h : SetAt P k e w b n S) : SetAt P k e w.drew b n S := h
theorem SetAt.drewN {P : Program} {k e : TypeId} {w : World} {b n : Nat} {S : List Lit} (h : SetAt P k e w b n S) (m : Nat) : SetAt P k e (w.drewN m) b n S := h
theorem SetAt.below {P : Program} {k e : TypeId} {w w' : World} {b n : Nat} {S : List Lit} (h : SetAt P k e w b n S) (hb : Below w.heap.size w w') : SetAt P k e w' b n S := by
  obtain ⟨D, ⟨es, clock, h1, h2⟩, h3⟩ := h
  exact ⟨D, ⟨es, clock, by rw [hb.block b (Array.getElem?_eq_some_iff.1 h1).1]; exact h1, h2⟩, h3⟩
theorem plainElem_bool_inv {H : Type} {P : Program} {e : TypeId} (he : P.underlying e = some .bool) {v : Value} {z : DataW H × List MemPlace} (h : plainElem P e v = some z) : ∃ x, v = .bool x ∧ z = (.lit (.bool x), []) := by
  unfold plainElem at h
  rw [he] at h
  split at h
  · cases h
    exact ⟨_, rfl, rfl⟩
  · rename_i hh
    cases hh
  · rename_i hh
    cases hh
  · cases h
section
variable {P : Program} {ops : Array Oper} {rest : List Oper} {o : Oper} {a : Act} {Q : Exit → Act → World → Prop}
theorem wl_look (w : World) (hg : o.guard = none) (m x : Operand) (t : TypeId) (hop : o.op = Op.lookup t m x false)
    (k e : TypeId) (K : Keyed P k) (ht : P.underlying t = some (.map k e)) (he : P.underlying e = some .bool) (hz : (zeroValue e).run P w = .ok (.bool false) w) (b n : Nat) (S : List Lit)
    (hm : a.eval m = .map (some b)) (hown : SetAt P k e w b n S) (key : Value) (kl : Lit) (hx : a.eval x = key) (hkey : keyOf P k key = some kl)
    (r : Bool) (hr : r = true ↔ kl ∈ S) (hK : wpList P ops Q rest (a.put o.dst (.bool r)) w) :
    wpList P ops Q (o :: rest) a w := by
  refine wpList_plain hg fun K' hK' => ?_
  obtain ⟨D, hown, hS⟩ := hown
  obtain ⟨v, ps, hrun, hv⟩ := hown.lookup K ht hz (plainElem_bool he false) hkey
  obtain ⟨c, rfl, hc⟩ := plainElem_bool_inv he hv
  obtain ⟨r', hr1, hr2⟩ := hS kl ⟨key, hkey⟩
  rw [hr1] at hc
  simp only [Prod.mk.injEq, DataW.lit.injEq, Lit.bool.injEq] at hc
  obtain rfl : r = r' := by
    cases r <;> cases r' <;> simp_all
  unfold Oper.wp
  simp [execOp, hop, hm, hx, hrun, Result.andThen]
  rw [← hc.1]
  exact hK' _ _ hK
theorem wl_put (w : World) (hg : o.guard = none) (m x v : Operand) (t : TypeId) (hop : o.op = Op.mapUpdate t m x v)
    (k e : TypeId) (K : Keyed P k) (ht : P.underlying t = some (.map k e)) (he : P.underlying e = some .bool) (b n : Nat) (S : List Lit)
    (hm : a.eval m = .map (some b)) (hown : SetAt P k e w b n S) (hn : n < maxLen) (key : Value) (kl : Lit) (hx : a.eval x = key) (hv : a.eval v = .bool true) (hkey : keyOf P k key = some kl)
    (hK : ∀ w', SetAt P k e w' b (n + 1) (S ++ [kl]) → w.grownBy w' (some b) → wpList P ops Q rest (a.put o.dst undef) w') :
    wpList P ops Q (o :: rest) a w := by
  obtain ⟨D, hown, hS⟩ := hown
  refine wpList_mapUpdate_own w hg m x v t hop k e K ht _ b n D hm hown hn key (.bool true) kl hx hv hkey (.lit (.bool true)) [] (plainElem_bool he true) fun w' r1 r2 => ?_
  refine hK w' ⟨_, r1, fun l hl => ?_⟩ r2
  by_cases h : l = kl
  · subst h
    exact ⟨true, atKey_put_same hown.isMap (K.key hkey) _ _, by simp⟩
  · obtain ⟨r, h1, h2⟩ := hS l hl
    exact ⟨r, by rw [atKey_put_other h]; exact h1, by simp [h, h2]⟩
end
theorem SetAt.put {P : Program} {t k e : TypeId} {w : World} {b n : Nat} {S : List Lit} (h : SetAt P k e w b n S) (K : Keyed P k) (ht : P.underlying t = some (.map k e)) (he : P.underlying e = some .bool) (hn : n < maxLen) {key : Value} {kl : Lit} (hkey : keyOf P k key = some kl) :
    ∃ w', (Instr.mapUpdate t (.map (some b)) key (.bool true)).run P w = .ok () w' ∧ SetAt P k e w' b (n + 1) (S ++ [kl]) ∧ w.grownBy w' (some b) := by
  obtain ⟨D, hown, hS⟩ := h
  obtain ⟨w', hrun, r1, r2⟩ := hown.update K ht hn hkey (plainElem_bool he true)
  refine ⟨w', hrun, ⟨_, r1, fun l hl => ?_⟩, r2⟩
  by_cases h : l = kl
  · subst h
    exact ⟨true, atKey_put_same hown.isMap (K.key hkey) _ _, by simp⟩
  · obtain ⟨r, h1, h2⟩ := hS l hl
    exact ⟨r, by rw [atKey_put_other h]; exact h1, by simp [h, h2]⟩
theorem keys_ints {P : Program} {e : TypeId} {q : IntKind} (he : P.underlying e = some (.int q)) (D : Nat) (l : List Int) (hw : ∀ a ∈ l, (Lit.int q a).wf = true) : ∀ L : List Nat, (∀ i ∈ L, i < l.length) →
    L.mapM (fun i => P.keyLits (D + 1) e (((l.map (Value.int q)).drop (i * 1)).take 1)) = some (L.map fun i => [Lit.int q (l.getD i 0)])
  | [], _ => rfl
  | i :: L, h => by
    have hi := h i (by simp)
    have e1 : ((l.map (Value.int q)).drop (i * 1)).take 1 = [Value.int q (l.getD i 0)] := by
      rw [Nat.mul_one, List.drop_eq_getElem_cons (by simpa using hi)]
      simp [List.getD_eq_getElem?_getD, hi]
    have hwi := hw (l.getD i 0) (by rw [getD_lt' l 0 hi]; exact List.getElem_mem hi)
    rw [List.mapM_cons, e1, keys_ints he D l hw L fun j hj => h j (by simp [hj])]
    have e2 : P.keyLits (D + 1) e [Value.int q (l.getD i 0)] = some [Lit.int q (l.getD i 0)] := by
      simp only [Program.keyLits, he]
      rw [if_pos ⟨trivial, hwi⟩]
    rw [e2]
    rfl
/-- the key of an array of integers -/
def arrKey (q : IntKind) (l : List Int) : Lit := .string (keyBytes (l.map (Lit.int q)))
theorem keyOf_ints {P : Program} {k e : TypeId} {n : Nat} {q : IntKind} (A : ArrKey P k e n) (he : P.underlying e = some (.int q)) (hsz : ∃ m, P.types.size = m + 1) (l : List Int) (hl : l.length = n) (hw : ∀ a ∈ l, (Lit.int q a).wf = true) :
    keyOf P k (.agg (l.map (Value.int q)).toArray) = some (arrKey q l) := by
  have hkt := A.keyType hsz
  obtain ⟨m0, hm0⟩ := hsz
  unfold keyOf
  simp only [A.hu]
  rw [if_pos (by simp [hkt, Value.formed, A.hu, A.size, hl]), hm0]
  unfold Program.keyLits
  simp only [A.hu, Value.cells]
  have h := keys_ints he m0 l hw (List.range n) (fun i hi => by rw [hl]; simpa using hi)
  rw [if_pos (by rw [A.size]; simpa using hl), A.one, h]
  have hr : (List.range n).map (fun i => [Lit.int q (l.getD i 0)]) = (l.map fun c => [Lit.int q c]) := by
    apply List.ext_getElem
    · simp [hl]
    · intro i h1 h2
      simp at h2
      simp [List.getD_eq_getElem?_getD, h2]
  rw [hr]
  have hfl : ∀ l : List Int, (l.map fun c => [Lit.int q c]).flatten = l.map (Lit.int q) := fun l => by induction l with | nil => rfl | cons a r ih => simp [ih]
  simp [hfl, arrKey]
end Go.Proofs.YtbjmadcbhkeenaaDoor.mp
