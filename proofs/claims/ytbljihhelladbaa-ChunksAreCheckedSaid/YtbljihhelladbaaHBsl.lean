/-
  A slice literal of one struct or array: the law at the operation. No condition but the value's size. Blocks of streams, walked: contracts. Conditions: keys and nonces of octets. Contracts of NumberOf and slices.Equal; the numbers of a stream, pair by pair. Conditions: octets. Contracts of share.polynomial and keyref2.polynomials: an octet's polynomial out of a seed. Conditions: a seed of octets, a need from 1 to 32. Contracts of share.Combine and Agree. Conditions: shares of the type's form. Contract of share.Fit. Conditions: shares of the type's form; a secret of octets. Contract of keyref2.polynomials; shares with given values. Conditions: a secret and a seed of octets, a need from 1 to 32. Contract of keyref2.ZeroOf; slices of shares that a call has made. Conditions: shares of the type's form.
-/
import Derived.Test.YtbljihhelladbaaHStG
import Derived.Test.YtbljihhelladbaaHStA
import Derived.Test.YtbljihhelladbaaHNum
import Derived.Test.YtbljihhelladbaaHShBC
import Derived.Test.YtbljihhelladbaaHMem
import Derived.Great.BuildSlice
import Derived.Deep.CutRange
import Derived.Maps.RangeWalk
import Derived.StillTailTactics
namespace Go.Proofs.Ytbljihhelladbaa
set_option linter.unusedSimpArgs false
set_option linter.unusedVariables false
open Go.RowKit
theorem fold_zip : ∀ (cs : List Value) (k : Nat) (base : Array Value), k + cs.length ≤ base.size →
    ((cs.zipIdx k).foldl (fun (a : Array Value) (x : Value × Nat) => a.setIfInBounds (0 + x.2) x.1) base).toList = base.toList.take k ++ cs ++ base.toList.drop (k + cs.length)
  | [], k, base, _ => by simp
  | c :: r, k, base, h => by
    rw [List.zipIdx_cons, List.foldl_cons, fold_zip r (k + 1) _ (by simp at h ⊢; omega)]
    simp only [Nat.zero_add, Array.toList_setIfInBounds, List.length_cons]
    have hk : k < base.toList.length := by simp at h ⊢; omega
    rw [List.take_set, List.drop_set, if_pos (by omega), List.take_succ_eq_append_getElem hk, List.set_append_right _ _ (by rw [List.length_take]; omega), (by rw [List.length_take]; omega : k - (List.take k base.toList).length = 0), List.set_cons_zero, show k + 1 + r.length = k + (r.length + 1) by omega]
    simp
theorem fill_one (size : Nat) (cs : List Value) (base : Array Value) (hs : cs.length = size) (hb : base.size = size) : Instr.fill (fun i => some (i * size, size)) base [(0, .agg cs.toArray)] = some cs.toArray := by
  have h := fold_zip cs 0 base (by omega)
  unfold Instr.fill
  simp only [Value.cells, Nat.zero_mul]
  rw [if_neg (by simp; omega)]
  unfold Instr.fill
  congr 1
  apply Array.ext'
  rw [show ((cs.toArray.zipIdx).foldl (fun (a : Array Value) (x : Value × Nat) => a.setIfInBounds (0 + x.2) x.1) base) = ((cs.zipIdx 0).foldl (fun (a : Array Value) (x : Value × Nat) => a.setIfInBounds (0 + x.2) x.1) base) by simp, h]
  simp; omega
theorem wl_slice1 {P : Program} {w : World} {ops : Array Oper} {rest : List Oper} {o : Oper} {a : Act} {Q : Exit → Act → World → Prop} (hgd : o.guard = none) (t e : TypeId) (x : Operand) (ho : o.op = .buildSlice t 1 #[(0, x)])
    (ht : P.underlying t = some (.slice e)) (size : Nat) (z : List Value) (hi : (P.info? e).map (fun i => (i.zero, i.size)) = some (some (.agg z.toArray), size)) (hz : z.length = size) (h0 : 0 < size) (h24 : size ≤ 2 ^ 24)
    (cs : List Value) (hx : a.eval x = .agg cs.toArray) (hcs : cs.length = size) (N : Nat) (hN : w.heap.size = N)
    (h : ∀ w', BlkV e w' N cs → Below N w w' → w'.heap.size = N + 1 → wpList P ops Q rest (a.put o.dst (.slice (some ⟨N, 0, none⟩) 1 1)) w') : wpList P ops Q (o :: rest) a w := by
  subst hN
  obtain ⟨i, hi0, hh⟩ := Option.map_eq_some_iff.1 hi
  simp only [Prod.mk.injEq] at hh
  obtain ⟨hzi, hsi⟩ := hh
  subst hsi
  have hf : Instr.fill (fun j => some (j * i.size, i.size)) ((Array.range (1 * i.size)).map (fun j => (Value.agg z.toArray).cells[j % (Value.agg z.toArray).cells.size]!)) #[(0, Value.agg cs.toArray)].toList = some cs.toArray := fill_one i.size cs _ hcs (by simp)
  have hrun := run_buildSlice (P := P) w t e 1 #[(0, Value.agg cs.toArray)] cs.toArray i (.agg z.toArray) ht hi0 hzi (by omega) (by omega) hf
  refine wpList_plain hgd fun K hK' => ?_
  unfold Oper.wp
  simp [execOp, ho, hx, hrun, Result.andThen]
  exact hK' _ _ (h _ (BlkV.new e w cs rfl) ((Below.refl _ _).alloc (Nat.le_refl _) _) (by simp))
end Go.Proofs.Ytbljihhelladbaa
/- mix.Stream of a whole block: 64 octets from a place that 64 divides. Conditions: a key and a nonce of octets; the place at most 2^40. -/
namespace Go.Proofs.Ytbljihhelladbaa.st
set_option linter.unusedSimpArgs false
set_option linter.unusedVariables false
open Go.RowKit
set_option pp.maxSteps 4000
theorem info8 : Info Try.prog 5 (.int .u8 0) 1 1 := by unfold Info; kernel_rfl
theorem rowV_of {t : TypeId} {w : World} {g : Nat} {cs : List Value} (h : BlkV t w g cs) : RowV w (some ⟨g, 0, none⟩) cs := Or.inr ⟨g, 0, rfl, h.lt, fun j u hu => by rw [Nat.zero_add, h.cell]; exact hu⟩
end Go.Proofs.Ytbljihhelladbaa.st
/- keyref1.long; keyref1.Stream of a whole block. Conditions: as mix.Stream's. -/
namespace Go.Proofs.Ytbljihhelladbaa.st
open Go.RowKit
set_option pp.maxSteps 4000
theorem infoU8 : (Try.prog.info? 5).map (fun i => (i.zero, i.size, i.bytes)) = some (some (.int .u8 0), 1, 1) := by kernel_rfl
end Go.Proofs.Ytbljihhelladbaa.st
/- keyref1.Stream of a whole block. Conditions: as mix.Stream's. -/
namespace Go.Proofs.Ytbljihhelladbaa.st
open Go.RowKit
set_option pp.maxSteps 4000
end Go.Proofs.Ytbljihhelladbaa.st
/- Contracts of keyref2.NumberOf (two octets), slices.Equal at []int. Conditions: octets. -/
namespace Go.Proofs.Ytbljihhelladbaa.st
set_option linter.unusedSimpArgs false
set_option linter.unusedVariables false
open Go.RowKit
set_option pp.maxSteps 4000
end Go.Proofs.Ytbljihhelladbaa.st
/- Contract of share.numbers: the numbers of a stream. Conditions: a key and a nonce of octets, at most 4096 numbers. -/
namespace Go.Proofs.Ytbljihhelladbaa.st
open Go.RowKit Go.Proofs.Ytbljihhelladbaa.slInt
set_option pp.maxSteps 4000
/-- rows of different types lie apart -/
theorem apart {w : World} {b1 b2 : Nat} {e1 e2 : TypeId} {s1 s2 : Nat} {v1 v2 : Value} {n1 n2 : Nat} {x1 x2 : List Value} (h1 : w.ownsRow b1 e1 s1 v1 n1 x1) (h2 : w.ownsRow b2 e2 s2 v2 n2 x2) (he : e1 ≠ e2) : v2.ownBlock = none ∨ v2.ownBlock ≠ v1.ownBlock := by
  rcases h2 with ⟨_, ⟨rfl, _⟩ | ⟨g, cap, cur, rfl, hg, hh, _⟩⟩
  · exact Or.inl rfl
  · refine Or.inr fun hc => ?_
    rcases h1 with ⟨_, ⟨rfl, _⟩ | ⟨g', cap', cur', rfl, hg', hh', _⟩⟩
    · cases hc
    · have e : g = g' := by simpa [Value.ownBlock] using hc
      subst e
      rw [hh] at hh'
      simp at hh'
      exact he hh'.2.symm
end Go.Proofs.Ytbljihhelladbaa.st
namespace Go.Proofs.Ytbljihhelladbaa.shr
open Go.RowKit Go.Proofs.Ytbljihhelladbaa.sh Go.Proofs.Ytbljihhelladbaa.Fld
set_option linter.unusedSimpArgs false
set_option linter.unusedVariables false
set_option pp.maxSteps 6000
def zero16 : List Value := (List.replicate 16 0).map (Value.int .u8)
end Go.Proofs.Ytbljihhelladbaa.shr
namespace Go.Proofs.Ytbljihhelladbaa.shr
set_option linter.unusedVariables false
open Go.RowKit Go.Proofs.Ytbljihhelladbaa.sh Go.Proofs.Ytbljihhelladbaa.Fld
set_option linter.unusedSimpArgs false
set_option pp.maxSteps 6000
theorem RowS.drop {w : World} {b off : Nat} {l : List Sh} (h : RowS w (some ⟨b, off, none⟩) l) (n : Nat) (hn : n < l.length) : RowS w (some ⟨b, off + n * 49, none⟩) (l.drop n) := by
  obtain ⟨b', off', e, h2, h3⟩ := h.at hn
  obtain ⟨rfl, rfl⟩ : b = b' ∧ off = off' := by simpa using e
  refine Or.inr ⟨b, off + n * 49, rfl, h2, fun i hi => ?_⟩
  rw [List.length_drop] at hi
  have := h3 (n + i) (by omega)
  have e2 : (l.drop n).getD i nil = l.getD (n + i) nil := by simp [List.getD_eq_getElem?_getD]
  rw [e2, show off + n * 49 + i * 49 = off + (n + i) * 49 by omega]
  exact this
end Go.Proofs.Ytbljihhelladbaa.shr
namespace Go.Proofs.Ytbljihhelladbaa.shr
set_option linter.unusedVariables false
open Go.RowKit Go.Proofs.Ytbljihhelladbaa.sh Go.Proofs.Ytbljihhelladbaa.Fld
set_option linter.unusedSimpArgs false
set_option pp.maxSteps 6000
/-- shares, cell by cell -/
def flatS (l : List Sh) : List Value := l.flatMap (·.cs)
theorem flatS_length (l : List Sh) (hl : ∀ s ∈ l, s.Ok) : (flatS l).length = l.length * 49 := by
  induction l with
  | nil => rfl
  | cons s l ih =>
    unfold flatS at *
    rw [List.flatMap_cons, List.length_append, ih (fun t ht => hl t (List.mem_cons_of_mem _ ht)), (hl s (List.mem_cons_self ..)).csl, List.length_cons]
    omega
theorem flatS_get (l : List Sh) (hl : ∀ s ∈ l, s.Ok) (i j : Nat) (hi : i < l.length) (hj : j < 49) : (flatS l)[i * 49 + j]? = (l.getD i nil).cs[j]? := by
  induction l generalizing i with
  | nil => simp at hi
  | cons s l ih =>
    have hs := (hl s (List.mem_cons_self ..)).csl
    unfold flatS at *
    rw [List.flatMap_cons]
    cases i with
    | zero =>
      rw [List.getElem?_append_left (by rw [hs]; omega)]
      simp
    | succ i =>
      rw [List.getElem?_append_right (by rw [hs]; omega), hs, show (i + 1) * 49 + j - 49 = i * 49 + j by omega, ih (fun t ht => hl t (List.mem_cons_of_mem _ ht)) i (by simpa using hi)]
      simp
theorem RowS.flat {w : World} {ao : Option Addr} {l : List Sh} (h : RowS w ao l) (hl : ∀ s ∈ l, s.Ok) : RowV w ao (flatS l) := by
  rcases h with h | ⟨b, off, h1, h2, h3⟩
  · exact Or.inl (by rw [h]; rfl)
  · refine Or.inr ⟨b, off, h1, h2, fun j u hu => ?_⟩
    have hj := (List.getElem?_eq_some_iff.1 hu).1
    rw [flatS_length l hl] at hj
    have hi : j / 49 < l.length := by omega
    have e : j = j / 49 * 49 + j % 49 := by omega
    rw [e, flatS_get l hl _ _ hi (by omega)] at hu
    have := h3 (j / 49) hi (j % 49) u hu
    rw [Addr.add_mid] at this
    rw [e, ← Nat.add_assoc]
    exact this
end Go.Proofs.Ytbljihhelladbaa.shr
/- A one-cell store into a variable, the world behind it a letter. Conditions: the cell is there. -/
namespace Go.Proofs.Ytbljihhelladbaa
open Go.RowKit
set_option linter.unusedSimpArgs false
set_option linter.unusedVariables false
set_option pp.maxSteps 6000
/-- one cell stored: the world behind it a letter -/
theorem wl_setV {P : Program} {w : World} {ops : Array Oper} {rest : List Oper} {o : Oper} {a : Act} {Q : Exit → Act → World → Prop} (hgd : o.guard = none) (ty : TypeId) (x y : Operand) (ho : o.op = .store ty x y)
    (t : TypeId) (g i : Nat) (hx : a.eval x = .pointer (some ⟨g, i, none⟩)) (v : Value) (hy : a.eval y = v) (hv : v.cells = #[v]) (h1 : v.oneCell' = true) (hi1 : (P.info? ty).map (·.size) = some 1) (cur : List Value) (hg : BlkV t w g cur) (hi : i < cur.length)
    (h : ∀ w', BlkV t w' g (cur.set i v) → w.grownBy w' (some g) → w'.heap.size = w.heap.size → wpList P ops Q rest (a.put o.dst undef) w') : wpList P ops Q (o :: rest) a w := by
  obtain ⟨f, hf, hs⟩ := Option.map_eq_some_iff.1 hi1
  have hrun : (storeVar ty ⟨g, i, none⟩ v).run P w = .ok () (w.setRow g (cur.set i v).toArray) := by
    have h := run_storeCells_at (P := P) g i t [v] 0 cur.toArray w hg (by simp; omega) (by intro u hu; rw [List.mem_singleton.1 hu]; exact h1)
    simp only [Nat.add_zero] at h
    have e : cur.take i ++ [v] ++ cur.drop (i + 1) = cur.set i v := by
      rw [List.set_eq_take_append_cons_drop, if_pos hi]; simp
    have h' : (storeCells ⟨g, i, none⟩ [v]).run P w = .ok () (w.setRow g (cur.set i v).toArray) := by
      rw [← e]; simpa using h
    simp [storeVar, hv, sizeOf, typeInfo, hf, hs, h']
  refine wpList_plain hgd fun K hK' => ?_
  unfold Oper.wp
  simp [execOp, ho, hx, hy, Instr.storeAt, Instr.sureAddr, hrun, Result.andThen]
  exact hK' _ _ (h _ (hg.setRow _) ⟨rfl, rfl, rfl, by simp, fun k _ hk => setRow_other w g k _ (fun e => hk (by rw [e]))⟩ (by simp))
end Go.Proofs.Ytbljihhelladbaa
/- Contract of keyref2.polynomials: the polynomials of a seed. Conditions: a secret and a seed of octets, a need from 1 to 32. -/
namespace Go.Proofs.Ytbljihhelladbaa.shr
open Go.RowKit Go.Proofs.Ytbljihhelladbaa.sh Go.Proofs.Ytbljihhelladbaa.Fld
set_option linter.unusedSimpArgs false
set_option linter.unusedVariables false
set_option pp.maxSteps 6000
/-- polynomials, as a value -/
structure PolysG (w : World) (f : Nat → List Int) (ps : List Value) : Prop where
  len : ps.length = 32
  one : ∀ u ∈ ps, u.oneCell' = true
  at_ : ∀ o, o < 32 → ∃ ao cap, ps[o]? = some (.slice ao (f o).length cap) ∧ RowI .i64 w ao (f o)
theorem PolysG.below {w w' : World} {f : Nat → List Int} {ps : List Value} (h : PolysG w f ps) (hb : Below w.heap.size w w') : PolysG w' f ps :=
  ⟨h.len, h.one, fun o ho => by obtain ⟨ao, cap, h1, h2⟩ := h.at_ o ho; exact ⟨ao, cap, h1, h2.below hb⟩⟩
structure PolyOwn (B : Nat) (w : World) (f : Nat → List Int) (ps : List Value) (k : Nat) : Prop where
  len : ps.length = 32
  one : ∀ u ∈ ps, u.oneCell' = true
  at_ : ∀ o, o < k → ∃ ao cap, ps[o]? = some (.slice ao (f o).length cap) ∧ w.ownsRow B 3 1 (.slice ao (f o).length cap) (f o).length ((f o).map (Value.int .i64))
theorem grown_setCell (w : World) (a : Addr) (v : Value) : w.grownBy (w.setCell a v) (some a.block) :=
  ⟨rfl, rfl, rfl, by simp, fun i _ hi => heap_setCell_other w a i v (fun e => hi (by rw [e]))⟩
theorem grown_setRow (w : World) (g : Nat) (cs : Array Value) : w.grownBy (w.setRow g cs) (some g) :=
  ⟨rfl, rfl, rfl, by simp, fun i _ hi => setRow_other w g i cs (fun e => hi (by rw [e]))⟩
end Go.Proofs.Ytbljihhelladbaa.shr
/- Shares with given values, plain; the numbers of a seed's polynomial are in range. A struct literal of a share. Conditions: the type's form. -/
namespace Go.Proofs.Ytbljihhelladbaa.shr
open Go.RowKit Go.Proofs.Ytbljihhelladbaa.sh Go.Proofs.Ytbljihhelladbaa.Fld
set_option linter.unusedSimpArgs false
set_option linter.unusedVariables false
set_option pp.maxSteps 6000
end Go.Proofs.Ytbljihhelladbaa.shr
/- Contract of keyref2.ZeroOf. Conditions: shares of the type's form at places from 0 to 256, 32 at most; a seed of octets, a need from 1 to 32. -/
namespace Go.Proofs.Ytbljihhelladbaa.shr
open Go.RowKit Go.Proofs.Ytbljihhelladbaa.sh Go.Proofs.Ytbljihhelladbaa.Fld
set_option linter.unusedSimpArgs false
set_option linter.unusedVariables false
set_option pp.maxSteps 6000
end Go.Proofs.Ytbljihhelladbaa.shr
/- A slice of shares that a call has made, as a block whose first cells are known (RowB); its shares are given values one by one. No program, no condition but the form. -/
namespace Go.Proofs.Ytbljihhelladbaa.shr
open Go.RowKit Go.Proofs.Ytbljihhelladbaa.sh Go.Proofs.Ytbljihhelladbaa.Fld
set_option linter.unusedSimpArgs false
set_option linter.unusedVariables false
set_option pp.maxSteps 6000
/-- block g begins with these cells, and none is frozen -/
def RowB (t : TypeId) (w : World) (g : Nat) (cs : List Value) : Prop := ∃ cur, BlkV t w g cur ∧ cur.take cs.length = cs
section
variable {t : TypeId} {w w' : World} {g : Nat} {cs : List Value}
theorem RowB.lt (h : RowB t w g cs) : g < w.heap.size := by obtain ⟨cur, h, _⟩ := h; exact h.lt
theorem RowB.cell (h : RowB t w g cs) {i : Nat} {u : Value} (hi : cs[i]? = some u) : w.cell? ⟨g, i, none⟩ = some u := by
  obtain ⟨cur, h, h2⟩ := h
  rw [h.cell]
  have hlt : i < cs.length := (List.getElem?_eq_some_iff.1 hi).1
  rw [← hi, ← h2, List.getElem?_take, if_pos hlt]
theorem RowB.frozen (h : RowB t w g cs) (i : Nat) : w.frozen? ⟨g, i, none⟩ = false := by obtain ⟨cur, h, _⟩ := h; exact h.frozen i
theorem RowB.set (h : RowB t w g cs) (i : Nat) (v : Value) : RowB t (w.setCell ⟨g, i, none⟩ v) g (cs.set i v) := by
  obtain ⟨cur, h, h2⟩ := h
  refine ⟨cur.set i v, h.set i v, ?_⟩
  rw [List.length_set, List.take_set, h2]
theorem RowB.drew (h : RowB t w g cs) : RowB t w.drew g cs := h
theorem RowB.drewN (h : RowB t w g cs) (n : Nat) : RowB t (w.drewN n) g cs := h
theorem RowB.below {B : Nat} (h : RowB t w g cs) (hb : Below B w w') (hg : g < B) : RowB t w' g cs := by obtain ⟨cur, h, h2⟩ := h; exact ⟨cur, h.below hb hg, h2⟩
theorem RowB.grown {row : Option Nat} (h : RowB t w g cs) (hg : w.grownBy w' row) (hr : row ≠ some g) : RowB t w' g cs := by obtain ⟨cur, h, h2⟩ := h; exact ⟨cur, h.grown hg hr, h2⟩
theorem RowB.row (h : RowB t w g cs) : RowV w (some ⟨g, 0, none⟩) cs := Or.inr ⟨g, 0, rfl, h.lt, fun j u hu => by rw [Nat.zero_add]; exact h.cell hu⟩
theorem grown_below {row : Option Nat} (hb : Below w.heap.size w w') : w.grownBy w' row := ⟨hb.os, hb.tape, hb.output, hb.size, fun k hk _ => hb.block k hk⟩
theorem grown_drew {row : Option Nat} (h : w.grownBy w' row) : w.grownBy w'.drew row := ⟨h.os, h.tape, h.output, h.size, h.block⟩
theorem grown_set {g : Nat} (h : w.grownBy w' (some g)) (i : Nat) (v : Value) : w.grownBy (w'.setCell ⟨g, i, none⟩ v) (some g) := h.trans (grown_setCell w' ⟨g, i, none⟩ v)
theorem below_of_grown {B g : Nat} (h : w.grownBy w' (some g)) (hB : B ≤ w.heap.size) (hg : B ≤ g) : Below B w w' := (Below.refl B w).grown h hB fun k hk => by cases hk; exact hg
end
end Go.Proofs.Ytbljihhelladbaa.shr
