/-
  Contracts of mix.longOctets, streamBlock. Conditions: a key and a nonce of octets. Sets that a call makes as maps to bools: what is in them, the look-up and the store at the operation. Keys: integers, arrays of integers. Conditions: fewer than 2^40 entries. Further laws at operations: loads under a guard, new variables and whole stores with the world behind them a letter, loads in a drawn region, look-ups under a guard. Conditions: what each names.
-/
import Derived.Test.YtbljihhelladbaaHStA
import Derived.Test.YtbljihhelladbaaHMem
import Derived.Maps.OwnSet
import Derived.Maps.OwnOps
import Derived.DeepKeys4
import Derived.WideKeyArr2
import Derived.StillTailTactics
namespace Go.Proofs.Ytbljihhelladbaa.st
set_option linter.unusedSimpArgs false
set_option linter.unusedVariables false
open Go.RowKit
set_option pp.maxSteps 4000
/-- eight octets of a number -/
def o8 (q : Int) : List Int := [q / 72057594037927936 % 256, q / 281474976710656 % 256, q / 1099511627776 % 256, q / 4294967296 % 256, q / 16777216 % 256, q / 65536 % 256, q / 256 % 256, q % 256]
theorem octets' (n : Int) (w : World) : Calls Try.prog 165 #[.int .u32 n] w fun e w' => e = .returned (.agg #[.int .u8 (n / 16777216 % 256), .int .u8 (n / 65536 % 256), .int .u8 (n / 256 % 256), .int .u8 (n % 256)]) ∧ Below w.heap.size w w' := octets n w
theorem agg8 : Agg Try.prog 216 8 := Agg.arr Try.underlying216 (by kernel_rfl)
theorem longOctets (q : Int) (w : World) (h : 0 ≤ q ∧ q < 18446744073709551616) :
    Calls Try.prog 180 #[.int .u64 q] w fun e w' => e = .returned (.agg ((o8 q).map (Value.int .u8)).toArray) ∧ Below w.heap.size w w' := by
  obtain ⟨hi, HI⟩ : ∃ hi, Hid (hi = q / 4294967296 % 4294967296) := ⟨_, rfl⟩
  obtain ⟨lo, LO⟩ : ∃ lo, Hid (lo = q % 4294967296) := ⟨_, rfl⟩
  have E : Hid ([hi / 16777216 % 256, hi / 65536 % 256, hi / 256 % 256, hi % 256, lo / 16777216 % 256, lo / 65536 % 256, lo / 256 % 256, lo % 256] = o8 q) := by
    show _ = _
    rw [HI.out, LO.out]
    unfold o8
    simp only [List.cons.injEq, and_true]
    refine ⟨?_, ?_, ?_, ?_, ?_, ?_, ?_, ?_⟩ <;> omega
  have h1 : q / 4294967296 % 4294967296 = hi := HI.out.symm
  have h2 : q % 4294967296 = lo := LO.out.symm
  clear h
  go_enter Try.func180, Try.ntmps180
  go_wp2_with fail
  refine (octets' hi _).mono ?_
  rintro e w1 ⟨rfl, b1⟩
  go_wp2_with fail
  refine (octets' lo _).mono ?_
  rintro e w2 ⟨rfl, b2⟩
  have hB : BlkV 216 w2 w.heap.size ((List.replicate 8 (0 : Int)).map (Value.int .u8)) := ((BlkV.new 216 w ((List.replicate 8 (0 : Int)).map (Value.int .u8)) rfl).below b1 (by simp)).below b2 (by have := b1.size; simp at this; omega)
  have bb : Below w.heap.size w w2 := (((Below.refl w.heap.size w).alloc (Nat.le_refl _) _).trans (b1.mono (by simp))).trans (b2.mono (by have := b1.size; simp at this; omega))
  clear b1 b2
  go_wp2_with (first | (refine wl_storeAll rfl 216 _ _ rfl 216 w.heap.size rfl ([hi / 16777216 % 256, hi / 65536 % 256, hi / 256 % 256, hi % 256, lo / 16777216 % 256, lo / 65536 % 256, lo / 256 % 256, lo % 256].map (Value.int .u8)) rfl 8 agg8 rfl ((List.replicate 8 (0 : Int)).map (Value.int .u8)) ((hB.alloc _).alloc _) rfl (ints_one _ _) ?_; intro hRR))
  (try simp only [Exit.inBlock, Exit.then]); refine bodyPost_ret (results_cell rfl _ _ _ _ rfl _ agg8 hRR.at0) rfl ?_
  exact ⟨by rw [E.out], below_setRow' ((bb.alloc bb.size _).alloc (by have := bb.size; simp; omega) _) (Nat.le_refl _) _⟩
theorem splice_map (k : IntKind) (l d : List Int) (off : Nat) : splice (l.map (Value.int k)) off (d.map (Value.int k)) = (splice l off d).map (Value.int k) := by
  unfold splice
  rw [List.length_map, ← List.map_take, ← List.map_drop, ← List.map_append, ← List.map_append]
theorem o8_octs (q : Int) : Octs (o8 q) := by
  intro c hc
  unfold o8 at hc
  simp only [List.mem_cons, List.not_mem_nil, or_false] at hc
  unfold Oct
  rcases hc with rfl | rfl | rfl | rfl | rfl | rfl | rfl | rfl <;> omega
theorem zeros_octs (n : Nat) : Octs (List.replicate n 0) := by
  intro c hc; rw [(List.mem_replicate.1 hc).2]; unfold Oct; omega
end Go.Proofs.Ytbljihhelladbaa.st
namespace Go.Proofs.Ytbljihhelladbaa.mp
set_option linter.unusedSimpArgs false
set_option linter.unusedVariables false
open Go.RowKit Go.Maps Go.WideMaps
/-- block b is a map of at most n entries, true at just the keys of S -/
def SetAt (P : Program) (k e : TypeId) (w : World) (b n : Nat) (S : List Lit) : Prop :=
  ∃ D : DataW Unit, w.ownsMap P k (plainElem P e) b n D ∧ ∀ kl, KeysOf P k kl → ∃ r : Bool, D.atKey kl (.lit (.bool false)) = .lit (.bool r) ∧ (r = true ↔ kl ∈ S)
theorem SetAt.made (P : Program) (k e : TypeId) (w : World) : SetAt P k e (w.alloc (.map #[] 0)) w.heap.size 0 [] :=
  ⟨_, World.ownsMap_made w P k _, fun kl _ => ⟨false, by simp [DataW.atKey], by simp⟩⟩
theorem SetAt.lt {P : Program} {k e : TypeId} {w : World} {b n : Nat} {S : List Lit} (h : SetAt P k e w b n S) : b < w.heap.size := by
  obtain ⟨D, h, _⟩ := h
  exact h.lt
theorem SetAt.kept {P : Program} {k e : TypeId} {w w' : World} {b n : Nat} {S : List Lit} {row : Option Nat} (h : SetAt P k e w b n S) (hg : w.grownBy w' row) (hr : some b ≠ row) : SetAt P k e w' b n S := by
  obtain ⟨D, h, h2⟩ := h
  exact ⟨D, h.kept hg hr, h2⟩
theorem SetAt.alloc {P : Program} {k e : TypeId} {w : World} {b n : Nat} {S : List Lit} (h : SetAt P k e w b n S) (o : Obj) : SetAt P k e (w.alloc o) b n S := h.kept (World.grownBy_alloc w o none) (by simp)
theorem SetAt.drew {P : Program} {k e : TypeId} {w : World} {b n : Nat} {S : List Lit} (h : SetAt P k e w b n S) : SetAt P k e w.drew b n S := h
theorem SetAt.drewN {P : Program} {k e : TypeId} {w : World} {b n : Nat} {S : List Lit} (h : SetAt P k e w b n S) (m : Nat) : SetAt P k e (w.drewN m) b n S := h
theorem SetAt.below {P : Program} {k e : TypeId} {w w' : World} {b n : Nat} {S : List Lit} (h : SetAt P k e w b n S) (hb : Below w.heap.size w w') : SetAt P k e w' b n S := by
  obtain ⟨D, ⟨es, clock, h1, h2⟩, h3⟩ := h
  exact ⟨D, ⟨es, clock, by rw [hb.block b (Array.getElem?_eq_some_iff.1 h1).1]; exact h1, h2⟩, h3⟩
section
variable {P : Program} {ops : Array Oper} {rest : List Oper} {o : Oper} {a : Act} {Q : Exit → Act → World → Prop}
end
theorem SetAt.put {P : Program} {t k e : TypeId} {w : World} {b n : Nat} {S : List Lit} (h : SetAt P k e w b n S) (K : Keyed P k) (ht : P.underlying t = some (.map k e)) (he : P.underlying e = some .bool) (hn : n < maxLen) {key : Value} {kl : Lit} (hkey : keyOf P k key = some kl) :
    ∃ w', (Instr.mapUpdate t (.map (some b)) key (.bool true)).run P w = .ok () w' ∧ SetAt P k e w' b (n + 1) (S ++ [kl]) ∧ w.grownBy w' (some b) := by
  obtain ⟨D, hown, hS⟩ := h
  obtain ⟨w', hrun, r1, r2⟩ := hown.update K ht hn hkey (plainElem_bool he true)
  refine ⟨w', hrun, ⟨_, r1, fun l hl => ?_⟩, r2⟩
  by_cases h : l = kl
  · subst h
    exact ⟨true, atKey_put_same hown.isMap (K.key hkey) _ _, by simp⟩
  · obtain ⟨r, h1, h2⟩ := hS l hl
    exact ⟨r, by rw [atKey_put_other h]; exact h1, by simp [h, h2]⟩
end Go.Proofs.Ytbljihhelladbaa.mp
namespace Go.Proofs.Ytbljihhelladbaa
set_option linter.unusedSimpArgs false
set_option linter.unusedVariables false
open Go.RowKit
theorem wl_loadG {P : Program} {w : World} {ops : Array Oper} {rest : List Oper} {o : Oper} {a : Act} {Q : Exit → Act → World → Prop} (hgd : Region.wanted o (yielded ops a.tmps) = true) (ty : TypeId) (x : Operand) (ho : o.op = .load ty x)
    (p : Addr) (hx : a.eval x = .pointer (some p)) (n : Nat) (cs : List Value) (hn : cs.length = n) (ha : Agg P ty n) (hc : At w p cs) (h : wpList P ops Q rest (a.put o.dst (.agg cs.toArray)) w) : wpList P ops Q (o :: rest) a w := by
  subst hn
  refine wpList_step fun K hK' => ?_
  rw [if_pos hgd]
  unfold Oper.wp
  simp [execOp, ho, hx, Instr.loadAt, Instr.sureAddr, run_load_agg w ty p cs ha hc, Result.andThen]
  exact hK' _ _ h
theorem still_load {P : Program} {w : World} {ops : Array Oper} {rest : List Oper} {o : Oper} {a : Act} {Q : Act → Prop} (hgd : Region.wanted o (yielded ops a.tmps) = true) (ty : TypeId) (x : Operand) (ho : o.op = .load ty x)
    (p : Addr) (hx : a.eval x = .pointer (some p)) (n : Nat) (cs : List Value) (hn : cs.length = n) (ha : Agg P ty n) (hc : At w p cs) (h : wpStill P ops w Q rest (a.put o.dst (.agg cs.toArray))) : wpStill P ops w Q (o :: rest) a := by
  subst hn
  refine wpStill_step fun K hK => ?_
  rw [if_pos hgd]
  unfold Oper.still
  simp [execOp, ho, hx, Instr.loadAt, Instr.sureAddr, run_load_agg w ty p cs ha hc, Result.andThen, Oper.stillUpon]
  exact hK _ h
/-- a new variable: the world behind it a letter -/
theorem wl_allocV {P : Program} {w : World} {ops : Array Oper} {rest : List Oper} {o : Oper} {a : Act} {Q : Exit → Act → World → Prop} (hgd : o.guard = none) (t : TypeId) (ho : o.op = .alloc t)
    (cs : List Value) (hz : (P.info? t).map (·.zero) = some (some (.agg cs.toArray))) (N : Nat) (hN : w.heap.size = N)
    (h : ∀ w', BlkV t w' N cs → Below N w w' → w'.heap.size = N + 1 → wpList P ops Q rest (a.put o.dst (.pointer (some ⟨N, 0, none⟩))) w') : wpList P ops Q (o :: rest) a w := by
  subst hN
  exact wl_alloc hgd t ho cs hz (h _ (BlkV.new t w cs rfl) ((Below.refl _ _).alloc (Nat.le_refl _) _) (by simp))
/-- a whole store into a variable: the world behind it a letter -/
theorem wl_storeV {P : Program} {w : World} {ops : Array Oper} {rest : List Oper} {o : Oper} {a : Act} {Q : Exit → Act → World → Prop} (hgd : o.guard = none) (ty : TypeId) (x y : Operand) (ho : o.op = .store ty x y)
    (t : TypeId) (g : Nat) (hx : a.eval x = .pointer (some ⟨g, 0, none⟩)) (cs : List Value) (hy : a.eval y = .agg cs.toArray) (n : Nat) (hi : Agg P ty n) (hn : cs.length = n) (cur : List Value) (hg : BlkV t w g cur) (hc : cur.length = n) (h1 : ∀ u ∈ cs, u.oneCell' = true)
    (h : ∀ w', BlkV t w' g cs → Below g w w' → w'.heap.size = w.heap.size → wpList P ops Q rest (a.put o.dst undef) w') : wpList P ops Q (o :: rest) a w :=
  wl_storeAll hgd ty x y ho t g hx cs hy n hi hn cur hg hc h1 fun hb => h _ hb (below_setRow' (Below.refl _ _) (Nat.le_refl _) _) (by simp)
section
open Go.Maps Go.WideMaps mp
variable {P : Program} {ops : Array Oper} {rest : List Oper} {o : Oper} {a : Act} {Q : Exit → Act → World → Prop}
end
end Go.Proofs.Ytbljihhelladbaa
