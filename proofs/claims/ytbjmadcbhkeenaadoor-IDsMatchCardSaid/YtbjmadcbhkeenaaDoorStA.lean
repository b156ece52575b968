/-
  What stirs, in plain Lean; contracts of the small parts of both Stir functions. Conditions: octets from 0 to 255, words below 2^32.
-/
import Derived.Test.YtbjmadcbhkeenaaDoorMem
import Derived.ProofKit
import Derived.Laws.BitsAllLaws
import Derived.OpenShut
namespace Go.Proofs.YtbjmadcbhkeenaaDoor
set_option linter.unusedSimpArgs false
set_option linter.unusedVariables false
open Go.RowKit
theorem results_cell {fn : Func} {c : Tmp} {t : TypeId} (h : fn.results = #[.cell c t]) (tmps : Array Value) (P : Program) (w : World) (p : Addr) (hp : tmps.getD c undef = .pointer (some p)) (cs : List Value) (ha : Agg P t cs.length) (hc : At w p cs) :
    (results fn tmps).run P w = .ok (.agg cs.toArray) w := by
  rw [Array.getD_eq_getD_getElem?] at hp
  simp [results, h, hp, run_load_agg w t p cs ha hc, asAddr]
theorem results_cell2 {fn : Func} {c u : Tmp} {t : TypeId} (h : fn.results = #[.cell c t, .tmp u]) (tmps : Array Value) (P : Program) (w : World) (p : Addr) (hp : tmps.getD c undef = .pointer (some p)) (cs : List Value) (ha : Agg P t cs.length) (hc : At w p cs) :
    (results fn tmps).run P w = .ok (.tuple #[.agg cs.toArray, tmps.getD u undef]) w := by
  rw [Array.getD_eq_getD_getElem?] at hp
  simp [results, h, hp, run_load_agg w t p cs ha hc, asAddr]
/-- a whole variable is stored anew -/
theorem wl_storeAll {P : Program} {w : World} {ops : Array Oper} {rest : List Oper} {o : Oper} {a : Act} {Q : Exit → Act → World → Prop} (hgd : o.guard = none) (ty : TypeId) (x y : Operand) (ho : o.op = .store ty x y)
    (t : TypeId) (g : Nat) (hx : a.eval x = .pointer (some ⟨g, 0, none⟩)) (cs : List Value) (hy : a.eval y = .agg cs.toArray) (n : Nat) (hi : Agg P ty n) (hn : cs.length = n) (cur : List Value) (hg : BlkV t w g cur) (hc : cur.length = n) (h1 : ∀ u ∈ cs, u.oneCell' = true)
    (h : BlkV t (w.setRow g cs.toArray) g cs → wpList P ops Q rest (a.put o.dst undef) (w.setRow g cs.toArray)) : wpList P ops Q (o :: rest) a w := by
  refine wl_store hgd ty x y ho t g 0 hx cs hy (by rw [hn]; exact hi.2) cur hg (by omega) h1 ?_
  have e : cur.take 0 ++ cs ++ cur.drop (0 + cs.length) = cs := by rw [List.take_zero, List.nil_append, List.drop_of_length_le (by omega), List.append_nil]
  rw [e]
  exact h (hg.setRow cs)
theorem ints_one (k : IntKind) (l : List Int) : ∀ u ∈ l.map (Value.int k), u.oneCell' = true := by
  intro u hu
  obtain ⟨n, _, rfl⟩ := List.mem_map.1 hu
  rfl
end Go.Proofs.YtbjmadcbhkeenaaDoor
namespace Go.Proofs.YtbjmadcbhkeenaaDoor.st
open Go.RowKit
theorem at_new (t : TypeId) (w : World) {g : Nat} (cs : List Value) (hg : g = w.heap.size) : At (w.alloc (.cells cs.toArray t)) ⟨g, 0, none⟩ cs := (BlkV.new t w cs hg).at0
def rotl (x : Int) (k : Nat) : Int := bits .or .u32 (x * 2 ^ k % 4294967296) (x / 2 ^ (32 - k))
/-- a word: from 0 to 2^32 - 1 -/
def W32 (x : Int) : Prop := 0 ≤ x ∧ x < 4294967296
theorem w32_bits (op : BinOp) (x y : Int) : W32 (bits op .u32 x y) := by
  have := bounds_u32 (wf_bits op .u32 x y)
  exact ⟨this.1, by omega⟩
theorem w32_mod (x : Int) : W32 (x % 4294967296) := by unfold W32; omega
theorem w32_rotl (x : Int) (k : Nat) : W32 (rotl x k) := w32_bits _ _ _
theorem and31 (k : Nat) (h : k < 32) : bits .and .u64 (k : Int) 31 = (k : Int) := by
  have : ∀ j : Fin 32, bits .and .u64 (j.val : Int) 31 = (j.val : Int) := by decide +kernel
  exact this ⟨k, h⟩
/-- 'or' of what does not meet is the sum -/
theorem or_sum (a b : Int) (k : Nat) (ha : 0 ≤ a) (hb : 0 ≤ b) (hk : b < 2 ^ k) (hs : a * 2 ^ k + b < 4294967296) : bits .or .u32 (a * 2 ^ k) b = a * 2 ^ k + b := by
  obtain ⟨m, rfl⟩ := Int.eq_ofNat_of_zero_le ha
  obtain ⟨n, rfl⟩ := Int.eq_ofNat_of_zero_le hb
  have hk' : n < 2 ^ k := by
    apply Int.ofNat_lt.1
    rw [Int.natCast_pow]; exact hk
  have e : (m : Int) * 2 ^ k = ((m * 2 ^ k : Nat) : Int) := by rw [Int.natCast_mul, Int.natCast_pow]; rfl
  have hs' : m * 2 ^ k + n < 4294967296 := by
    rw [e] at hs
    generalize m * 2 ^ k = q at hs
    omega
  rw [e, u32_or_nat _ _ (by omega) (by omega)]
  have h := Nat.two_pow_add_eq_or_of_lt hk' m
  rw [Nat.mul_comm] at h
  rw [← h, Int.natCast_add]
/-- an octet -/
def Oct (x : Int) : Prop := 0 ≤ x ∧ x ≤ 255
def w4 (a b c d : Int) : Int := a * 16777216 + b * 65536 + c * 256 + d
theorem or4 (a b c d : Int) (ha : Oct a) (hb : Oct b) (hc : Oct c) (hd : Oct d) :
    bits .or .u32 (bits .or .u32 (bits .or .u32 (a * 16777216) (b * 65536)) (c * 256)) d = w4 a b c d := by
  unfold Oct at *
  have h1 : bits .or .u32 (a * 16777216) (b * 65536) = a * 16777216 + b * 65536 := or_sum a (b * 65536) 24 (by omega) (by omega) (by omega) (by omega)
  have h2 : bits .or .u32 (a * 16777216 + b * 65536) (c * 256) = a * 16777216 + b * 65536 + c * 256 := by
    have := or_sum (a * 256 + b) (c * 256) 16 (by omega) (by omega) (by omega) (by omega)
    rw [show (a * 256 + b) * 2 ^ 16 = a * 16777216 + b * 65536 by omega] at this
    exact this
  have h3 : bits .or .u32 (a * 16777216 + b * 65536 + c * 256) d = w4 a b c d := by
    have := or_sum (a * 65536 + b * 256 + c) d 8 (by omega) (by omega) (by omega) (by omega)
    rw [show (a * 65536 + b * 256 + c) * 2 ^ 8 = a * 16777216 + b * 65536 + c * 256 by omega] at this
    exact this
  rw [h1, h2, h3]
theorem w32_w4 {a b c d : Int} (ha : Oct a) (hb : Oct b) (hc : Oct c) (hd : Oct d) : W32 (w4 a b c d) := by unfold Oct W32 w4 at *; omega
/-- a word's octets -/
def o4 (n : Int) : List Int := [n / 16777216 % 256, n / 65536 % 256, n / 256 % 256, n % 256]
/-- one step of a round, and the rounds -/
def addW (r i : Nat) (w : List Int) : List Int := w.set i ((w.getD i 0 + bits .xor .u32 (rotl (w.getD ((i + 1 + r) % 16) 0) (5 + i)) (2654435769 * ((16 * r + i + 1 : Nat) : Int) % 4294967296)) % 4294967296)
def xorW (i : Nat) (w : List Int) : List Int := w.set ((i + 9) % 16) (bits .xor .u32 (w.getD ((i + 9) % 16) 0) (rotl (w.getD i 0) 11))
def stepTo (r : Nat) (w : List Int) : Nat → List Int
  | 0 => w
  | i + 1 => xorW i (addW r i (stepTo r w i))
def roundTo (w : List Int) : Nat → List Int
  | 0 => w
  | r + 1 => stepTo r (roundTo w r) 16
theorem stepTo_length (r : Nat) (w : List Int) (i : Nat) : (stepTo r w i).length = w.length := by
  induction i with
  | zero => rfl
  | succ i ih => unfold stepTo xorW addW; simp [ih]
theorem roundTo_length (w : List Int) (r : Nat) : (roundTo w r).length = w.length := by
  induction r with
  | zero => rfl
  | succ r ih => unfold roundTo; rw [stepTo_length, ih]
def AllW (l : List Int) : Prop := ∀ c ∈ l, W32 c
theorem AllW.getD {l : List Int} (h : AllW l) (i : Nat) : W32 (l.getD i 0) := by
  by_cases hi : i < l.length
  · rw [getD_lt' _ _ hi]; exact h _ (List.getElem_mem hi)
  · rw [List.getD_eq_getElem?_getD, List.getElem?_eq_none (by omega)]; exact ⟨by simp, by simp⟩
theorem AllW.set {l : List Int} (h : AllW l) (i : Nat) {v : Int} (hv : W32 v) : AllW (l.set i v) := by
  intro c hc
  rcases List.mem_or_eq_of_mem_set hc with h1 | rfl
  · exact h _ h1
  · exact hv
theorem addW_w {l : List Int} (h : AllW l) (r i : Nat) : AllW (addW r i l) := h.set _ (w32_mod _)
theorem xorW_w {l : List Int} (h : AllW l) (i : Nat) : AllW (xorW i l) := h.set _ (w32_bits _ _ _)
theorem stepTo_w {l : List Int} (h : AllW l) (r i : Nat) : AllW (stepTo r l i) := by
  induction i with
  | zero => exact h
  | succ i ih => exact xorW_w (addW_w ih r i) i
theorem roundTo_w {l : List Int} (h : AllW l) (r : Nat) : AllW (roundTo l r) := by
  induction r with
  | zero => exact h
  | succ r ih => exact stepTo_w ih r 16
def octL (w : List Int) (n : Nat) : List Int := (List.range n).map fun (i : Nat) => (o4 (w.getD (i / 4) 0)).getD (i % 4) 0
theorem octL_length (s : List Int) (n : Nat) : (octL s n).length = n := by unfold octL; rw [List.length_map, List.length_range]
end Go.Proofs.YtbjmadcbhkeenaaDoor.st
