/-
  Contracts of package slices at []int. Conditions: the bounds that append asks. What stirs, in plain Lean; contracts of the small parts of both Stir functions. Conditions: octets from 0 to 255, words below 2^32. Contract of share.badValues. No condition but the share's form. Sets that a call makes as maps to bools: what is in them, the look-up and the store at the operation. Keys: integers, arrays of integers. Conditions: fewer than 2^40 entries. Further laws at operations: loads under a guard, new variables and whole stores with the world behind them a letter, loads in a drawn region, look-ups under a guard. Conditions: what each names. Contracts of share.outside, eachFault and CheckShares: what is wrong with shares. Conditions: shares of the type's form, 2^40 at most.
-/
import Derived.Test.YtbljihhelladbaaFMem
import Derived.Test.YtbljihhelladbaaFShBC
import Derived.Lib.SliceRun
import Derived.Lib.AppendZeros
import Derived.ProofKit
import Derived.Laws.BitsAllLaws
import Derived.OpenShut
import Derived.Maps.OwnSet
import Derived.Maps.OwnOps
import Derived.DeepKeys4
import Derived.WideKeyArr2
import Derived.StillTailTactics
namespace Go.Proofs.Ytbljihhelladbaa.slInt
open Go.RowKit
set_option linter.unusedSimpArgs false
set_option linter.unusedVariables false
theorem info : Info Try.prog 3 (.int .i64 0) 1 8 := by unfold Info; kernel_rfl
theorem bel2 {w w1 w2 : World} {row : Option Nat} (h : Below w.heap.size w w1) (hg : w1.grownBy w2 row) (hr : ∀ k, row = some k → w.heap.size ≤ k) : Below w.heap.size w w2 := h.grown hg h.size hr
theorem Clone_any (ao : Option Addr) (n cap : Nat) (cs : List Value) (w : World) (hr : RowV w ao cs) (hl : cs.length = n * 1) (h1 : ∀ u ∈ cs, u.oneCell' = true) (hno : ao = none → cap = 0 ∧ n = 0) (hb : n * 8 ≤ 140737488355328) :
    Calls Try.prog 22 #[.slice ao n cap] w fun e w' => ∃ v, e = .returned v ∧ Mine w' w.heap.size 3 1 v n cs ∧ Below w.heap.size w w' := by
  have hq := fun w => Lib.run_eql_slice_nil (P := Try.prog) w 26 3 ao n cap 0 0 Try.underlying26
  have hL := hid hl; clear hl
  cases ao with
  | none =>
    obtain ⟨rfl, rfl⟩ := hno rfl
    obtain rfl : cs = [] := List.eq_nil_of_length_eq_zero (by have := hL.out; omega)
    go_enter Try.func22, Try.ntmps22
    go_wp2
    go_ret
    exact ⟨_, rfl, Mine.nil _ _ _ _, Below.refl _ _⟩
  | some a =>
    go_enter Try.func22, Try.ntmps22
    go_wp2_with (at_builtin; refine wl_append rfl _ _ 26 rfl 3 (.int .i64 0) 1 8 Try.underlying26 info rfl (by decide) w.heap.size _ 0 [] rfl (Or.inr ⟨rfl, rfl, _, rfl⟩) (some a) n cap rfl (fun h => by cases h) cs hL.out (hr.alloc _) h1 (by unfold maxLen; omega) (by omega) (by simp) ?_; intro v' w' row hM hg hrow)
    go_ret
    rw [Nat.zero_add, List.nil_append] at hM
    exact ⟨_, rfl, hM, bel2 ((Below.refl _ _).alloc (Nat.le_refl _) _) hg fun k hk => (hrow k hk).1⟩
/-- a part of Concat: a slice and its cells -/
structure Part where
  ao : Option Addr
  n : Nat
  cap : Nat
  cells : List Value
def Part.val (p : Part) : Value := .slice p.ao p.n p.cap
def Part.ok (w : World) (p : Part) : Prop := RowV w p.ao p.cells ∧ p.cells.length = p.n * 1 ∧ (∀ u ∈ p.cells, u.oneCell' = true) ∧ (p.ao = none → p.cap = 0)
def noPart : Part := ⟨none, 0, 0, []⟩
def flat : List Part → List Value
  | [] => []
  | p :: l => p.cells ++ flat l
/-- where the parts lie -/
def Parts (w : World) (ps : List Part) (po : Addr) : Prop := po.spot = none ∧ po.block < w.heap.size ∧ ∀ k, k < ps.length → w.cell? ⟨po.block, po.off + k, none⟩ = some (ps.getD k noPart).val
theorem Parts.below {w w' : World} {ps : List Part} {po : Addr} (h : Parts w ps po) (hb : Below w.heap.size w w') : Parts w' ps po :=
  ⟨h.1, Nat.lt_of_lt_of_le h.2.1 hb.size, fun k hk => by rw [hb.cell (p := ⟨po.block, po.off + k, none⟩) h.2.1]; exact h.2.2 k hk⟩
/-- the first place at which p says yes; -1: there is none -/
def findI {α : Type} (p : α → Bool) : List α → Nat → Int
  | [], _ => -1
  | x :: l, i => if p x then (i : Int) else findI p l (i + 1)
theorem findI_drop {α : Type} (p : α → Bool) (l : List α) (d : α) (k : Nat) (hk : k < l.length) : findI p (l.drop k) k = if p (l.getD k d) then (k : Int) else findI p (l.drop (k + 1)) (k + 1) := by
  have e : l.drop k = l[k] :: l.drop (k + 1) := List.drop_eq_getElem_cons hk
  rw [e, getD_lt' l d hk]
  rfl
theorem findI_any {α : Type} (p : α → Bool) (l : List α) (i : Nat) : decide (0 ≤ findI p l i) = l.any p := by
  induction l generalizing i with
  | nil => simp [findI]
  | cons x l ih =>
    unfold findI
    by_cases h : p x = true
    · simp [h]
    · simp [h, ih (i + 1)]
end Go.Proofs.Ytbljihhelladbaa.slInt
namespace Go.Proofs.Ytbljihhelladbaa
set_option linter.unusedSimpArgs false
set_option linter.unusedVariables false
open Go.RowKit
theorem results_cell {fn : Func} {c : Tmp} {t : TypeId} (h : fn.results = #[.cell c t]) (tmps : Array Value) (P : Program) (w : World) (p : Addr) (hp : tmps.getD c undef = .pointer (some p)) (cs : List Value) (ha : Agg P t cs.length) (hc : At w p cs) :
    (results fn tmps).run P w = .ok (.agg cs.toArray) w := by
  rw [Array.getD_eq_getD_getElem?] at hp
  simp [results, h, hp, run_load_agg w t p cs ha hc, asAddr]
theorem results_cell2 {fn : Func} {c u : Tmp} {t : TypeId} (h : fn.results = #[.cell c t, .tmp u]) (tmps : Array Value) (P : Program) (w : World) (p : Addr) (hp : tmps.getD c undef = .pointer (some p)) (cs : List Value) (ha : Agg P t cs.length) (hc : At w p cs) :
    (results fn tmps).run P w = .ok (.tuple #[.agg cs.toArray, tmps.getD u undef]) w := by
  rw [Array.getD_eq_getD_getElem?] at hp
  simp [results, h, hp, run_load_agg w t p cs ha hc, asAddr]
/-- a whole variable is stored anew -/
theorem wl_storeAll {P : Program} {w : World} {ops : Array Oper} {rest : List Oper} {o : Oper} {a : Act} {Q : Exit → Act → World → Prop} (hgd : o.guard = none) (ty : TypeId) (x y : Operand) (ho : o.op = .store ty x y)
    (t : TypeId) (g : Nat) (hx : a.eval x = .pointer (some ⟨g, 0, none⟩)) (cs : List Value) (hy : a.eval y = .agg cs.toArray) (n : Nat) (hi : Agg P ty n) (hn : cs.length = n) (cur : List Value) (hg : BlkV t w g cur) (hc : cur.length = n) (h1 : ∀ u ∈ cs, u.oneCell' = true)
    (h : BlkV t (w.setRow g cs.toArray) g cs → wpList P ops Q rest (a.put o.dst undef) (w.setRow g cs.toArray)) : wpList P ops Q (o :: rest) a w := by
  refine wl_store hgd ty x y ho t g 0 hx cs hy (by rw [hn]; exact hi.2) cur hg (by omega) h1 ?_
  have e : cur.take 0 ++ cs ++ cur.drop (0 + cs.length) = cs := by rw [List.take_zero, List.nil_append, List.drop_of_length_le (by omega), List.append_nil]
  rw [e]
  exact h (hg.setRow cs)
theorem ints_one (k : IntKind) (l : List Int) : ∀ u ∈ l.map (Value.int k), u.oneCell' = true := by
  intro u hu
  obtain ⟨n, _, rfl⟩ := List.mem_map.1 hu
  rfl
end Go.Proofs.Ytbljihhelladbaa
namespace Go.Proofs.Ytbljihhelladbaa.st
open Go.RowKit
theorem agg4 : Agg Try.prog 204 4 := Agg.arr Try.underlying204 (by kernel_rfl)
theorem agg64 : Agg Try.prog 152 64 := Agg.arr Try.underlying152 (by kernel_rfl)
theorem agg16 : Agg Try.prog 236 16 := Agg.arr Try.underlying236 (by kernel_rfl)
theorem at_new (t : TypeId) (w : World) {g : Nat} (cs : List Value) (hg : g = w.heap.size) : At (w.alloc (.cells cs.toArray t)) ⟨g, 0, none⟩ cs := (BlkV.new t w cs hg).at0
def rotl (x : Int) (k : Nat) : Int := bits .or .u32 (x * 2 ^ k % 4294967296) (x / 2 ^ (32 - k))
/-- a word: from 0 to 2^32 - 1 -/
def W32 (x : Int) : Prop := 0 ≤ x ∧ x < 4294967296
theorem w32_bits (op : BinOp) (x y : Int) : W32 (bits op .u32 x y) := by
  have := bounds_u32 (wf_bits op .u32 x y)
  exact ⟨this.1, by omega⟩
theorem w32_mod (x : Int) : W32 (x % 4294967296) := by unfold W32; omega
theorem w32_rotl (x : Int) (k : Nat) : W32 (rotl x k) := w32_bits _ _ _
theorem and31 (k : Nat) (h : k < 32) : bits .and .u64 (k : Int) 31 = (k : Int) := by
  have : ∀ j : Fin 32, bits .and .u64 (j.val : Int) 31 = (j.val : Int) := by decide +kernel
  exact this ⟨k, h⟩
theorem rotR (x : Int) (k : Nat) (w : World) (h : k < 32) (hx : W32 x) : Calls Try.prog 230 #[.int .u32 x, .int .i64 k] w fun e w' => e = .returned (.int .u32 (rotl x k)) ∧ w = w' := by
  have hb := and31 k h
  obtain ⟨hx1, hx2⟩ := hx
  go_enter Try.func230, Try.ntmps230
  go_wp2
  go_ret
  exact ⟨rfl, rfl⟩
/-- 'or' of what does not meet is the sum -/
theorem or_sum (a b : Int) (k : Nat) (ha : 0 ≤ a) (hb : 0 ≤ b) (hk : b < 2 ^ k) (hs : a * 2 ^ k + b < 4294967296) : bits .or .u32 (a * 2 ^ k) b = a * 2 ^ k + b := by
  obtain ⟨m, rfl⟩ := Int.eq_ofNat_of_zero_le ha
  obtain ⟨n, rfl⟩ := Int.eq_ofNat_of_zero_le hb
  have hk' : n < 2 ^ k := by
    apply Int.ofNat_lt.1
    rw [Int.natCast_pow]; exact hk
  have e : (m : Int) * 2 ^ k = ((m * 2 ^ k : Nat) : Int) := by rw [Int.natCast_mul, Int.natCast_pow]; rfl
  have hs' : m * 2 ^ k + n < 4294967296 := by
    rw [e] at hs
    generalize m * 2 ^ k = q at hs
    omega
  rw [e, u32_or_nat _ _ (by omega) (by omega)]
  have h := Nat.two_pow_add_eq_or_of_lt hk' m
  rw [Nat.mul_comm] at h
  rw [← h, Int.natCast_add]
/-- an octet -/
def Oct (x : Int) : Prop := 0 ≤ x ∧ x ≤ 255
def w4 (a b c d : Int) : Int := a * 16777216 + b * 65536 + c * 256 + d
theorem or4 (a b c d : Int) (ha : Oct a) (hb : Oct b) (hc : Oct c) (hd : Oct d) :
    bits .or .u32 (bits .or .u32 (bits .or .u32 (a * 16777216) (b * 65536)) (c * 256)) d = w4 a b c d := by
  unfold Oct at *
  have h1 : bits .or .u32 (a * 16777216) (b * 65536) = a * 16777216 + b * 65536 := or_sum a (b * 65536) 24 (by omega) (by omega) (by omega) (by omega)
  have h2 : bits .or .u32 (a * 16777216 + b * 65536) (c * 256) = a * 16777216 + b * 65536 + c * 256 := by
    have := or_sum (a * 256 + b) (c * 256) 16 (by omega) (by omega) (by omega) (by omega)
    rw [show (a * 256 + b) * 2 ^ 16 = a * 16777216 + b * 65536 by omega] at this
    exact this
  have h3 : bits .or .u32 (a * 16777216 + b * 65536 + c * 256) d = w4 a b c d := by
    have := or_sum (a * 65536 + b * 256 + c) d 8 (by omega) (by omega) (by omega) (by omega)
    rw [show (a * 65536 + b * 256 + c) * 2 ^ 8 = a * 16777216 + b * 65536 + c * 256 by omega] at this
    exact this
  rw [h1, h2, h3]
theorem w32_w4 {a b c d : Int} (ha : Oct a) (hb : Oct b) (hc : Oct c) (hd : Oct d) : W32 (w4 a b c d) := by unfold Oct W32 w4 at *; omega
theorem word (a b c d : Int) (w : World) (ha : Oct a) (hb : Oct b) (hc : Oct c) (hd : Oct d) :
    Calls Try.prog 179 #[.agg #[.int .u8 a, .int .u8 b, .int .u8 c, .int .u8 d]] w fun e w' => e = .returned (.int .u32 (w4 a b c d)) ∧ Below w.heap.size w w' := by
  have H := hid (or4 a b c d ha hb hc hd)
  unfold Oct at ha hb hc hd
  go_enter Try.func179, Try.ntmps179
  go_wp2
  go_ret
  exact ⟨rv (ri H.out), (Below.refl _ _).alloc (Nat.le_refl _) _⟩
/-- a word's octets -/
def o4 (n : Int) : List Int := [n / 16777216 % 256, n / 65536 % 256, n / 256 % 256, n % 256]
theorem octets (n : Int) (w : World) : Calls Try.prog 165 #[.int .u32 n] w fun e w' => e = .returned (.agg ((o4 n).map (Value.int .u8)).toArray) ∧ Below w.heap.size w w' := by
  go_enter Try.func165, Try.ntmps165
  go_wp2
  (try simp only [Exit.inBlock, Exit.then]); refine bodyPost_ret (results_cell rfl _ _ _ _ rfl ((o4 n).map (Value.int .u8)) agg4 (at_new _ w _ rfl)) rfl ?_
  exact ⟨rfl, (Below.refl _ _).alloc (Nat.le_refl _) _⟩
/-- one step of a round, and the rounds -/
def addW (r i : Nat) (w : List Int) : List Int := w.set i ((w.getD i 0 + bits .xor .u32 (rotl (w.getD ((i + 1 + r) % 16) 0) (5 + i)) (2654435769 * ((16 * r + i + 1 : Nat) : Int) % 4294967296)) % 4294967296)
def xorW (i : Nat) (w : List Int) : List Int := w.set ((i + 9) % 16) (bits .xor .u32 (w.getD ((i + 9) % 16) 0) (rotl (w.getD i 0) 11))
def stepTo (r : Nat) (w : List Int) : Nat → List Int
  | 0 => w
  | i + 1 => xorW i (addW r i (stepTo r w i))
def roundTo (w : List Int) : Nat → List Int
  | 0 => w
  | r + 1 => stepTo r (roundTo w r) 16
theorem stepTo_length (r : Nat) (w : List Int) (i : Nat) : (stepTo r w i).length = w.length := by
  induction i with
  | zero => rfl
  | succ i ih => unfold stepTo xorW addW; simp [ih]
theorem roundTo_length (w : List Int) (r : Nat) : (roundTo w r).length = w.length := by
  induction r with
  | zero => rfl
  | succ r ih => unfold roundTo; rw [stepTo_length, ih]
def AllW (l : List Int) : Prop := ∀ c ∈ l, W32 c
theorem AllW.getD {l : List Int} (h : AllW l) (i : Nat) : W32 (l.getD i 0) := by
  by_cases hi : i < l.length
  · rw [getD_lt' _ _ hi]; exact h _ (List.getElem_mem hi)
  · rw [List.getD_eq_getElem?_getD, List.getElem?_eq_none (by omega)]; exact ⟨by simp, by simp⟩
theorem AllW.set {l : List Int} (h : AllW l) (i : Nat) {v : Int} (hv : W32 v) : AllW (l.set i v) := by
  intro c hc
  rcases List.mem_or_eq_of_mem_set hc with h1 | rfl
  · exact h _ h1
  · exact hv
theorem addW_w {l : List Int} (h : AllW l) (r i : Nat) : AllW (addW r i l) := h.set _ (w32_mod _)
theorem xorW_w {l : List Int} (h : AllW l) (i : Nat) : AllW (xorW i l) := h.set _ (w32_bits _ _ _)
theorem stepTo_w {l : List Int} (h : AllW l) (r i : Nat) : AllW (stepTo r l i) := by
  induction i with
  | zero => exact h
  | succ i ih => exact xorW_w (addW_w ih r i) i
theorem roundTo_w {l : List Int} (h : AllW l) (r : Nat) : AllW (roundTo l r) := by
  induction r with
  | zero => exact h
  | succ r ih => exact stepTo_w ih r 16
/-- the words of a state, the octets of words -/
def wordsL (s : List Int) (n : Nat) : List Int := (List.range n).map fun (i : Nat) => w4 (s.getD (4 * i) 0) (s.getD (4 * i + 1) 0) (s.getD (4 * i + 2) 0) (s.getD (4 * i + 3) 0)
def octL (w : List Int) (n : Nat) : List Int := (List.range n).map fun (i : Nat) => (o4 (w.getD (i / 4) 0)).getD (i % 4) 0
theorem wordsL_length (s : List Int) (n : Nat) : (wordsL s n).length = n := by unfold wordsL; rw [List.length_map, List.length_range]
theorem octL_length (s : List Int) (n : Nat) : (octL s n).length = n := by unfold octL; rw [List.length_map, List.length_range]
/-- what Stir makes -/
def stirL (s : List Int) : List Int := octL (roundTo (wordsL s 16) 8) 64
end Go.Proofs.Ytbljihhelladbaa.st
namespace Go.Proofs.Ytbljihhelladbaa.shr
set_option linter.unusedVariables false
open Go.RowKit
set_option linter.unusedSimpArgs false
theorem bad1 (n : Int) (w : World) (hn : 0 ≤ n ∧ n ≤ 65535) : Calls Try.prog 161 #[.int .u16 n] w fun e w' => e = .returned (.bool (decide (257 ≤ n))) ∧ w = w' := by
  by_cases h : 257 ≤ n
  · go_enter Try.func161, Try.ntmps161
    go_wp2
    go_ret
    exact ⟨rv (rb (by simp [h])), rfl⟩
  · go_enter Try.func161, Try.ntmps161
    go_wp2
    go_ret
    exact ⟨rv (rb (by simp [h])), rfl⟩
theorem bad2 (ao : Option Addr) (cap : Nat) (l : List Int) (w : World) (hr : RowI .u16 w ao l) (hn : l.length ≤ 4611686018427387904) (hl : ∀ c ∈ l, 0 ≤ c ∧ c ≤ 65535) :
    Calls Try.prog 201 #[.slice ao l.length cap, .func (.func 161) #[] #[]] w fun e w' => e = .returned (.int .i64 (slInt.findI (fun n => decide (257 ≤ n)) l 0)) ∧ w = w' := by
  go_enter Try.func201, Try.ntmps201
  go_wp2
  go_loop [5, 8] (fun _ i => ∃ k : Nat, k ≤ l.length ∧ i = .int .i64 k ∧ Hid (slInt.findI (fun n => decide (257 ≤ n)) (l.drop k) k = slInt.findI (fun n => decide (257 ≤ n)) l 0)) (fun _ i => l.length - (intOf i).toNat)
  case atStart => exact ⟨0, Nat.zero_le _, rfl, rfl⟩
  case round =>
    obtain ⟨k, hk, rfl, HA⟩ := hrel
    by_cases h0 : k < l.length
    · obtain ⟨b, off, c, rfl, hb, HC, hcell⟩ := hr.elem (i := k) h0
      have HD := slInt.findI_drop (fun n => decide (257 ≤ n)) l 0 k h0
      rw [← HC.out, HA.out] at HD
      replace HD := hid HD
      have hcb : 0 ≤ c ∧ c ≤ 65535 := by rw [HC.out, getD_lt' l 0 h0]; exact hl _ (List.getElem_mem h0)
      clear hl
      cases hc : decide (257 ≤ c)
      · have HN := hid hc
        have HF := hid (bad1 c w hcb)
        rw [hc] at HF
        clear hc
        go_wp2_with (go_at_call 161; refine HF.out.mono ?_; rintro e w1 ⟨rfl, rfl⟩)
        go_round
        case rel => exact ⟨k + 1, by omega, by go_num, by show _ = _; rw [HD.out, if_neg (by rw [HN.out]; simp)]⟩
        case measure => simp [intOf] <;> omega
      · have HN := hid hc
        have HF := hid (bad1 c w hcb)
        rw [hc] at HF
        clear hc
        go_wp2_with (go_at_call 161; refine HF.out.mono ?_; rintro e w1 ⟨rfl, rfl⟩)
        go_ret
        exact ⟨rv (ri (by rw [HD.out, if_pos HN.out])), rfl⟩
    · go_wp2
      go_ret
      exact ⟨rv (ri (by rw [← HA.out, List.drop_eq_nil_of_le (by omega)]; rfl)), rfl⟩
theorem bad3 (ao : Option Addr) (cap : Nat) (l : List Int) (w : World) (hr : RowI .u16 w ao l) (hn : l.length ≤ 4611686018427387904) (hl : ∀ c ∈ l, 0 ≤ c ∧ c ≤ 65535) :
    Calls Try.prog 160 #[.slice ao l.length cap, .func (.func 161) #[] #[]] w fun e w' => e = .returned (.bool (l.any fun n => decide (257 ≤ n))) ∧ w = w' := by
  have HF := hid (slInt.findI_any (fun n => decide (257 ≤ n)) l 0)
  have HI := hid (bad2 ao cap l w hr hn hl)
  clear hl
  go_enter Try.func160, Try.ntmps160
  go_wp2_with (go_at_call 201; refine HI.out.mono ?_; rintro e w1 ⟨rfl, rfl⟩)
  go_ret
  exact ⟨rv (rb HF.out), rfl⟩
theorem cs_x (s : Sh) (hs : s.Ok) : s.cs[16]? = some (.int .i64 s.x) := by
  unfold Sh.cs
  rw [List.getElem?_append_right (by simp [hs.hl])]
  simp [hs.hl]
theorem cs_yi (s : Sh) (hs : s.Ok) (i : Nat) (hi : i < 32) : s.cs[17 + i]? = some (.int .u16 (s.y.getD i 0)) := by
  unfold Sh.cs
  rw [List.getElem?_append_right (by simp [hs.hl]; omega)]
  have e : 17 + i - (s.h.map (Value.int .u8)).length = i + 1 := by simp [hs.hl]; omega
  rw [e, List.getElem?_cons_succ, List.getElem?_map, List.getElem?_eq_getElem (by rw [hs.yl]; exact hi), getD_lt' s.y 0 (by rw [hs.yl]; exact hi)]
  rfl
theorem cs_hi (s : Sh) (hs : s.Ok) (i : Nat) (hi : i < 16) : s.cs[i]? = some (.int .u8 (s.h.getD i 0)) := by
  unfold Sh.cs
  rw [List.getElem?_append_left (by simp [hs.hl]; omega), List.getElem?_map, List.getElem?_eq_getElem (by rw [hs.hl]; exact hi), getD_lt' s.h 0 (by rw [hs.hl]; exact hi)]
  rfl
theorem cs_one (s : Sh) : ∀ u ∈ s.cs, u.oneCell' = true := by
  intro u hu
  unfold Sh.cs at hu
  simp only [List.mem_append, List.mem_cons, List.mem_map] at hu
  rcases hu with ⟨c, _, rfl⟩ | rfl | ⟨c, _, rfl⟩ <;> rfl
/-- the values of a share that lies in a block, as a row -/
theorem row_y {w : World} {t : TypeId} {g : Nat} (s : Sh) (hs : s.Ok) (h : BlkV t w g s.cs) : RowI .u16 w (some ⟨g, 17, none⟩) s.y := by
  refine Or.inr ⟨g, 17, rfl, h.lt, fun i hi => ?_⟩
  rw [h.cell, cs_yi s hs i (by rw [← hs.yl]; exact hi)]
theorem badValues_any (s : Sh) (hs : s.Ok) (w : World) :
    Calls Try.prog 111 #[.agg s.cs.toArray] w fun e w' => e = .returned (.bool (badY s)) ∧ Below w.heap.size w w' := by
  have hB : BlkV 61 (w.alloc (.cells s.cs.toArray 61)) w.heap.size s.cs := BlkV.new _ _ _ rfl
  have HR := hid (bad3 (some ⟨w.heap.size, 17, none⟩) 32 s.y _ (row_y s hs hB) (by rw [hs.yl]; decide) hs.yb)
  rw [hs.yl] at HR
  have HL : Hid (s.cs.length = 49) := hs.csl
  generalize s.cs = S at *
  go_enter Try.func111, Try.ntmps111
  go_wp2_with (go_at_call 160; refine HR.out.mono ?_; rintro e w1 ⟨rfl, rfl⟩)
  go_ret
  exact ⟨rfl, (Below.refl _ _).alloc (Nat.le_refl _) _⟩
end Go.Proofs.Ytbljihhelladbaa.shr
namespace Go.Proofs.Ytbljihhelladbaa.mp
set_option linter.unusedSimpArgs false
set_option linter.unusedVariables false
open Go.RowKit Go.Maps Go.WideMaps
/-- block b is a map of at most n entries, true at just the keys of S -/
def SetAt (P : Program) (k e : TypeId) (w : World) (b n : Nat) (S : List Lit) : Prop :=
  ∃ D : DataW Unit, w.ownsMap P k (plainElem P e) b n D ∧ ∀ kl, KeysOf P k kl → ∃ r : Bool, D.atKey kl (.lit (.bool false)) = .lit (.bool r) ∧ (r = true ↔ kl ∈ S)
theorem SetAt.made (P : Program) (k e : TypeId) (w : World) : SetAt P k e (w.alloc (.map #[] 0)) w.heap.size 0 [] :=
  ⟨_, World.ownsMap_made w P k _, fun kl _ => ⟨false, by simp [DataW.atKey], by simp⟩⟩
theorem SetAt.lt {P : Program} {k e : TypeId} {w : World} {b n : Nat} {S : List Lit} (h : SetAt P k e w b n S) : b < w.heap.size := by
  obtain ⟨D, h, _⟩ := h
  exact h.lt
theorem SetAt.kept {P : Program} {k e : TypeId} {w w' : World} {b n : Nat} {S : List Lit} {row : Option Nat} (h : SetAt P k e w b n S) (hg : w.grownBy w' row) (hr : some b ≠ row) : SetAt P k e w' b n S := by
  obtain ⟨D, h, h2⟩ := h
  exact ⟨D, h.kept hg hr, h2⟩
theorem SetAt.alloc {P : Program} {k e : TypeId} {w : World} {b n : Nat} {S : List Lit} (h : SetAt P k e w b n S) (o : Obj) : SetAt P k e (w.alloc o) b n S := h.kept (World.grownBy_alloc w o none) (by simp)
theorem SetAt.drew {P : Program} {k e : TypeId} {w : World} {b n : Nat} {S : List Lit} (h : SetAt P k e w b n S) : SetAt P k e w.drew b n S := h
theorem SetAt.drewN {P : Program} {k e : TypeId} {w : World} {b n : Nat} {S : List Lit} (h : SetAt P k e w b n S) (m : Nat) : SetAt P k e (w.drewN m) b n S := h
theorem SetAt.below {P : Program} {k e : TypeId} {w w' : World} {b n : Nat} {S : List Lit} (h : SetAt P k e w b n S) (hb : Below w.heap.size w w') : SetAt P k e w' b n S := by
  obtain ⟨D, ⟨es, clock, h1, h2⟩, h3⟩ := h
  exact ⟨D, ⟨es, clock, by rw [hb.block b (Array.getElem?_eq_some_iff.1 h1).1]; exact h1, h2⟩, h3⟩
theorem plainElem_bool_inv {H : Type} {P : Program} {e : TypeId} (he : P.underlying e = some .bool) {v : Value} {z : DataW H × List MemPlace} (h : plainElem P e v = some z) : ∃ x, v = .bool x ∧ z = (.lit (.bool x), []) := by
  unfold plainElem at h
  rw [he] at h
  split at h
  · cases h
    exact ⟨_, rfl, rfl⟩
  · rename_i hh
    cases hh
  · rename_i hh
    cases hh
  · cases h
section
variable {P : Program} {ops : Array Oper} {rest : List Oper} {o : Oper} {a : Act} {Q : Exit → Act → World → Prop}
end
theorem SetAt.put {P : Program} {t k e : TypeId} {w : World} {b n : Nat} {S : List Lit} (h : SetAt P k e w b n S) (K : Keyed P k) (ht : P.underlying t = some (.map k e)) (he : P.underlying e = some .bool) (hn : n < maxLen) {key : Value} {kl : Lit} (hkey : keyOf P k key = some kl) :
    ∃ w', (Instr.mapUpdate t (.map (some b)) key (.bool true)).run P w = .ok () w' ∧ SetAt P k e w' b (n + 1) (S ++ [kl]) ∧ w.grownBy w' (some b) := by
  obtain ⟨D, hown, hS⟩ := h
  obtain ⟨w', hrun, r1, r2⟩ := hown.update K ht hn hkey (plainElem_bool he true)
  refine ⟨w', hrun, ⟨_, r1, fun l hl => ?_⟩, r2⟩
  by_cases h : l = kl
  · subst h
    exact ⟨true, atKey_put_same hown.isMap (K.key hkey) _ _, by simp⟩
  · obtain ⟨r, h1, h2⟩ := hS l hl
    exact ⟨r, by rw [atKey_put_other h]; exact h1, by simp [h, h2]⟩
theorem keys_ints {P : Program} {e : TypeId} {q : IntKind} (he : P.underlying e = some (.int q)) (D : Nat) (l : List Int) (hw : ∀ a ∈ l, (Lit.int q a).wf = true) : ∀ L : List Nat, (∀ i ∈ L, i < l.length) →
    L.mapM (fun i => P.keyLits (D + 1) e (((l.map (Value.int q)).drop (i * 1)).take 1)) = some (L.map fun i => [Lit.int q (l.getD i 0)])
  | [], _ => rfl
  | i :: L, h => by
    have hi := h i (by simp)
    have e1 : ((l.map (Value.int q)).drop (i * 1)).take 1 = [Value.int q (l.getD i 0)] := by
      rw [Nat.mul_one, List.drop_eq_getElem_cons (by simpa using hi)]
      simp [List.getD_eq_getElem?_getD, hi]
    have hwi := hw (l.getD i 0) (by rw [getD_lt' l 0 hi]; exact List.getElem_mem hi)
    rw [List.mapM_cons, e1, keys_ints he D l hw L fun j hj => h j (by simp [hj])]
    have e2 : P.keyLits (D + 1) e [Value.int q (l.getD i 0)] = some [Lit.int q (l.getD i 0)] := by
      simp only [Program.keyLits, he]
      rw [if_pos ⟨trivial, hwi⟩]
    rw [e2]
    rfl
/-- the key of an array of integers -/
def arrKey (q : IntKind) (l : List Int) : Lit := .string (keyBytes (l.map (Lit.int q)))
theorem keyOf_ints {P : Program} {k e : TypeId} {n : Nat} {q : IntKind} (A : ArrKey P k e n) (he : P.underlying e = some (.int q)) (hsz : ∃ m, P.types.size = m + 1) (l : List Int) (hl : l.length = n) (hw : ∀ a ∈ l, (Lit.int q a).wf = true) :
    keyOf P k (.agg (l.map (Value.int q)).toArray) = some (arrKey q l) := by
  have hkt := A.keyType hsz
  obtain ⟨m0, hm0⟩ := hsz
  unfold keyOf
  simp only [A.hu]
  rw [if_pos (by simp [hkt, Value.formed, A.hu, A.size, hl]), hm0]
  unfold Program.keyLits
  simp only [A.hu, Value.cells]
  have h := keys_ints he m0 l hw (List.range n) (fun i hi => by rw [hl]; simpa using hi)
  rw [if_pos (by rw [A.size]; simpa using hl), A.one, h]
  have hr : (List.range n).map (fun i => [Lit.int q (l.getD i 0)]) = (l.map fun c => [Lit.int q c]) := by
    apply List.ext_getElem
    · simp [hl]
    · intro i h1 h2
      simp at h2
      simp [List.getD_eq_getElem?_getD, h2]
  rw [hr]
  have hfl : ∀ l : List Int, (l.map fun c => [Lit.int q c]).flatten = l.map (Lit.int q) := fun l => by induction l with | nil => rfl | cons a r ih => simp [ih]
  simp [hfl, arrKey]
end Go.Proofs.Ytbljihhelladbaa.mp
namespace Go.Proofs.Ytbljihhelladbaa
set_option linter.unusedSimpArgs false
set_option linter.unusedVariables false
open Go.RowKit
theorem wl_loadG {P : Program} {w : World} {ops : Array Oper} {rest : List Oper} {o : Oper} {a : Act} {Q : Exit → Act → World → Prop} (hgd : Region.wanted o (yielded ops a.tmps) = true) (ty : TypeId) (x : Operand) (ho : o.op = .load ty x)
    (p : Addr) (hx : a.eval x = .pointer (some p)) (n : Nat) (cs : List Value) (hn : cs.length = n) (ha : Agg P ty n) (hc : At w p cs) (h : wpList P ops Q rest (a.put o.dst (.agg cs.toArray)) w) : wpList P ops Q (o :: rest) a w := by
  subst hn
  refine wpList_step fun K hK' => ?_
  rw [if_pos hgd]
  unfold Oper.wp
  simp [execOp, ho, hx, Instr.loadAt, Instr.sureAddr, run_load_agg w ty p cs ha hc, Result.andThen]
  exact hK' _ _ h
theorem still_load {P : Program} {w : World} {ops : Array Oper} {rest : List Oper} {o : Oper} {a : Act} {Q : Act → Prop} (hgd : Region.wanted o (yielded ops a.tmps) = true) (ty : TypeId) (x : Operand) (ho : o.op = .load ty x)
    (p : Addr) (hx : a.eval x = .pointer (some p)) (n : Nat) (cs : List Value) (hn : cs.length = n) (ha : Agg P ty n) (hc : At w p cs) (h : wpStill P ops w Q rest (a.put o.dst (.agg cs.toArray))) : wpStill P ops w Q (o :: rest) a := by
  subst hn
  refine wpStill_step fun K hK => ?_
  rw [if_pos hgd]
  unfold Oper.still
  simp [execOp, ho, hx, Instr.loadAt, Instr.sureAddr, run_load_agg w ty p cs ha hc, Result.andThen, Oper.stillUpon]
  exact hK _ h
/-- a new variable: the world behind it a letter -/
theorem wl_allocV {P : Program} {w : World} {ops : Array Oper} {rest : List Oper} {o : Oper} {a : Act} {Q : Exit → Act → World → Prop} (hgd : o.guard = none) (t : TypeId) (ho : o.op = .alloc t)
    (cs : List Value) (hz : (P.info? t).map (·.zero) = some (some (.agg cs.toArray))) (N : Nat) (hN : w.heap.size = N)
    (h : ∀ w', BlkV t w' N cs → Below N w w' → w'.heap.size = N + 1 → wpList P ops Q rest (a.put o.dst (.pointer (some ⟨N, 0, none⟩))) w') : wpList P ops Q (o :: rest) a w := by
  subst hN
  exact wl_alloc hgd t ho cs hz (h _ (BlkV.new t w cs rfl) ((Below.refl _ _).alloc (Nat.le_refl _) _) (by simp))
/-- a whole store into a variable: the world behind it a letter -/
theorem wl_storeV {P : Program} {w : World} {ops : Array Oper} {rest : List Oper} {o : Oper} {a : Act} {Q : Exit → Act → World → Prop} (hgd : o.guard = none) (ty : TypeId) (x y : Operand) (ho : o.op = .store ty x y)
    (t : TypeId) (g : Nat) (hx : a.eval x = .pointer (some ⟨g, 0, none⟩)) (cs : List Value) (hy : a.eval y = .agg cs.toArray) (n : Nat) (hi : Agg P ty n) (hn : cs.length = n) (cur : List Value) (hg : BlkV t w g cur) (hc : cur.length = n) (h1 : ∀ u ∈ cs, u.oneCell' = true)
    (h : ∀ w', BlkV t w' g cs → Below g w w' → w'.heap.size = w.heap.size → wpList P ops Q rest (a.put o.dst undef) w') : wpList P ops Q (o :: rest) a w :=
  wl_storeAll hgd ty x y ho t g hx cs hy n hi hn cur hg hc h1 fun hb => h _ hb (below_setRow' (Below.refl _ _) (Nat.le_refl _) _) (by simp)
section
open Go.Maps Go.WideMaps mp
variable {P : Program} {ops : Array Oper} {rest : List Oper} {o : Oper} {a : Act} {Q : Exit → Act → World → Prop}
theorem wl_lookG (w : World) (hg : Region.wanted o (yielded ops a.tmps) = true) (m x : Operand) (t : TypeId) (hop : o.op = Op.lookup t m x false)
    (k e : TypeId) (K : Keyed P k) (ht : P.underlying t = some (.map k e)) (he : P.underlying e = some .bool) (hz : (zeroValue e).run P w = .ok (.bool false) w) (b n : Nat) (S : List Lit)
    (hm : a.eval m = .map (some b)) (hown : SetAt P k e w b n S) (key : Value) (kl : Lit) (hx : a.eval x = key) (hkey : keyOf P k key = some kl)
    (r : Bool) (hr : r = true ↔ kl ∈ S) (hK : wpList P ops Q rest (a.put o.dst (.bool r)) w) :
    wpList P ops Q (o :: rest) a w := by
  refine wpList_step fun K' hK' => ?_
  rw [if_pos hg]
  obtain ⟨D, hown, hS⟩ := hown
  obtain ⟨v, ps, hrun, hv⟩ := hown.lookup K ht hz (plainElem_bool he false) hkey
  obtain ⟨c, rfl, hc⟩ := plainElem_bool_inv he hv
  obtain ⟨r', hr1, hr2⟩ := hS kl ⟨key, hkey⟩
  rw [hr1] at hc
  simp only [Prod.mk.injEq, DataW.lit.injEq, Lit.bool.injEq] at hc
  obtain rfl : r = r' := by
    cases r <;> cases r' <;> simp_all
  unfold Oper.wp
  simp [execOp, hop, hm, hx, hrun, Result.andThen]
  rw [← hc.1]
  exact hK' _ _ hK
end
end Go.Proofs.Ytbljihhelladbaa
namespace Go.Proofs.Ytbljihhelladbaa.shr
set_option linter.unusedVariables false
open Go.RowKit Go.Maps Go.WideMaps Go.Proofs.Ytbljihhelladbaa.sh Go.Proofs.Ytbljihhelladbaa.mp
set_option linter.unusedSimpArgs false
theorem outside_any (m lo hi : Int) (w : World) : Calls Try.prog 86 #[.int .i64 m, .int .i64 lo, .int .i64 hi] w fun e w' => e = .returned (.bool (!inB m lo hi)) ∧ w = w' := by
  by_cases h1 : m < lo
  · go_enter Try.func86, Try.ntmps86
    go_wp2
    go_ret
    exact ⟨rv (rb (by simp [inB] <;> omega)), rfl⟩
  · by_cases h2 : hi < m
    · go_enter Try.func86, Try.ntmps86
      go_wp2
      go_ret
      exact ⟨rv (rb (by simp [inB] <;> omega)), rfl⟩
    · go_enter Try.func86, Try.ntmps86
      go_wp2
      go_ret
      exact ⟨rv (rb (by simp [inB] <;> omega)), rfl⟩
theorem lawI : Keyed Try.prog 3 := int_keyed Try.underlying3
theorem lawH : Keyed Try.prog 57 := Keyed.of_law (deep_law_laid (by kernel_rfl) (m := 2) (by omega) (of_decide_eq_true (by kernel_rfl)) (by kernel_rfl) (by kernel_rfl))
theorem zeroB (w : World) : (zeroValue 4).run Try.prog w = .ok (.bool false) w := by kernel_rfl
theorem arrID : ArrKey Try.prog 57 5 16 := ⟨Try.underlying57, by kernel_rfl, by kernel_rfl, by kernel_rfl⟩
theorem types1 : ∃ m, Try.prog.types.size = m + 1 := ⟨Try.prog.types.size - 1, by have : 0 < Try.prog.types.size := of_decide_eq_true (by kernel_rfl); omega⟩
theorem keyX (s : Sh) (hs : s.Ok) : keyOf Try.prog 3 (.int .i64 s.x) = some (.int .i64 s.x) := keyOf_int_mk Try.underlying3 (WalkArith.wf_i64 hs.xb)
theorem keyH (s : Sh) (hs : s.Ok) : keyOf Try.prog 57 (.agg (s.h.map (Value.int .u8)).toArray) = some (arrKey .u8 s.h) :=
  keyOf_ints arrID Try.underlying5 types1 s.h hs.hl fun a ha => WalkArith.wf_u8 (hs.hb a ha)
theorem keyH_inj {s t : Sh} (hs : s.Ok) (ht : t.Ok) (h : arrKey .u8 s.h = arrKey .u8 t.h) : s.h = t.h := by
  have h1 := keyH s hs
  have h2 := keyH t ht
  rw [← h] at h2
  have h3 := lawH.inj h1 h2
  simp only [Value.agg.injEq] at h3
  have h4 : s.h.map (Value.int .u8) = t.h.map (Value.int .u8) := by simpa using congrArg Array.toList h3
  exact (List.map_inj_right (f := Value.int .u8) (fun a b e => by cases e; rfl)).1 h4
/-- the keys of the first shares -/
def keysX (l : List Sh) : List Lit := l.map fun s => .int .i64 s.x
def keysH (l : List Sh) : List Lit := l.map fun s => arrKey .u8 s.h
theorem memX (l : List Sh) (s : Sh) : (l.any fun t => t.x == s.x) = true ↔ Lit.int .i64 s.x ∈ keysX l := by
  simp [keysX]
theorem memH (l : List Sh) (s : Sh) (hl : ∀ t ∈ l, t.Ok) (hs : s.Ok) : (l.any fun t => t.h == s.h) = true ↔ arrKey .u8 s.h ∈ keysH l := by
  simp only [keysH, List.any_eq_true, List.mem_map, beq_iff_eq]
  constructor
  · rintro ⟨t, h1, h2⟩
    exact ⟨t, h1, by rw [h2]⟩
  · rintro ⟨t, h1, h2⟩
    exact ⟨t, h1, keyH_inj (hl t h1) hs h2⟩
theorem any_same (l : List Sh) (s : Sh) : l.any (same s) = ((l.any fun t => t.x == s.x) || (l.any fun t => t.h == s.h)) := by
  induction l with
  | nil => rfl
  | cons t l ih =>
    rw [List.any_cons, List.any_cons, List.any_cons, ih]
    unfold same
    cases t.x == s.x <;> cases t.h == s.h <;> cases (l.any fun t => t.x == s.x) <;> simp
theorem keysX_succ (l : List Sh) (k : Nat) (hk : k < l.length) : keysX (l.take (k + 1)) = keysX (l.take k) ++ [.int .i64 (l.getD k nil).x] := by
  unfold keysX
  rw [List.take_succ_eq_append_getElem hk, List.map_append, getD_lt' l nil hk]; rfl
theorem keysH_succ (l : List Sh) (k : Nat) (hk : k < l.length) : keysH (l.take (k + 1)) = keysH (l.take k) ++ [arrKey .u8 (l.getD k nil).h] := by
  unfold keysH
  rw [List.take_succ_eq_append_getElem hk, List.map_append, getD_lt' l nil hk]; rfl
theorem aggS : Agg Try.prog 61 49 := Agg.str Try.underlying61 (by kernel_rfl)
theorem aggID : Agg Try.prog 57 16 := Agg.arr Try.underlying57 (by kernel_rfl)
theorem aggY : Agg Try.prog 59 32 := Agg.arr Try.underlying59 (by kernel_rfl)
/-- the share that a new variable holds -/
def sh0 : Sh := ⟨List.replicate 16 0, 0, List.replicate 32 0⟩
theorem sh0_zero : (Try.prog.info? 61).map (·.zero) = some (some (.agg sh0.cs.toArray)) := by kernel_rfl
theorem sh0_len : sh0.cs.length = 49 := rfl
theorem at_h {w : World} {t : TypeId} {g : Nat} {s : Sh} (hs : s.Ok) (h : BlkV t w g s.cs) : At w ⟨g, 0, none⟩ (s.h.map (Value.int .u8)) := by
  refine h.at 0 _ fun j u hu => ?_
  have hj : j < 16 := by have := (List.getElem?_eq_some_iff.1 hu).1; rw [List.length_map, hs.hl] at this; exact this
  rw [Nat.zero_add, cs_hi s hs j hj, ← hu, List.getElem?_map, List.getElem?_eq_getElem (by rw [hs.hl]; exact hj), getD_lt' s.h 0 (by rw [hs.hl]; exact hj)]
  rfl
theorem at_y {w : World} {t : TypeId} {g : Nat} {s : Sh} (hs : s.Ok) (h : BlkV t w g s.cs) : At w ⟨g, 17, none⟩ (s.y.map (Value.int .u16)) := by
  refine h.at 17 _ fun j u hu => ?_
  have hj : j < 32 := by have := (List.getElem?_eq_some_iff.1 hu).1; rw [List.length_map, hs.yl] at this; exact this
  rw [cs_yi s hs j hj, ← hu, List.getElem?_map, List.getElem?_eq_getElem (by rw [hs.yl]; exact hj), getD_lt' s.y 0 (by rw [hs.yl]; exact hj)]
  rfl
end Go.Proofs.Ytbljihhelladbaa.shr
