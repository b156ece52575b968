/-
  What stirs, in plain Lean; contracts of the small parts of both Stir functions. Conditions: octets from 0 to 255, words below 2^32. Arguments that are slices of integers, opened for the walks: their numbers, their room, their bulk. No condition. Arguments that are arrays of octets, opened for the walks. No condition.
-/
import Derived.Test.YtdhipjoplkpgmaaGreatDoorHMem
import Derived.ProofKit
import Derived.Laws.BitsAllLaws
import Derived.OpenShut
import Derived.ChangeSlices
import Derived.WideShapes
set_option linter.unusedSimpArgs false
set_option linter.unusedVariables false
namespace Go.Proofs.YtdhipjoplkpgmaaGreatDoor
open Go.RowKit
theorem results_cell {fn : Func} {c : Tmp} {t : TypeId} (h : fn.results = #[.cell c t]) (tmps : Array Value) (P : Program) (w : World) (p : Addr) (hp : tmps.getD c undef = .pointer (some p)) (cs : List Value) (ha : Agg P t cs.length) (hc : At w p cs) :
  (results fn tmps).run P w = .ok (.agg cs.toArray) w := by
 rw [Array.getD_eq_getD_getElem?] at hp
 simp [results, h, hp, run_load_agg w t p cs ha hc, asAddr]
theorem results_cell2 {fn : Func} {c u : Tmp} {t : TypeId} (h : fn.results = #[.cell c t, .tmp u]) (tmps : Array Value) (P : Program) (w : World) (p : Addr) (hp : tmps.getD c undef = .pointer (some p)) (cs : List Value) (ha : Agg P t cs.length) (hc : At w p cs) :
  (results fn tmps).run P w = .ok (.tuple #[.agg cs.toArray, tmps.getD u undef]) w := by
 rw [Array.getD_eq_getD_getElem?] at hp
 simp [results, h, hp, run_load_agg w t p cs ha hc, asAddr]
theorem wl_storeAll {P : Program} {w : World} {ops : Array Oper} {rest : List Oper} {o : Oper} {a : Act} {Q : Exit → Act → World → Prop} (hgd : o.guard = none) (ty : TypeId) (x y : Operand) (ho : o.op = .store ty x y)
  (t : TypeId) (g : Nat) (hx : a.eval x = .pointer (some ⟨g, 0, none⟩)) (cs : List Value) (hy : a.eval y = .agg cs.toArray) (n : Nat) (hi : Agg P ty n) (hn : cs.length = n) (cur : List Value) (hg : BlkV t w g cur) (hc : cur.length = n) (h1 : ∀ u ∈ cs, u.oneCell' = true)
  (h : BlkV t (w.setRow g cs.toArray) g cs → wpList P ops Q rest (a.put o.dst undef) (w.setRow g cs.toArray)) : wpList P ops Q (o :: rest) a w := by
 refine wl_store hgd ty x y ho t g 0 hx cs hy (by rw [hn]; exact hi.2) cur hg (by omega) h1 ?_
 have e : cur.take 0 ++ cs ++ cur.drop (0 + cs.length) = cs := by rw [List.take_zero, List.nil_append, List.drop_of_length_le (by omega), List.append_nil]
 rw [e]
 exact h (hg.setRow cs)
theorem ints_one (k : IntKind) (l : List Int) : ∀ u ∈ l.map (Value.int k), u.oneCell' = true := by
 intro u hu
 obtain ⟨n, _, rfl⟩ := List.mem_map.1 hu
 rfl
end Go.Proofs.YtdhipjoplkpgmaaGreatDoor
namespace Go.Proofs.YtdhipjoplkpgmaaGreatDoor.st
open Go.RowKit
theorem agg4 : Agg Tryz.prog 334 4 := Agg.arr Tryz.underlying334 (by kernel_rfl)
theorem agg64 : Agg Tryz.prog 53 64 := Agg.arr Tryz.underlying53 (by kernel_rfl)
theorem agg16 : Agg Tryz.prog 287 16 := Agg.arr Tryz.underlying287 (by kernel_rfl)
theorem at_new (t : TypeId) (w : World) {g : Nat} (cs : List Value) (hg : g = w.heap.size) : At (w.alloc (.cells cs.toArray t)) ⟨g, 0, none⟩ cs := (BlkV.new t w cs hg).at0
def rotl (x : Int) (k : Nat) : Int := bits .or .u32 (x * 2 ^ k % 4294967296) (x / 2 ^ (32 - k))
def W32 (x : Int) : Prop := 0 ≤ x ∧ x < 4294967296
theorem w32_bits (op : BinOp) (x y : Int) : W32 (bits op .u32 x y) := by
 have := bounds_u32 (wf_bits op .u32 x y)
 exact ⟨this.1, by omega⟩
theorem w32_mod (x : Int) : W32 (x % 4294967296) := by unfold W32; omega
theorem and31 (k : Nat) (h : k < 32) : bits .and .u64 (k : Int) 31 = (k : Int) := by
 have : ∀ j : Fin 32, bits .and .u64 (j.val : Int) 31 = (j.val : Int) := by decide +kernel
 exact this ⟨k, h⟩
theorem rotR (x : Int) (k : Nat) (w : World) (h : k < 32) (hx : W32 x) : Calls Tryz.prog 290 #[.int .u32 x, .int .i64 k] w fun e w' => e = .returned (.int .u32 (rotl x k)) ∧ w = w' := by
 have hb := and31 k h
 obtain ⟨hx1, hx2⟩ := hx
 go_enter Tryz.func290, Tryz.ntmps290
 go_wp2
 go_ret
 exact ⟨rfl, rfl⟩
theorem rotT (x : Int) (k : Nat) (w : World) (h : k < 32) (hx : W32 x) : Calls Tryz.prog 193 #[.int .u32 x, .int .i64 k] w fun e w' => e = .returned (.int .u32 (rotl x k)) ∧ ∃ n, w' = w.drewN n := by
 obtain ⟨hx1, hx2⟩ := hx
 go_enter Tryz.func193, Tryz.ntmps193
 go_wp2_with (go_quiet (fail))
 go_ret
 exact ⟨rfl, _, rfl⟩
theorem or_sum (a b : Int) (k : Nat) (ha : 0 ≤ a) (hb : 0 ≤ b) (hk : b < 2 ^ k) (hs : a * 2 ^ k + b < 4294967296) : bits .or .u32 (a * 2 ^ k) b = a * 2 ^ k + b := by
 obtain ⟨m, rfl⟩ := Int.eq_ofNat_of_zero_le ha
 obtain ⟨n, rfl⟩ := Int.eq_ofNat_of_zero_le hb
 have hk' : n < 2 ^ k := by
  apply Int.ofNat_lt.1
  rw [Int.natCast_pow]; exact hk
 have e : (m : Int) * 2 ^ k = ((m * 2 ^ k : Nat) : Int) := by rw [Int.natCast_mul, Int.natCast_pow]; rfl
 have hs' : m * 2 ^ k + n < 4294967296 := by
  rw [e] at hs
  generalize m * 2 ^ k = q at hs
  omega
 rw [e, u32_or_nat _ _ (by omega) (by omega)]
 have h := Nat.two_pow_add_eq_or_of_lt hk' m
 rw [Nat.mul_comm] at h
 rw [← h, Int.natCast_add]
def Oct (x : Int) : Prop := 0 ≤ x ∧ x ≤ 255
def w4 (a b c d : Int) : Int := a * 16777216 + b * 65536 + c * 256 + d
theorem or4 (a b c d : Int) (ha : Oct a) (hb : Oct b) (hc : Oct c) (hd : Oct d) :
  bits .or .u32 (bits .or .u32 (bits .or .u32 (a * 16777216) (b * 65536)) (c * 256)) d = w4 a b c d := by
 unfold Oct at *
 have h1 : bits .or .u32 (a * 16777216) (b * 65536) = a * 16777216 + b * 65536 := or_sum a (b * 65536) 24 (by omega) (by omega) (by omega) (by omega)
 have h2 : bits .or .u32 (a * 16777216 + b * 65536) (c * 256) = a * 16777216 + b * 65536 + c * 256 := by
  have := or_sum (a * 256 + b) (c * 256) 16 (by omega) (by omega) (by omega) (by omega)
  rw [show (a * 256 + b) * 2 ^ 16 = a * 16777216 + b * 65536 by omega] at this
  exact this
 have h3 : bits .or .u32 (a * 16777216 + b * 65536 + c * 256) d = w4 a b c d := by
  have := or_sum (a * 65536 + b * 256 + c) d 8 (by omega) (by omega) (by omega) (by omega)
  rw [show (a * 65536 + b * 256 + c) * 2 ^ 8 = a * 16777216 + b * 65536 + c * 256 by omega] at this
  exact this
 rw [h1, h2, h3]
theorem w32_w4 {a b c d : Int} (ha : Oct a) (hb : Oct b) (hc : Oct c) (hd : Oct d) : W32 (w4 a b c d) := by unfold Oct W32 w4 at *; omega
theorem word (a b c d : Int) (w : World) (ha : Oct a) (hb : Oct b) (hc : Oct c) (hd : Oct d) :
  Calls Tryz.prog 378 #[.agg #[.int .u8 a, .int .u8 b, .int .u8 c, .int .u8 d]] w fun e w' => e = .returned (.int .u32 (w4 a b c d)) ∧ Below w.heap.size w w' := by
 have H := hid (or4 a b c d ha hb hc hd)
 unfold Oct at ha hb hc hd
 go_enter Tryz.func378, Tryz.ntmps378
 go_wp2
 go_ret
 exact ⟨rv (ri H.out), (Below.refl _ _).alloc (Nat.le_refl _) _⟩
def o4 (n : Int) : List Int := [n / 16777216 % 256, n / 65536 % 256, n / 256 % 256, n % 256]
theorem octets (n : Int) (w : World) : Calls Tryz.prog 251 #[.int .u32 n] w fun e w' => e = .returned (.agg ((o4 n).map (Value.int .u8)).toArray) ∧ Below w.heap.size w w' := by
 go_enter Tryz.func251, Tryz.ntmps251
 go_wp2
 (try simp only [Exit.inBlock, Exit.then]); refine bodyPost_ret (results_cell rfl _ _ _ _ rfl ((o4 n).map (Value.int .u8)) agg4 (at_new _ w _ rfl)) rfl ?_
 exact ⟨rfl, (Below.refl _ _).alloc (Nat.le_refl _) _⟩
def addW (r i : Nat) (w : List Int) : List Int := w.set i ((w.getD i 0 + bits .xor .u32 (rotl (w.getD ((i + 1 + r) % 16) 0) (5 + i)) (2654435769 * ((16 * r + i + 1 : Nat) : Int) % 4294967296)) % 4294967296)
def xorW (i : Nat) (w : List Int) : List Int := w.set ((i + 9) % 16) (bits .xor .u32 (w.getD ((i + 9) % 16) 0) (rotl (w.getD i 0) 11))
def stepTo (r : Nat) (w : List Int) : Nat → List Int
 | 0 => w
 | i + 1 => xorW i (addW r i (stepTo r w i))
def roundTo (w : List Int) : Nat → List Int
 | 0 => w
 | r + 1 => stepTo r (roundTo w r) 16
theorem stepTo_length (r : Nat) (w : List Int) (i : Nat) : (stepTo r w i).length = w.length := by
 induction i with
 | zero => rfl
 | succ i ih => unfold stepTo xorW addW; simp [ih]
theorem roundTo_length (w : List Int) (r : Nat) : (roundTo w r).length = w.length := by
 induction r with
 | zero => rfl
 | succ r ih => unfold roundTo; rw [stepTo_length, ih]
def AllW (l : List Int) : Prop := ∀ c ∈ l, W32 c
theorem AllW.getD {l : List Int} (h : AllW l) (i : Nat) : W32 (l.getD i 0) := by
 by_cases hi : i < l.length
 ·rw [getD_lt' _ _ hi]; exact h _ (List.getElem_mem hi)
 ·rw [List.getD_eq_getElem?_getD, List.getElem?_eq_none (by omega)]; exact ⟨by simp, by simp⟩
theorem AllW.set {l : List Int} (h : AllW l) (i : Nat) {v : Int} (hv : W32 v) : AllW (l.set i v) := by
 intro c hc
 rcases List.mem_or_eq_of_mem_set hc with h1 | rfl
 ·exact h _ h1
 ·exact hv
theorem addW_w {l : List Int} (h : AllW l) (r i : Nat) : AllW (addW r i l) := h.set _ (w32_mod _)
theorem xorW_w {l : List Int} (h : AllW l) (i : Nat) : AllW (xorW i l) := h.set _ (w32_bits _ _ _)
theorem stepTo_w {l : List Int} (h : AllW l) (r i : Nat) : AllW (stepTo r l i) := by
 induction i with
 | zero => exact h
 | succ i ih => exact xorW_w (addW_w ih r i) i
theorem roundTo_w {l : List Int} (h : AllW l) (r : Nat) : AllW (roundTo l r) := by
 induction r with
 | zero => exact h
 | succ r ih => exact stepTo_w ih r 16
def wordsL (s : List Int) (n : Nat) : List Int := (List.range n).map fun (i : Nat) => w4 (s.getD (4 * i) 0) (s.getD (4 * i + 1) 0) (s.getD (4 * i + 2) 0) (s.getD (4 * i + 3) 0)
def octL (w : List Int) (n : Nat) : List Int := (List.range n).map fun (i : Nat) => (o4 (w.getD (i / 4) 0)).getD (i % 4) 0
theorem wordsL_length (s : List Int) (n : Nat) : (wordsL s n).length = n := by unfold wordsL; rw [List.length_map, List.length_range]
theorem octL_length (s : List Int) (n : Nat) : (octL s n).length = n := by unfold octL; rw [List.length_map, List.length_range]
def stirL (s : List Int) : List Int := octL (roundTo (wordsL s 16) 8) 64
end Go.Proofs.YtdhipjoplkpgmaaGreatDoor.st
namespace Go.Proofs.YtdhipjoplkpgmaaGreatDoor.opn
open Go.ChangeShapes Go.WideShapes Go.ChangeAt Go.RowKit
structure IntsAt {H : Type} (P : Program) (W : World) (k : IntKind) (v : Value) (d : DataW H) (l : List Int) (ao : Option Addr) (cap : Nat) : Prop where
 val : v = .slice ao l.length cap
 le : l.length ≤ cap
 row : RowI k W ao l
 none : ao = none → cap = 0 ∧ l.length = 0
 bulk : l.length ≤ Rows.uptoBulk d
 wf : ∀ n ∈ l, (Lit.int k n).wf = true
theorem lt_of_cell' {w : World} {a : Addr} {u : Value} (h : w.cell? a = some u) : a.block < w.heap.size := by
 unfold World.cell? at h
 by_cases hb : a.block < w.heap.size
 ·exact hb
 ·simp [Array.getElem?_eq_none (by omega : w.heap.size ≤ a.block)] at h
end Go.Proofs.YtdhipjoplkpgmaaGreatDoor.opn
namespace Go.Proofs.YtdhipjoplkpgmaaGreatDoor.opn
open Go.ChangeShapes Go.WideShapes Go.ChangeAt Go.RowKit
theorem octArr {H : Type} {enc : TypeId × Value → H} {P : Program} {W : World} {base : Nat} {spare : Nat → Bool} {held : Bool} {r : Reach} {b0 : Nat} {t e : TypeId} {n : Nat} {v : Value} {d : DataW H} {ps : List MemPlace}
  (ht : P.underlying t = some (.array n e)) (he : P.underlying e = some (.int .u8)) (hc : P.cellsOf e = 1) (hct : P.cellsOf t = n) (hval : Value.okWide P W r b0 t v) (hd : DataW.Trod enc P W base spare held t v d ps) :
  ∃ l : List Int, v = .agg (l.map (Value.int .u8)).toArray ∧ l.length = n ∧ ∀ c ∈ l, 0 ≤ c ∧ c ≤ 255 := by
 have hv : ∃ cs, v = .agg cs := by
  simp only [Value.okWide, ht] at hval
  obtain ⟨cs, h, _⟩ := hval
  exact ⟨cs, h⟩
 obtain ⟨cs, rfl⟩ := hv
 obtain ⟨fuel, hf⟩ := hd
 obtain ⟨xs, m, rfl, _, h1, h2, h3⟩ := DataW.trod_array ht hf
 simp only [Value.cells] at h1 h3
 rw [hct] at h1
 have h4 : ∀ i, i < n → ∃ c : Int, cs.toList[i]? = some (.int .u8 c) ∧ 0 ≤ c ∧ c ≤ 255 := by
  intro i hi
  have h5 := h3 i hi
  rw [hc, Nat.mul_one, List.getElem?_eq_getElem (by omega)] at h5
  have hcs : (cs.toList.drop i).take 1 = [cs.toList[i]'(by omega)] := by
   rw [List.drop_eq_getElem_cons (by omega)]
   rfl
  rw [hcs] at h5
  obtain ⟨c, hcc, _, hw⟩ := DataW.trod_int he h5
  have hb := bounds_u8 hw
  simp only [List.cons.injEq, and_true] at hcc
  exact ⟨c, by rw [List.getElem?_eq_getElem (by omega), hcc], hb⟩
 refine ⟨cs.toList.map fun u => match u with | .int _ c => c | _ => 0, ?_, by rw [List.length_map]; exact h1, ?_⟩
 ·congr 1
  apply Array.ext'
  rw [List.map_map]
  symm
  apply List.ext_getElem
  ·simp
  ·intro i hi1 hi2
   obtain ⟨c, h6, _⟩ := h4 i (by omega)
   rw [List.getElem?_eq_getElem (by omega)] at h6
   simp only [Option.some.injEq] at h6
   simp [h6]
 ·intro c hc'
  obtain ⟨u, hu, rfl⟩ := List.mem_map.1 hc'
  obtain ⟨i, hi, rfl⟩ := List.getElem_of_mem hu
  obtain ⟨c, h6, h7⟩ := h4 i (by omega)
  rw [List.getElem?_eq_getElem hi] at h6
  simp only [Option.some.injEq] at h6
  rw [h6]
  exact h7
end Go.Proofs.YtdhipjoplkpgmaaGreatDoor.opn
