/-
  What stirs, in plain Lean; contracts of the small parts of both Stir functions. Conditions: octets from 0 to 255, words below 2^32. Words and octets of a state: contracts of wordsOf, stateOf, octets and words. Conditions: states of octets. Contracts of both Stir functions. Condition: a state of 64 octets.
-/
import Derived.Test.YtbljihhelladbaaHMem
import Derived.ProofKit
import Derived.Laws.BitsAllLaws
import Derived.OpenShut
import Derived.StillTailTactics
import Derived.Deep.RegionWith
import Derived.Deep.RegionLaw
import Derived.BigRegion
import Derived.IntWalk
namespace Go.Proofs.Ytbljihhelladbaa
set_option linter.unusedSimpArgs false
set_option linter.unusedVariables false
open Go.RowKit
theorem results_cell {fn : Func} {c : Tmp} {t : TypeId} (h : fn.results = #[.cell c t]) (tmps : Array Value) (P : Program) (w : World) (p : Addr) (hp : tmps.getD c undef = .pointer (some p)) (cs : List Value) (ha : Agg P t cs.length) (hc : At w p cs) :
    (results fn tmps).run P w = .ok (.agg cs.toArray) w := by
  rw [Array.getD_eq_getD_getElem?] at hp
  simp [results, h, hp, run_load_agg w t p cs ha hc, asAddr]
theorem results_cell2 {fn : Func} {c u : Tmp} {t : TypeId} (h : fn.results = #[.cell c t, .tmp u]) (tmps : Array Value) (P : Program) (w : World) (p : Addr) (hp : tmps.getD c undef = .pointer (some p)) (cs : List Value) (ha : Agg P t cs.length) (hc : At w p cs) :
    (results fn tmps).run P w = .ok (.tuple #[.agg cs.toArray, tmps.getD u undef]) w := by
  rw [Array.getD_eq_getD_getElem?] at hp
  simp [results, h, hp, run_load_agg w t p cs ha hc, asAddr]
/-- a whole variable is stored anew -/
theorem wl_storeAll {P : Program} {w : World} {ops : Array Oper} {rest : List Oper} {o : Oper} {a : Act} {Q : Exit → Act → World → Prop} (hgd : o.guard = none) (ty : TypeId) (x y : Operand) (ho : o.op = .store ty x y)
    (t : TypeId) (g : Nat) (hx : a.eval x = .pointer (some ⟨g, 0, none⟩)) (cs : List Value) (hy : a.eval y = .agg cs.toArray) (n : Nat) (hi : Agg P ty n) (hn : cs.length = n) (cur : List Value) (hg : BlkV t w g cur) (hc : cur.length = n) (h1 : ∀ u ∈ cs, u.oneCell' = true)
    (h : BlkV t (w.setRow g cs.toArray) g cs → wpList P ops Q rest (a.put o.dst undef) (w.setRow g cs.toArray)) : wpList P ops Q (o :: rest) a w := by
  refine wl_store hgd ty x y ho t g 0 hx cs hy (by rw [hn]; exact hi.2) cur hg (by omega) h1 ?_
  have e : cur.take 0 ++ cs ++ cur.drop (0 + cs.length) = cs := by rw [List.take_zero, List.nil_append, List.drop_of_length_le (by omega), List.append_nil]
  rw [e]
  exact h (hg.setRow cs)
theorem ints_one (k : IntKind) (l : List Int) : ∀ u ∈ l.map (Value.int k), u.oneCell' = true := by
  intro u hu
  obtain ⟨n, _, rfl⟩ := List.mem_map.1 hu
  rfl
end Go.Proofs.Ytbljihhelladbaa
namespace Go.Proofs.Ytbljihhelladbaa.st
open Go.RowKit
theorem agg4 : Agg Try.prog 204 4 := Agg.arr Try.underlying204 (by kernel_rfl)
theorem agg64 : Agg Try.prog 152 64 := Agg.arr Try.underlying152 (by kernel_rfl)
theorem agg16 : Agg Try.prog 236 16 := Agg.arr Try.underlying236 (by kernel_rfl)
theorem at_new (t : TypeId) (w : World) {g : Nat} (cs : List Value) (hg : g = w.heap.size) : At (w.alloc (.cells cs.toArray t)) ⟨g, 0, none⟩ cs := (BlkV.new t w cs hg).at0
def rotl (x : Int) (k : Nat) : Int := bits .or .u32 (x * 2 ^ k % 4294967296) (x / 2 ^ (32 - k))
/-- a word: from 0 to 2^32 - 1 -/
def W32 (x : Int) : Prop := 0 ≤ x ∧ x < 4294967296
theorem w32_bits (op : BinOp) (x y : Int) : W32 (bits op .u32 x y) := by
  have := bounds_u32 (wf_bits op .u32 x y)
  exact ⟨this.1, by omega⟩
theorem w32_mod (x : Int) : W32 (x % 4294967296) := by unfold W32; omega
theorem and31 (k : Nat) (h : k < 32) : bits .and .u64 (k : Int) 31 = (k : Int) := by
  have : ∀ j : Fin 32, bits .and .u64 (j.val : Int) 31 = (j.val : Int) := by decide +kernel
  exact this ⟨k, h⟩
theorem rotR (x : Int) (k : Nat) (w : World) (h : k < 32) (hx : W32 x) : Calls Try.prog 230 #[.int .u32 x, .int .i64 k] w fun e w' => e = .returned (.int .u32 (rotl x k)) ∧ w = w' := by
  have hb := and31 k h
  obtain ⟨hx1, hx2⟩ := hx
  go_enter Try.func230, Try.ntmps230
  go_wp2
  go_ret
  exact ⟨rfl, rfl⟩
/-- 'or' of what does not meet is the sum -/
theorem or_sum (a b : Int) (k : Nat) (ha : 0 ≤ a) (hb : 0 ≤ b) (hk : b < 2 ^ k) (hs : a * 2 ^ k + b < 4294967296) : bits .or .u32 (a * 2 ^ k) b = a * 2 ^ k + b := by
  obtain ⟨m, rfl⟩ := Int.eq_ofNat_of_zero_le ha
  obtain ⟨n, rfl⟩ := Int.eq_ofNat_of_zero_le hb
  have hk' : n < 2 ^ k := by
    apply Int.ofNat_lt.1
    rw [Int.natCast_pow]; exact hk
  have e : (m : Int) * 2 ^ k = ((m * 2 ^ k : Nat) : Int) := by rw [Int.natCast_mul, Int.natCast_pow]; rfl
  have hs' : m * 2 ^ k + n < 4294967296 := by
    rw [e] at hs
    generalize m * 2 ^ k = q at hs
    omega
  rw [e, u32_or_nat _ _ (by omega) (by omega)]
  have h := Nat.two_pow_add_eq_or_of_lt hk' m
  rw [Nat.mul_comm] at h
  rw [← h, Int.natCast_add]
/-- an octet -/
def Oct (x : Int) : Prop := 0 ≤ x ∧ x ≤ 255
def w4 (a b c d : Int) : Int := a * 16777216 + b * 65536 + c * 256 + d
theorem or4 (a b c d : Int) (ha : Oct a) (hb : Oct b) (hc : Oct c) (hd : Oct d) :
    bits .or .u32 (bits .or .u32 (bits .or .u32 (a * 16777216) (b * 65536)) (c * 256)) d = w4 a b c d := by
  unfold Oct at *
  have h1 : bits .or .u32 (a * 16777216) (b * 65536) = a * 16777216 + b * 65536 := or_sum a (b * 65536) 24 (by omega) (by omega) (by omega) (by omega)
  have h2 : bits .or .u32 (a * 16777216 + b * 65536) (c * 256) = a * 16777216 + b * 65536 + c * 256 := by
    have := or_sum (a * 256 + b) (c * 256) 16 (by omega) (by omega) (by omega) (by omega)
    rw [show (a * 256 + b) * 2 ^ 16 = a * 16777216 + b * 65536 by omega] at this
    exact this
  have h3 : bits .or .u32 (a * 16777216 + b * 65536 + c * 256) d = w4 a b c d := by
    have := or_sum (a * 65536 + b * 256 + c) d 8 (by omega) (by omega) (by omega) (by omega)
    rw [show (a * 65536 + b * 256 + c) * 2 ^ 8 = a * 16777216 + b * 65536 + c * 256 by omega] at this
    exact this
  rw [h1, h2, h3]
theorem w32_w4 {a b c d : Int} (ha : Oct a) (hb : Oct b) (hc : Oct c) (hd : Oct d) : W32 (w4 a b c d) := by unfold Oct W32 w4 at *; omega
theorem word (a b c d : Int) (w : World) (ha : Oct a) (hb : Oct b) (hc : Oct c) (hd : Oct d) :
    Calls Try.prog 179 #[.agg #[.int .u8 a, .int .u8 b, .int .u8 c, .int .u8 d]] w fun e w' => e = .returned (.int .u32 (w4 a b c d)) ∧ Below w.heap.size w w' := by
  have H := hid (or4 a b c d ha hb hc hd)
  unfold Oct at ha hb hc hd
  go_enter Try.func179, Try.ntmps179
  go_wp2
  go_ret
  exact ⟨rv (ri H.out), (Below.refl _ _).alloc (Nat.le_refl _) _⟩
/-- a word's octets -/
def o4 (n : Int) : List Int := [n / 16777216 % 256, n / 65536 % 256, n / 256 % 256, n % 256]
theorem octets (n : Int) (w : World) : Calls Try.prog 165 #[.int .u32 n] w fun e w' => e = .returned (.agg ((o4 n).map (Value.int .u8)).toArray) ∧ Below w.heap.size w w' := by
  go_enter Try.func165, Try.ntmps165
  go_wp2
  (try simp only [Exit.inBlock, Exit.then]); refine bodyPost_ret (results_cell rfl _ _ _ _ rfl ((o4 n).map (Value.int .u8)) agg4 (at_new _ w _ rfl)) rfl ?_
  exact ⟨rfl, (Below.refl _ _).alloc (Nat.le_refl _) _⟩
/-- one step of a round, and the rounds -/
def addW (r i : Nat) (w : List Int) : List Int := w.set i ((w.getD i 0 + bits .xor .u32 (rotl (w.getD ((i + 1 + r) % 16) 0) (5 + i)) (2654435769 * ((16 * r + i + 1 : Nat) : Int) % 4294967296)) % 4294967296)
def xorW (i : Nat) (w : List Int) : List Int := w.set ((i + 9) % 16) (bits .xor .u32 (w.getD ((i + 9) % 16) 0) (rotl (w.getD i 0) 11))
def stepTo (r : Nat) (w : List Int) : Nat → List Int
  | 0 => w
  | i + 1 => xorW i (addW r i (stepTo r w i))
def roundTo (w : List Int) : Nat → List Int
  | 0 => w
  | r + 1 => stepTo r (roundTo w r) 16
theorem stepTo_length (r : Nat) (w : List Int) (i : Nat) : (stepTo r w i).length = w.length := by
  induction i with
  | zero => rfl
  | succ i ih => unfold stepTo xorW addW; simp [ih]
theorem roundTo_length (w : List Int) (r : Nat) : (roundTo w r).length = w.length := by
  induction r with
  | zero => rfl
  | succ r ih => unfold roundTo; rw [stepTo_length, ih]
def AllW (l : List Int) : Prop := ∀ c ∈ l, W32 c
theorem AllW.getD {l : List Int} (h : AllW l) (i : Nat) : W32 (l.getD i 0) := by
  by_cases hi : i < l.length
  · rw [getD_lt' _ _ hi]; exact h _ (List.getElem_mem hi)
  · rw [List.getD_eq_getElem?_getD, List.getElem?_eq_none (by omega)]; exact ⟨by simp, by simp⟩
theorem AllW.set {l : List Int} (h : AllW l) (i : Nat) {v : Int} (hv : W32 v) : AllW (l.set i v) := by
  intro c hc
  rcases List.mem_or_eq_of_mem_set hc with h1 | rfl
  · exact h _ h1
  · exact hv
theorem addW_w {l : List Int} (h : AllW l) (r i : Nat) : AllW (addW r i l) := h.set _ (w32_mod _)
theorem xorW_w {l : List Int} (h : AllW l) (i : Nat) : AllW (xorW i l) := h.set _ (w32_bits _ _ _)
theorem stepTo_w {l : List Int} (h : AllW l) (r i : Nat) : AllW (stepTo r l i) := by
  induction i with
  | zero => exact h
  | succ i ih => exact xorW_w (addW_w ih r i) i
theorem roundTo_w {l : List Int} (h : AllW l) (r : Nat) : AllW (roundTo l r) := by
  induction r with
  | zero => exact h
  | succ r ih => exact stepTo_w ih r 16
/-- the words of a state, the octets of words -/
def wordsL (s : List Int) (n : Nat) : List Int := (List.range n).map fun (i : Nat) => w4 (s.getD (4 * i) 0) (s.getD (4 * i + 1) 0) (s.getD (4 * i + 2) 0) (s.getD (4 * i + 3) 0)
def octL (w : List Int) (n : Nat) : List Int := (List.range n).map fun (i : Nat) => (o4 (w.getD (i / 4) 0)).getD (i % 4) 0
theorem wordsL_length (s : List Int) (n : Nat) : (wordsL s n).length = n := by unfold wordsL; rw [List.length_map, List.length_range]
theorem octL_length (s : List Int) (n : Nat) : (octL s n).length = n := by unfold octL; rw [List.length_map, List.length_range]
/-- what Stir makes -/
def stirL (s : List Int) : List Int := octL (roundTo (wordsL s 16) 8) 64
end Go.Proofs.Ytbljihhelladbaa.st
/- Contracts of both Stir functions: both make 'stirL'. Condition: the state is octets. -/
namespace Go.Proofs.Ytbljihhelladbaa.st
set_option linter.unusedSimpArgs false
set_option linter.unusedVariables false
open Go.RowKit
set_option pp.maxSteps 4000
def Octs (l : List Int) : Prop := ∀ c ∈ l, Oct c
theorem Octs.getD {l : List Int} (h : Octs l) (i : Nat) : Oct (l.getD i 0) := by
  by_cases hi : i < l.length
  · rw [getD_lt' _ _ hi]; exact h _ (List.getElem_mem hi)
  · rw [List.getD_eq_getElem?_getD, List.getElem?_eq_none (by omega)]; exact ⟨by simp, by simp⟩
/-- a row that is filled from the front -/
def fillTo (f : Nat → Int) (n k : Nat) : List Int := (List.range k).map f ++ List.replicate (n - k) 0
theorem fillTo_length (f : Nat → Int) (n k : Nat) (h : k ≤ n) : (fillTo f n k).length = n := by
  unfold fillTo; rw [List.length_append, List.length_map, List.length_range, List.length_replicate]; omega
theorem fillTo_zero (f : Nat → Int) (n : Nat) : fillTo f n 0 = List.replicate n 0 := by unfold fillTo; rw [List.range_zero]; rfl
theorem fillTo_all (f : Nat → Int) (n : Nat) : fillTo f n n = (List.range n).map f := by unfold fillTo; rw [Nat.sub_self, List.replicate_zero, List.append_nil]
theorem fillTo_get (f : Nat → Int) (n k i : Nat) : (fillTo f n k)[i]? = if i < k then some (f i) else if i < k + (n - k) then some 0 else none := by
  unfold fillTo
  rw [List.getElem?_append, List.length_map, List.length_range, List.getElem?_replicate]
  by_cases h : i < k
  · rw [if_pos h, if_pos h, List.getElem?_map, List.getElem?_range h]; rfl
  · rw [if_neg h, if_neg h]
    by_cases h2 : i < k + (n - k)
    · rw [if_pos h2, if_pos (by omega)]
    · rw [if_neg h2, if_neg (by omega)]
theorem fillTo_set (f : Nat → Int) (n k : Nat) (h : k < n) : (fillTo f n k).set k (f k) = fillTo f n (k + 1) := by
  apply List.ext_getElem?
  intro i
  rw [List.getElem?_set, fillTo_length f n k (by omega), fillTo_get, fillTo_get]
  by_cases e : k = i
  · subst e; rw [if_pos rfl, if_pos h, if_pos (by omega)]
  · rw [if_neg e]
    by_cases h1 : i < k
    · rw [if_pos h1, if_pos (by omega)]
    · rw [if_neg h1, if_neg (by omega : ¬ i < k + 1), show k + (n - k) = k + 1 + (n - (k + 1)) by omega]
theorem at_ints {k : IntKind} {t : TypeId} {w : World} {g : Nat} {l : List Int} (h : BlkV t w g (l.map (Value.int k))) (off : Nat) (ds : List Int) (hd : ∀ j, j < ds.length → off + j < l.length ∧ ds.getD j 0 = l.getD (off + j) 0) : At w ⟨g, off, none⟩ (ds.map (Value.int k)) :=
  h.at off _ fun j u hu => by
    have hj : j < ds.length := by have := (List.getElem?_eq_some_iff.1 hu).1; simpa using this
    obtain ⟨h1, h2⟩ := hd j hj
    rw [List.getElem?_map, List.getElem?_eq_getElem hj] at hu
    rw [List.getElem?_map, List.getElem?_eq_getElem h1]
    rw [getD_lt' _ _ hj, getD_lt' _ _ h1] at h2
    rw [← h2]
    exact hu
theorem run_arrayAt4 (w : World) (a : Addr) (cap : Nat) : (Instr.arrayAt 204 (.slice (some a) 4 cap)).run Try.prog w = .ok (.pointer (some a)) w := by
  simp [Instr.arrayAt, run_underlying Try.underlying204, Result.andThen]
theorem zero16 : (Try.prog.info? 236).map (·.zero) = some (some (.agg ((List.replicate 16 (0 : Int)).map (Value.int .u32)).toArray)) := by kernel_rfl
theorem zero64 : (Try.prog.info? 152).map (·.zero) = some (some (.agg ((List.replicate 64 (0 : Int)).map (Value.int .u8)).toArray)) := by kernel_rfl
set_option maxRecDepth 100000 in
set_option maxHeartbeats 1000000 in
theorem wordsOf (s : List Int) (w : World) (hl : s.length = 64) (hs : Octs s) :
    Calls Try.prog 228 #[.agg (s.map (Value.int .u8)).toArray] w fun e w' => e = .returned (.agg ((wordsL s 16).map (Value.int .u32)).toArray) ∧ Below w.heap.size w w' := by
  have HL := hid hl
  have HZ := hid zero16
  obtain ⟨Z, HZ'⟩ : ∃ Z, Hid (Z = (List.replicate 16 (0 : Int)).map (Value.int .u32)) := ⟨_, rfl⟩
  rw [← HZ'.out] at HZ
  obtain ⟨S, HS⟩ : ∃ S, Hid (S = s.map (Value.int .u8)) := ⟨_, rfl⟩
  rw [← HS.out]
  clear hl
  go_enter Try.func228, Try.ntmps228
  go_wp2_with (first | (refine wl_alloc rfl 236 rfl Z HZ.out ?_))
  go_loopw [5] (fun i wr => ∃ k : Nat, k ≤ 16 ∧ i = .int .i64 k ∧ BlkV 152 wr w.heap.size S ∧ BlkI .u32 236 wr (w.heap.size + 2) (fillTo (fun i => w4 (s.getD (4 * i) 0) (s.getD (4 * i + 1) 0) (s.getD (4 * i + 2) 0) (s.getD (4 * i + 3) 0)) 16 k) ∧ BlkV 236 wr (w.heap.size + 1) Z ∧ Below w.heap.size w wr) (fun i _ => 16 - (intOf i).toNat)
  case atStart =>
    refine ⟨0, by omega, rfl, ((BlkV.new _ w S rfl).alloc _).alloc _, ?_, (BlkV.new _ _ Z (by simp)).alloc _, (((Below.refl _ _).alloc (Nat.le_refl _) _).alloc (by simp) _).alloc (by simp; omega) _⟩
    rw [fillTo_zero]
    have := BlkV.new 236 ((w.alloc (.cells S.toArray 152)).alloc (.cells Z.toArray 236)) (g := w.heap.size + 2) Z (by simp)
    rw [HZ'.out] at this ⊢
    exact this
  case round =>
    obtain ⟨k, hk, rfl, hS, hW, hR, hb⟩ := hrel
    by_cases h0 : k < 16
    · obtain ⟨a, HA⟩ : ∃ a, Hid (a = s.getD (4 * k) 0) := ⟨_, rfl⟩
      obtain ⟨b, HB⟩ : ∃ b, Hid (b = s.getD (4 * k + 1) 0) := ⟨_, rfl⟩
      obtain ⟨c, HC⟩ : ∃ c, Hid (c = s.getD (4 * k + 2) 0) := ⟨_, rfl⟩
      obtain ⟨d, HD⟩ : ∃ d, Hid (d = s.getD (4 * k + 3) 0) := ⟨_, rfl⟩
      have ha : Oct a := by rw [HA.out]; exact hs.getD _
      have hbo : Oct b := by rw [HB.out]; exact hs.getD _
      have hc : Oct c := by rw [HC.out]; exact hs.getD _
      have hd : Oct d := by rw [HD.out]; exact hs.getD _
      have hAt : At wr ⟨w.heap.size, 4 * k, none⟩ ([a, b, c, d].map (Value.int .u8)) := at_ints (l := s) (by rw [← HS.out]; exact hS) _ _ fun j hj => by
        match j, hj with
        | 0, _ => exact ⟨by rw [HL.out]; omega, HA.out⟩
        | 1, _ => exact ⟨by rw [HL.out]; omega, HB.out⟩
        | 2, _ => exact ⟨by rw [HL.out]; omega, HC.out⟩
        | 3, _ => exact ⟨by rw [HL.out]; omega, HD.out⟩
      have hal : Try.prog.arrayLen 152 = 64 := by kernel_rfl
      have hAA := run_arrayAt4
      have hb1 : (0 : Int) ≤ 4 * (k : Int) := by omega
      have hb2 : 4 * (k : Int) ≤ 4 * (k : Int) + 4 := by omega
      have hb3 : 4 * (k : Int) + 4 ≤ 64 := by omega
      have hSl : Hid (S.length = 64) := by show S.length = 64; rw [HS.out, List.length_map, HL.out]
      go_wp2_with (first | (refine wl_load rfl 204 _ rfl ⟨w.heap.size, 4 * k, none⟩ rfl ([a, b, c, d].map (Value.int .u8)) agg4 hAt ?_))
      refine (word a b c d wr ha hbo hc hd).mono ?_
      rintro e wn ⟨rfl, hbn⟩
      have hfr := (hW.below hbn hW.lt).frozen k
      have hWn := hW.below hbn hW.lt
      have hcell := hWn.cell (i := k) (by rw [fillTo_length _ _ _ (by omega)]; exact h0)
      have hST := hWn.set k (w4 a b c d)
      go_wp2
      go_roundw
      case rel => exact ⟨k + 1, by omega, by go_num, (hS.below hbn hS.lt).other (by simp; omega) _, by rw [← fillTo_set _ _ _ h0, ← HA.out, ← HB.out, ← HC.out, ← HD.out]; exact hST, (hR.below hbn hR.lt).other (by simp) _, (hb.trans (hbn.mono hb.size)).setCell (by simp; omega) _⟩
      case measure => simp [intOf] <;> omega
    · obtain rfl : k = 16 := by omega
      rw [fillTo_all] at hW
      have hWl := wordsL_length s 16
      obtain ⟨R, HR⟩ : ∃ R, Hid (R = (wordsL s 16).map (Value.int .u32)) := ⟨_, rfl⟩
      have hWv : BlkV 236 wr (w.heap.size + 2) R := by rw [HR.out]; exact BlkI.v hW
      have hRl : R.length = 16 := by rw [HR.out, List.length_map, hWl]
      have hR1 : ∀ u ∈ R, u.oneCell' = true := by rw [HR.out]; exact ints_one _ _
      have hZl : Z.length = 16 := by rw [HZ'.out]; simp
      have HRL := hid hRl
      have HZL := hid hZl
      clear hW hRl hZl hWl
      go_wp2_with (first | (refine wl_load rfl 236 _ rfl ⟨w.heap.size + 2, 0, none⟩ rfl R (by rw [HRL.out]; exact agg16) hWv.at0 ?_) | (refine wl_storeAll rfl 236 _ _ rfl 236 (w.heap.size + 1) rfl R rfl 16 agg16 HRL.out Z hR HZL.out hR1 ?_; intro hRR))
      (try simp only [Exit.inBlock, Exit.then]); refine bodyPost_ret (results_cell rfl _ _ _ _ rfl R (by rw [HRL.out]; exact agg16) hRR.at0) rfl ?_
      exact ⟨by rw [HR.out], below_setRow' hb (by omega) _⟩
end Go.Proofs.Ytbljihhelladbaa.st
/- Contracts of mix.stateOf, keyref1.words and octets. Condition: octets. -/
namespace Go.Proofs.Ytbljihhelladbaa.st
open Go.RowKit
set_option pp.maxSteps 4000
theorem run_index1 {P : Program} (w : World) (t e : TypeId) (n : Nat) (ht : P.underlying t = some (.array n e)) (k : IntKind) (he : P.underlying e = some (.int k)) (hs : (P.info? e).map (·.size) = some 1) (cs : List Value) (i : Nat) (hi : i < n) (v : Value) (hv : cs[i]? = some v) :
    (Instr.index t (.agg cs.toArray) (.int .i64 i)).run P w = .ok v w := by
  obtain ⟨f, hf, hf2⟩ := Option.map_eq_some_iff.1 hs
  simp [Instr.index, asIntOf, run_underlying ht, sizeOf, typeInfo, hf, hf2, Result.andThen, part, isAgg, run_underlying he, hi, hv]
theorem size5 : (Try.prog.info? 5).map (·.size) = some 1 := by kernel_rfl
theorem size174 : (Try.prog.info? 165).map (·.size) = some 1 := by kernel_rfl
theorem fillTo_splice (k : IntKind) (f : Nat → Int) (n m : Nat) (ds : List Int) (h : m + ds.length ≤ n) (hd : ∀ j, j < ds.length → ds.getD j 0 = f (m + j)) :
    splice ((fillTo f n m).map (Value.int k)) m (ds.map (Value.int k)) = (fillTo f n (m + ds.length)).map (Value.int k) := by
  unfold splice
  rw [← List.map_take, List.length_map, ← List.map_drop, ← List.map_append, ← List.map_append]
  congr 1
  apply List.ext_getElem?
  intro i
  rw [fillTo_get]
  by_cases h1 : i < m
  · rw [List.getElem?_append_left (by rw [List.length_take, fillTo_length _ _ _ (by omega)]; omega), List.getElem?_take, if_pos h1, fillTo_get, if_pos h1, if_pos (by omega)]
  · have hlt : ((fillTo f n m).take m).length = m := by rw [List.length_take, fillTo_length _ _ _ (by omega)]; omega
    rw [List.getElem?_append_right (by omega), hlt]
    by_cases h2 : i < m + ds.length
    · rw [List.getElem?_append_left (by omega), if_pos h2, List.getElem?_eq_getElem (by omega)]
      have := hd (i - m) (by omega)
      rw [getD_lt' _ _ (by omega), show m + (i - m) = i by omega] at this
      rw [this]
    · rw [List.getElem?_append_right (by omega), List.getElem?_drop, fillTo_get, if_neg (by omega), if_neg h2, show m + ds.length + (i - m - ds.length) = i by omega]
      by_cases h3 : i < n
      · rw [if_pos (by omega), if_pos (by omega)]
      · rw [if_neg (by omega), if_neg (by omega)]
theorem zero4 : (Try.prog.info? 204).map (·.zero) = some (some (.agg ((List.replicate 4 (0 : Int)).map (Value.int .u8)).toArray)) := by kernel_rfl
theorem o4_length (n : Int) : (o4 n).length = 4 := rfl
set_option maxRecDepth 100000 in
set_option maxHeartbeats 1000000 in
theorem stateOf (ws : List Int) (w : World) (hl : ws.length = 16) :
    Calls Try.prog 231 #[.agg (ws.map (Value.int .u32)).toArray] w fun e w' => e = .returned (.agg ((octL ws 64).map (Value.int .u8)).toArray) ∧ Below w.heap.size w w' := by
  have HL := hid hl
  have HZ := hid zero64
  obtain ⟨Z, HZ'⟩ : ∃ Z, Hid (Z = (List.replicate 64 (0 : Int)).map (Value.int .u8)) := ⟨_, rfl⟩
  rw [← HZ'.out] at HZ
  obtain ⟨S, HS⟩ : ∃ S, Hid (S = ws.map (Value.int .u32)) := ⟨_, rfl⟩
  rw [← HS.out]
  have HSL : Hid (S.length = 16) := by show S.length = 16; rw [HS.out, List.length_map, HL.out]
  clear hl
  go_enter Try.func231, Try.ntmps231
  go_wp2_with (first | (refine wl_alloc rfl 152 rfl Z HZ.out ?_) | (refine wl_load rfl 236 _ rfl ⟨w.heap.size, 0, none⟩ rfl S (by rw [HSL.out]; exact agg16) ((BlkV.new _ w S rfl).alloc _ |>.alloc _).at0 ?_))
  go_loopw [8] (fun i wr => ∃ k : Nat, k ≤ 16 ∧ i = .int .i64 k ∧ BlkV 152 wr (w.heap.size + 2) ((fillTo (fun i => (o4 (ws.getD (i / 4) 0)).getD (i % 4) 0) 64 (4 * k)).map (Value.int .u8)) ∧ BlkV 152 wr (w.heap.size + 1) Z ∧ Below w.heap.size w wr) (fun i _ => 16 - (intOf i).toNat)
  case atStart =>
    refine ⟨0, by omega, rfl, ?_, (BlkV.new _ _ Z (by simp)).alloc _, (((Below.refl _ _).alloc (Nat.le_refl _) _).alloc (by simp) _).alloc (by simp; omega) _⟩
    rw [fillTo_zero, ← HZ'.out]
    exact BlkV.new _ _ Z (by simp)
  case round =>
    obtain ⟨k, hk, rfl, hW, hR, hb⟩ := hrel
    by_cases h0 : k < 16
    · obtain ⟨c, HC⟩ : ∃ c, Hid (c = ws.getD k 0) := ⟨_, rfl⟩
      have hSk : S[k]? = some (.int .u32 c) := by rw [HS.out, List.getElem?_map, List.getElem?_eq_getElem (by rw [HL.out]; exact h0), HC.out, getD_lt' ws 0 (by rw [HL.out]; exact h0)]; rfl
      have hIX := fun w => run_index1 (P := Try.prog) w 236 165 16 Try.underlying236 .u32 Try.underlying165 size174 S k h0 _ hSk
      have hal : Try.prog.arrayLen 152 = 64 := by kernel_rfl
      have hal4 : Try.prog.arrayLen 204 = 4 := by kernel_rfl
      go_wp2_with fail
      refine (octets c wr).mono ?_
      rintro e wn ⟨rfl, hbn⟩
      obtain ⟨O, HO⟩ : ∃ O, Hid (O = (o4 c).map (Value.int .u8)) := ⟨_, rfl⟩
      rw [← HO.out]
      obtain ⟨Z4, HZ4⟩ : ∃ Z4, Hid (Z4 = (List.replicate 4 (0 : Int)).map (Value.int .u8)) := ⟨_, rfl⟩
      have hz4 := zero4
      rw [← HZ4.out] at hz4
      have HZ4' := hid hz4
      have HOL : Hid (O.length = 4) := by show O.length = 4; rw [HO.out]; rfl
      have hO1 : ∀ u ∈ O, u.oneCell' = true := by rw [HO.out]; exact ints_one _ _
      have hWn := hW.below hbn hW.lt
      have hRn := hR.below hbn hR.lt
      have hbb := hb.trans (hbn.mono hb.size)
      clear hz4 hW hR
      go_wp2_with (first | (refine wl_alloc rfl 204 rfl Z4 HZ4'.out ?_) | (refine wl_storeAll rfl 204 _ _ rfl 204 wn.heap.size rfl O rfl 4 agg4 HOL.out Z4 (BlkV.new _ wn Z4 rfl) (by rw [HZ4.out]; rfl) hO1 ?_; intro hOO))
      have hWS := (hWn.alloc (.cells Z4.toArray 204)).otherRow (g' := wn.heap.size) (by have := hWn.lt; omega) O.toArray
      have hRS := (hRn.alloc (.cells Z4.toArray 204)).otherRow (g' := wn.heap.size) (by have := hRn.lt; omega) O.toArray
      have hbS := below_setRow' (hbb.alloc hbb.size (.cells Z4.toArray 204)) hbb.size O.toArray
      obtain ⟨gO, HgO⟩ : ∃ gO, Hid (gO = wn.heap.size) := ⟨_, rfl⟩
      have hgW : gO ≠ w.heap.size + 2 := by rw [HgO.out]; have := hWn.lt; omega
      have hgR : gO ≠ w.heap.size + 1 := by rw [HgO.out]; have := hRn.lt; omega
      rw [← HgO.out] at hWS hRS hbS hOO ⊢
      generalize (wn.alloc (.cells Z4.toArray 204)).setRow gO O.toArray = wS at *
      clear hWn hRn hbb hbn HgO
      obtain ⟨L, HLL⟩ : ∃ L, Hid (L = (fillTo (fun i => (o4 (ws.getD (i / 4) 0)).getD (i % 4) 0) 64 (4 * k)).map (Value.int .u8)) := ⟨_, rfl⟩
      rw [← HLL.out] at hWS
      have HLn : Hid (L.length = 64) := by show L.length = 64; rw [HLL.out, List.length_map, fillTo_length _ _ _ (by omega)]
      have hb1 : (0 : Int) ≤ 4 * (k : Int) := by omega
      have hb3 : 4 * (k : Int) ≤ 64 := by omega
      have hnn : (4 * (k : Int)).toNat = 4 * k := by omega
      have hmin : O.length = Nat.min 4 (64 - 4 * k) := by rw [HOL.out]; exact (Nat.min_eq_left (by omega)).symm
      have hfit : 4 * k + O.length ≤ L.length := by rw [HOL.out, HLn.out]; omega
      have hwr : IntKind.i64.wrap (4 * (k : Int)) = 4 * (k : Int) := IntWalk.i64_in _ (by omega)
      have hne : ¬ 64 = 4 * k := by omega
      go_region_law (refine step_copy_splice rfl (.tmp 16) (.tmp 17) 69 69 rfl 5 Try.underlying69 size5 (some ⟨w.heap.size + 2, 4 * k, none⟩) (some ⟨gO, 0, none⟩) (64 - 4 * k) (64 - 4 * k) 4 4 rfl rfl (w.heap.size + 2) (4 * k) L 152 hWS O hmin (fun _ => ⟨rfl, _, rfl, hOO.at0⟩) hfit hO1 (w.heap.size + 2) wS ((Below.refl _ _).drew) (Nat.le_refl _) ?_; intro w4 hg4 hb4)
      have hW4 : BlkV 152 w4 (w.heap.size + 2) ((fillTo (fun i => (o4 (ws.getD (i / 4) 0)).getD (i % 4) 0) 64 (4 * (k + 1))).map (Value.int .u8)) := by
        have := hg4.out
        rw [HLL.out, HO.out, fillTo_splice _ _ _ _ _ (by rw [o4_length]; omega) (fun j hj => by
          rw [o4_length] at hj
          rw [show (4 * k + j) / 4 = k by omega, show (4 * k + j) % 4 = j by omega, ← HC.out])] at this
        exact this
      have hR4 := hRS.below hb4 (by omega)
      go_wp2
      go_roundw
      case rel => exact ⟨k + 1, by omega, by go_num, hW4, hR4, hbS.trans (hb4.mono (by omega))⟩
      case measure => simp [intOf] <;> omega
    · obtain rfl : k = 16 := by omega
      rw [fillTo_all] at hW
      obtain ⟨R, HR⟩ : ∃ R, Hid (R = (octL ws 64).map (Value.int .u8)) := ⟨_, rfl⟩
      have hWv : BlkV 152 wr (w.heap.size + 2) R := by rw [HR.out]; exact hW
      have HRL : Hid (R.length = 64) := by show R.length = 64; rw [HR.out, List.length_map, octL_length]
      have hR1 : ∀ u ∈ R, u.oneCell' = true := by rw [HR.out]; exact ints_one _ _
      have HZL : Hid (Z.length = 64) := by show Z.length = 64; rw [HZ'.out, List.length_map, List.length_replicate]
      clear hW
      go_wp2_with (first | (refine wl_load rfl 152 _ rfl ⟨w.heap.size + 2, 0, none⟩ rfl R (by rw [HRL.out]; exact agg64) hWv.at0 ?_) | (refine wl_storeAll rfl 152 _ _ rfl 152 (w.heap.size + 1) rfl R rfl 64 agg64 HRL.out Z hR HZL.out hR1 ?_; intro hRR))
      (try simp only [Exit.inBlock, Exit.then]); refine bodyPost_ret (results_cell rfl _ _ _ _ rfl R (by rw [HRL.out]; exact agg64) hRR.at0) rfl ?_
      exact ⟨by rw [HR.out], below_setRow' hb (by omega) _⟩
end Go.Proofs.Ytbljihhelladbaa.st
/- Contracts of keyref1.words and octets. Condition: octets. -/
namespace Go.Proofs.Ytbljihhelladbaa.st
open Go.RowKit
set_option pp.maxSteps 4000
end Go.Proofs.Ytbljihhelladbaa.st
namespace Go.Proofs.Ytbljihhelladbaa.st
set_option linter.unusedSimpArgs false
set_option linter.unusedVariables false
open Go.RowKit
set_option pp.maxSteps 4000
/-- what is added to a word -/
def addend (r i : Nat) (c : Int) : Int := bits .xor .u32 (rotl c (5 + i)) (2654435769 * ((16 * r + i + 1 : Nat) : Int) % 4294967296)
theorem rotR' (x : Int) (k : Nat) (K : Int) (hK : K = k) (w : World) (h : k < 32) (hx : W32 x) : Calls Try.prog 230 #[.int .u32 x, .int .i64 K] w fun e w' => e = .returned (.int .u32 (rotl x k)) ∧ w' = w := by
  subst hK; exact (rotR x k w h hx).mono fun e w' h => ⟨h.1, h.2.symm⟩
theorem turnM (g : Nat) (ws : List Int) (r i : Nat) (w : World) (hl : ws.length = 16) (hw : AllW ws) (hg : BlkI .u32 236 w g ws) (hr : r < 8) (hi : i < 16) :
    Calls Try.prog 229 #[.pointer (some ⟨g, 0, none⟩), .int .i64 r, .int .i64 i] w fun e w' => e = .returned (.int .u32 (addend r i (ws.getD ((i + 1 + r) % 16) 0))) ∧ w' = w := by
  obtain ⟨j, HJ⟩ : ∃ j, Hid (j = (i + 1 + r) % 16) := ⟨_, rfl⟩
  have hj : j < 16 := by rw [HJ.out]; omega
  obtain ⟨c, HC, hcell⟩ := hg.elem (i := j) (by omega)
  have hc : W32 c := by rw [HC.out]; exact hw.getD j
  have hd : ((i : Int) + 1 + (r : Int)).tmod 16 = j := by rw [Int.tmod_eq_emod_of_nonneg (by omega), HJ.out]; omega
  go_enter Try.func229, Try.ntmps229
  go_wp2_with fail
  refine (rotR' c (5 + i) _ (by omega) w (by omega) hc).mono ?_
  rintro e wn ⟨rfl, rfl⟩
  go_wp2
  go_ret
  refine ⟨rv (ri ?_), rfl⟩
  unfold addend
  rw [← HJ.out, ← HC.out]
  congr 1
theorem addW_eq (r i : Nat) (w : List Int) : addW r i w = w.set i ((w.getD i 0 + addend r i (w.getD ((i + 1 + r) % 16) 0)) % 4294967296) := rfl
theorem wordsL_w {s : List Int} (hs : Octs s) : AllW (wordsL s 16) := by
  intro c hc
  unfold wordsL at hc
  obtain ⟨i, _, rfl⟩ := List.mem_map.1 hc
  exact w32_w4 (hs.getD _) (hs.getD _) (hs.getD _) (hs.getD _)
set_option maxRecDepth 100000 in
set_option maxHeartbeats 2000000 in
theorem stirM (s : List Int) (w : World) (hl : s.length = 64) (hs : Octs s) :
    Calls Try.prog 217 #[.agg (s.map (Value.int .u8)).toArray] w fun e w' => e = .returned (.agg ((stirL s).map (Value.int .u8)).toArray) ∧ Below w.heap.size w w' := by
  have HL := hid hl
  have HZ := hid zero16
  have HY := hid zero64
  obtain ⟨Z, HZ'⟩ : ∃ Z, Hid (Z = (List.replicate 16 (0 : Int)).map (Value.int .u32)) := ⟨_, rfl⟩
  obtain ⟨Y, HY'⟩ : ∃ Y, Hid (Y = (List.replicate 64 (0 : Int)).map (Value.int .u8)) := ⟨_, rfl⟩
  rw [← HZ'.out] at HZ
  rw [← HY'.out] at HY
  obtain ⟨S, HS⟩ : ∃ S, Hid (S = s.map (Value.int .u8)) := ⟨_, rfl⟩
  rw [← HS.out]
  have HSL : Hid (S.length = 64) := by show S.length = 64; rw [HS.out, List.length_map, HL.out]
  have HYL : Hid (Y.length = 64) := by show Y.length = 64; rw [HY'.out, List.length_map, List.length_replicate]
  have HZL : Hid (Z.length = 16) := by show Z.length = 16; rw [HZ'.out, List.length_map, List.length_replicate]
  clear hl
  go_enter Try.func217, Try.ntmps217
  go_wp2_with (first | (refine wl_alloc rfl 152 rfl Y HY.out ?_) | (refine wl_load rfl 152 _ rfl ⟨w.heap.size, 0, none⟩ rfl S (by rw [HSL.out]; exact agg64) ((BlkV.new _ w S rfl).alloc _).at0 ?_))
  rw [HS.out]
  refine (wordsOf s _ HL.out hs).mono ?_
  rintro e w1 ⟨rfl, hb1⟩
  rw [← HS.out] at hb1 ⊢
  obtain ⟨V, HV⟩ : ∃ V, Hid (V = wordsL s 16) := ⟨_, rfl⟩
  rw [← HV.out]
  have hVl : V.length = 16 := by rw [HV.out, wordsL_length]
  have hVw : AllW V := by rw [HV.out]; exact wordsL_w hs
  have HVL := hid hVl
  obtain ⟨VV, HVV⟩ : ∃ VV, Hid (VV = V.map (Value.int .u32)) := ⟨_, rfl⟩
  rw [← HVV.out]
  have HVVL : Hid (VV.length = 16) := by show VV.length = 16; rw [HVV.out, List.length_map, HVL.out]
  have hVV1 : ∀ u ∈ VV, u.oneCell' = true := by rw [HVV.out]; exact ints_one _ _
  have hR0 := (BlkV.new 152 (w.alloc (.cells S.toArray 152)) (g := w.heap.size + 1) Y (by simp)).below hb1 (by simp)
  have bA : Below w.heap.size w w1 := (((Below.refl w.heap.size w).alloc (Nat.le_refl _) _).alloc (by simp) _).trans (hb1.mono (by simp; omega))
  have hsz := hb1.size
  simp only [World.alloc, Array.size_push] at hsz
  clear hVl hb1
  go_wp2_with (first | (refine wl_alloc rfl 236 rfl Z HZ.out ?_) | (refine wl_storeAll rfl 236 _ _ rfl 236 w1.heap.size rfl VV rfl 16 agg16 HVVL.out Z (BlkV.new _ w1 Z rfl) HZL.out hVV1 ?_; intro hW0))
  obtain ⟨g3, Hg3⟩ : ∃ g3, Hid (g3 = w1.heap.size) := ⟨_, rfl⟩
  have hR1 := (hR0.alloc (.cells Z.toArray 236)).otherRow (g' := w1.heap.size) (by omega) VV.toArray
  have bB := below_setRow' (bA.alloc bA.size (.cells Z.toArray 236)) bA.size VV.toArray
  have hgg : w.heap.size + 1 < g3 := by rw [Hg3.out]; omega
  have hW1 : BlkI .u32 236 ((w1.alloc (.cells Z.toArray 236)).setRow w1.heap.size VV.toArray) w1.heap.size (roundTo V 0) := by rw [HVV.out] at hW0 ⊢; exact hW0
  rw [← Hg3.out] at hR1 bB hW1 ⊢
  generalize (w1.alloc (.cells Z.toArray 236)).setRow g3 VV.toArray = w2 at *
  clear hR0 bA hsz hW0 Hg3
  go_loopw [8] (fun r wr => ∃ k : Nat, k ≤ 8 ∧ r = .int .i64 k ∧ BlkI .u32 236 wr g3 (roundTo V k) ∧ BlkV 152 wr (w.heap.size + 1) Y ∧ Below w.heap.size w wr) (fun r _ => 8 - (intOf r).toNat)
  case atStart => exact ⟨0, by omega, rfl, hW1, hR1, bB⟩
  case round =>
    obtain ⟨r, hr, rfl, hW, hR, hb⟩ := hrel
    by_cases h0 : r < 8
    · have hdr : decide ((r : Int) < 8) = true := by simp; omega
      go_wp2_with fail
      go_loopw [11] (fun i wr => ∃ k : Nat, k ≤ 16 ∧ i = .int .i64 k ∧ BlkI .u32 236 wr g3 (stepTo r (roundTo V r) k) ∧ BlkV 152 wr (w.heap.size + 1) Y ∧ Below w.heap.size w wr) (fun i _ => 16 - (intOf i).toNat)
      case atStart => exact ⟨0, by omega, rfl, hW, hR, hb⟩
      case round =>
        obtain ⟨i, hi, rfl, hWi, hRi, hbi⟩ := hrel
        by_cases h1 : i < 16
        · obtain ⟨U, HU⟩ : ∃ U, Hid (U = stepTo r (roundTo V r) i) := ⟨_, rfl⟩
          rw [← HU.out] at hWi
          have hUl : U.length = 16 := by rw [HU.out, stepTo_length, roundTo_length, HVL.out]
          have hUw : AllW U := by rw [HU.out]; exact stepTo_w (roundTo_w hVw r) r i
          obtain ⟨c, HC, hcell⟩ := hWi.elem (i := i) (by omega)
          have hfz := hWi.frozen i
          obtain ⟨A, HA⟩ : ∃ A, Hid (A = addend r i (U.getD ((i + 1 + r) % 16) 0)) := ⟨_, rfl⟩
          obtain ⟨D, HD⟩ : ∃ D, Hid (D = (c + A) % 4294967296) := ⟨_, rfl⟩
          have hT := hid (turnM g3 U r i wr.drew hUl hUw hWi.drew h0 h1)
          rw [← HA.out] at hT
          obtain ⟨U1, HU1⟩ : ∃ U1, Hid (U1 = addW r i U) := ⟨_, rfl⟩
          have hU1l : U1.length = 16 := by rw [HU1.out, addW_eq, List.length_set, hUl]
          have hU1w : AllW U1 := by rw [HU1.out]; exact addW_w hUw r i
          have hW1i : BlkI .u32 236 (wr.setCell ⟨g3, i, none⟩ (.int .u32 D)).drew g3 U1 := by
            rw [HU1.out, addW_eq, ← HA.out, ← HC.out, ← HD.out]
            exact (hWi.set i D).drew
          have hR1i := (hRi.other (a := ⟨g3, i, none⟩) (by simp; omega) (.int .u32 D)).drew
          have hb1i := (hbi.setCell (p := ⟨g3, i, none⟩) (by simp; omega) (.int .u32 D)).drew
          obtain ⟨j, HJ⟩ : ∃ j, Hid (j = (i + 9) % 16) := ⟨_, rfl⟩
          have hj : j < 16 := by rw [HJ.out]; omega
          obtain ⟨x, HX, hcx⟩ := hW1i.elem (i := j) (by omega)
          obtain ⟨y, HY1, hcy⟩ := hW1i.elem (i := i) (by omega)
          have hfx := hW1i.frozen j
          have hyw : W32 y := by rw [HY1.out]; exact hU1w.getD i
          have hXW : BlkI .u32 236 ((wr.setCell ⟨g3, i, none⟩ (.int .u32 D)).drew.setCell ⟨g3, j, none⟩ (.int .u32 (bits .xor .u32 x (rotl y 11)))) g3 (stepTo r (roundTo V r) (i + 1)) := by
            have := hW1i.set j (bits .xor .u32 x (rotl y 11))
            have e : U1.set j (bits .xor .u32 x (rotl y 11)) = stepTo r (roundTo V r) (i + 1) := by rw [HX.out, HY1.out, HJ.out, HU1.out, HU.out]; rfl
            rw [e] at this
            exact this
          have hXR := hR1i.other (a := ⟨g3, j, none⟩) (by simp; omega) (.int .u32 (bits .xor .u32 x (rotl y 11)))
          have hXb := hb1i.setCell (p := ⟨g3, j, none⟩) (by simp; omega) (.int .u32 (bits .xor .u32 x (rotl y 11)))
          have hwrap : IntKind.u32.wrap (c + A) = D := by rw [IntKind.wrap_u32', HD.out]
          have hjI : (j : Int) < 16 := by omega
          have hw9 : IntKind.i64.wrap ((i : Int) + 9) = (i : Int) + 9 := IntWalk.i64_in _ (by omega)
          have hd9 : ((i : Int) + 9).tmod 16 = j := by rw [Int.tmod_eq_emod_of_nonneg (by omega), HJ.out]; omega
          clear hW1i hR1i hb1i hUl hU1l hU1w hUw hWi hRi hbi
          go_wp2_with fail
          refine wp_region_still_tail 7 (by kernel_rfl) (by kernel_rfl) ?_
          simp only [List.take_succ_cons, List.take_zero, List.drop_succ_cons, List.drop_zero]
          change wpStill _ _ wr.drew (fun a' => wpList _ _ _ _ a' wr.drew) _ _
          repeat still_step
          still_call hT.out
          repeat still_step
          refine wpStill_nil ?_
          go_wp2_with fail
          clear hcell hfz
          generalize (wr.setCell ⟨g3, i, none⟩ (.int .u32 D)).drew = wq at *
          refine wp_region_still_tail 10 (by kernel_rfl) (by kernel_rfl) ?_
          simp only [List.take_succ_cons, List.take_zero, List.drop_succ_cons, List.drop_zero]
          change wpStill _ _ wq.drew (fun a' => wpList _ _ _ _ a' wq.drew) _ _
          repeat still_step
          still_call (rotR' y 11 11 rfl wq.drew (by decide) hyw)
          repeat still_step
          refine wpStill_nil ?_
          go_wp2_with fail
          go_roundw
          case rel => exact ⟨i + 1, by omega, by go_num, hXW, hXR, hXb.drew⟩
          case measure => simp [intOf] <;> omega
        · obtain rfl : i = 16 := by omega
          go_wp2_with fail
          go_roundw
          case rel => exact ⟨r + 1, by omega, by go_num, hWi, hRi, hbi⟩
          case measure => simp [intOf] <;> omega
    · obtain rfl : r = 8 := by omega
      obtain ⟨X, HX⟩ : ∃ X, Hid (X = roundTo V 8) := ⟨_, rfl⟩
      have HXL : Hid (X.length = 16) := by show X.length = 16; rw [HX.out, roundTo_length, HVL.out]
      have hWv : BlkV 236 wr g3 (X.map (Value.int .u32)) := by rw [HX.out]; exact BlkI.v hW
      clear hW
      go_wp2_with (first | (refine wl_load rfl 236 _ rfl ⟨g3, 0, none⟩ rfl (X.map (Value.int .u32)) (by rw [List.length_map, HXL.out]; exact agg16) hWv.at0 ?_))
      refine (stateOf X _ HXL.out).mono ?_
      rintro e w5 ⟨rfl, hb5⟩
      obtain ⟨R, HR⟩ : ∃ R, Hid (R = (octL X 64).map (Value.int .u8)) := ⟨_, rfl⟩
      have HRL : Hid (R.length = 64) := by show R.length = 64; rw [HR.out, List.length_map, octL_length]
      have hR1 : ∀ u ∈ R, u.oneCell' = true := by rw [HR.out]; exact ints_one _ _
      have hR5 := hR.below hb5 hR.lt
      have hbb := hb.trans (hb5.mono hb.size)
      rw [← HR.out]
      go_wp2_with (first | (refine wl_storeAll rfl 152 _ _ rfl 152 (w.heap.size + 1) rfl R rfl 64 agg64 HRL.out Y hR5 HYL.out hR1 ?_; intro hRR))
      (try simp only [Exit.inBlock, Exit.then]); refine bodyPost_ret (results_cell rfl _ _ _ _ rfl R (by rw [HRL.out]; exact agg64) hRR.at0) rfl ?_
      exact ⟨by rw [HR.out, HX.out, HV.out]; rfl, below_setRow' hbb (by omega) _⟩
end Go.Proofs.Ytbljihhelladbaa.st
