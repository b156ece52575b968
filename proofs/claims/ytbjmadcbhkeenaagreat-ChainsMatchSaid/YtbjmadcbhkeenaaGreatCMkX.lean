/-
  Shares as octets: Print, ShareOctets, Mark, MarkOf, strings. Conditions: as each theorem says.
-/
import Derived.Test.YtbjmadcbhkeenaaGreatCHsZ
import Derived.Lib.SlBytesConst
import Derived.ArgAppend
import Derived.Laws.BytesArg
set_option maxRecDepth 100000
set_option linter.unusedSimpArgs false
set_option linter.unusedVariables false
namespace Go.Proofs.YtbjmadcbhkeenaaGreat.shr
open Go.RowKit sh st hs
def o2 (n : Int) : List Int := [n / 256 % 256, n % 256]
theorem wl_boxV {P : Program} {w : World} {ops : Array Oper} {rest : List Oper} {o : Oper} {a : Act} {Q : Exit → Act → World → Prop} (hgd : o.guard = none) (t : TypeId) (x : Operand) (ho : o.op = .box t x)
  (cs : List Value) (hx : a.eval x = .agg cs.toArray) (N : Nat) (hN : w.heap.size = N)
  (h : ∀ w', BlkV t w' N cs → Below N w w' → w'.heap.size = N + 1 → wpList P ops Q rest (a.put o.dst (.pointer (some ⟨N, 0, none⟩))) w') : wpList P ops Q (o :: rest) a w := by
 subst hN
 refine wpList_plain hgd fun K hK' => ?_
 unfold Oper.wp
 simp [execOp, ho, hx, Instr.box, newVar, newRow, Value.cells, Result.andThen]
 exact hK' _ _ (h _ (BlkV.new t w cs rfl) ((Below.refl _ _).alloc (Nat.le_refl _) _) (by simp))
theorem wl_appendArg {w : World} {ops : Array Oper} {rest : List Oper} {o : Oper} {a : Act} {Q : Exit → Act → World → Prop} (hgd : o.guard = none) (s x : Operand)
  (ho : o.op = .call { callee := .builtin .append, args := #[s, x], argTypes := #[25, 25] }) (b : Addr) (n cap : Nat) (hs : a.eval s = .slice (some b) n cap) (olds : List Value) (hlo : olds.length = n * 1) (hat : At w b olds)
  (ad : Addr) (m c : Nat) (hx : a.eval x = .slice (some ad) m c) (news : List Value) (hl : news.length = m * 1) (hnews : At w ad news) (hg : cap < n + m) (hb : n + m ≤ 1099511627776) (base : Nat) (hbase : base ≤ w.heap.size) (N : Nat) (hN : N = n + m)
  (hK : ∀ ao' cap' w', N ≤ cap' → Mine w' base 5 1 (.slice ao' N cap') N (olds ++ news) → w.grownBy w' none → wpList Tryz.prog ops Q rest (a.put o.dst (.slice ao' N cap')) w') : wpList Tryz.prog ops Q (o :: rest) a w := by
 subst hN
 obtain ⟨i, hi, hz, hsi, hby⟩ := (info8 : Info Tryz.prog 5 (.int .u8 0) 1 1).parts
 obtain ⟨v', w', hrun, r1, r2⟩ := run_append_arg_grows (P := Tryz.prog) w 25 o.type 5 i (.int .u8 0) 1 1 Tryz.underlying25 hi hz hsi hby rfl (by decide) b n cap olds hlo hat ad m c news hl hnews hg (by unfold maxLen; omega) (by omega)
 have hM := Mine.mono (Or.inl r1) hbase
 obtain ⟨ao', cap', rfl, h2, h3⟩ := hM.row
 exact Lib.wpList_append_run w hgd s x _ _ ho _ _ hs hx _ _ hrun (hK ao' cap' w' h2 hM r2)
theorem at_marked {w : World} {t : TypeId} {fr : Nat × Nat} (cs : List Value) : At (w.alloc (.cells cs.toArray t fr)) ⟨w.heap.size, 0, none⟩ cs := by
 intro j u hu
 have e : (⟨w.heap.size, 0, none⟩ : Addr).add j = ⟨w.heap.size, j, none⟩ := by unfold Addr.add; split <;> simp_all
 rw [e, cell_of_row _ w.heap.size j cs.toArray t fr (by show (w.heap.push _)[w.heap.size]? = _; simp)]
 simpa using hu
end Go.Proofs.YtbjmadcbhkeenaaGreat.shr
namespace Go.Proofs.YtbjmadcbhkeenaaGreat.shr
open Go.RowKit sh st hs
def octTo (n : Int) (m j : Nat) : List Int := (List.range m).map fun i => if m - j ≤ i then n / 256 ^ (m - 1 - i) % 256 else 0
def octN (n : Int) (m : Nat) : List Int := octTo n m m
theorem octTo_length (n : Int) (m j : Nat) : (octTo n m j).length = m := by simp [octTo]
theorem octTo_zero (n : Int) (m : Nat) : octTo n m 0 = List.replicate m 0 := by
 apply List.ext_getElem
 ·simp [octTo]
 ·intro i h1 h2
  have : i < m := by simpa [octTo] using h1
  simp only [octTo, List.getElem_map, List.getElem_range, List.getElem_replicate]
  rw [if_neg (by omega)]
theorem octTo_set (n : Int) (m j p : Nat) (hp : p + 1 + j = m) : (octTo n m j).set p (n / 256 ^ j % 256) = octTo n m (j + 1) := by
 apply List.ext_getElem
 ·simp [octTo]
 ·intro i h1 h2
  have hi : i < m := by simpa [octTo] using h2
  rw [List.getElem_set]
  simp only [octTo, List.getElem_map, List.getElem_range]
  by_cases e : p = i
  ·subst e
   rw [if_pos rfl, if_pos (by omega), show m - 1 - p = j by omega]
  ·rw [if_neg e]
   by_cases h : m - j ≤ i
   ·rw [if_pos h, if_pos (by omega)]
   ·rw [if_neg h, if_neg (by omega)]
theorem octN_four (n : Int) : octN n 4 = o4 n := by
 unfold octN octTo o4
 simp [List.range_succ]
set_option maxHeartbeats 1000000 in
theorem Octets_any (n : Int) (m : Nat) (w : World) (hm : m ≤ 8) :
  Calls Tryz.prog 81 #[.int .i64 n, .int .i64 m] w fun e w' => e = .returned (.slice (some ⟨w.heap.size, 0, none⟩) m m) ∧ BlkI .u8 5 w' w.heap.size (octN n m) ∧ Below w.heap.size w w' := by
 have e1 : IntKind.i64.wrap ((m : Int) - 1) = (m : Int) - 1 := IntWalk.i64_in _ (by omega)
 go_enter Tryz.func81, Tryz.ntmps81
 go_wp2_with (first | (refine wl_makeO rfl _ _ rfl m (by omega) rfl rfl w.heap.size rfl ?_; intro w1 hM1 hb1 hs1))
 go_loopw [0, 6] (fun v i wr => ∃ j : Nat, j ≤ m ∧ v = .int .i64 (n / 256 ^ j) ∧ i = .int .i64 ((m : Int) - 1 - j) ∧ BlkI .u8 5 wr w.heap.size (octTo n m j) ∧ Below w.heap.size w wr) (fun _ i _ => (intOf i + 1).toNat)
 case atStart => exact ⟨0, by omega, by simp, by simp, by rw [octTo_zero]; exact hM1, hb1⟩
 case round =>
  obtain ⟨j, hj, rfl, rfl, hW, hb⟩ := hrel
  by_cases h0 : j < m
  ·obtain ⟨p, hp⟩ : ∃ p : Nat, p + 1 + j = m := ⟨m - 1 - j, by omega⟩
   have ep : (m : Int) - 1 - j = (p : Int) := by omega
   obtain ⟨v, HV⟩ : ∃ v, Hid (v = n / 256 ^ j) := ⟨_, rfl⟩
   rw [ep, ← HV.out]
   have hpI : (0 : Int) ≤ (p : Int) := by omega
   have hpm : (p : Int) < (m : Int) := by omega
   have hpmn : p < m := by omega
   have hf := hW.frozen p
   have hc := hW.cell (i := p) (by rw [octTo_length]; omega)
   have hST := hW.set p (n / 256 ^ j % 256)
   rw [octTo_set n m j p hp, ← HV.out] at hST
   have e2 : IntKind.i64.wrap ((p : Int) - 1) = (p : Int) - 1 := IntWalk.i64_in _ (by omega)
   go_wp2
   go_roundw
   case rel =>
    refine ⟨j + 1, by omega, ?_, ?_, hST, hb.setCell (Nat.le_refl _) _⟩
    ·rw [HV.out, Int.ediv_ediv_of_nonneg (by have h := Int.natCast_nonneg (256 ^ j); rwa [Int.natCast_pow] at h), ← Int.pow_succ]
    ·congr 1; omega
   case measure => simp [intOf] <;> omega
  ·obtain rfl : j = m := by omega
   have em : (j : Int) - 1 - j = -1 := by omega
   rw [em]
   go_wp2
   go_ret
   exact ⟨rfl, hW, hb⟩
def numL (l : List Int) : Int := l.foldl (fun n o => 256 * n + o) 0
theorem numL_snoc (l : List Int) (k : Nat) (h : k < l.length) : numL (l.take (k + 1)) = 256 * numL (l.take k) + l.getD k 0 := by
 unfold numL
 rw [List.take_succ_eq_append_getElem h, List.foldl_append, getD_lt' l 0 h]; rfl
theorem numL_bound (l : List Int) (h : Octs l) (k : Nat) (hk : k ≤ 6) : 0 ≤ numL (l.take k) ∧ numL (l.take k) < 281474976710656 := by
 have key : ∀ k, k ≤ 6 → 0 ≤ numL (l.take k) ∧ numL (l.take k) < 256 ^ k := by
  intro k
  induction k with
  | zero => intro _; simp [numL]
  | succ k ih =>
   intro hk
   have h1 := ih (by omega)
   by_cases hl : k < l.length
   ·rw [numL_snoc l k hl]
    have h2 := h.getD k
    have h3 : (256 : Int) ^ (k + 1) = 256 ^ k * 256 := Int.pow_succ _ _
    unfold Oct at h2
    omega
   ·rw [List.take_of_length_le (by omega)]
    rw [List.take_of_length_le (by omega)] at h1
    have h3 : (256 : Int) ^ (k + 1) = 256 ^ k * 256 := Int.pow_succ _ _
    omega
 have h1 := key k hk
 refine ⟨h1.1, ?_⟩
 have : k = 0 ∨ k = 1 ∨ k = 2 ∨ k = 3 ∨ k = 4 ∨ k = 5 ∨ k = 6 := by omega
 rcases this with rfl | rfl | rfl | rfl | rfl | rfl | rfl <;> omega
set_option maxHeartbeats 1000000 in
theorem NumberOf_any (ao : Option Addr) (cap n : Nat) (l : List Int) (w : World) (hn : n = l.length) (hr : RowI .u8 w ao l) (ho : Octs l) (hm : n ≤ 6) :
  Calls Tryz.prog 49 #[.slice ao n cap] w fun e w' => e = .returned (.int .i64 (numL l)) ∧ w = w' := by
 have HN := hid hn
 clear hn
 go_enter Tryz.func49, Tryz.ntmps49
 go_wp2
 go_loop [3, 8] (fun v i => ∃ k : Nat, k ≤ n ∧ i = .int .i64 k ∧ v = .int .i64 (numL (l.take k))) (fun _ i => n - (intOf i).toNat)
 case atStart => exact ⟨0, by omega, rfl, rfl⟩
 case round =>
  obtain ⟨k, hk, rfl, rfl⟩ := hrel
  by_cases h0 : k < n
  ·have hkI : (k : Int) < (n : Int) := by omega
   have hkl : k < l.length := by have := HN.out; omega
   obtain ⟨b, off, c, rfl, hb, HC, hcell⟩ := hr.elem (i := k) hkl
   have hcb : 0 ≤ c ∧ c < 256 := by have h1 := ho.getD k; rw [← HC.out] at h1; exact ⟨h1.1, by have := h1.2; omega⟩
   obtain ⟨v, HV⟩ : ∃ v, Hid (v = numL (l.take k)) := ⟨_, rfl⟩
   have hvb := numL_bound l ho k (by omega)
   rw [← HV.out] at hvb ⊢
   have HNX := hid (numL_snoc l k hkl)
   rw [← HV.out, ← HC.out] at HNX
   have hw1 : IntKind.i64.wrap (v * 256) = v * 256 := IntWalk.i64_in _ (by omega)
   have hw2 : IntKind.i64.wrap (v * 256 + c) = v * 256 + c := IntWalk.i64_in _ (by omega)
   go_wp2
   go_round
   case rel => exact ⟨k + 1, by omega, by go_num, by rw [HNX.out, Int.mul_comm 256 v]⟩
   case measure => simp [intOf] <;> omega
  ·obtain rfl : k = n := by omega
   have e : l.take k = l := List.take_of_length_le (by rw [← HN.out]; exact Nat.le_refl _)
   rw [e]
   go_wp2
   go_ret
   exact ⟨rfl, rfl⟩
end Go.Proofs.YtbjmadcbhkeenaaGreat.shr
namespace Go.Proofs.YtbjmadcbhkeenaaGreat.shr
open Go.RowKit sh st hs
theorem In_b (m lo hi : Int) (w : World) : Calls Tryz.prog 80 #[.int .i64 m, .int .i64 lo, .int .i64 hi] w fun e w' => e = .returned (.bool (inB m lo hi)) ∧ w = w' := In_any m lo hi w
end Go.Proofs.YtbjmadcbhkeenaaGreat.shr
namespace Go.Proofs.YtbjmadcbhkeenaaGreat.shr
open Go.RowKit sh st hs
theorem mine_pt {w : World} {base n c : Nat} {ao : Option Addr} {l : List Int} (h : Mine w base 5 1 (.slice ao n c) n (l.map (Value.int .u8))) (hn : n = l.length) (h0 : 0 < n) (ho : Octs l) : Pt.Ok w ⟨ao, c, l⟩ ∧ (ao = none → c = 0 ∧ n = 0) := by
 subst hn
 have h1 := mine_own h h0
 rcases h1 with ⟨_, h | ⟨g, cap, cur, hv, hg, hh, h1, h2, h3, h4⟩⟩
 ·have := h.1; omega
 ·injection hv with e1 e2 e3
  subst e1 e3
  obtain ⟨ao', c', hv', hc', hr⟩ := h.row
  injection hv' with e4 e5 e6
  subst e4 e6
  exact ⟨⟨hr.i, h1, h2, ho, fun b e => by cases e; exact lt_of_block hh⟩, fun e => by cases e⟩
theorem oct7 : Oct 7 := ⟨by decide, by decide⟩
end Go.Proofs.YtbjmadcbhkeenaaGreat.shr
namespace Go.Proofs.YtbjmadcbhkeenaaGreat.shr
open Go.RowKit sh st hs
theorem str_inj {xs ys : List Int} (hx : Octs xs) (hy : Octs ys) (h : strOfNums xs = strOfNums ys) : xs = ys := by
 have h1 : (strOfNums xs).data.toList = (strOfNums ys).data.toList := by rw [h]
 rw [strOfNums_data, strOfNums_data] at h1
 have key : ∀ l : List Int, Octs l → (l.map fun n => UInt8.ofNat n.toNat).map (fun u => (u.toNat : Int)) = l := by
  intro l hl
  rw [List.map_map]
  conv => rhs; rw [← List.map_id l]
  refine List.map_congr_left fun n hn => ?_
  have := hl n hn
  unfold Oct at this
  simp only [Function.comp_apply, id_eq]
  rw [UInt8.toNat_ofNat_of_lt' (by have := this.2; show n.toNat < 256; omega)]
  omega
 rw [← key xs hx, ← key ys hy, h1]
theorem loop_eq (bs : ByteArray) : ∀ (m i : Nat) (r : List UInt8), bs.size - i = m → ByteArray.toList.loop bs i r = r.reverse ++ bs.data.toList.drop i := by
 intro m
 induction m with
 | zero =>
  intro i r h
  rw [ByteArray.toList.loop, if_neg (by omega), List.drop_of_length_le (by show bs.data.size ≤ i; have : bs.size = bs.data.size := rfl; omega), List.append_nil]
 | succ m ih =>
  intro i r h
  have hi : i < bs.data.toList.length := by show i < bs.data.size; have : bs.size = bs.data.size := rfl; omega
  rw [ByteArray.toList.loop, if_pos (by omega), ih (i + 1) _ (by omega), List.drop_eq_getElem_cons hi]
  have e : bs.get! i = bs.data.toList[i] := by
   show bs.data[i]! = _
   rw [getElem!_pos bs.data i hi]; rfl
  rw [e]; simp
theorem toList_eq (bs : ByteArray) : bs.toList = bs.data.toList := by
 show ByteArray.toList.loop bs 0 [] = _
 rw [loop_eq bs _ 0 [] rfl]; rfl
theorem str_ne {a b : ByteArray} (h : ¬ a = b) : (a.toList == b.toList) = false := by
 rw [toList_eq, toList_eq, beq_eq_false_iff_ne]
 intro e
 exact h (Go.WideShapes.bytes_inj e)
theorem run_convStr (w : World) (ao : Option Addr) (n cap : Nat) (l : List Int) (hn : n = l.length) (hr : RowI .u8 w ao l) : (convert 25 9 (.slice ao n cap)).run Tryz.prog w = .ok (.string (strOfNums l)) w := by
 rcases hr with h | ⟨b, off, rfl, hb, hc⟩
 ·subst h
  obtain rfl : n = 0 := hn
  rw [run_convert_bytes_string w 25 9 5 ao 0 cap Tryz.underlying25 Tryz.underlying5 Tryz.underlying9]
  cases ao with
  | none => simp [Conv.bytesToString, strOfNums]; rfl
  | some a =>
   rw [run_bytesToString w a 0 cap [] (by simp [loadCells, loadCellsFrom])]
   rfl
 ·exact run_convert_bytes_arg w 25 5 Tryz.underlying25 Tryz.underlying5 b off n cap l hn.symm (fun i hi => hc i (by omega)) 9 Tryz.underlying9
end Go.Proofs.YtbjmadcbhkeenaaGreat.shr
