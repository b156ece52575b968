/-
  Shares as octets: Print, ShareOctets, Mark, MarkOf, strings. Conditions: as each theorem says. HousesFound: the small functions of package ledger: isAct, outside, needsOf at act 2. No condition.
-/
import Derived.Test.YtdhipjoplkpgmaaGreatDoorHHsV
import Derived.Test.YtdhipjoplkpgmaaGreatDoorHShUW
import Derived.Lib.SlBytesConst
import Derived.ArgAppend
import Derived.Laws.BytesArg
set_option maxRecDepth 100000
set_option linter.unusedSimpArgs false
set_option linter.unusedVariables false
set_option maxHeartbeats 1000000
namespace Go.Proofs.YtdhipjoplkpgmaaGreatDoor.shr
open Go.RowKit sh st hs
def o2 (n : Int) : List Int := [n / 256 % 256, n % 256]
theorem mine_blk {w : World} {base g n : Nat} {e : TypeId} {cs : List Value} (h : BlkV e w g cs) (hb : base ≤ g) (hn : n = cs.length) (hm : n ≤ maxLen) : Mine w base e 1 (.slice (some ⟨g, 0, none⟩) n n) n cs := by
 subst hn
 refine Or.inl ⟨by simp, Or.inr ⟨g, cs.length, cs.toArray, rfl, hb, h, Nat.le_refl _, hm, by simp, ?_⟩⟩
 simp
theorem wl_boxV {P : Program} {w : World} {ops : Array Oper} {rest : List Oper} {o : Oper} {a : Act} {Q : Exit → Act → World → Prop} (hgd : o.guard = none) (t : TypeId) (x : Operand) (ho : o.op = .box t x)
  (cs : List Value) (hx : a.eval x = .agg cs.toArray) (N : Nat) (hN : w.heap.size = N)
  (h : ∀ w', BlkV t w' N cs → Below N w w' → w'.heap.size = N + 1 → wpList P ops Q rest (a.put o.dst (.pointer (some ⟨N, 0, none⟩))) w') : wpList P ops Q (o :: rest) a w := by
 subst hN
 refine wpList_plain hgd fun K hK' => ?_
 unfold Oper.wp
 simp [execOp, ho, hx, Instr.box, newVar, newRow, Value.cells, Result.andThen]
 exact hK' _ _ (h _ (BlkV.new t w cs rfl) ((Below.refl _ _).alloc (Nat.le_refl _) _) (by simp))
end Go.Proofs.YtdhipjoplkpgmaaGreatDoor.shr
namespace Go.Proofs.YtdhipjoplkpgmaaGreatDoor.shr
open Go.RowKit sh st hs
theorem mine_pt {w : World} {base n c : Nat} {ao : Option Addr} {l : List Int} (h : Mine w base 5 1 (.slice ao n c) n (l.map (Value.int .u8))) (hn : n = l.length) (h0 : 0 < n) (ho : Octs l) : Pt.Ok w ⟨ao, c, l⟩ ∧ (ao = none → c = 0 ∧ n = 0) := by
 subst hn
 have h1 := mine_own h h0
 rcases h1 with ⟨_, h | ⟨g, cap, cur, hv, hg, hh, h1, h2, h3, h4⟩⟩
 ·have := h.1; omega
 ·injection hv with e1 e2 e3
  subst e1 e3
  obtain ⟨ao', c', hv', hc', hr⟩ := h.row
  injection hv' with e4 e5 e6
  subst e4 e6
  exact ⟨⟨hr.i, h1, h2, ho, fun b e => by cases e; exact lt_of_block hh⟩, fun e => by cases e⟩
theorem oct7 : Oct 7 := ⟨by decide, by decide⟩
end Go.Proofs.YtdhipjoplkpgmaaGreatDoor.shr
namespace Go.Proofs.YtdhipjoplkpgmaaGreatDoor.shr
open Go.RowKit sh st hs
theorem str_inj {xs ys : List Int} (hx : Octs xs) (hy : Octs ys) (h : strOfNums xs = strOfNums ys) : xs = ys := by
 have h1 : (strOfNums xs).data.toList = (strOfNums ys).data.toList := by rw [h]
 rw [strOfNums_data, strOfNums_data] at h1
 have key : ∀ l : List Int, Octs l → (l.map fun n => UInt8.ofNat n.toNat).map (fun u => (u.toNat : Int)) = l := by
  intro l hl
  rw [List.map_map]
  conv => rhs; rw [← List.map_id l]
  refine List.map_congr_left fun n hn => ?_
  have := hl n hn
  unfold Oct at this
  simp only [Function.comp_apply, id_eq]
  rw [UInt8.toNat_ofNat_of_lt' (by have := this.2; show n.toNat < 256; omega)]
  omega
 rw [← key xs hx, ← key ys hy, h1]
theorem str_dec {xs ys : List Int} (hx : Octs xs) (hy : Octs ys) : (strOfNums xs = strOfNums ys) ↔ xs = ys := ⟨str_inj hx hy, fun h => by rw [h]⟩
theorem loop_eq (bs : ByteArray) : ∀ (m i : Nat) (r : List UInt8), bs.size - i = m → ByteArray.toList.loop bs i r = r.reverse ++ bs.data.toList.drop i := by
 intro m
 induction m with
 | zero =>
  intro i r h
  rw [ByteArray.toList.loop, if_neg (by omega), List.drop_of_length_le (by show bs.data.size ≤ i; have : bs.size = bs.data.size := rfl; omega), List.append_nil]
 | succ m ih =>
  intro i r h
  have hi : i < bs.data.toList.length := by show i < bs.data.size; have : bs.size = bs.data.size := rfl; omega
  rw [ByteArray.toList.loop, if_pos (by omega), ih (i + 1) _ (by omega), List.drop_eq_getElem_cons hi]
  have e : bs.get! i = bs.data.toList[i] := by
   show bs.data[i]! = _
   rw [getElem!_pos bs.data i hi]; rfl
  rw [e]; simp
theorem toList_eq (bs : ByteArray) : bs.toList = bs.data.toList := by
 show ByteArray.toList.loop bs 0 [] = _
 rw [loop_eq bs _ 0 [] rfl]; rfl
theorem str_ne {a b : ByteArray} (h : ¬ a = b) : (a.toList == b.toList) = false := by
 rw [toList_eq, toList_eq, beq_eq_false_iff_ne]
 intro e
 exact h (Go.WideShapes.bytes_inj e)
theorem run_convStr (w : World) (ao : Option Addr) (n cap : Nat) (l : List Int) (hn : n = l.length) (hr : RowI .u8 w ao l) : (convert 61 9 (.slice ao n cap)).run Tryz.prog w = .ok (.string (strOfNums l)) w := by
 rcases hr with h | ⟨b, off, rfl, hb, hc⟩
 ·subst h
  obtain rfl : n = 0 := hn
  rw [run_convert_bytes_string w 61 9 5 ao 0 cap Tryz.underlying61 Tryz.underlying5 Tryz.underlying9]
  cases ao with
  | none => simp [Conv.bytesToString, strOfNums]; rfl
  | some a =>
   rw [run_bytesToString w a 0 cap [] (by simp [loadCells, loadCellsFrom])]
   rfl
 ·exact run_convert_bytes_arg w 61 5 Tryz.underlying61 Tryz.underlying5 b off n cap l hn.symm (fun i hi => hc i (by omega)) 9 Tryz.underlying9
theorem Equal_any (a1 a2 : Option Addr) (c1 c2 n1 n2 : Nat) (l1 l2 : List Int) (w : World) (h1 : n1 = l1.length) (h2 : n2 = l2.length) (hr1 : RowI .u8 w a1 l1) (hr2 : RowI .u8 w a2 l2) (ho1 : Octs l1) (ho2 : Octs l2) :
  Calls Tryz.prog 16 #[.slice a1 n1 c1, .slice a2 n2 c2] w fun e w' => e = .returned (.bool (decide (l1 = l2))) ∧ w = w' := by
 have k1 := run_convStr w a1 n1 c1 l1 h1 hr1
 have k2 := run_convStr w a2 n2 c2 l2 h2 hr2
 obtain ⟨S1, HS1⟩ := hidE (strOfNums l1)
 obtain ⟨S2, HS2⟩ := hidE (strOfNums l2)
 rw [← HS1.out] at k1
 rw [← HS2.out] at k2
 have HD := hid (str_dec ho1 ho2)
 rw [← HS1.out, ← HS2.out] at HD
 clear h1 h2
 by_cases h : S1 = S2
 ·have h' := HD.out.1 h
  have HH := hid h'
  clear h'
  go_enter Tryz.func16, Tryz.ntmps16
  go_wp2
  go_ret
  exact ⟨rv (rb (by rw [decide_eq_true HH.out])), rfl⟩
 ·have h' : ¬ l1 = l2 := fun e => h (HD.out.2 e)
  have HH := hid h'
  have hne := str_ne h
  clear h'
  go_enter Tryz.func16, Tryz.ntmps16
  go_wp2
  go_ret
  exact ⟨rv (rb (by rw [decide_eq_false HH.out])), rfl⟩
end Go.Proofs.YtdhipjoplkpgmaaGreatDoor.shr
namespace Go.Proofs.YtdhipjoplkpgmaaGreatDoor.hf
open Go.RowKit st hs shr sh
theorem isAct_two (w : World) : Calls Tryz.prog 248 #[.int .i64 2] w fun e w' => e = .returned (.bool true) ∧ w = w' := by
 go_enter Tryz.func248, Tryz.ntmps248
 go_wp2
 go_ret
 exact ⟨rfl, rfl⟩
theorem outside_any (n low high : Int) (w : World) : Calls Tryz.prog 144 #[.int .i64 n, .int .i64 low, .int .i64 high] w fun e w' => e = .returned (.bool (decide (n < low) || decide (high < n))) ∧ w = w' := by
 go_enter Tryz.func144, Tryz.ntmps144
 by_cases h : n < low
 ·have h1 : decide (n < low) = true := by simp [h]
  go_wp2
  go_ret
  exact ⟨by simp [h], rfl⟩
 ·have h1 : decide (n < low) = false := by simp [h]
  go_wp2
  go_ret
  exact ⟨by simp [h], rfl⟩
def needs2 : List Value := [.bool false, .bool true, .bool true, .bool false, .bool false, .bool false, .bool false, .bool false, .bool false, .bool false, .bool false, .bool false]
theorem zeroNeeds : (Tryz.prog.info? 229).map (·.zero) = some (some (.agg (List.replicate 12 (Value.bool false)).toArray)) := by kernel_rfl
theorem aggNeeds : Agg Tryz.prog 229 12 := .str Tryz.underlying229 (by kernel_rfl)
theorem builtNeeds : Tryz.prog.built 229 [(1, .bool true), (2, .bool true)] = some needs2.toArray := by kernel_rfl
theorem needsOf_two (w : World) : Calls Tryz.prog 140 #[.int .i64 2] w fun e w' => e = .returned (.agg needs2.toArray) ∧ Below w.heap.size w w' := by
 obtain ⟨N, HN⟩ := hidE needs2
 have hNl : N.length = 12 := by rw [HN.out]; rfl
 have hN1 : ∀ u ∈ N, u.oneCell' = true := by rw [HN.out]; decide
 have hb := hid builtNeeds
 obtain ⟨Z, HZ⟩ := hidE (List.replicate 12 (Value.bool false))
 have hz := hid zeroNeeds
 have hZl : Z.length = 12 := by rw [HZ.out]; rfl
 rw [← HN.out] at hb ⊢
 rw [← HZ.out] at hz
 obtain ⟨B, hsz⟩ := szE w
 go_enter Tryz.func140, Tryz.ntmps140
 go_wp2_with (first | (refine wl_storeV rfl 229 _ _ rfl 229 B rfl N rfl 12 aggNeeds hNl Z hR1 hZl hN1 ?_; intro w2 hR2 hb2 hs2) | (refine wl_build2 rfl 229 1 2 _ _ rfl _ _ rfl rfl N hb.out ?_) | (refine wl_allocV rfl 229 rfl Z hz.out B hsz ?_; intro w1 hR1 hb1 hs1))
 (try simp only [Exit.inBlock, Exit.then]); refine bodyPost_ret (results_cell rfl _ _ _ _ rfl N (by rw [hNl]; exact aggNeeds) hR2.at0) rfl ?_
 exact ⟨rfl, by first | exact hb1.trans hb2 | (rw [hsz]; exact hb1.trans hb2)⟩
end Go.Proofs.YtdhipjoplkpgmaaGreatDoor.hf
