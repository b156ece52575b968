/-
  Shares as octets: Print, ShareOctets, Mark, MarkOf, strings. Conditions: as each theorem says. A region that draws its order, walked by hand: reading operations are taken first, each by its own law; whole loads, literals, new variables and stores as steps. Conditions: what each names. Shares read: Parse, ReadShare. Conditions: a slice of octets that lies in memory. Contracts of mix.NameOf and mix.TagOf. Conditions: a key of octets, a text of octets.
-/
import Derived.Test.YtbljihhelladbaaTHsV
import Derived.Test.YtbljihhelladbaaTStE
import Derived.Test.YtbljihhelladbaaTShBC
import Derived.Test.YtbljihhelladbaaTEqA
import Derived.Lib.SlBytesConst
import Derived.ArgAppend
import Derived.Laws.BytesArg
import Derived.Deep.RegionHeld3
import Derived.Deep.MidRow
/- Contract of share.Print. Conditions: a share of the type's form. -/
namespace Go.Proofs.Ytbljihhelladbaa.shr
open Go.RowKit Go.Proofs.Ytbljihhelladbaa.sh Go.Proofs.Ytbljihhelladbaa.st Go.Proofs.Ytbljihhelladbaa.hs
set_option linter.unusedSimpArgs false
set_option linter.unusedVariables false
set_option pp.maxSteps 6000
/-- two octets of a number; a share's octets -/
def o2 (n : Int) : List Int := [n / 256 % 256, n % 256]
def o2s (l : List Int) : List Int := (l.map o2).flatten
def pO (s : Sh) : List Int := ([75, 87, 83, 49] ++ s.h) ++ o2 s.x ++ o2s s.y
def goodS (s : Sh) : Bool := inB s.x 1 256 && !badY s
theorem o2s_snoc (l : List Int) (k : Nat) (h : k < l.length) : o2s (l.take (k + 1)) = o2s (l.take k) ++ o2 (l.getD k 0) := by
  unfold o2s
  rw [List.take_succ_eq_append_getElem h, List.map_append, List.flatten_append, getD_lt' l 0 h]; simp
theorem wl_boxV {P : Program} {w : World} {ops : Array Oper} {rest : List Oper} {o : Oper} {a : Act} {Q : Exit → Act → World → Prop} (hgd : o.guard = none) (t : TypeId) (x : Operand) (ho : o.op = .box t x)
    (cs : List Value) (hx : a.eval x = .agg cs.toArray) (N : Nat) (hN : w.heap.size = N)
    (h : ∀ w', BlkV t w' N cs → Below N w w' → w'.heap.size = N + 1 → wpList P ops Q rest (a.put o.dst (.pointer (some ⟨N, 0, none⟩))) w') : wpList P ops Q (o :: rest) a w := by
  subst hN
  refine wpList_plain hgd fun K hK' => ?_
  unfold Oper.wp
  simp [execOp, ho, hx, Instr.box, newVar, newRow, Value.cells, Result.andThen]
  exact hK' _ _ (h _ (BlkV.new t w cs rfl) ((Below.refl _ _).alloc (Nat.le_refl _) _) (by simp))
/-- append to a slice that has no room, the world behind it a letter -/
theorem wl_appendArg {w : World} {ops : Array Oper} {rest : List Oper} {o : Oper} {a : Act} {Q : Exit → Act → World → Prop} (hgd : o.guard = none) (s x : Operand)
    (ho : o.op = .call { callee := .builtin .append, args := #[s, x], argTypes := #[69, 69] }) (b : Addr) (n cap : Nat) (hs : a.eval s = .slice (some b) n cap) (olds : List Value) (hlo : olds.length = n * 1) (hat : At w b olds)
    (ad : Addr) (m c : Nat) (hx : a.eval x = .slice (some ad) m c) (news : List Value) (hl : news.length = m * 1) (hnews : At w ad news) (hg : cap < n + m) (hb : n + m ≤ 1099511627776) (base : Nat) (hbase : base ≤ w.heap.size) (N : Nat) (hN : N = n + m)
    (hK : ∀ ao' cap' w', N ≤ cap' → Mine w' base 5 1 (.slice ao' N cap') N (olds ++ news) → w.grownBy w' none → wpList Try.prog ops Q rest (a.put o.dst (.slice ao' N cap')) w') : wpList Try.prog ops Q (o :: rest) a w := by
  subst hN
  obtain ⟨i, hi, hz, hsi, hby⟩ := (info8 : Info Try.prog 5 (.int .u8 0) 1 1).parts
  obtain ⟨v', w', hrun, r1, r2⟩ := run_append_arg_grows (P := Try.prog) w 69 o.type 5 i (.int .u8 0) 1 1 Try.underlying69 hi hz hsi hby rfl (by decide) b n cap olds hlo hat ad m c news hl hnews hg (by unfold maxLen; omega) (by omega)
  have hM := Mine.mono (Or.inl r1) hbase
  obtain ⟨ao', cap', rfl, h2, h3⟩ := hM.row
  exact Lib.wpList_append_run w hgd s x _ _ ho _ _ hs hx _ _ hrun (hK ao' cap' w' h2 hM r2)
theorem at_marked {w : World} {t : TypeId} {fr : Nat × Nat} (cs : List Value) : At (w.alloc (.cells cs.toArray t fr)) ⟨w.heap.size, 0, none⟩ cs := by
  intro j u hu
  have e : (⟨w.heap.size, 0, none⟩ : Addr).add j = ⟨w.heap.size, j, none⟩ := by unfold Addr.add; split <;> simp_all
  rw [e, cell_of_row _ w.heap.size j cs.toArray t fr (by show (w.heap.push _)[w.heap.size]? = _; simp)]
  simpa using hu
set_option maxRecDepth 100000 in
set_option maxHeartbeats 1000000 in
theorem Print_ok (s : Sh) (hs : s.Ok) (w : World) (hx : inB s.x 1 256 = true) (hy : badY s = false) :
    Calls Try.prog 41 #[.agg s.cs.toArray] w fun e w' => ∃ ao c, e = .returned (.tuple #[.slice ao 86 c, .int .i64 0]) ∧ Mine w' w.heap.size 5 1 (.slice ao 86 c) 86 ((pO s).map (Value.int .u8)) ∧ Below w.heap.size w w' := by
  obtain ⟨B, HB⟩ : ∃ B, Hid (B = w.heap.size) := ⟨_, rfl⟩
  have hsz : w.heap.size = B := HB.out.symm
  have hcx := hid (cs_x s hs)
  have hhl : Hid ((s.h.map (Value.int .u8)).length = 16 * 1) := by show _ = _; rw [List.length_map, hs.hl]
  have hch := hid (cs_hi s hs)
  have hout := fun w => hid (outside_any s.x 1 256 w)
  rw [hx] at hout
  have hbad := fun w => hid (badValues_any s hs w)
  rw [hy] at hbad
  have hx1 : 1 ≤ s.x ∧ s.x ≤ 256 := by unfold inB at hx; simp at hx; exact hx
  obtain ⟨P0, HP0⟩ : ∃ P : List Int, Hid (P = (([75, 87, 83, 49] ++ s.h) ++ o2 s.x : List Int)) := ⟨(([75, 87, 83, 49] ++ s.h) ++ o2 s.x : List Int), rfl⟩
  have e0 : ([Value.int .u8 75, .int .u8 87, .int .u8 83, .int .u8 49] ++ s.h.map (Value.int .u8)) ++ [.int .u8 (s.x / 256), .int .u8 (s.x % 256)] = P0.map (Value.int .u8) := by
    have : s.x / 256 % 256 = s.x / 256 := by omega
    rw [HP0.out]; simp [o2, this]
  have HE0 := hid e0
  have hyb0 : ∀ k, k < 32 → 0 ≤ s.y.getD k 0 ∧ s.y.getD k 0 ≤ 256 := by
    intro k hk
    have hm : s.y.getD k 0 ∈ s.y := by rw [getD_lt' s.y 0 (by rw [hs.yl]; exact hk)]; exact List.getElem_mem _
    refine ⟨(hs.yb _ hm).1, ?_⟩
    unfold badY at hy
    rw [List.any_eq_false] at hy
    have h1 := hy _ hm
    rw [decide_eq_true_eq] at h1
    omega
  have HYB := hid hyb0
  obtain ⟨YV, HYV⟩ : ∃ Y, Hid (Y = s.y.map (Value.int .u16)) := ⟨_, rfl⟩
  have HYL : Hid (YV.length = 32) := by show _ = _; rw [HYV.out, List.length_map, hs.yl]
  clear e0 hyb0
  obtain ⟨CS, HCS⟩ : ∃ C, Hid (C = s.cs) := ⟨_, rfl⟩
  have hCSl : CS.length = 49 := by rw [HCS.out]; exact hs.csl
  rw [← HB.out]
  rw [← HCS.out] at hcx hch hbad ⊢
  have hal : Try.prog.arrayLen 57 = 16 := by kernel_rfl
  have hcv := fun (w : World) (C : Array Value) (n c : Nat) => Lib.run_convert_bytes_const (P := Try.prog) w 69 5 C n c Try.underlying69 Try.underlying5
  have HAH := fun w' (h : BlkV 61 w' B s.cs) => hid (at_h hs h)
  have HAY := fun w' (h : BlkV 61 w' B s.cs) => hid (at_y hs h)
  rw [← HCS.out] at HAH HAY
  rw [← HYV.out] at HAY
  go_enter Try.func41, Try.ntmps41
  go_wp2_with (first | (refine wl_boxV rfl 61 _ rfl CS rfl B hsz ?_; intro w0 hB0 hb0 hs0; have c16 := (hB0.cell 16).trans hcx.out) | (go_at_call 86; refine (hout _).out.mono ?_; rintro e w1 ⟨rfl, rfl⟩) | (refine wl_loadG (by rfl) 61 _ rfl ⟨B, 0, none⟩ rfl 49 CS hCSl aggS hB0.at0 ?_) | (go_at_call 111; refine (hbad _).out.mono ?_; rintro e w1 ⟨rfl, hb1⟩; have hB1 := hB0.below hb1 (by omega); have bb1 := hb0.trans (hb1.mono (by omega)); have c161 := (hB1.cell 16).trans hcx.out; have hsz1 := hb1.size; clear hB0 hb0 hb1 c16) | (at_builtin; refine wl_appendArg rfl _ _ rfl ⟨w1.heap.size, 0, none⟩ 4 4 rfl [.int .u8 75, .int .u8 87, .int .u8 83, .int .u8 49] rfl (at_marked _) ⟨B, 0, none⟩ 16 16 rfl (s.h.map (Value.int .u8)) hhl.out ((HAH _ (hB1.alloc _)).out) (by decide) (by decide) (B + 1) (by simp; omega) 20 rfl ?_; intro ao3 cap3 w3 hc3 hM3 hg3; have hB3 := (hB1.alloc _).grown hg3 (by intro e; cases e); have bb3 := (bb1.alloc (by omega) _).grown hg3 (by simp; omega) (fun k hk => by cases hk); have c163 := (hB3.cell 16).trans hcx.out; have hsz3 := hg3.size; simp at hsz3; clear hB1 bb1 hg3) | (at_builtin; refine wl_appendS rfl _ _ 69 rfl 5 (.int .u8 0) 1 1 Try.underlying69 info8 rfl (by decide) (B + 1) _ 20 _ rfl (hM3.belowAll ((Below.refl _ _).alloc (Nat.le_refl _) _)) (some ⟨w3.heap.size, 0, none⟩) 2 2 rfl (fun h => by cases h) [.int .u8 (s.x / 256), .int .u8 (s.x % 256)] rfl (rowV_of (BlkV.new _ _ _ rfl)) (by intro u hu; simp at hu; rcases hu with rfl | rfl <;> rfl) (by decide) (by decide) (by simp; omega) 22 rfl ?_; intro ao4 cap4 w4 row4 hc4 hM4 hv4 hg4 hrow4; rw [HE0.out] at hM4; have hB4 := blk_grown (hB3.alloc _) hg4 (fun k hk => (hrow4 k hk).1) (by omega); have bb4 := (bb3.alloc (by omega) _).grown hg4 (by simp; omega) (fun k hk => by have := (hrow4 k hk).1; omega); have hsz4 := hg4.size; simp at hsz4; clear hB3 bb3 hg4 hM3 hrow4 hv4) | (refine wl_load rfl 59 _ rfl ⟨B, 17, none⟩ rfl YV (by rw [HYL.out]; exact aggY) (HAY _ hB4).out ?_))
  go_loopw [4, 31] (fun v i wr => ∃ (k : Nat) (m : Nat) (ao' : Option Addr) (c' : Nat), k ≤ 32 ∧ i = .int .i64 k ∧ m = 22 + 2 * k ∧ v = .slice ao' m c' ∧ Mine wr (B + 1) 5 1 v m ((P0 ++ o2s (s.y.take k)).map (Value.int .u8)) ∧ Below B w wr ∧ B + 1 ≤ wr.heap.size) (fun _ i _ => 32 - (intOf i).toNat)
  case atStart => exact ⟨0, 22, ao4, cap4, by omega, rfl, rfl, rfl, by simpa [o2s] using hM4, bb4, by omega⟩
  case round =>
    obtain ⟨k, m, ao', c', hk, rfl, hm, rfl, hM, hb, hsz'⟩ := hrel
    by_cases h0 : k < 32
    · have hkI : (k : Int) < 32 := by omega
      have hkI0 : (0 : Int) ≤ (k : Int) := by omega
      obtain ⟨y, Hy⟩ : ∃ y, Hid (y = s.y.getD k 0) := ⟨_, rfl⟩
      have hyb : 0 ≤ y ∧ y ≤ 256 := by rw [Hy.out]; exact HYB.out k h0
      have hIX := fun w => st.run_index1 (P := Try.prog) w 59 58 32 Try.underlying59 .u16 Try.underlying58 size16 YV k h0 (.int .u16 y) (by rw [HYV.out, Hy.out, List.getElem?_map, List.getElem?_eq_getElem (by rw [hs.yl]; exact h0), getD_lt' s.y 0 (by rw [hs.yl]; exact h0)]; rfl)
      have HMM := hid hm
      have hmb : m ≤ 90 := by omega
      have ej : (P0 ++ o2s (s.y.take k)).map (Value.int .u8) ++ [.int .u8 (y / 256), .int .u8 (y % 256)] = (P0 ++ o2s (s.y.take (k + 1))).map (Value.int .u8) := by
        rw [o2s_snoc s.y k (by rw [hs.yl]; exact h0), ← Hy.out]
        have : y / 256 % 256 = y / 256 := by omega
        simp [o2, this]
      have HEJ := hid ej
      clear ej hm
      go_wp2_with (first | (at_builtin; refine wl_appendS rfl _ _ 69 rfl 5 (.int .u8 0) 1 1 Try.underlying69 info8 rfl (by decide) (B + 1) _ m _ rfl (hM.belowAll ((Below.refl _ _).alloc (Nat.le_refl _) _)) (some ⟨wr.heap.size, 0, none⟩) 2 2 rfl (fun h => by cases h) [.int .u8 (y / 256), .int .u8 (y % 256)] rfl (rowV_of (BlkV.new _ _ _ rfl)) (by intro u hu; simp at hu; rcases hu with rfl | rfl <;> rfl) (by unfold maxLen; omega) (by omega) (by simp; omega) (m + 2) rfl ?_; intro ao6 cap6 w6 row6 hc6 hM6 hv6 hg6 hrow6; rw [HEJ.out] at hM6; have bb6 := (hb.alloc (by omega) _).grown hg6 (by simp; omega) (fun k hk => by have := (hrow6 k hk).1; omega); have hsz6 : B + 1 ≤ w6.heap.size := (by have := hg6.size; simp at this; omega); clear hb hM hg6 hrow6 hv6))
      go_roundw
      case rel => exact ⟨k + 1, m + 2, ao6, cap6, by omega, by go_num, by rw [HMM.out]; omega, rfl, hM6, bb6, hsz6⟩
      case measure => simp [intOf] <;> omega
    · obtain rfl : k = 32 := by omega
      have e : P0 ++ o2s (s.y.take 32) = pO s := by rw [HP0.out, List.take_of_length_le (by rw [hs.yl]; exact Nat.le_refl _)]; rfl
      rw [e] at hM
      obtain rfl : m = 86 := by omega
      go_wp2
      go_ret2
      exact ⟨ao', c', rfl, hM.mono (by omega), hb⟩
end Go.Proofs.Ytbljihhelladbaa.shr
/- Contracts of keyref2.Octets and NumberOf. Conditions: at most eight octets written; at most six read. -/
namespace Go.Proofs.Ytbljihhelladbaa.shr
open Go.RowKit Go.Proofs.Ytbljihhelladbaa.sh Go.Proofs.Ytbljihhelladbaa.st Go.Proofs.Ytbljihhelladbaa.hs
set_option linter.unusedSimpArgs false
set_option linter.unusedVariables false
set_option pp.maxSteps 6000
/-- a number as m octets; of which the last j are laid -/
def octTo (n : Int) (m j : Nat) : List Int := (List.range m).map fun i => if m - j ≤ i then n / 256 ^ (m - 1 - i) % 256 else 0
def octN (n : Int) (m : Nat) : List Int := octTo n m m
theorem octTo_length (n : Int) (m j : Nat) : (octTo n m j).length = m := by simp [octTo]
theorem octTo_zero (n : Int) (m : Nat) : octTo n m 0 = List.replicate m 0 := by
  apply List.ext_getElem
  · simp [octTo]
  · intro i h1 h2
    have : i < m := by simpa [octTo] using h1
    simp only [octTo, List.getElem_map, List.getElem_range, List.getElem_replicate]
    rw [if_neg (by omega)]
theorem octTo_set (n : Int) (m j p : Nat) (hp : p + 1 + j = m) : (octTo n m j).set p (n / 256 ^ j % 256) = octTo n m (j + 1) := by
  apply List.ext_getElem
  · simp [octTo]
  · intro i h1 h2
    have hi : i < m := by simpa [octTo] using h2
    rw [List.getElem_set]
    simp only [octTo, List.getElem_map, List.getElem_range]
    by_cases e : p = i
    · subst e
      rw [if_pos rfl, if_pos (by omega), show m - 1 - p = j by omega]
    · rw [if_neg e]
      by_cases h : m - j ≤ i
      · rw [if_pos h, if_pos (by omega)]
      · rw [if_neg h, if_neg (by omega)]
theorem octN_four (n : Int) : octN n 4 = o4 n := by
  unfold octN octTo o4
  simp [List.range_succ]
set_option maxRecDepth 100000 in
set_option maxHeartbeats 1000000 in
theorem Octets_any (n : Int) (m : Nat) (w : World) (hm : m ≤ 8) :
    Calls Try.prog 112 #[.int .i64 n, .int .i64 m] w fun e w' => e = .returned (.slice (some ⟨w.heap.size, 0, none⟩) m m) ∧ BlkI .u8 5 w' w.heap.size (octN n m) ∧ Below w.heap.size w w' := by
  have e1 : IntKind.i64.wrap ((m : Int) - 1) = (m : Int) - 1 := IntWalk.i64_in _ (by omega)
  go_enter Try.func112, Try.ntmps112
  go_wp2_with (first | (refine wl_makeO rfl _ _ rfl m (by omega) rfl rfl w.heap.size rfl ?_; intro w1 hM1 hb1 hs1))
  go_loopw [0, 6] (fun v i wr => ∃ j : Nat, j ≤ m ∧ v = .int .i64 (n / 256 ^ j) ∧ i = .int .i64 ((m : Int) - 1 - j) ∧ BlkI .u8 5 wr w.heap.size (octTo n m j) ∧ Below w.heap.size w wr) (fun _ i _ => (intOf i + 1).toNat)
  case atStart => exact ⟨0, by omega, by simp, by simp, by rw [octTo_zero]; exact hM1, hb1⟩
  case round =>
    obtain ⟨j, hj, rfl, rfl, hW, hb⟩ := hrel
    by_cases h0 : j < m
    · obtain ⟨p, hp⟩ : ∃ p : Nat, p + 1 + j = m := ⟨m - 1 - j, by omega⟩
      have ep : (m : Int) - 1 - j = (p : Int) := by omega
      obtain ⟨v, HV⟩ : ∃ v, Hid (v = n / 256 ^ j) := ⟨_, rfl⟩
      rw [ep, ← HV.out]
      have hpI : (0 : Int) ≤ (p : Int) := by omega
      have hpm : (p : Int) < (m : Int) := by omega
      have hpmn : p < m := by omega
      have hf := hW.frozen p
      have hc := hW.cell (i := p) (by rw [octTo_length]; omega)
      have hST := hW.set p (n / 256 ^ j % 256)
      rw [octTo_set n m j p hp, ← HV.out] at hST
      have e2 : IntKind.i64.wrap ((p : Int) - 1) = (p : Int) - 1 := IntWalk.i64_in _ (by omega)
      go_wp2
      go_roundw
      case rel =>
        refine ⟨j + 1, by omega, ?_, ?_, hST, hb.setCell (Nat.le_refl _) _⟩
        · rw [HV.out, Int.ediv_ediv_of_nonneg (by have h := Int.natCast_nonneg (256 ^ j); rwa [Int.natCast_pow] at h), ← Int.pow_succ]
        · congr 1; omega
      case measure => simp [intOf] <;> omega
    · obtain rfl : j = m := by omega
      have em : (j : Int) - 1 - j = -1 := by omega
      rw [em]
      go_wp2
      go_ret
      exact ⟨rfl, hW, hb⟩
/-- the number that octets make -/
def numL (l : List Int) : Int := l.foldl (fun n o => 256 * n + o) 0
theorem numL_snoc (l : List Int) (k : Nat) (h : k < l.length) : numL (l.take (k + 1)) = 256 * numL (l.take k) + l.getD k 0 := by
  unfold numL
  rw [List.take_succ_eq_append_getElem h, List.foldl_append, getD_lt' l 0 h]; rfl
theorem numL_bound (l : List Int) (h : Octs l) (k : Nat) (hk : k ≤ 6) : 0 ≤ numL (l.take k) ∧ numL (l.take k) < 281474976710656 := by
  have key : ∀ k, k ≤ 6 → 0 ≤ numL (l.take k) ∧ numL (l.take k) < 256 ^ k := by
    intro k
    induction k with
    | zero => intro _; simp [numL]
    | succ k ih =>
      intro hk
      have h1 := ih (by omega)
      by_cases hl : k < l.length
      · rw [numL_snoc l k hl]
        have h2 := h.getD k
        have h3 : (256 : Int) ^ (k + 1) = 256 ^ k * 256 := Int.pow_succ _ _
        unfold Oct at h2
        omega
      · rw [List.take_of_length_le (by omega)]
        rw [List.take_of_length_le (by omega)] at h1
        have h3 : (256 : Int) ^ (k + 1) = 256 ^ k * 256 := Int.pow_succ _ _
        omega
  have h1 := key k hk
  refine ⟨h1.1, ?_⟩
  have : k = 0 ∨ k = 1 ∨ k = 2 ∨ k = 3 ∨ k = 4 ∨ k = 5 ∨ k = 6 := by omega
  rcases this with rfl | rfl | rfl | rfl | rfl | rfl | rfl <;> omega
set_option maxRecDepth 100000 in
set_option maxHeartbeats 1000000 in
theorem NumberOf_any (ao : Option Addr) (cap n : Nat) (l : List Int) (w : World) (hn : n = l.length) (hr : RowI .u8 w ao l) (ho : Octs l) (hm : n ≤ 6) :
    Calls Try.prog 90 #[.slice ao n cap] w fun e w' => e = .returned (.int .i64 (numL l)) ∧ w = w' := by
  have HN := hid hn
  clear hn
  go_enter Try.func90, Try.ntmps90
  go_wp2
  go_loop [3, 8] (fun v i => ∃ k : Nat, k ≤ n ∧ i = .int .i64 k ∧ v = .int .i64 (numL (l.take k))) (fun _ i => n - (intOf i).toNat)
  case atStart => exact ⟨0, by omega, rfl, rfl⟩
  case round =>
    obtain ⟨k, hk, rfl, rfl⟩ := hrel
    by_cases h0 : k < n
    · have hkI : (k : Int) < (n : Int) := by omega
      have hkl : k < l.length := by have := HN.out; omega
      obtain ⟨b, off, c, rfl, hb, HC, hcell⟩ := hr.elem (i := k) hkl
      have hcb : 0 ≤ c ∧ c < 256 := by have h1 := ho.getD k; rw [← HC.out] at h1; exact ⟨h1.1, by have := h1.2; omega⟩
      obtain ⟨v, HV⟩ : ∃ v, Hid (v = numL (l.take k)) := ⟨_, rfl⟩
      have hvb := numL_bound l ho k (by omega)
      rw [← HV.out] at hvb ⊢
      have HNX := hid (numL_snoc l k hkl)
      rw [← HV.out, ← HC.out] at HNX
      have hw1 : IntKind.i64.wrap (v * 256) = v * 256 := IntWalk.i64_in _ (by omega)
      have hw2 : IntKind.i64.wrap (v * 256 + c) = v * 256 + c := IntWalk.i64_in _ (by omega)
      go_wp2
      go_round
      case rel => exact ⟨k + 1, by omega, by go_num, by rw [HNX.out, Int.mul_comm 256 v]⟩
      case measure => simp [intOf] <;> omega
    · obtain rfl : k = n := by omega
      have e : l.take k = l := List.take_of_length_le (by rw [← HN.out]; exact Nat.le_refl _)
      rw [e]
      go_wp2
      go_ret
      exact ⟨rfl, rfl⟩
end Go.Proofs.Ytbljihhelladbaa.shr
/- Contracts of share.Print and keyref2.ShareOctets. Conditions: a share of the type's form. -/
namespace Go.Proofs.Ytbljihhelladbaa.shr
open Go.RowKit Go.Proofs.Ytbljihhelladbaa.sh Go.Proofs.Ytbljihhelladbaa.st Go.Proofs.Ytbljihhelladbaa.hs
set_option linter.unusedSimpArgs false
set_option linter.unusedVariables false
set_option pp.maxSteps 6000
set_option maxRecDepth 100000 in
set_option maxHeartbeats 1000000 in
theorem Print_bad1 (s : Sh) (hs : s.Ok) (w : World) (hx : inB s.x 1 256 = false) :
    Calls Try.prog 41 #[.agg s.cs.toArray] w fun e w' => e = .returned (.tuple #[.slice none 0 0, .int .i64 4]) ∧ Below w.heap.size w w' := by
  obtain ⟨B, HB⟩ : ∃ B, Hid (B = w.heap.size) := ⟨_, rfl⟩
  have hsz : w.heap.size = B := HB.out.symm
  have hcx := hid (cs_x s hs)
  have hout := fun w => hid (outside_any s.x 1 256 w)
  rw [hx] at hout
  obtain ⟨CS, HCS⟩ : ∃ C, Hid (C = s.cs) := ⟨_, rfl⟩
  have hCSl : CS.length = 49 := by rw [HCS.out]; exact hs.csl
  rw [← HB.out]
  rw [← HCS.out] at hcx ⊢
  go_enter Try.func41, Try.ntmps41
  go_wp2_with (first | (refine wl_boxV rfl 61 _ rfl CS rfl B hsz ?_; intro w0 hB0 hb0 hs0; have c16 := (hB0.cell 16).trans hcx.out) | (go_at_call 86; refine (hout _).out.mono ?_; rintro e w1 ⟨rfl, rfl⟩))
  go_ret2
  exact ⟨rfl, hb0⟩
set_option maxRecDepth 100000 in
set_option maxHeartbeats 1000000 in
theorem Print_bad2 (s : Sh) (hs : s.Ok) (w : World) (hx : inB s.x 1 256 = true) (hy : badY s = true) :
    Calls Try.prog 41 #[.agg s.cs.toArray] w fun e w' => e = .returned (.tuple #[.slice none 0 0, .int .i64 4]) ∧ Below w.heap.size w w' := by
  obtain ⟨B, HB⟩ : ∃ B, Hid (B = w.heap.size) := ⟨_, rfl⟩
  have hsz : w.heap.size = B := HB.out.symm
  have hcx := hid (cs_x s hs)
  have hout := fun w => hid (outside_any s.x 1 256 w)
  rw [hx] at hout
  have hbad := fun w => hid (badValues_any s hs w)
  rw [hy] at hbad
  obtain ⟨CS, HCS⟩ : ∃ C, Hid (C = s.cs) := ⟨_, rfl⟩
  have hCSl : CS.length = 49 := by rw [HCS.out]; exact hs.csl
  rw [← HB.out]
  rw [← HCS.out] at hcx hbad ⊢
  go_enter Try.func41, Try.ntmps41
  go_wp2_with (first | (refine wl_boxV rfl 61 _ rfl CS rfl B hsz ?_; intro w0 hB0 hb0 hs0; have c16 := (hB0.cell 16).trans hcx.out) | (go_at_call 86; refine (hout _).out.mono ?_; rintro e w1 ⟨rfl, rfl⟩) | (refine wl_loadG (by rfl) 61 _ rfl ⟨B, 0, none⟩ rfl 49 CS hCSl aggS hB0.at0 ?_) | (go_at_call 111; refine (hbad _).out.mono ?_; rintro e w1 ⟨rfl, hb1⟩; have bb1 := hb0.trans (hb1.mono (by omega : B ≤ _))))
  go_ret2
  exact ⟨rfl, bb1⟩
/-- what writing a share gives -/
def PrintPost (s : Sh) (w : World) (e : Ending) (w' : World) : Prop :=
  Below w.heap.size w w' ∧ if goodS s = true then ∃ ao c, e = .returned (.tuple #[.slice ao 86 c, .int .i64 0]) ∧ Mine w' w.heap.size 5 1 (.slice ao 86 c) 86 ((pO s).map (Value.int .u8)) else e = .returned (.tuple #[.slice none 0 0, .int .i64 4])
theorem Print_any (s : Sh) (hs : s.Ok) (w : World) : Calls Try.prog 41 #[.agg s.cs.toArray] w (PrintPost s w) := by
  unfold PrintPost goodS
  cases hx : inB s.x 1 256
  · exact (Print_bad1 s hs w hx).mono fun e w' h => ⟨h.2, by simpa using h.1⟩
  · cases hy : badY s
    · refine (Print_ok s hs w hx hy).mono fun e w' h => ?_
      obtain ⟨ao, c, h1, h2, h3⟩ := h
      exact ⟨h3, by simpa using ⟨ao, c, h1, h2⟩⟩
    · exact (Print_bad2 s hs w hx hy).mono fun e w' h => ⟨h.2, by simpa using h.1⟩
theorem In_b (m lo hi : Int) (w : World) : Calls Try.prog 16 #[.int .i64 m, .int .i64 lo, .int .i64 hi] w fun e w' => e = .returned (.bool (inB m lo hi)) ∧ w = w' := In_any m lo hi w
end Go.Proofs.Ytbljihhelladbaa.shr
/- Contracts of share.Mark and keyref2.MarkOf. Conditions: a share of the type's form. -/
namespace Go.Proofs.Ytbljihhelladbaa.shr
open Go.RowKit Go.Proofs.Ytbljihhelladbaa.sh Go.Proofs.Ytbljihhelladbaa.st Go.Proofs.Ytbljihhelladbaa.hs
set_option linter.unusedSimpArgs false
set_option linter.unusedVariables false
set_option pp.maxSteps 6000
theorem mine_pt {w : World} {base n c : Nat} {ao : Option Addr} {l : List Int} (h : Mine w base 5 1 (.slice ao n c) n (l.map (Value.int .u8))) (hn : n = l.length) (h0 : 0 < n) (ho : Octs l) : Pt.Ok w ⟨ao, c, l⟩ ∧ (ao = none → c = 0 ∧ n = 0) := by
  subst hn
  have h1 := mine_own h h0
  rcases h1 with ⟨_, h | ⟨g, cap, cur, hv, hg, hh, h1, h2, h3, h4⟩⟩
  · have := h.1; omega
  · injection hv with e1 e2 e3
    subst e1 e3
    obtain ⟨ao', c', hv', hc', hr⟩ := h.row
    injection hv' with e4 e5 e6
    subst e4 e6
    exact ⟨⟨hr.i, h1, h2, ho, fun b e => by cases e; exact lt_of_block hh⟩, fun e => by cases e⟩
theorem oct7 : Oct 7 := ⟨by decide, by decide⟩
end Go.Proofs.Ytbljihhelladbaa.shr
/- Octets as a string; contract of bytes.Equal. Conditions: slices of octets that lie in memory. -/
namespace Go.Proofs.Ytbljihhelladbaa.shr
open Go.RowKit Go.Proofs.Ytbljihhelladbaa.sh Go.Proofs.Ytbljihhelladbaa.st Go.Proofs.Ytbljihhelladbaa.hs
set_option linter.unusedSimpArgs false
set_option linter.unusedVariables false
set_option pp.maxSteps 6000
theorem str_inj {xs ys : List Int} (hx : Octs xs) (hy : Octs ys) (h : strOfNums xs = strOfNums ys) : xs = ys := by
  have h1 : (strOfNums xs).data.toList = (strOfNums ys).data.toList := by rw [h]
  rw [strOfNums_data, strOfNums_data] at h1
  have key : ∀ l : List Int, Octs l → (l.map fun n => UInt8.ofNat n.toNat).map (fun u => (u.toNat : Int)) = l := by
    intro l hl
    rw [List.map_map]
    conv => rhs; rw [← List.map_id l]
    refine List.map_congr_left fun n hn => ?_
    have := hl n hn
    unfold Oct at this
    simp only [Function.comp_apply, id_eq]
    rw [UInt8.toNat_ofNat_of_lt' (by have := this.2; show n.toNat < 256; omega)]
    omega
  rw [← key xs hx, ← key ys hy, h1]
theorem str_dec {xs ys : List Int} (hx : Octs xs) (hy : Octs ys) : (strOfNums xs = strOfNums ys) ↔ xs = ys := ⟨str_inj hx hy, fun h => by rw [h]⟩
theorem loop_eq (bs : ByteArray) : ∀ (m i : Nat) (r : List UInt8), bs.size - i = m → ByteArray.toList.loop bs i r = r.reverse ++ bs.data.toList.drop i := by
  intro m
  induction m with
  | zero =>
    intro i r h
    rw [ByteArray.toList.loop, if_neg (by omega), List.drop_of_length_le (by show bs.data.size ≤ i; have : bs.size = bs.data.size := rfl; omega), List.append_nil]
  | succ m ih =>
    intro i r h
    have hi : i < bs.data.toList.length := by show i < bs.data.size; have : bs.size = bs.data.size := rfl; omega
    rw [ByteArray.toList.loop, if_pos (by omega), ih (i + 1) _ (by omega), List.drop_eq_getElem_cons hi]
    have e : bs.get! i = bs.data.toList[i] := by
      show bs.data[i]! = _
      rw [getElem!_pos bs.data i hi]; rfl
    rw [e]; simp
theorem toList_eq (bs : ByteArray) : bs.toList = bs.data.toList := by
  show ByteArray.toList.loop bs 0 [] = _
  rw [loop_eq bs _ 0 [] rfl]; rfl
theorem str_ne {a b : ByteArray} (h : ¬ a = b) : (a.toList == b.toList) = false := by
  rw [toList_eq, toList_eq, beq_eq_false_iff_ne]
  intro e
  exact h (Go.WideShapes.bytes_inj e)
theorem run_convStr (w : World) (ao : Option Addr) (n cap : Nat) (l : List Int) (hn : n = l.length) (hr : RowI .u8 w ao l) : (convert 69 9 (.slice ao n cap)).run Try.prog w = .ok (.string (strOfNums l)) w := by
  rcases hr with h | ⟨b, off, rfl, hb, hc⟩
  · subst h
    obtain rfl : n = 0 := hn
    rw [run_convert_bytes_string w 69 9 5 ao 0 cap Try.underlying69 Try.underlying5 Try.underlying9]
    cases ao with
    | none => simp [Conv.bytesToString, strOfNums]; rfl
    | some a =>
      rw [run_bytesToString w a 0 cap [] (by simp [loadCells, loadCellsFrom])]
      rfl
  · exact run_convert_bytes_arg w 69 5 Try.underlying69 Try.underlying5 b off n cap l hn.symm (fun i hi => hc i (by omega)) 9 Try.underlying9
set_option maxRecDepth 100000 in
set_option maxHeartbeats 1000000 in
theorem Equal_any (a1 a2 : Option Addr) (c1 c2 n1 n2 : Nat) (l1 l2 : List Int) (w : World) (h1 : n1 = l1.length) (h2 : n2 = l2.length) (hr1 : RowI .u8 w a1 l1) (hr2 : RowI .u8 w a2 l2) (ho1 : Octs l1) (ho2 : Octs l2) :
    Calls Try.prog 44 #[.slice a1 n1 c1, .slice a2 n2 c2] w fun e w' => e = .returned (.bool (decide (l1 = l2))) ∧ w = w' := by
  have k1 := run_convStr w a1 n1 c1 l1 h1 hr1
  have k2 := run_convStr w a2 n2 c2 l2 h2 hr2
  obtain ⟨S1, HS1⟩ : ∃ S, Hid (S = strOfNums l1) := ⟨_, rfl⟩
  obtain ⟨S2, HS2⟩ : ∃ S, Hid (S = strOfNums l2) := ⟨_, rfl⟩
  rw [← HS1.out] at k1
  rw [← HS2.out] at k2
  have HD := hid (str_dec ho1 ho2)
  rw [← HS1.out, ← HS2.out] at HD
  clear h1 h2
  by_cases h : S1 = S2
  · have h' := HD.out.1 h
    have HH := hid h'
    clear h'
    go_enter Try.func44, Try.ntmps44
    go_wp2
    go_ret
    exact ⟨rv (rb (by rw [decide_eq_true HH.out])), rfl⟩
  · have h' : ¬ l1 = l2 := fun e => h (HD.out.2 e)
    have HH := hid h'
    have hne := str_ne h
    clear h'
    go_enter Try.func44, Try.ntmps44
    go_wp2
    go_ret
    exact ⟨rv (rb (by rw [decide_eq_false HH.out])), rfl⟩
end Go.Proofs.Ytbljihhelladbaa.shr
namespace Go.Proofs.Ytbljihhelladbaa
set_option linter.unusedSimpArgs false
set_option linter.unusedVariables false
open Go.RowKit
section
variable {P : Program} {md : Region.Mode} {ops : Array Oper} {Q : Exit → Act → World → Prop} {S : World → Prop}
/-- number i is taken first; its operation is read off the list of operations -/
theorem take_l {i : Nat} {oi : Oper} {v : Value} {fuel : Nat} {listed : Array Bool} {a : Act} {w : World} (hi : ops.toList[i]? = some oi)
    (hs : Region.noSelect ops = true) (hf : Region.free md ops listed i = true) (hr : (Region.ready md ops listed).contains i = true)
    (hQ : ∀ c a w, Q (.panic c) (a.put oi.dst v) w → Q (.panic c) a w) (hy : YieldsIf P ops S oi v a) (hS : S w)
    (h : wpAnyH P md ops Q S fuel (listed.setIfInBounds i true) (a.put oi.dst v) w) : wpAnyH P md ops Q S (fuel + 1) listed a w :=
  wpAnyH_take (by simpa using hi) hs hf hr hQ hy hS h
theorem cons_l {fuel : Nat} {listed : Array Bool} {a : Act} {w : World} {i : Nat} {o : Oper} {rs : List Nat} (ho : ops.toList[i]? = some o)
    (h : ∀ K' : Act → World → Prop, Shut (∀ a w, S w → (S w → wpAnyH P md ops Q S fuel (listed.setIfInBounds i true) a w) → K' a w) → if Region.wanted o (yielded ops a.tmps) = true then Oper.wp P o a w K' Q else K' (a.put o.dst undef) w)
    (hs : AllReadyH P md ops Q S fuel listed a w rs) : AllReadyH P md ops Q S fuel listed a w (i :: rs) :=
  AllReadyH.cons (by simpa using ho) h hs
end
theorem step_allocV {P : Program} {ops : Array Oper} {o : Oper} {a : Act} {w : World} {K : Act → World → Prop} {Q : Exit → Act → World → Prop} {E : Prop} (hgd : o.guard = none) (t : TypeId) (ho : o.op = .alloc t)
    (cs : List Value) (hz : (P.info? t).map (·.zero) = some (some (.agg cs.toArray))) (N : Nat) (hN : w.heap.size = N)
    (h : ∀ w', BlkV t w' N cs → Below N w w' → w'.heap.size = N + 1 → K (a.put o.dst (.pointer (some ⟨N, 0, none⟩))) w') : if Region.wanted o (yielded ops a.tmps) = true then Oper.wp P o a w K Q else E := by
  subst hN
  have hw : Region.wanted o (yielded ops a.tmps) = true := by simp [Region.wanted, hgd]
  rw [if_pos hw]
  obtain ⟨i, hi, hs⟩ := Option.map_eq_some_iff.1 hz
  unfold Oper.wp
  simp [execOp, ho, Instr.alloc, zeroValue, typeInfo, hi, hs, newVar, newRow, Value.cells, Result.andThen]
  exact h _ (BlkV.new t w cs rfl) ((Below.refl _ _).alloc (Nat.le_refl _) _) (by simp)
theorem step_storeV {P : Program} {ops : Array Oper} {o : Oper} {a : Act} {w : World} {K : Act → World → Prop} {Q : Exit → Act → World → Prop} {E : Prop} (hgd : o.guard = none) (ty : TypeId) (x y : Operand) (ho : o.op = .store ty x y)
    (t : TypeId) (g : Nat) (hx : a.eval x = .pointer (some ⟨g, 0, none⟩)) (cs : List Value) (hy : a.eval y = .agg cs.toArray) (n : Nat) (hi : Agg P ty n) (hn : cs.length = n) (cur : List Value) (hg : BlkV t w g cur) (hc : cur.length = n) (h1 : ∀ u ∈ cs, u.oneCell' = true)
    (h : ∀ w', BlkV t w' g cs → Below g w w' → w'.heap.size = w.heap.size → K (a.put o.dst undef) w') : if Region.wanted o (yielded ops a.tmps) = true then Oper.wp P o a w K Q else E := by
  have hw : Region.wanted o (yielded ops a.tmps) = true := by simp [Region.wanted, hgd]
  rw [if_pos hw]
  have hrun := run_store_agg (P := P) w ty t g 0 cur cs (by rw [hi.2, hn]) hg (by omega) h1
  rw [List.take_zero, List.nil_append, Nat.zero_add, List.drop_eq_nil_of_le (by omega), List.append_nil] at hrun
  unfold Oper.wp
  simp [execOp, ho, hx, hy, Instr.storeAt, Instr.sureAddr, hrun, Result.andThen]
  exact h _ (hg.setRow cs) (below_setRow' (Below.refl _ _) (Nat.le_refl _) _) (by simp)
end Go.Proofs.Ytbljihhelladbaa
/- Contract of share.Parse. Conditions: a slice of octets that lies in memory. -/
namespace Go.Proofs.Ytbljihhelladbaa.shr
open Go.RowKit Go.Proofs.Ytbljihhelladbaa.sh Go.Proofs.Ytbljihhelladbaa.st Go.Proofs.Ytbljihhelladbaa.hs
set_option linter.unusedSimpArgs false
set_option linter.unusedVariables false
set_option pp.maxSteps 6000
theorem run_arrayAtID (w : World) (a : Addr) (n cap : Nat) (hn : 16 ≤ n) : (Instr.arrayAt 57 (.slice (some a) n cap)).run Try.prog w = .ok (.pointer (some a)) w := by
  have h1 : ¬ n < 16 := by omega
  simp [Instr.arrayAt, run_underlying Try.underlying57, Result.andThen, h1]
end Go.Proofs.Ytbljihhelladbaa.shr
/- Contract of keyref2.ReadShare. Conditions: a slice of octets that lies in memory. -/
namespace Go.Proofs.Ytbljihhelladbaa.shr
open Go.RowKit Go.Proofs.Ytbljihhelladbaa.sh Go.Proofs.Ytbljihhelladbaa.st Go.Proofs.Ytbljihhelladbaa.hs
set_option linter.unusedSimpArgs false
set_option linter.unusedVariables false
set_option pp.maxSteps 6000
theorem addr_add (b off j : Nat) : (⟨b, off, none⟩ : Addr).add j = ⟨b, off + j, none⟩ := by unfold Addr.add; split <;> simp_all
theorem octs_two {a c : Int} (ha : 0 ≤ a ∧ a ≤ 255) (hc : 0 ≤ c ∧ c ≤ 255) : Octs [a, c] := by
  intro x hx
  simp only [List.mem_cons, List.not_mem_nil, or_false] at hx
  rcases hx with rfl | rfl
  · exact ha
  · exact hc
end Go.Proofs.Ytbljihhelladbaa.shr
namespace Go.Proofs.Ytbljihhelladbaa.wr
open Go.RowKit Go.Proofs.Ytbljihhelladbaa.st Go.Proofs.Ytbljihhelladbaa.hs Go.Proofs.Ytbljihhelladbaa.shr
set_option linter.unusedSimpArgs false
set_option linter.unusedVariables false
set_option pp.maxSteps 6000
/-- the name of a key -/
def nameL (k : List Int) : List Int := (sumL 10 k).take 16
theorem nameL_length (k : List Int) : (nameL k).length = 16 := by unfold nameL; rw [List.length_take, sumL_length]; decide
theorem nameL_octs (k : List Int) : Octs (nameL k) := fun c hc => sumL_octs _ _ c (List.mem_of_mem_take hc)
theorem zeroID : (Try.prog.info? 57).map (·.zero) = some (some (.agg ((List.replicate 16 (0 : Int)).map (Value.int .u8)).toArray)) := by kernel_rfl
theorem oct10 : Oct 10 := ⟨by decide, by decide⟩
theorem key_pt {w : World} {t : TypeId} {g : Nat} {K : List Value} {k : List Int} (hK : K = k.map (Value.int .u8)) (h : BlkV t w g K) (hk : k.length = 32) (ok : Octs k) : Pt.Ok w ⟨some ⟨g, 0, none⟩, 32, k⟩ := by
  subst hK
  exact ⟨BlkI.row h, by show k.length ≤ 32; omega, by show 32 ≤ maxLen; decide, ok, fun b e => by cases e; exact h.lt⟩
set_option maxRecDepth 100000 in
set_option maxHeartbeats 1000000 in
theorem NameOf_any (k : List Int) (hk : k.length = 32) (ok : Octs k) (w : World) :
    Calls Try.prog 174 #[.agg (k.map (Value.int .u8)).toArray] w fun e w' => e = .returned (.agg ((nameL k).map (Value.int .u8)).toArray) ∧ Below w.heap.size w w' := by
  obtain ⟨B, HB⟩ : ∃ B, Hid (B = w.heap.size) := ⟨_, rfl⟩
  have hsz : w.heap.size = B := HB.out.symm
  obtain ⟨K, HK⟩ : ∃ K, Hid (K = k.map (Value.int .u8)) := ⟨_, rfl⟩
  have hKl : K.length = 32 := by rw [HK.out, List.length_map, hk]
  obtain ⟨Y, HY⟩ : ∃ Z, Hid (Z = (List.replicate 16 (0 : Int)).map (Value.int .u8)) := ⟨_, rfl⟩
  have hz16 := hid zeroID
  rw [← HY.out] at hz16
  have hYl : Y.length = 16 := by rw [HY.out]; simp
  obtain ⟨Z, HZ⟩ : ∃ Z, Hid (Z = zSum) := ⟨_, rfl⟩
  have hz32 := hid zeroSumZ
  rw [← HZ.out] at hz32
  have hZl : Z.length = 32 := by rw [HZ.out]; simp [zSum]
  obtain ⟨S, HS⟩ : ∃ S : List Value, Hid (S = (sumL 10 k).map (Value.int .u8)) := ⟨_, rfl⟩
  have hSl : S.length = 32 := by rw [HS.out, List.length_map, sumL_length]
  have hS1 : ∀ u ∈ S, u.oneCell' = true := by rw [HS.out]; exact ints_one _ _
  obtain ⟨N, HN⟩ : ∃ S : List Value, Hid (S = (nameL k).map (Value.int .u8)) := ⟨_, rfl⟩
  have hNl : N.length = 16 := by rw [HN.out, List.length_map, nameL_length]
  have hN1 : ∀ u ∈ N, u.oneCell' = true := by rw [HN.out]; exact ints_one _ _
  have hal : Try.prog.arrayLen 23 = 32 := by kernel_rfl
  have halS : Try.prog.arrayLen 73 = 32 := by kernel_rfl
  have hAA := fun w a n cap h => run_arrayAtID w a n cap h
  have HKK := hid hk
  have hsum := fun (w0 w1 : World) (hB0 : BlkV 23 w0 B K) (hs0 : w0.heap.size = B + 1) (hb : Below (B + 1) w0 w1) (hs : w1.heap.size = B + 1 + 1) => hid (summed_in 10 oct10 (some ⟨B + 1 + 1, 0, none⟩) 1 1 [⟨some ⟨B, 0, none⟩, 32, k⟩] (w1.alloc (.cells #[.slice (some ⟨B, 0, none⟩) 32 32] 69)) rfl (by omega)
    (hs ▸ (one_part HKK.out.symm hb (by omega) hs0 (key_pt HK.out hB0 HKK.out ok) rfl).1) (one_part HKK.out.symm hb (by omega) hs0 (key_pt HK.out hB0 HKK.out ok) rfl).2 (by simp [cat]; rw [HKK.out]; omega))
  have ec : cat [(⟨some ⟨B, 0, none⟩, 32, k⟩ : Pt)] = k := by simp [cat]
  rw [ec, hk] at hsum
  have hend := fun p w => hid (sum_ok p 10 k 32 w oct10 hk.symm (by omega))
  rw [← HS.out] at hend
  rw [← HK.out, ← HN.out]
  clear hk
  go_enter Try.func174, Try.ntmps174
  go_wp2_with (first | (refine wl_boxV rfl 23 _ rfl K rfl B hsz ?_; intro w0 hB0 hb0 hs0) | (refine wl_allocV rfl 57 rfl Y hz16.out (B + 1) hs0 ?_; intro w1 hR1 hb1 hs1; have bb1 := hb0.trans (hb1.mono (by omega : B ≤ _)))  | (go_at_call 162; refine (hsum w0 w1 hB0 hs0 hb1 hs1).out.mono ?_; rintro e w2 ⟨hb2, rfl, hS2⟩; have ha : (w1.alloc (.cells #[.slice (some ⟨B, 0, none⟩) 32 32] 69)).heap.size = B + 3 := (by simp [hs1]); rw [ha] at hb2 hS2; rw [ha]; have hR2 := (hR1.alloc (.cells #[.slice (some ⟨B, 0, none⟩) 32 32] 69)).below hb2 (by omega); have bb2 : Below B w w2 := (bb1.alloc (by omega) _).trans (hb2.mono (by omega)); clear hb2 hR1 bb1 hsum hB0)  | (go_at_call 163; refine ((hend _ w2).out hS2).mono ?_; rintro e w3 ⟨rfl, hb3⟩; have hlt2 := hS2.lt; have hR3 := hR2.below hb3 (by omega); have bb3 := bb2.trans (hb3.mono (by omega : B ≤ _)); have hs3 := hb3.size; clear hR2 bb2 hb3 hS2)  | (refine wl_allocV rfl 73 rfl Z hz32.out w3.heap.size rfl ?_; intro w4 hE4 hb4 hs4; have hR4 := hR3.below hb4 (by omega); have bb4 := bb3.trans (hb4.mono (by omega : B ≤ _)); clear hR3 bb3 hb4)  | (refine wl_storeV rfl 73 _ _ rfl 73 w3.heap.size rfl S rfl 32 aggSumT hSl Z hE4 hZl hS1 ?_; intro w5 hE5 hb5 hs5; have hR5 := hR4.below hb5 (by omega); have bb5 := bb4.trans (hb5.mono (by omega : B ≤ _)); clear hR4 bb4 hb5 hE4)  | (refine wl_load rfl 57 _ rfl ⟨w3.heap.size, 0, none⟩ rfl N (by rw [hNl]; exact aggID) (hE5.at 0 _ fun j u hu => by rw [Nat.zero_add]; rw [HN.out, nameL, List.map_take, ← HS.out, List.getElem?_take] at hu; split at hu; exact hu; cases hu) ?_)  | (refine wl_storeV rfl 57 _ _ rfl 57 (B + 1) rfl N rfl 16 aggID hNl Y hR5 hYl hN1 ?_; intro w6 hR6 hb6 hs6))
  (try simp only [Exit.inBlock, Exit.then]); refine bodyPost_ret (results_cell rfl _ _ _ _ rfl N (by rw [hNl]; exact aggID) hR6.at0) rfl ?_
  exact ⟨rfl, by first | exact bb5.trans (hb6.mono (by omega)) | (rw [hsz]; exact bb5.trans (hb6.mono (by omega)))⟩
end Go.Proofs.Ytbljihhelladbaa.wr
