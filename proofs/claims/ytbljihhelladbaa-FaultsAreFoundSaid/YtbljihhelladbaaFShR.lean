/-
  Contract of keyref2.FitOf. Conditions: good shares of the type's form, a secret of octets, a need from 1 to 32. Contract of keyref2.polynomials; shares with given values. Conditions: a secret and a seed of octets, a need from 1 to 32. Contract of keyref2.ZeroOf; slices of shares that a call has made. Conditions: shares of the type's form. A matrix in memory: a slice of rows, each a block of its own. Conditions: as stated.
-/
import Derived.Test.YtbljihhelladbaaFStZ
import Derived.Test.YtbljihhelladbaaFShQ
import Derived.Test.YtbljihhelladbaaFMem
import Derived.Test.YtbljihhelladbaaFGsB
import Derived.Maps.RangeWalk
import Derived.StillTailTactics
namespace Go.Proofs.Ytbljihhelladbaa.shr
set_option linter.unusedVariables false
open Go.RowKit Go.Proofs.Ytbljihhelladbaa.sh Go.Proofs.Ytbljihhelladbaa.Fld
set_option linter.unusedSimpArgs false
set_option pp.maxSteps 6000
theorem none_of_owns {w : World} {base : Nat} {e : TypeId} {size n c : Nat} {ao : Option Addr} {xs : List Value} (h : w.ownsRow base e size (.slice ao n c) n xs) (hn : ao = none) : n = 0 ∧ c = 0 := by
  subst hn
  rcases h.2 with ⟨h, _⟩ | ⟨g, cap, cur, h, _⟩
  · simp at h; exact h
  · simp at h
theorem rowV_of_owns {w : World} {base n c : Nat} {e : TypeId} {size : Nat} {ao : Option Addr} {xs : List Value} (h : w.ownsRow base e size (.slice ao n c) n xs) : RowV w ao xs := by
  obtain ⟨a, c', h1, _, h2⟩ := Mine.row (Or.inl h)
  cases h1
  exact h2
theorem RowV.keptB {w w' : World} {ao : Option Addr} {cs : List Value} {row : Option Nat} (h : RowV w ao cs) (hb : w.grownBy w' row) (N : Nat) (hN : ∀ b, ao = some b → b.block < N) (hr : ∀ k, row = some k → N ≤ k) : RowV w' ao cs :=
  h.kept hb fun b hb' e => by have := hN b hb'; have := hr _ e; omega
/-- an octet fits -/
def fitAt (A : List Sh) (m o : Nat) (j : Nat) : Prop := ∀ i, m ≤ i → i < j → valAt (A.take m) o (A.getD i nil).x = (A.getD i nil).y.getD o 0
theorem agree_of (A : List Sh) (m : Nat) (h : ∀ o, o < 32 → fitAt A m o A.length) : agreeB A m = true := by
  unfold agreeB
  rw [List.all_eq_true]
  intro t ht
  obtain ⟨i, hi, rfl⟩ := List.getElem_of_mem ht
  rw [List.length_drop] at hi
  unfold liesB liesTo
  rw [List.all_eq_true]
  intro o ho
  have := h o (by simpa using ho) (m + i) (by omega) (by omega)
  rw [getD_lt' A nil (by omega : m + i < A.length)] at this
  rw [List.getElem_drop]
  simpa using this
theorem agree_not (A : List Sh) (m o i : Nat) (ho : o < 32) (hi : m ≤ i) (hA : i < A.length) (h : valAt (A.take m) o (A.getD i nil).x ≠ (A.getD i nil).y.getD o 0) : agreeB A m = false := by
  unfold agreeB
  rw [List.all_eq_false]
  refine ⟨A.getD i nil, ?_, ?_⟩
  · rw [getD_lt' A nil hA]
    exact List.mem_drop_iff_getElem.2 ⟨i - m, by omega, by simp [show m + (i - m) = i by omega]⟩
  · rw [liesB_false _ _ o ho h]; decide
theorem RowI.takeS {k : IntKind} {w : World} {ao : Option Addr} {l : List Int} (h : RowI k w ao l) (n : Nat) : RowI k w ao (l.take n) := by
  rcases h with h | ⟨b, off, h1, h2, h3⟩
  · exact Or.inl (by rw [h]; simp)
  · refine Or.inr ⟨b, off, h1, h2, fun i hi => ?_⟩
    rw [List.length_take] at hi
    rw [h3 i (by omega)]
    congr 2
    simp [List.getD_eq_getElem?_getD, List.getElem?_take, show i < n by omega]
set_option maxRecDepth 100000 in
set_option maxHeartbeats 1000000 in
theorem FitOf_any (m : Nat) (ao : Option Addr) (cap : Nat) (l : List Sh) (s : List Int) (w : World) (hr : RowS w ao l) (hok : ∀ s ∈ l, s.Ok) (hn : l.length ≤ 32) (hm1 : 1 ≤ m) (hm32 : m ≤ 32) (hg : Good (sec s :: l)) (hx : ∀ t ∈ l, 0 ≤ t.x ∧ t.x ≤ 256) (hsl : s.length = 32) (hso : ∀ c ∈ s, 0 ≤ c ∧ c ≤ 255) :
    Calls Try.prog 37 #[.int .i64 m, .slice ao l.length cap, .agg (s.map (Value.int .u8)).toArray] w fun e w' => e = .returned (.bool (agreeB (sec s :: l) m)) ∧ Below w.heap.size w w' := by
  have HOK := hid hok
  clear hok
  obtain ⟨KV, HKV⟩ : ∃ K, Hid (K = s.map (Value.int .u8)) := ⟨_, rfl⟩
  have HKL : Hid (KV.length = 32) := by show _ = _; rw [HKV.out, List.length_map]; exact hsl
  rw [← HKV.out]
  have hb0 : Below w.heap.size w (w.alloc (.cells KV.toArray 23)) := (Below.refl _ _).alloc (Nat.le_refl _) _
  have hK0 : BlkV 23 (w.alloc (.cells KV.toArray 23)) w.heap.size KV := BlkV.new _ _ _ rfl
  have hgt := hg.take m
  have hxa : Rng (xsOf (sec s :: l)) := hg.rx
  obtain ⟨L, HL⟩ : ∃ L, Hid (L = 1 + l.length) := ⟨_, rfl⟩
  have hL33 : L ≤ 33 := by rw [HL.out]; omega
  have HAl : Hid ((sec s :: l).length = L) := by show _ = _; rw [List.length_cons, HL.out]; omega
  go_enter Try.func37, Try.ntmps37
  go_wp2
  go_loopw [11] (fun i wr => ∃ k : Nat, k ≤ 32 ∧ i = .int .i64 k ∧ Hid (∀ o, o < k → fitAt (sec s :: l) m o (sec s :: l).length) ∧ BlkV 23 wr w.heap.size KV ∧ Below w.heap.size w wr) (fun i _ => 32 - (intOf i).toNat)
  case atStart => exact ⟨0, by omega, rfl, fun o ho => absurd ho (Nat.not_lt_zero o), hK0, hb0⟩
  case round =>
    obtain ⟨k, hk, rfl, HN, hK, hbl⟩ := hrel
    clear hK0 hb0
    by_cases h0 : k < 32
    · obtain ⟨c, HCC⟩ : ∃ c, Hid (c = s.getD k 0) := ⟨_, rfl⟩
      have hcb : 0 ≤ c ∧ c ≤ 255 := by rw [HCC.out, getD_lt' s 0 (by omega)]; exact hso _ (List.getElem_mem _)
      have hcw : IntKind.i64.wrap c = c := IntWalk.i64_in _ (by omega)
      have hkI : (k : Int) < 32 := by omega
      have hkI0 : (0 : Int) ≤ (k : Int) := by omega
      have hrw := hr.below hbl
      have hKk : KV[k]? = some (.int .u8 c) := by rw [HKV.out, HCC.out, List.getElem?_map, List.getElem?_eq_getElem (by omega), getD_lt' s 0 (by omega)]; rfl
      go_wp2_with fail
      refine (places_any _ _ _ l k wr rfl hrw HOK.out (by omega) h0).mono ?_
      rintro e w1 ⟨ax, cx, ay, cy, rfl, hcx, hcy, hX, hY, _, hb1⟩
      have hK1 := hK.below hb1 hK.lt
      have hbl1 := hbl.trans (hb1.mono hbl.size)
      have cK := hK1.cell k
      rw [hKk] at cK
      have hKlt := hK1.lt
      have hxs := rowV_of_owns hX
      have hys := rowV_of_owns hY
      have hnx := fun h => none_of_owns hX h
      have hny := fun h => none_of_owns hY h
      have hxlt : ∀ b, ax = some b → b.block < w1.heap.size := fun b hb => ownsRow_lt hX b.block (by rw [hb]; rfl)
      have hylt : ∀ b, ay = some b → b.block < w1.heap.size := fun b hb => ownsRow_lt hY b.block (by rw [hb]; rfl)
      have hne0 : ∀ g, w1.heap.size ≤ g → some w.heap.size ≠ (Value.slice (some ⟨g, 0, none⟩) 1 1).ownBlock := fun g hg e => by simp [Value.ownBlock] at e; omega
      clear hKk hX hY
      -- the worlds that the region can pass
      have A1 : BlkV 3 (w1.alloc (.cells #[.int .i64 0] 3)).drew w1.heap.size [.int .i64 0] := BlkV.new _ w1 [.int .i64 0] rfl
      have B1 : BlkV 3 ((w1.alloc (.cells #[.int .i64 0] 3)).alloc (.cells #[.int .i64 c] 3)).drew w1.heap.size [.int .i64 0] := BlkV.alloc (w := w1.alloc (.cells #[.int .i64 0] 3)) (BlkV.new _ w1 [.int .i64 0] rfl) _
      have B2 : BlkV 3 ((w1.alloc (.cells #[.int .i64 0] 3)).alloc (.cells #[.int .i64 c] 3)).drew (w1.heap.size + 1) [.int .i64 c] := BlkV.new _ (w1.alloc (.cells #[.int .i64 0] 3)) [.int .i64 c] (by simp)
      have C1 : BlkV 3 ((w1.alloc (.cells #[.int .i64 c] 3)).alloc (.cells #[.int .i64 0] 3)).drew (w1.heap.size + 1) [.int .i64 0] := BlkV.new _ (w1.alloc (.cells #[.int .i64 c] 3)) [.int .i64 0] (by simp)
      have C2 : BlkV 3 ((w1.alloc (.cells #[.int .i64 c] 3)).alloc (.cells #[.int .i64 0] 3)).drew w1.heap.size [.int .i64 c] := BlkV.alloc (w := w1.alloc (.cells #[.int .i64 c] 3)) (BlkV.new _ w1 [.int .i64 c] rfl) _
      have xA : RowV (w1.alloc (.cells #[.int .i64 0] 3)).drew ax ((xsOf l).map (Value.int .i64)) := hxs.alloc _
      have xB : RowV ((w1.alloc (.cells #[.int .i64 0] 3)).alloc (.cells #[.int .i64 c] 3)).drew ax ((xsOf l).map (Value.int .i64)) := (hxs.alloc _).alloc _
      have xC : RowV ((w1.alloc (.cells #[.int .i64 c] 3)).alloc (.cells #[.int .i64 0] 3)).drew ax ((xsOf l).map (Value.int .i64)) := (hxs.alloc _).alloc _
      have yA : RowV (w1.alloc (.cells #[.int .i64 0] 3)).drew ay ((ysOf l k).map (Value.int .i64)) := hys.alloc _
      have yB : RowV ((w1.alloc (.cells #[.int .i64 0] 3)).alloc (.cells #[.int .i64 c] 3)).drew ay ((ysOf l k).map (Value.int .i64)) := (hys.alloc _).alloc _
      have yC : RowV ((w1.alloc (.cells #[.int .i64 c] 3)).alloc (.cells #[.int .i64 0] 3)).drew ay ((ysOf l k).map (Value.int .i64)) := (hys.alloc _).alloc _
      have hxl : ((xsOf l).map (Value.int .i64)).length = l.length * 1 := by rw [List.length_map, xsOf_length]; omega
      have hyl : ((ysOf l k).map (Value.int .i64)).length = l.length * 1 := by rw [List.length_map, ysOf_length]; omega
      go_wp2_with fail
      go_region_held3 (fun w' => w'.cell? ⟨w.heap.size, k, none⟩ = some (.int .u8 c)) (first | go_keep | exact hg9.cell (by assumption) (hne0 _ (by first | omega | (have := hg4.size; simp at this; omega))) | exact hg4.cell (by assumption) (hne0 _ (by omega))) (first | (refine step_pushO (by rfl) (.tmp 20) (.tmp 21) 26 rfl 3 (.int .i64 0) 1 8 Try.underlying26 infoI rfl (by decide) w1.heap.size (.slice (some ⟨_, 0, none⟩) 1 1) 1 [.int .i64 0] (by rfl) (by first | exact ownsRow_blk A1 (Nat.le_refl _) rfl | exact ownsRow_blk B1 (Nat.le_refl _) rfl | exact ownsRow_blk C1 (Nat.le_succ _) rfl) ax l.length cx (by rfl) hnx ((xsOf l).map (Value.int .i64)) hxl (by first | exact xA | exact xB | exact xC) (ints_one _ _) (by unfold maxLen; omega) (by omega) (by simp <;> omega) L HL.out ?_; intro ax' cx' w4 hcx' hX4 hg4 hl4) | (refine step_pushO (by rfl) (.tmp 27) (.tmp 28) 26 rfl 3 (.int .i64 0) 1 8 Try.underlying26 infoI rfl (by decide) w1.heap.size (.slice (some ⟨_, 0, none⟩) 1 1) 1 [.int .i64 c] (by rfl) (by first | exact ownsRow_blk (BlkV.new _ _ [.int .i64 c] rfl) (by have := hg4.size; simp at this; omega) rfl | exact ownsRow_blk (B2.grown hg4 (by simp [Value.ownBlock])) (Nat.le_succ _) rfl | exact ownsRow_blk (C2.grown hg4 (by simp [Value.ownBlock])) (Nat.le_refl _) rfl) ay l.length cy (by rfl) hny ((ysOf l k).map (Value.int .i64)) hyl (by first | exact (RowV.keptB yA hg4 w1.heap.size hylt (fun g hg => by simp [Value.ownBlock] at hg; omega)).alloc _ | exact RowV.keptB yB hg4 w1.heap.size hylt (fun g hg => by simp [Value.ownBlock] at hg; omega) | exact RowV.keptB yC hg4 w1.heap.size hylt (fun g hg => by simp [Value.ownBlock] at hg; omega)) (ints_one _ _) (by unfold maxLen; omega) (by omega) (by have := hg4.size; simp at this ⊢; omega) L HL.out ?_; intro ay' cy' w9 hcy' hY9 hg9 hl9))
      all_goals (have hX9 : w9.ownsRow w1.heap.size 3 1 (.slice ax' L cx') L ([.int .i64 0] ++ (xsOf l).map (Value.int .i64)) := by first | exact (hX4.alloc _).kept hg9 (Or.inr (fun e => Nat.lt_irrefl _ (ownsRow_lt hX4 _ e))) | exact hX4.kept hg9 (Or.inr (fun e => by rcases hl4 with h | h <;> rw [h] at e <;> (simp [Value.ownBlock] at e; try omega))))
      all_goals (have hb14 : Below w1.heap.size w1 w4 := by first | exact (((Below.refl _ _).alloc (Nat.le_refl _) _).drew).grown hg4 (by simp) (fun g hg => by simp [Value.ownBlock] at hg; omega) | exact ((((Below.refl _ _).alloc (Nat.le_refl _) _).alloc (by simp) _).drew).grown hg4 (by simp <;> omega) (fun g hg => by simp [Value.ownBlock] at hg; omega))
      all_goals (have hb19 : Below w1.heap.size w1 w9 := by first | exact hb14.grown hg9 hb14.size (fun g hg => by simp [Value.ownBlock] at hg; omega) | exact (hb14.alloc hb14.size _).grown hg9 (by have := hb14.size; simp; omega) (fun g hg => by have := hb14.size; simp [Value.ownBlock] at hg; omega))
      all_goals (have hRX : RowI .i64 w9 ax' (xsOf (sec s :: l)) := row_of_owns (l := 0 :: xsOf l) hX9)
      all_goals (have hRY : RowI .i64 w9 ay' (ysOf (sec s :: l) k) := row_of_owns (l := s.getD k 0 :: ysOf l k) (by rw [HCC.out] at hY9; exact hY9))
      all_goals (have hbl9 := hbl1.trans (hb19.mono hbl1.size))
      all_goals (have hK9 := hK1.below hb19 hKlt)
      all_goals (clear A1 B1 B2 C1 C2 xA xB xC yA yB yC hX4 hX9 hY9 hg4 hg9 hl4 hl9 hxl hyl hxs hys hnx hny hxlt hylt hne0 hb14 cK)
      all_goals go_wp2
      all_goals go_loopw [10] (fun i wi => ∃ j : Nat, m ≤ j ∧ (j ≤ L ∨ j = m) ∧ i = .int .i64 j ∧ Hid (fitAt (sec s :: l) m k j) ∧ Below w9.heap.size w9 wi) (fun i _ => L - (intOf i).toNat)
      all_goals (try (case atStart => exact ⟨m, Nat.le_refl _, Or.inr rfl, rfl, fun i h1 h2 => absurd h1 (by omega), Below.refl _ _⟩))
      all_goals (
        obtain ⟨j, hj1, hj2, rfl, HF, hbi⟩ := hrel
        by_cases hjL : j < L
        · obtain ⟨bx, ox, xj, rfl, hbx, HXJ, cxj0⟩ := hRX.elem (i := j) (by rw [xsOf_length, HAl.out]; exact hjL)
          obtain ⟨by_, oy, yj, rfl, hby, HYJ, cyj0⟩ := hRY.elem (i := j) (by rw [ysOf_length, HAl.out]; exact hjL)
          have cxj := (hbi.cell (p := ⟨bx, ox + j, none⟩) hbx).trans cxj0
          have cyj := (hbi.cell (p := ⟨by_, oy + j, none⟩) hby).trans cyj0
          have rxj : 0 ≤ xj ∧ xj ≤ 256 := by rw [HXJ.out]; exact hg.rx.getD j
          have ryj : 0 ≤ yj ∧ yj ≤ 256 := by rw [HYJ.out]; exact (hg.ry k).getD j
          obtain ⟨V, HV⟩ : ∃ V, Hid (V = valAt ((sec s :: l).take m) k xj) := ⟨_, rfl⟩
          have hVr : 0 ≤ V ∧ V ≤ 256 := by rw [HV.out]; exact valAt_range ..
          have hmL : m < L := by omega
          have hmI0 : (0 : Int) ≤ (m : Int) := by omega
          have hmx : (m : Int) ≤ (cx' : Int) := by omega
          have hmy : (m : Int) ≤ (cy' : Int) := by omega
          have hjI : (j : Int) < (L : Int) := by omega
          have hjI0 : (0 : Int) ≤ (j : Int) := by omega
          have hRXi := RowI.takeS (hRX.below hbi) m
          have hRYi := RowI.takeS (hRY.below hbi) m
          have hxn : m = ((xsOf (sec s :: l)).take m).length := by rw [List.length_take, xsOf_length, HAl.out]; omega
          have hyn : ((ysOf (sec s :: l) k).take m).length = ((xsOf (sec s :: l)).take m).length := by rw [← hxn, List.length_take, ysOf_length, HAl.out]; omega
          have hVq : atR ((xsOf (sec s :: l)).take m) ((ysOf (sec s :: l) k).take m) xj = V := by rw [← xsOf_take, ← ysOf_take]; exact HV.out.symm
          have HQ := hid (fun nq => At_q (some ⟨bx, ox, none⟩) (some ⟨by_, oy, none⟩) cx' cy' m ((xsOf (sec s :: l)).take m) ((ysOf (sec s :: l) k).take m) xj V wr nq hxn hRXi hRYi hyn (Rng.take hg.rx m) (Rng.take (hg.ry k) m) rxj (by rw [← hxn]; omega) hVq)
          have hexj : Hid (xj = ((sec s :: l).getD j nil).x) := by show _ = _; rw [HXJ.out, xsOf_getD _ _ (by rw [HAl.out]; exact hjL)]
          have heyj : Hid (yj = ((sec s :: l).getD j nil).y.getD k 0) := by show _ = _; rw [HYJ.out, ysOf_getD _ _ _ (by rw [HAl.out]; exact hjL)]
          clear hxn hyn hVq hRXi hRYi cxj0 cyj0
          go_wp2_with fail
          go_quiet ((go_at_call 106; exact HQ.out _))
          by_cases h1 : V = yj
          · have H1 := hid h1
            have h1' : (V != yj) = false := by simp [h1]
            clear h1
            go_wp2
            go_roundw
            case rel => exact ⟨j + 1, by omega, Or.inl (by omega), by go_num, fun i h2 h3 => by
              by_cases e : i = j
              · rw [e, ← hexj.out, ← heyj.out, ← HV.out]; exact H1.out
              · exact HF.out i h2 (by omega), bdN hbi _⟩
            case measure => simp [intOf] <;> omega
          · have H1 := hid h1
            have h1' : (V != yj) = true := by simp [h1]
            have hf := hid (agree_not (sec s :: l) m k j h0 hj1 (by rw [HAl.out]; exact hjL) (by rw [← hexj.out, ← heyj.out, ← HV.out]; exact h1))
            clear h1
            go_wp2
            go_ret
            exact ⟨rv (rb hf.out.symm), bdN (hbl9.trans (hbi.mono hbl9.size)) _⟩
        · have hjI : ¬ (j : Int) < (L : Int) := by omega
          have hfk : Hid (∀ o, o < k + 1 → fitAt (sec s :: l) m o (sec s :: l).length) := fun o ho => by
            by_cases e : o = k
            · rw [e, HAl.out]; exact fun i h2 h3 => HF.out i h2 (by omega)
            · exact HN.out o (by omega)
          go_wp2
          go_roundw
          case rel => exact ⟨k + 1, by omega, by go_num, hfk, hK9.below hbi hK9.lt, hbl9.trans (hbi.mono hbl9.size)⟩
          case measure => simp [intOf] <;> omega)
    · obtain rfl : k = 32 := by omega
      go_wp2
      go_ret
      exact ⟨rv (rb (agree_of _ _ HN.out).symm), hbl⟩
end Go.Proofs.Ytbljihhelladbaa.shr
/- A one-cell store into a variable, the world behind it a letter. Conditions: the cell is there. -/
namespace Go.Proofs.Ytbljihhelladbaa
open Go.RowKit
set_option linter.unusedSimpArgs false
set_option linter.unusedVariables false
set_option pp.maxSteps 6000
/-- one cell stored: the world behind it a letter -/
theorem wl_setV {P : Program} {w : World} {ops : Array Oper} {rest : List Oper} {o : Oper} {a : Act} {Q : Exit → Act → World → Prop} (hgd : o.guard = none) (ty : TypeId) (x y : Operand) (ho : o.op = .store ty x y)
    (t : TypeId) (g i : Nat) (hx : a.eval x = .pointer (some ⟨g, i, none⟩)) (v : Value) (hy : a.eval y = v) (hv : v.cells = #[v]) (h1 : v.oneCell' = true) (hi1 : (P.info? ty).map (·.size) = some 1) (cur : List Value) (hg : BlkV t w g cur) (hi : i < cur.length)
    (h : ∀ w', BlkV t w' g (cur.set i v) → w.grownBy w' (some g) → w'.heap.size = w.heap.size → wpList P ops Q rest (a.put o.dst undef) w') : wpList P ops Q (o :: rest) a w := by
  obtain ⟨f, hf, hs⟩ := Option.map_eq_some_iff.1 hi1
  have hrun : (storeVar ty ⟨g, i, none⟩ v).run P w = .ok () (w.setRow g (cur.set i v).toArray) := by
    have h := run_storeCells_at (P := P) g i t [v] 0 cur.toArray w hg (by simp; omega) (by intro u hu; rw [List.mem_singleton.1 hu]; exact h1)
    simp only [Nat.add_zero] at h
    have e : cur.take i ++ [v] ++ cur.drop (i + 1) = cur.set i v := by
      rw [List.set_eq_take_append_cons_drop, if_pos hi]; simp
    have h' : (storeCells ⟨g, i, none⟩ [v]).run P w = .ok () (w.setRow g (cur.set i v).toArray) := by
      rw [← e]; simpa using h
    simp [storeVar, hv, sizeOf, typeInfo, hf, hs, h']
  refine wpList_plain hgd fun K hK' => ?_
  unfold Oper.wp
  simp [execOp, ho, hx, hy, Instr.storeAt, Instr.sureAddr, hrun, Result.andThen]
  exact hK' _ _ (h _ (hg.setRow _) ⟨rfl, rfl, rfl, by simp, fun k _ hk => setRow_other w g k _ (fun e => hk (by rw [e]))⟩ (by simp))
end Go.Proofs.Ytbljihhelladbaa
/- Contract of keyref2.polynomials: the polynomials of a seed. Conditions: a secret and a seed of octets, a need from 1 to 32. -/
namespace Go.Proofs.Ytbljihhelladbaa.shr
open Go.RowKit Go.Proofs.Ytbljihhelladbaa.sh Go.Proofs.Ytbljihhelladbaa.Fld
set_option linter.unusedSimpArgs false
set_option linter.unusedVariables false
set_option pp.maxSteps 6000
/-- polynomials, as a value -/
structure PolysG (w : World) (f : Nat → List Int) (ps : List Value) : Prop where
  len : ps.length = 32
  one : ∀ u ∈ ps, u.oneCell' = true
  at_ : ∀ o, o < 32 → ∃ ao cap, ps[o]? = some (.slice ao (f o).length cap) ∧ RowI .i64 w ao (f o)
theorem PolysG.below {w w' : World} {f : Nat → List Int} {ps : List Value} (h : PolysG w f ps) (hb : Below w.heap.size w w') : PolysG w' f ps :=
  ⟨h.len, h.one, fun o ho => by obtain ⟨ao, cap, h1, h2⟩ := h.at_ o ho; exact ⟨ao, cap, h1, h2.below hb⟩⟩
structure PolyOwn (B : Nat) (w : World) (f : Nat → List Int) (ps : List Value) (k : Nat) : Prop where
  len : ps.length = 32
  one : ∀ u ∈ ps, u.oneCell' = true
  at_ : ∀ o, o < k → ∃ ao cap, ps[o]? = some (.slice ao (f o).length cap) ∧ w.ownsRow B 3 1 (.slice ao (f o).length cap) (f o).length ((f o).map (Value.int .i64))
theorem grown_setCell (w : World) (a : Addr) (v : Value) : w.grownBy (w.setCell a v) (some a.block) :=
  ⟨rfl, rfl, rfl, by simp, fun i _ hi => heap_setCell_other w a i v (fun e => hi (by rw [e]))⟩
theorem grown_setRow (w : World) (g : Nat) (cs : Array Value) : w.grownBy (w.setRow g cs) (some g) :=
  ⟨rfl, rfl, rfl, by simp, fun i _ hi => setRow_other w g i cs (fun e => hi (by rw [e]))⟩
end Go.Proofs.Ytbljihhelladbaa.shr
/- Shares with given values, plain; the numbers of a seed's polynomial are in range. A struct literal of a share. Conditions: the type's form. -/
namespace Go.Proofs.Ytbljihhelladbaa.shr
open Go.RowKit Go.Proofs.Ytbljihhelladbaa.sh Go.Proofs.Ytbljihhelladbaa.Fld
set_option linter.unusedSimpArgs false
set_option linter.unusedVariables false
set_option pp.maxSteps 6000
end Go.Proofs.Ytbljihhelladbaa.shr
/- Contract of keyref2.ZeroOf. Conditions: shares of the type's form at places from 0 to 256, 32 at most; a seed of octets, a need from 1 to 32. -/
namespace Go.Proofs.Ytbljihhelladbaa.shr
open Go.RowKit Go.Proofs.Ytbljihhelladbaa.sh Go.Proofs.Ytbljihhelladbaa.Fld
set_option linter.unusedSimpArgs false
set_option linter.unusedVariables false
set_option pp.maxSteps 6000
end Go.Proofs.Ytbljihhelladbaa.shr
/- A slice of shares that a call has made, as a block whose first cells are known (RowB); its shares are given values one by one. No program, no condition but the form. -/
namespace Go.Proofs.Ytbljihhelladbaa.shr
open Go.RowKit Go.Proofs.Ytbljihhelladbaa.sh Go.Proofs.Ytbljihhelladbaa.Fld
set_option linter.unusedSimpArgs false
set_option linter.unusedVariables false
set_option pp.maxSteps 6000
/-- block g begins with these cells, and none is frozen -/
def RowB (t : TypeId) (w : World) (g : Nat) (cs : List Value) : Prop := ∃ cur, BlkV t w g cur ∧ cur.take cs.length = cs
section
variable {t : TypeId} {w w' : World} {g : Nat} {cs : List Value}
theorem RowB.lt (h : RowB t w g cs) : g < w.heap.size := by obtain ⟨cur, h, _⟩ := h; exact h.lt
theorem RowB.cell (h : RowB t w g cs) {i : Nat} {u : Value} (hi : cs[i]? = some u) : w.cell? ⟨g, i, none⟩ = some u := by
  obtain ⟨cur, h, h2⟩ := h
  rw [h.cell]
  have hlt : i < cs.length := (List.getElem?_eq_some_iff.1 hi).1
  rw [← hi, ← h2, List.getElem?_take, if_pos hlt]
theorem RowB.frozen (h : RowB t w g cs) (i : Nat) : w.frozen? ⟨g, i, none⟩ = false := by obtain ⟨cur, h, _⟩ := h; exact h.frozen i
theorem RowB.set (h : RowB t w g cs) (i : Nat) (v : Value) : RowB t (w.setCell ⟨g, i, none⟩ v) g (cs.set i v) := by
  obtain ⟨cur, h, h2⟩ := h
  refine ⟨cur.set i v, h.set i v, ?_⟩
  rw [List.length_set, List.take_set, h2]
theorem RowB.drew (h : RowB t w g cs) : RowB t w.drew g cs := h
theorem RowB.drewN (h : RowB t w g cs) (n : Nat) : RowB t (w.drewN n) g cs := h
theorem RowB.below {B : Nat} (h : RowB t w g cs) (hb : Below B w w') (hg : g < B) : RowB t w' g cs := by obtain ⟨cur, h, h2⟩ := h; exact ⟨cur, h.below hb hg, h2⟩
theorem RowB.grown {row : Option Nat} (h : RowB t w g cs) (hg : w.grownBy w' row) (hr : row ≠ some g) : RowB t w' g cs := by obtain ⟨cur, h, h2⟩ := h; exact ⟨cur, h.grown hg hr, h2⟩
theorem RowB.row (h : RowB t w g cs) : RowV w (some ⟨g, 0, none⟩) cs := Or.inr ⟨g, 0, rfl, h.lt, fun j u hu => by rw [Nat.zero_add]; exact h.cell hu⟩
theorem RowB.of_owns {base size n : Nat} {v : Value} (h : w.ownsRow base t size v n cs) (hn : 0 < n) : ∃ g cap, v = .slice (some ⟨g, 0, none⟩) n cap ∧ base ≤ g ∧ n ≤ cap ∧ RowB t w g cs := by
  obtain ⟨hl, h | ⟨g, cap, cur, hv, hg, hh, h1, h2, h3, h4⟩⟩ := h
  · omega
  · exact ⟨g, cap, hv, hg, h1, cur.toList, by unfold BlkV; simpa using hh, by rw [hl]; exact h4⟩
theorem grown_below {row : Option Nat} (hb : Below w.heap.size w w') : w.grownBy w' row := ⟨hb.os, hb.tape, hb.output, hb.size, fun k hk _ => hb.block k hk⟩
theorem grown_drew {row : Option Nat} (h : w.grownBy w' row) : w.grownBy w'.drew row := ⟨h.os, h.tape, h.output, h.size, h.block⟩
theorem grown_set {g : Nat} (h : w.grownBy w' (some g)) (i : Nat) (v : Value) : w.grownBy (w'.setCell ⟨g, i, none⟩ v) (some g) := h.trans (grown_setCell w' ⟨g, i, none⟩ v)
theorem below_of_grown {B g : Nat} (h : w.grownBy w' (some g)) (hB : B ≤ w.heap.size) (hg : B ≤ g) : Below B w w' := (Below.refl B w).grown h hB fun k hk => by cases hk; exact hg
end
end Go.Proofs.Ytbljihhelladbaa.shr
namespace Go.Proofs.Ytbljihhelladbaa.gs
open Go.RowKit Go.Proofs.Ytbljihhelladbaa.Fld Go.Proofs.Ytbljihhelladbaa.sh Go.Proofs.Ytbljihhelladbaa.shr
set_option linter.unusedSimpArgs false
set_option linter.unusedVariables false
/-- a row of the matrix: its block, its room, its numbers -/
structure Rw where
  b : Nat
  c : Nat
  l : List Int
def Rw.v (u : Nat) (r : Rw) : Value := .slice (some ⟨r.b, 0, none⟩) (u + 1) r.c
/-- the matrix: its blocks lie from B on, below B2 -/
structure MatW (B B2 : Nat) (w : World) (R u : Nat) (rs : List Rw) : Prop where
  hd : RowB 26 w R (rs.map (Rw.v u))
  R0 : B ≤ R ∧ R < B2
  nd : ∀ (i j : Nat) (r s : Rw), rs[i]? = some r → rs[j]? = some s → i ≠ j → r.b ≠ s.b
  nR : ∀ (i : Nat) (r : Rw), rs[i]? = some r → r.b ≠ R ∧ B ≤ r.b ∧ r.b < B2
  row : ∀ (i : Nat) (r : Rw), rs[i]? = some r → RowB 3 w r.b (r.l.map (Value.int .i64)) ∧ r.l.length = u + 1 ∧ Rng r.l ∧ u + 1 ≤ r.c
section
variable {B B2 R u : Nat} {w w' : World} {rs : List Rw}
theorem rowB_kept {t : TypeId} {g : Nat} {cs : List Value} (h : RowB t w g cs) (hh : w'.heap[g]? = w.heap[g]?) : RowB t w' g cs := by
  obtain ⟨cur, h1, h2⟩ := h
  exact ⟨cur, by unfold BlkV; rw [hh]; exact h1, h2⟩
theorem rowB_other {t : TypeId} {g : Nat} {cs : List Value} (h : RowB t w g cs) {a : Addr} (ha : g ≠ a.block) (u : Value) : RowB t (w.setCell a u) g cs :=
  rowB_kept h (heap_setCell_other w a g u ha)
theorem MatW.keep (h : MatW B B2 w R u rs) (hb : ∀ g, g < B2 → w'.heap[g]? = w.heap[g]?) : MatW B B2 w' R u rs :=
  ⟨rowB_kept h.hd (hb _ h.R0.2), h.R0, h.nd, h.nR, fun i r hi => ⟨rowB_kept (h.row i r hi).1 (hb _ (h.nR i r hi).2.2), (h.row i r hi).2⟩⟩
theorem MatW.below (h : MatW B B2 w R u rs) (hb : Below B2 w w') : MatW B B2 w' R u rs := h.keep fun g hg => hb.block g hg
theorem MatW.hdr (h : MatW B B2 w R u rs) {i : Nat} {r : Rw} (hi : rs[i]? = some r) : w.cell? ⟨R, i, none⟩ = some (.slice (some ⟨r.b, 0, none⟩) (u + 1) r.c) :=
  h.hd.cell (by rw [List.getElem?_map, hi]; rfl)
theorem MatW.cell (h : MatW B B2 w R u rs) {i : Nat} {r : Rw} (hi : rs[i]? = some r) {j : Nat} (hj : j < u + 1) : ∃ x, Hid (x = r.l.getD j 0) ∧ (0 ≤ x ∧ x ≤ 256) ∧ w.cell? ⟨r.b, j, none⟩ = some (.int .i64 x) := by
  obtain ⟨h1, h2, h3, _⟩ := h.row i r hi
  exact ⟨_, rfl, h3.getD j, h1.cell (by rw [List.getElem?_map, List.getElem?_eq_getElem (by omega), getD_lt' _ _ (by omega)]; rfl)⟩
theorem map_set_same {α β : Type} (f : α → β) (l : List α) (i : Nat) (x y : α) (hi : l[i]? = some x) (h : f y = f x) : (l.set i y).map f = l.map f := by
  apply List.ext_getElem?
  intro k
  rw [List.getElem?_map, List.getElem?_map, List.getElem?_set]
  by_cases e : i = k
  · subst e
    have hl : i < l.length := (List.getElem?_eq_some_iff.1 hi).1
    rw [if_pos rfl, if_pos hl, hi]; simp [h]
  · rw [if_neg e]
theorem MatW.setI (h : MatW B B2 w R u rs) {i : Nat} {r : Rw} (hi : rs[i]? = some r) {j : Nat} (v : Int) (hv : 0 ≤ v ∧ v ≤ 256) : MatW B B2 (w.setCell ⟨r.b, j, none⟩ (.int .i64 v)) R u (rs.set i ⟨r.b, r.c, r.l.set j v⟩) := by
  have hl : i < rs.length := (List.getElem?_eq_some_iff.1 hi).1
  have hb : ∀ (k : Nat) s, (rs.set i ⟨r.b, r.c, r.l.set j v⟩)[k]? = some s → ∃ t, rs[k]? = some t ∧ t.b = s.b := by
    intro k s hs
    rw [List.getElem?_set] at hs
    by_cases e : i = k
    · rw [if_pos e, if_pos hl] at hs
      cases hs
      exact ⟨r, by rw [← e]; exact hi, rfl⟩
    · rw [if_neg e] at hs
      exact ⟨s, hs, rfl⟩
  refine ⟨?_, h.R0, ?_, ?_, ?_⟩
  · rw [map_set_same (Rw.v u) rs i r ⟨r.b, r.c, r.l.set j v⟩ hi rfl]
    exact rowB_other h.hd (fun e => (h.nR i r hi).1 e.symm) _
  · intro a b x y ha hb' hab
    obtain ⟨x', h1, h2⟩ := hb a x ha
    obtain ⟨y', h3, h4⟩ := hb b y hb'
    rw [← h2, ← h4]; exact h.nd a b x' y' h1 h3 hab
  · intro k s hs
    obtain ⟨t, h1, h2⟩ := hb k s hs
    rw [← h2]; exact h.nR k t h1
  · intro k s hs
    rw [List.getElem?_set] at hs
    by_cases e : i = k
    · rw [if_pos e, if_pos hl] at hs
      cases hs
      obtain ⟨h1, h2, h3, h4⟩ := h.row i r hi
      refine ⟨?_, by simp [h2], ?_, h4⟩
      · rw [List.map_set]; exact h1.set j _
      · refine Rng.of_getD fun m hm => ?_
        rw [getD_set]
        split
        · exact hv
        · exact h3.getD m
    · rw [if_neg e] at hs
      obtain ⟨h1, h2⟩ := h.row k s hs
      exact ⟨rowB_other h1 (fun e2 => h.nd k i s r hs hi (fun e3 => e e3.symm) e2) _, h2⟩
theorem MatW.swap (h : MatW B B2 w R u rs) {i k : Nat} {x y : Rw} (hi : rs[i]? = some x) (hk : rs[k]? = some y) : MatW B B2 ((w.setCell ⟨R, i, none⟩ (y.v u)).setCell ⟨R, k, none⟩ (x.v u)) R u ((rs.set i y).set k x) := by
  have hil : i < rs.length := (List.getElem?_eq_some_iff.1 hi).1
  have hkl : k < rs.length := (List.getElem?_eq_some_iff.1 hk).1
  have key : ∀ (m : Nat) s, ((rs.set i y).set k x)[m]? = some s → rs[if m = k then i else if m = i then k else m]? = some s := by
    intro m s hs
    rw [List.getElem?_set] at hs
    by_cases e : k = m
    · rw [if_pos e, if_pos (by rw [List.length_set]; exact hkl)] at hs
      rw [if_pos e.symm, hi]; exact hs
    · rw [if_neg e, List.getElem?_set] at hs
      rw [if_neg (fun g => e g.symm)]
      by_cases e2 : i = m
      · rw [if_pos e2, if_pos hil] at hs
        rw [if_pos e2.symm, hk]; exact hs
      · rw [if_neg e2] at hs
        rw [if_neg (fun g => e2 g.symm)]; exact hs
  have hr : ∀ (g : Nat), g ≠ R → ((w.setCell ⟨R, i, none⟩ (y.v u)).setCell ⟨R, k, none⟩ (x.v u)).heap[g]? = w.heap[g]? := fun g hg =>
    (heap_setCell_other _ ⟨R, k, none⟩ g _ hg).trans (heap_setCell_other w ⟨R, i, none⟩ g _ hg)
  refine ⟨?_, h.R0, ?_, ?_, ?_⟩
  · rw [List.map_set, List.map_set]
    exact (h.hd.set i _).set k _
  · intro a b s t ha hb hab
    refine h.nd _ _ s t (key a s ha) (key b t hb) ?_
    intro e
    apply hab
    by_cases a1 : a = k
    · by_cases b1 : b = k
      · rw [a1, b1]
      · rw [if_pos a1, if_neg b1] at e
        by_cases b2 : b = i
        · rw [if_pos b2] at e; omega
        · rw [if_neg b2] at e; omega
    · rw [if_neg a1] at e
      by_cases a2 : a = i
      · rw [if_pos a2] at e
        by_cases b1 : b = k
        · rw [if_pos b1] at e; omega
        · rw [if_neg b1] at e
          by_cases b2 : b = i
          · rw [a2, b2]
          · rw [if_neg b2] at e; omega
      · rw [if_neg a2] at e
        by_cases b1 : b = k
        · rw [if_pos b1] at e; omega
        · rw [if_neg b1] at e
          by_cases b2 : b = i
          · rw [if_pos b2] at e; omega
          · rw [if_neg b2] at e; exact e
  · intro m s hs
    exact h.nR _ s (key m s hs)
  · intro m s hs
    obtain ⟨h1, h2⟩ := h.row _ s (key m s hs)
    exact ⟨rowB_kept h1 (hr _ (h.nR _ s (key m s hs)).1), h2⟩
theorem MatW.len (h : MatW B B2 w R u rs) {i : Nat} {r : Rw} (hi : rs[i]? = some r) : r.l.length = u + 1 := (h.row i r hi).2.1
theorem mat_getD {i : Nat} {r : Rw} (hi : rs[i]? = some r) : (rs.map (·.l)).getD i [] = r.l := by
  rw [List.getD_eq_getElem?_getD, List.getElem?_map, hi]; rfl
theorem mat_set (i : Nat) (b c : Nat) (l : List Int) : (rs.set i ⟨b, c, l⟩).map (·.l) = (rs.map (·.l)).set i l := by rw [List.map_set]
end
end Go.Proofs.Ytbljihhelladbaa.gs
