/-
  Contract of keyref2.FitOf. Conditions: good shares of the type's form, a secret of octets, a need from 1 to 32.
-/
import Derived.Test.YtbljihhelladbaaShP
import Derived.Test.YtbljihhelladbaaShQ
namespace Go.Proofs.Ytbljihhelladbaa.shr
set_option linter.unusedVariables false
open Go.RowKit Go.Proofs.Ytbljihhelladbaa.sh Go.Proofs.Ytbljihhelladbaa.Fld
set_option linter.unusedSimpArgs false
set_option pp.maxSteps 6000

theorem none_of_owns {w : World} {base : Nat} {e : TypeId} {size n c : Nat} {ao : Option Addr} {xs : List Value} (h : w.ownsRow base e size (.slice ao n c) n xs) (hn : ao = none) : n = 0 ∧ c = 0 := by
  subst hn
  rcases h.2 with ⟨h, _⟩ | ⟨g, cap, cur, h, _⟩
  · simp at h; exact h
  · simp at h
theorem rowV_of_owns {w : World} {base n c : Nat} {e : TypeId} {size : Nat} {ao : Option Addr} {xs : List Value} (h : w.ownsRow base e size (.slice ao n c) n xs) : RowV w ao xs := by
  obtain ⟨a, c', h1, _, h2⟩ := Mine.row (Or.inl h)
  cases h1
  exact h2
theorem RowV.keptB {w w' : World} {ao : Option Addr} {cs : List Value} {row : Option Nat} (h : RowV w ao cs) (hb : w.grownBy w' row) (N : Nat) (hN : ∀ b, ao = some b → b.block < N) (hr : ∀ k, row = some k → N ≤ k) : RowV w' ao cs :=
  h.kept hb fun b hb' e => by have := hN b hb'; have := hr _ e; omega

/-- an octet fits -/
def fitAt (A : List Sh) (m o : Nat) (j : Nat) : Prop := ∀ i, m ≤ i → i < j → valAt (A.take m) o (A.getD i nil).x = (A.getD i nil).y.getD o 0
theorem agree_of (A : List Sh) (m : Nat) (h : ∀ o, o < 32 → fitAt A m o A.length) : agreeB A m = true := by
  unfold agreeB
  rw [List.all_eq_true]
  intro t ht
  obtain ⟨i, hi, rfl⟩ := List.getElem_of_mem ht
  rw [List.length_drop] at hi
  unfold liesB liesTo
  rw [List.all_eq_true]
  intro o ho
  have := h o (by simpa using ho) (m + i) (by omega) (by omega)
  rw [getD_lt' A nil (by omega : m + i < A.length)] at this
  rw [List.getElem_drop]
  simpa using this
theorem agree_not (A : List Sh) (m o i : Nat) (ho : o < 32) (hi : m ≤ i) (hA : i < A.length) (h : valAt (A.take m) o (A.getD i nil).x ≠ (A.getD i nil).y.getD o 0) : agreeB A m = false := by
  unfold agreeB
  rw [List.all_eq_false]
  refine ⟨A.getD i nil, ?_, ?_⟩
  · rw [getD_lt' A nil hA]
    exact List.mem_drop_iff_getElem.2 ⟨i - m, by omega, by simp [show m + (i - m) = i by omega]⟩
  · rw [liesB_false _ _ o ho h]; decide

theorem RowI.takeS {k : IntKind} {w : World} {ao : Option Addr} {l : List Int} (h : RowI k w ao l) (n : Nat) : RowI k w ao (l.take n) := by
  rcases h with h | ⟨b, off, h1, h2, h3⟩
  · exact Or.inl (by rw [h]; simp)
  · refine Or.inr ⟨b, off, h1, h2, fun i hi => ?_⟩
    rw [List.length_take] at hi
    rw [h3 i (by omega)]
    congr 2
    simp [List.getD_eq_getElem?_getD, List.getElem?_take, show i < n by omega]
theorem xs_sec (s : List Int) (l : List Sh) : xsOf (sec s :: l) = 0 :: xsOf l := rfl
theorem ys_sec (s : List Int) (l : List Sh) (o : Nat) : ysOf (sec s :: l) o = s.getD o 0 :: ysOf l o := rfl

set_option maxRecDepth 100000 in
set_option maxHeartbeats 1000000 in
theorem FitOf_any (m : Nat) (ao : Option Addr) (cap : Nat) (l : List Sh) (s : List Int) (w : World) (hr : RowS w ao l) (hok : ∀ s ∈ l, s.Ok) (hn : l.length ≤ 32) (hm1 : 1 ≤ m) (hm32 : m ≤ 32) (hg : Good (sec s :: l)) (hx : ∀ t ∈ l, 0 ≤ t.x ∧ t.x ≤ 256) (hsl : s.length = 32) (hso : ∀ c ∈ s, 0 ≤ c ∧ c ≤ 255) :
    Calls Try.prog 37 #[.int .i64 m, .slice ao l.length cap, .agg (s.map (Value.int .u8)).toArray] w fun e w' => e = .returned (.bool (agreeB (sec s :: l) m)) ∧ Below w.heap.size w w' := by
  have HOK := hid hok
  clear hok
  obtain ⟨KV, HKV⟩ : ∃ K, Hid (K = s.map (Value.int .u8)) := ⟨_, rfl⟩
  have HKL : Hid (KV.length = 32) := by show _ = _; rw [HKV.out, List.length_map]; exact hsl
  rw [← HKV.out]
  have hb0 : Below w.heap.size w (w.alloc (.cells KV.toArray 23)) := (Below.refl _ _).alloc (Nat.le_refl _) _
  have hK0 : BlkV 23 (w.alloc (.cells KV.toArray 23)) w.heap.size KV := BlkV.new _ _ _ rfl
  have hgt := hg.take m
  have hxa : Rng (xsOf (sec s :: l)) := hg.rx
  obtain ⟨L, HL⟩ : ∃ L, Hid (L = 1 + l.length) := ⟨_, rfl⟩
  have hL33 : L ≤ 33 := by rw [HL.out]; omega
  have HAl : Hid ((sec s :: l).length = L) := by show _ = _; rw [List.length_cons, HL.out]; omega
  go_enter Try.func37, Try.ntmps37
  go_wp2
  go_loopw [11] (fun i wr => ∃ k : Nat, k ≤ 32 ∧ i = .int .i64 k ∧ Hid (∀ o, o < k → fitAt (sec s :: l) m o (sec s :: l).length) ∧ BlkV 23 wr w.heap.size KV ∧ Below w.heap.size w wr) (fun i _ => 32 - (intOf i).toNat)
  case atStart => exact ⟨0, by omega, rfl, fun o ho => absurd ho (Nat.not_lt_zero o), hK0, hb0⟩
  case round =>
    obtain ⟨k, hk, rfl, HN, hK, hbl⟩ := hrel
    clear hK0 hb0
    by_cases h0 : k < 32
    · obtain ⟨c, HCC⟩ : ∃ c, Hid (c = s.getD k 0) := ⟨_, rfl⟩
      have hcb : 0 ≤ c ∧ c ≤ 255 := by rw [HCC.out, getD_lt' s 0 (by omega)]; exact hso _ (List.getElem_mem _)
      have hcw : IntKind.i64.wrap c = c := IntWalk.i64_in _ (by omega)
      have hkI : (k : Int) < 32 := by omega
      have hkI0 : (0 : Int) ≤ (k : Int) := by omega
      have hrw := hr.below hbl
      have hKk : KV[k]? = some (.int .u8 c) := by rw [HKV.out, HCC.out, List.getElem?_map, List.getElem?_eq_getElem (by omega), getD_lt' s 0 (by omega)]; rfl
      go_wp2_with fail
      refine (places_any _ _ _ l k wr rfl hrw HOK.out (by omega) h0).mono ?_
      rintro e w1 ⟨ax, cx, ay, cy, rfl, hcx, hcy, hX, hY, _, hb1⟩
      have hK1 := hK.below hb1 hK.lt
      have hbl1 := hbl.trans (hb1.mono hbl.size)
      have cK := hK1.cell k
      rw [hKk] at cK
      have hKlt := hK1.lt
      have hxs := rowV_of_owns hX
      have hys := rowV_of_owns hY
      have hnx := fun h => none_of_owns hX h
      have hny := fun h => none_of_owns hY h
      have hxlt : ∀ b, ax = some b → b.block < w1.heap.size := fun b hb => ownsRow_lt hX b.block (by rw [hb]; rfl)
      have hylt : ∀ b, ay = some b → b.block < w1.heap.size := fun b hb => ownsRow_lt hY b.block (by rw [hb]; rfl)
      have hne0 : ∀ g, w1.heap.size ≤ g → some w.heap.size ≠ (Value.slice (some ⟨g, 0, none⟩) 1 1).ownBlock := fun g hg e => by simp [Value.ownBlock] at e; omega
      clear hKk hX hY
      -- the worlds that the region can pass
      have A1 : BlkV 3 (w1.alloc (.cells #[.int .i64 0] 3)).drew w1.heap.size [.int .i64 0] := BlkV.new _ w1 [.int .i64 0] rfl
      have B1 : BlkV 3 ((w1.alloc (.cells #[.int .i64 0] 3)).alloc (.cells #[.int .i64 c] 3)).drew w1.heap.size [.int .i64 0] := BlkV.alloc (w := w1.alloc (.cells #[.int .i64 0] 3)) (BlkV.new _ w1 [.int .i64 0] rfl) _
      have B2 : BlkV 3 ((w1.alloc (.cells #[.int .i64 0] 3)).alloc (.cells #[.int .i64 c] 3)).drew (w1.heap.size + 1) [.int .i64 c] := BlkV.new _ (w1.alloc (.cells #[.int .i64 0] 3)) [.int .i64 c] (by simp)
      have C1 : BlkV 3 ((w1.alloc (.cells #[.int .i64 c] 3)).alloc (.cells #[.int .i64 0] 3)).drew (w1.heap.size + 1) [.int .i64 0] := BlkV.new _ (w1.alloc (.cells #[.int .i64 c] 3)) [.int .i64 0] (by simp)
      have C2 : BlkV 3 ((w1.alloc (.cells #[.int .i64 c] 3)).alloc (.cells #[.int .i64 0] 3)).drew w1.heap.size [.int .i64 c] := BlkV.alloc (w := w1.alloc (.cells #[.int .i64 c] 3)) (BlkV.new _ w1 [.int .i64 c] rfl) _
      have xA : RowV (w1.alloc (.cells #[.int .i64 0] 3)).drew ax ((xsOf l).map (Value.int .i64)) := hxs.alloc _
      have xB : RowV ((w1.alloc (.cells #[.int .i64 0] 3)).alloc (.cells #[.int .i64 c] 3)).drew ax ((xsOf l).map (Value.int .i64)) := (hxs.alloc _).alloc _
      have xC : RowV ((w1.alloc (.cells #[.int .i64 c] 3)).alloc (.cells #[.int .i64 0] 3)).drew ax ((xsOf l).map (Value.int .i64)) := (hxs.alloc _).alloc _
      have yA : RowV (w1.alloc (.cells #[.int .i64 0] 3)).drew ay ((ysOf l k).map (Value.int .i64)) := hys.alloc _
      have yB : RowV ((w1.alloc (.cells #[.int .i64 0] 3)).alloc (.cells #[.int .i64 c] 3)).drew ay ((ysOf l k).map (Value.int .i64)) := (hys.alloc _).alloc _
      have yC : RowV ((w1.alloc (.cells #[.int .i64 c] 3)).alloc (.cells #[.int .i64 0] 3)).drew ay ((ysOf l k).map (Value.int .i64)) := (hys.alloc _).alloc _
      have hxl : ((xsOf l).map (Value.int .i64)).length = l.length * 1 := by rw [List.length_map, xsOf_length]; omega
      have hyl : ((ysOf l k).map (Value.int .i64)).length = l.length * 1 := by rw [List.length_map, ysOf_length]; omega
      go_wp2_with fail
      go_region_held3 (fun w' => w'.cell? ⟨w.heap.size, k, none⟩ = some (.int .u8 c)) (first | go_keep | exact hg9.cell (by assumption) (hne0 _ (by first | omega | (have := hg4.size; simp at this; omega))) | exact hg4.cell (by assumption) (hne0 _ (by omega))) (first | (refine step_pushO (by rfl) (.tmp 20) (.tmp 21) 26 rfl 3 (.int .i64 0) 1 8 Try.underlying26 infoI rfl (by decide) w1.heap.size (.slice (some ⟨_, 0, none⟩) 1 1) 1 [.int .i64 0] (by rfl) (by first | exact ownsRow_blk A1 (Nat.le_refl _) rfl | exact ownsRow_blk B1 (Nat.le_refl _) rfl | exact ownsRow_blk C1 (Nat.le_succ _) rfl) ax l.length cx (by rfl) hnx ((xsOf l).map (Value.int .i64)) hxl (by first | exact xA | exact xB | exact xC) (ints_one _ _) (by unfold maxLen; omega) (by omega) (by simp <;> omega) L HL.out ?_; intro ax' cx' w4 hcx' hX4 hg4 hl4) | (refine step_pushO (by rfl) (.tmp 27) (.tmp 28) 26 rfl 3 (.int .i64 0) 1 8 Try.underlying26 infoI rfl (by decide) w1.heap.size (.slice (some ⟨_, 0, none⟩) 1 1) 1 [.int .i64 c] (by rfl) (by first | exact ownsRow_blk (BlkV.new _ _ [.int .i64 c] rfl) (by have := hg4.size; simp at this; omega) rfl | exact ownsRow_blk (B2.grown hg4 (by simp [Value.ownBlock])) (Nat.le_succ _) rfl | exact ownsRow_blk (C2.grown hg4 (by simp [Value.ownBlock])) (Nat.le_refl _) rfl) ay l.length cy (by rfl) hny ((ysOf l k).map (Value.int .i64)) hyl (by first | exact (RowV.keptB yA hg4 w1.heap.size hylt (fun g hg => by simp [Value.ownBlock] at hg; omega)).alloc _ | exact RowV.keptB yB hg4 w1.heap.size hylt (fun g hg => by simp [Value.ownBlock] at hg; omega) | exact RowV.keptB yC hg4 w1.heap.size hylt (fun g hg => by simp [Value.ownBlock] at hg; omega)) (ints_one _ _) (by unfold maxLen; omega) (by omega) (by have := hg4.size; simp at this ⊢; omega) L HL.out ?_; intro ay' cy' w9 hcy' hY9 hg9 hl9))
      all_goals (have hX9 : w9.ownsRow w1.heap.size 3 1 (.slice ax' L cx') L ([.int .i64 0] ++ (xsOf l).map (Value.int .i64)) := by first | exact (hX4.alloc _).kept hg9 (Or.inr (fun e => Nat.lt_irrefl _ (ownsRow_lt hX4 _ e))) | exact hX4.kept hg9 (Or.inr (fun e => by rcases hl4 with h | h <;> rw [h] at e <;> (simp [Value.ownBlock] at e; try omega))))
      all_goals (have hb14 : Below w1.heap.size w1 w4 := by first | exact (((Below.refl _ _).alloc (Nat.le_refl _) _).drew).grown hg4 (by simp) (fun g hg => by simp [Value.ownBlock] at hg; omega) | exact ((((Below.refl _ _).alloc (Nat.le_refl _) _).alloc (by simp) _).drew).grown hg4 (by simp <;> omega) (fun g hg => by simp [Value.ownBlock] at hg; omega))
      all_goals (have hb19 : Below w1.heap.size w1 w9 := by first | exact hb14.grown hg9 hb14.size (fun g hg => by simp [Value.ownBlock] at hg; omega) | exact (hb14.alloc hb14.size _).grown hg9 (by have := hb14.size; simp; omega) (fun g hg => by have := hb14.size; simp [Value.ownBlock] at hg; omega))
      all_goals (have hRX : RowI .i64 w9 ax' (xsOf (sec s :: l)) := row_of_owns (l := 0 :: xsOf l) hX9)
      all_goals (have hRY : RowI .i64 w9 ay' (ysOf (sec s :: l) k) := row_of_owns (l := s.getD k 0 :: ysOf l k) (by rw [HCC.out] at hY9; exact hY9))
      all_goals (have hbl9 := hbl1.trans (hb19.mono hbl1.size))
      all_goals (have hK9 := hK1.below hb19 hKlt)
      all_goals (clear A1 B1 B2 C1 C2 xA xB xC yA yB yC hX4 hX9 hY9 hg4 hg9 hl4 hl9 hxl hyl hxs hys hnx hny hxlt hylt hne0 hb14 cK)
      all_goals go_wp2
      all_goals go_loopw [10] (fun i wi => ∃ j : Nat, m ≤ j ∧ (j ≤ L ∨ j = m) ∧ i = .int .i64 j ∧ Hid (fitAt (sec s :: l) m k j) ∧ Below w9.heap.size w9 wi) (fun i _ => L - (intOf i).toNat)
      all_goals (try (case atStart => exact ⟨m, Nat.le_refl _, Or.inr rfl, rfl, fun i h1 h2 => absurd h1 (by omega), Below.refl _ _⟩))
      all_goals (
        obtain ⟨j, hj1, hj2, rfl, HF, hbi⟩ := hrel
        by_cases hjL : j < L
        · obtain ⟨bx, ox, xj, rfl, hbx, HXJ, cxj0⟩ := hRX.elem (i := j) (by rw [xsOf_length, HAl.out]; exact hjL)
          obtain ⟨by_, oy, yj, rfl, hby, HYJ, cyj0⟩ := hRY.elem (i := j) (by rw [ysOf_length, HAl.out]; exact hjL)
          have cxj := (hbi.cell (p := ⟨bx, ox + j, none⟩) hbx).trans cxj0
          have cyj := (hbi.cell (p := ⟨by_, oy + j, none⟩) hby).trans cyj0
          have rxj : 0 ≤ xj ∧ xj ≤ 256 := by rw [HXJ.out]; exact hg.rx.getD j
          have ryj : 0 ≤ yj ∧ yj ≤ 256 := by rw [HYJ.out]; exact (hg.ry k).getD j
          obtain ⟨V, HV⟩ : ∃ V, Hid (V = valAt ((sec s :: l).take m) k xj) := ⟨_, rfl⟩
          have hVr : 0 ≤ V ∧ V ≤ 256 := by rw [HV.out]; exact valAt_range ..
          have hmL : m < L := by omega
          have hmI0 : (0 : Int) ≤ (m : Int) := by omega
          have hmx : (m : Int) ≤ (cx' : Int) := by omega
          have hmy : (m : Int) ≤ (cy' : Int) := by omega
          have hjI : (j : Int) < (L : Int) := by omega
          have hjI0 : (0 : Int) ≤ (j : Int) := by omega
          have hRXi := RowI.takeS (hRX.below hbi) m
          have hRYi := RowI.takeS (hRY.below hbi) m
          have hxn : m = ((xsOf (sec s :: l)).take m).length := by rw [List.length_take, xsOf_length, HAl.out]; omega
          have hyn : ((ysOf (sec s :: l) k).take m).length = ((xsOf (sec s :: l)).take m).length := by rw [← hxn, List.length_take, ysOf_length, HAl.out]; omega
          have hVq : atR ((xsOf (sec s :: l)).take m) ((ysOf (sec s :: l) k).take m) xj = V := by rw [← xsOf_take, ← ysOf_take]; exact HV.out.symm
          have HQ := hid (fun nq => At_q (some ⟨bx, ox, none⟩) (some ⟨by_, oy, none⟩) cx' cy' m ((xsOf (sec s :: l)).take m) ((ysOf (sec s :: l) k).take m) xj V wr nq hxn hRXi hRYi hyn (Rng.take hg.rx m) (Rng.take (hg.ry k) m) rxj (by rw [← hxn]; omega) hVq)
          have hexj : Hid (xj = ((sec s :: l).getD j nil).x) := by show _ = _; rw [HXJ.out, xsOf_getD _ _ (by rw [HAl.out]; exact hjL)]
          have heyj : Hid (yj = ((sec s :: l).getD j nil).y.getD k 0) := by show _ = _; rw [HYJ.out, ysOf_getD _ _ _ (by rw [HAl.out]; exact hjL)]
          clear hxn hyn hVq hRXi hRYi cxj0 cyj0
          go_wp2_with fail
          go_quiet ((go_at_call 106; exact HQ.out _))
          by_cases h1 : V = yj
          · have H1 := hid h1
            have h1' : (V != yj) = false := by simp [h1]
            clear h1
            go_wp2
            go_roundw
            case rel => exact ⟨j + 1, by omega, Or.inl (by omega), by go_num, fun i h2 h3 => by
              by_cases e : i = j
              · rw [e, ← hexj.out, ← heyj.out, ← HV.out]; exact H1.out
              · exact HF.out i h2 (by omega), bdN hbi _⟩
            case measure => simp [intOf] <;> omega
          · have H1 := hid h1
            have h1' : (V != yj) = true := by simp [h1]
            have hf := hid (agree_not (sec s :: l) m k j h0 hj1 (by rw [HAl.out]; exact hjL) (by rw [← hexj.out, ← heyj.out, ← HV.out]; exact h1))
            clear h1
            go_wp2
            go_ret
            exact ⟨rv (rb hf.out.symm), bdN (hbl9.trans (hbi.mono hbl9.size)) _⟩
        · have hjI : ¬ (j : Int) < (L : Int) := by omega
          have hfk : Hid (∀ o, o < k + 1 → fitAt (sec s :: l) m o (sec s :: l).length) := fun o ho => by
            by_cases e : o = k
            · rw [e, HAl.out]; exact fun i h2 h3 => HF.out i h2 (by omega)
            · exact HN.out o (by omega)
          go_wp2
          go_roundw
          case rel => exact ⟨k + 1, by omega, by go_num, hfk, hK9.below hbi hK9.lt, hbl9.trans (hbi.mono hbl9.size)⟩
          case measure => simp [intOf] <;> omega)
    · obtain rfl : k = 32 := by omega
      go_wp2
      go_ret
      exact ⟨rv (rb (agree_of _ _ HN.out).symm), hbl⟩
end Go.Proofs.Ytbljihhelladbaa.shr
