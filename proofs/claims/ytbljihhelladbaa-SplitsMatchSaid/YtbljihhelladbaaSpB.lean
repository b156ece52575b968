/-
  Contract of share.Split: the shares of a secret. Conditions: holders of 16 octets, a secret and a seed of octets.
-/
import Derived.Test.YtbljihhelladbaaSpA
import Derived.Test.YtbljihhelladbaaShXY
namespace Go.Proofs.Ytbljihhelladbaa.shr
open Go.RowKit Go.Proofs.Ytbljihhelladbaa.sh Go.Proofs.Ytbljihhelladbaa.Fld Go.Proofs.Ytbljihhelladbaa.cm
set_option linter.unusedSimpArgs false
set_option linter.unusedVariables false
set_option pp.maxSteps 6000

/-- the shares of holders ahead of their values; of the first k holders -/
def plc (l : List (List Int)) (i : Nat) : Sh := ⟨l.getD i [], (i : Int) + 1, List.replicate 32 0⟩
def plcAll (l : List (List Int)) : List Sh := (List.range l.length).map (plc l)
def plcTo (l : List (List Int)) (k : Nat) : List Sh := (List.range l.length).map fun i => if i < k then plc l i else sh0
theorem sh0_ok : sh0.Ok := by rw [← secTo_zero []]; exact secTo_ok [] (fun c hc => by cases hc) 0 (by omega)
theorem plc_ok {l : List (List Int)} (hl : ∀ s ∈ l, IdOk s) (hn : l.length ≤ 32) {i : Nat} (hi : i < l.length) : (plc l i).Ok := by
  have h : IdOk (l.getD i []) := by rw [getD_lt' l [] hi]; exact hl _ (List.getElem_mem hi)
  refine ⟨h.1, by simp [plc], h.2, ?_, ?_⟩
  · intro c hc
    rw [List.eq_of_mem_replicate hc]; omega
  · show -9223372036854775808 ≤ (i : Int) + 1 ∧ (i : Int) + 1 ≤ 9223372036854775807
    omega
theorem plcAll_ok {l : List (List Int)} (hl : ∀ s ∈ l, IdOk s) (hn : l.length ≤ 32) : ∀ s ∈ plcAll l, s.Ok := by
  intro s hs
  obtain ⟨i, hi, rfl⟩ := List.mem_map.1 hs
  exact plc_ok hl hn (List.mem_range.1 hi)
theorem plcTo_ok {l : List (List Int)} (hl : ∀ s ∈ l, IdOk s) (hn : l.length ≤ 32) (k : Nat) : ∀ s ∈ plcTo l k, s.Ok := by
  intro s hs
  obtain ⟨i, hi, rfl⟩ := List.mem_map.1 hs
  split
  · exact plc_ok hl hn (List.mem_range.1 hi)
  · exact sh0_ok
theorem plcAll_length (l : List (List Int)) : (plcAll l).length = l.length := by simp [plcAll]
theorem plcTo_length (l : List (List Int)) (k : Nat) : (plcTo l k).length = l.length := by simp [plcTo]
theorem plcAll_get (l : List (List Int)) {i : Nat} (hi : i < l.length) : (plcAll l).getD i nil = plc l i := by simp [plcAll, List.getD_eq_getElem?_getD, hi]
theorem plcTo_zero (l : List (List Int)) : plcTo l 0 = List.replicate l.length sh0 := by
  unfold plcTo
  apply List.ext_getElem
  · simp
  · intro i h1 h2; simp
theorem plcTo_all (l : List (List Int)) : plcTo l l.length = plcAll l := by
  unfold plcTo plcAll
  refine List.map_congr_left fun i hi => ?_
  rw [if_pos (List.mem_range.1 hi)]
theorem plcTo_set (l : List (List Int)) (k : Nat) (hk : k < l.length) : (plcTo l k).set k (plc l k) = plcTo l (k + 1) := by
  unfold plcTo
  apply List.ext_getElem
  · simp
  · intro i h1 h2
    simp only [List.length_map, List.length_range] at h2
    rw [List.getElem_set]
    by_cases e : k = i
    · subst e; simp
    · rw [if_neg e]
      simp only [List.getElem_map, List.getElem_range]
      by_cases h : i < k
      · rw [if_pos h, if_pos (by omega)]
      · rw [if_neg h, if_neg (by omega)]
theorem plc_shTo (l : List (List Int)) (i : Nat) (V : Nat → Int) : plc l i = shTo (l.getD i []) ((i : Int) + 1) V 0 := by
  unfold plc shTo
  rw [st.fillTo_zero]
theorem plc_toSh (f : Nat → List Int) (l : List (List Int)) : (plcAll l).map (toSh f 0) = plcAll l := by
  unfold plcAll
  rw [List.map_map]
  refine List.map_congr_left fun i hi => ?_
  show shTo _ _ _ 0 = _
  rw [plc_shTo l i (vals f (plc l i))]
  rfl
theorem plc_x {l : List (List Int)} (hn : l.length ≤ 32) : ∀ s ∈ plcAll l, 0 ≤ s.x ∧ s.x ≤ 256 := by
  intro s hs
  obtain ⟨i, hi, rfl⟩ := List.mem_map.1 hs
  have := List.mem_range.1 hi
  show 0 ≤ (i : Int) + 1 ∧ (i : Int) + 1 ≤ 256
  omega

/-- a whole share stored into cells of shares -/
theorem flatS_put (l : List Sh) (hl : ∀ s ∈ l, s.Ok) (i : Nat) (hi : i < l.length) (s : Sh) (hs : s.Ok) : (flatS l).take (i * 49) ++ s.cs ++ (flatS l).drop (i * 49 + 49) = flatS (l.set i s) := by
  induction l generalizing i with
  | nil => simp at hi
  | cons t l ih =>
    have htl := (hl t (List.mem_cons_self ..)).csl
    unfold flatS at *
    cases i with
    | zero =>
      rw [List.set_cons_zero, List.flatMap_cons, List.flatMap_cons, Nat.zero_mul, Nat.zero_add, List.take_zero, List.nil_append, List.drop_append, htl, List.drop_eq_nil_of_le (by omega)]
      simp
    | succ i =>
      have h := ih (fun u hu => hl u (List.mem_cons_of_mem _ hu)) i (by simpa using hi)
      rw [List.set_cons_succ, List.flatMap_cons, List.flatMap_cons, ← h]
      have e1 : (i + 1) * 49 - t.cs.length = i * 49 := by rw [htl]; omega
      have e2 : (i + 1) * 49 + 49 - t.cs.length = i * 49 + 49 := by rw [htl]; omega
      rw [List.take_append, List.drop_append, e1, e2, List.take_of_length_le (by rw [htl]; omega), List.drop_eq_nil_of_le (by rw [htl]; omega)]
      simp
theorem made_shares (n : Nat) : (madeCells (Value.agg sh0.cs.toArray).cells (n * 49)).toList = flatS (List.replicate n sh0) := by
  apply List.ext_getElem?
  intro j
  have hl : ∀ s ∈ List.replicate n sh0, s.Ok := fun s hs => by rw [List.eq_of_mem_replicate hs]; exact sh0_ok
  by_cases hj : j < n * 49
  · have e : j = j / 49 * 49 + j % 49 := by omega
    have hq : j / 49 < n := by omega
    have h2 := flatS_get (List.replicate n sh0) hl (j / 49) (j % 49) (by simpa using hq) (by omega)
    rw [← e] at h2
    rw [h2]
    have h3 : (List.replicate n sh0).getD (j / 49) nil = sh0 := by simp [List.getD_eq_getElem?_getD, hq]
    rw [h3]
    have h4 : sh0.cs.length = 49 := sh0_len
    have h5 : j % 49 < sh0.cs.toArray.size := by simp [h4]; omega
    simp [madeCells, Value.cells, hj, h4]
    rw [List.getElem?_eq_getElem (by rw [h4]; omega)]
    rfl
  · rw [List.getElem?_eq_none (by simp [madeCells]; omega), List.getElem?_eq_none (by rw [flatS_length _ hl]; simp; omega)]

theorem wl_makeSh {w : World} {ops : Array Oper} {rest : List Oper} {o : Oper} {a : Act} {Q : Exit → Act → World → Prop} (hgd : o.guard = none) (x y : Operand) (ho : o.op = .makeSlice 47 x y)
    (n : Nat) (hn : n ≤ 1099511627776) (hx : a.eval x = .int .i64 n) (hy : a.eval y = .int .i64 n) (N : Nat) (hN : w.heap.size = N)
    (h : ∀ w', BlkV 61 w' N (flatS (List.replicate n sh0)) → Below N w w' → w'.heap.size = N + 1 → wpList Try.prog ops Q rest (a.put o.dst (.slice (some ⟨N, 0, none⟩) n n)) w') : wpList Try.prog ops Q (o :: rest) a w := by
  subst hN
  obtain ⟨i, hi, hz, hs, hb⟩ := infoS.parts
  have hrun := run_make (P := Try.prog) (w := w) 47 61 i (.agg sh0.cs.toArray) Try.underlying47 hi hz .i64 .i64 (n : Int) (n : Int) (by omega) (Int.le_refl _) (by rw [hb]; omega) (by omega)
  rw [Int.toNat_natCast, hs] at hrun
  have e : madeCells (Value.agg sh0.cs.toArray).cells (n * 49) = (flatS (List.replicate n sh0)).toArray := by
    apply Array.ext'
    rw [made_shares]
  rw [e] at hrun
  refine wpList_plain hgd fun K hK' => ?_
  unfold Oper.wp
  simp [execOp, ho, hx, hy, hrun, Result.andThen]
  exact hK' _ _ (h _ (BlkV.new _ w _ rfl) ((Below.refl _ _).alloc (Nat.le_refl _) _) (by simp))

/-- a share stored whole into a block of shares -/
theorem wl_putSh {w : World} {ops : Array Oper} {rest : List Oper} {o : Oper} {a : Act} {Q : Exit → Act → World → Prop} (hgd : o.guard = none) (x y : Operand) (ho : o.op = .store 61 x y)
    (g i : Nat) (hx : a.eval x = .pointer (some ⟨g, i * 49, none⟩)) (s : Sh) (hs : s.Ok) (hy : a.eval y = .agg s.cs.toArray) (l : List Sh) (hl : ∀ s ∈ l, s.Ok) (hi : i < l.length) (hg : BlkV 61 w g (flatS l))
    (h : ∀ w', BlkV 61 w' g (flatS (l.set i s)) → w.grownBy w' (some g) → w'.heap.size = w.heap.size → wpList Try.prog ops Q rest (a.put o.dst undef) w') : wpList Try.prog ops Q (o :: rest) a w := by
  refine wl_store hgd 61 x y ho 61 g (i * 49) hx s.cs hy (by rw [hs.csl]; exact aggS.2) (flatS l) hg (by rw [flatS_length l hl, hs.csl]; omega) (cs_one s) ?_
  rw [hs.csl, flatS_put l hl i hi s hs]
  exact h _ (hg.setRow _) (grown_setRow _ _ _) (by simp)
end Go.Proofs.Ytbljihhelladbaa.shr
