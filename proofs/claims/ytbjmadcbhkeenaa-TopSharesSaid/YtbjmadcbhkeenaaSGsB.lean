/-
  A polynomial through all points but a few, plain: the equations as the program sets them up, the division, and that the polynomial is found if there is one. Conditions: as stated. Contracts of share.isNumber, over, Plus, Times, Over, keyref2.In, keylaw2.shares. No condition beyond the ranges that are named. Contracts of value, ValueOf, rangeFault, First, When, mod and through. Conditions: numbers from 0 to 256.
-/
import Derived.Test.YtbjmadcbhkeenaaSGsA
import Derived.Test.YtbjmadcbhkeenaaSMem
import Derived.Test.YtbjmadcbhkeenaaSNum
import Derived.Deep.OwnRows
namespace Go.Proofs.Ytbjmadcbhkeenaa.Fld
set_option linter.unusedSimpArgs false
set_option linter.unusedVariables false
/-! ### products -/
def mulL : List Int → List Int → List Int
  | [], _ => []
  | c :: p, b => addZ (smul c b) (0 :: mulL p b)
theorem ev_mulL (p b : List Int) (x : Int) : ev (mulL p b) x = ev p x * ev b x := by
  induction p with
  | nil => simp [mulL, ev]
  | cons c p ih =>
    rw [mulL, ev_addZ, ev_smul]
    show c * ev b x + (0 + x * ev (mulL p b) x) = (c + x * ev p x) * ev b x
    rw [ih]
    (simp only [Int.mul_add, Int.add_mul, Int.mul_assoc] <;> omega)
theorem addZ_length : ∀ (p q : List Int), (addZ p q).length = max p.length q.length
  | [], q => by simp [addZ]
  | a :: p, [] => by simp [addZ]
  | a :: p, b :: q => by simp only [addZ, List.length_cons, addZ_length p q]; omega
theorem mulL_length (p b : List Int) (hb : 1 ≤ b.length) : (mulL p b).length = if p.length = 0 then 0 else p.length + b.length - 1 := by
  induction p with
  | nil => simp [mulL]
  | cons c p ih =>
    rw [mulL, addZ_length, smul_length, if_neg (by simp)]
    simp only [List.length_cons, ih]
    split <;> omega
theorem mulL_snoc (p b : List Int) (c : Int) : ∀ m, (mulL (p ++ [c]) b).getD m 0 = (mulL p b).getD m 0 + if p.length ≤ m then c * b.getD (m - p.length) 0 else 0 := by
  induction p with
  | nil =>
    intro m
    show (addZ (smul c b) (0 :: mulL [] b)).getD m 0 = _
    rw [getD_addZ, getD_smul]
    have e : ((0 : Int) :: mulL [] b).getD m 0 = 0 := by cases m <;> simp [mulL]
    rw [e]
    simp [mulL]
  | cons d p ih =>
    intro m
    show (addZ (smul d b) (0 :: mulL (p ++ [c]) b)).getD m 0 = (addZ (smul d b) (0 :: mulL p b)).getD m 0 + _
    rw [getD_addZ, getD_addZ]
    cases m with
    | zero => simp
    | succ m =>
      simp only [List.getD_cons_succ, ih m, List.length_cons]
      by_cases h : p.length ≤ m
      · rw [if_pos h, if_pos (by omega), show m + 1 - (p.length + 1) = m - p.length by omega]; omega
      · rw [if_neg h, if_neg (by omega)]; omega
/-! ### division -/
def subAt (rest b : List Int) (i : Nat) (f : Int) : Nat → List Int
  | 0 => rest
  | k + 1 => (subAt rest b i f k).set (i + k) (((subAt rest b i f k).getD (i + k) 0 + (257 - f) * b.getD k 0) % 257)
theorem subAt_length (rest b : List Int) (i : Nat) (f : Int) (k : Nat) : (subAt rest b i f k).length = rest.length := by
  induction k with
  | zero => rfl
  | succ k ih => simp [subAt, ih]
theorem subAt_rng {rest b : List Int} {i : Nat} {f : Int} (h : Rng rest) (k : Nat) : Rng (subAt rest b i f k) := by
  induction k with
  | zero => exact h
  | succ k ih =>
    refine Rng.of_getD fun j _ => ?_
    unfold subAt
    rw [getD_set]
    split
    · exact mod_range _
    · exact ih.getD j
theorem subAt_getD (rest b : List Int) (i : Nat) (f : Int) (k : Nat) (hk : i + k ≤ rest.length) (m : Nat) : (subAt rest b i f k).getD m 0 = if i ≤ m ∧ m < i + k then (rest.getD m 0 + (257 - f) * b.getD (m - i) 0) % 257 else rest.getD m 0 := by
  induction k with
  | zero => rw [if_neg (by omega)]; rfl
  | succ k ih =>
    have ih' := ih (by omega)
    unfold subAt
    rw [getD_set, subAt_length]
    by_cases h : m = i + k
    · subst h
      rw [if_pos ⟨rfl, by omega⟩, ih', if_neg (by omega), if_pos (by omega), show i + k - i = k by omega]
    · rw [if_neg (fun e => h e.1), ih']
      by_cases h2 : i ≤ m ∧ m < i + k
      · rw [if_pos h2, if_pos (by omega)]
      · rw [if_neg h2, if_neg (by omega)]
/-- the first t steps of the division: what is left, and what was found, from the highest power on -/
def divTo (a b : List Int) : Nat → List Int × List Int
  | 0 => (a, [])
  | t + 1 => (subAt (divTo a b t).1 b (a.length - b.length - t) (overP ((divTo a b t).1.getD (a.length - b.length - t + b.length - 1) 0) (b.getD (b.length - 1) 0)) b.length,
      (divTo a b t).2 ++ [overP ((divTo a b t).1.getD (a.length - b.length - t + b.length - 1) 0) (b.getD (b.length - 1) 0)])
def divL (a b : List Int) : Option (List Int) := if (divTo a b (a.length - b.length + 1)).1.all (· == 0) = true then some (divTo a b (a.length - b.length + 1)).2.reverse else none
theorem divTo_length (a b : List Int) (t : Nat) : (divTo a b t).1.length = a.length ∧ (divTo a b t).2.length = t := by
  induction t with
  | zero => exact ⟨rfl, rfl⟩
  | succ t ih => rw [divTo, subAt_length, List.length_append, ih.1, ih.2]; exact ⟨rfl, rfl⟩
theorem divTo_rng (a b : List Int) (h : Rng a) (t : Nat) : Rng (divTo a b t).1 ∧ Rng (divTo a b t).2 := by
  induction t with
  | zero => exact ⟨h, fun c hc => by cases hc⟩
  | succ t ih =>
    rw [divTo]
    refine ⟨subAt_rng ih.1 _, fun c hc => ?_⟩
    rcases List.mem_append.1 hc with hc | hc
    · exact ih.2 c hc
    · rw [List.mem_singleton] at hc; rw [hc]; exact overP_range _ _
theorem inv_one {b : Int} (h : Cg b 1) (a : Int) : Cg (overP a b) a := by
  have h0 : ¬ Cg b 0 := fun e => by have := e.symm.trans h; unfold Cg at this; omega
  have h1 := mul_inv h0
  have h2 : Cg (inv b) 1 := by
    have := (Cg.mul_right (inv b) h).symm
    rw [Int.one_mul] at this
    exact this.trans h1
  have h3 := (overP_cg a b).trans (Cg.mul_left a h2)
  rwa [Int.mul_one] at h3
theorem div_exact (a b P : List Int) (hb : 1 ≤ b.length) (hP : 1 ≤ P.length) (hl : a.length + 1 = P.length + b.length) (hone : Cg (b.getD (b.length - 1) 0) 1) (ha : ∀ m, Cg (a.getD m 0) ((mulL P b).getD m 0)) : ∀ t, t ≤ P.length →
    (∀ m, Cg ((divTo a b t).1.getD m 0) ((mulL (P.take (P.length - t)) b).getD m 0)) ∧ ∀ j, j < t → Cg ((divTo a b t).2.getD j 0) (P.getD (P.length - 1 - j) 0)
  | 0, _ => ⟨by rw [Nat.sub_zero, List.take_length]; exact ha, fun j hj => absurd hj (Nat.not_lt_zero _)⟩
  | t + 1, ht => by
    obtain ⟨h1, h2⟩ := div_exact a b P hb hP hl hone ha t (by omega)
    have hlen := divTo_length a b t
    obtain ⟨i, hi⟩ : ∃ i, i = a.length - b.length - t := ⟨_, rfl⟩
    have hi2 : i = P.length - (t + 1) := by omega
    have hiP : i < P.length := by omega
    have htk : P.take (P.length - t) = P.take i ++ [P.getD i 0] := by
      rw [show P.length - t = i + 1 by omega, List.take_succ_eq_append_getElem hiP, getD_lt P 0 hiP]
    have htl : (P.take i).length = i := by rw [List.length_take]; omega
    obtain ⟨f, hf⟩ : ∃ f, f = overP ((divTo a b t).1.getD (i + b.length - 1) 0) (b.getD (b.length - 1) 0) := ⟨_, rfl⟩
    have hfc : Cg f (P.getD i 0) := by
      rw [hf]
      refine (inv_one hone _).trans ?_
      refine (h1 _).trans ?_
      rw [htk, mulL_snoc, htl, if_pos (by omega), getD_ge (mulL (P.take i) b) 0 (by rw [mulL_length _ _ hb, htl]; split <;> omega), show i + b.length - 1 - i = b.length - 1 by omega, Int.zero_add]
      have := Cg.mul_left (P.getD i 0) hone
      rwa [Int.mul_one] at this
    have hd : divTo a b (t + 1) = (subAt (divTo a b t).1 b i f b.length, (divTo a b t).2 ++ [f]) := by rw [divTo, ← hi, ← hf]
    rw [hd]
    constructor
    · intro m
      dsimp only
      rw [← hi2, subAt_getD _ _ _ _ _ (by rw [hlen.1]; omega)]
      have h3 := h1 m
      rw [htk, mulL_snoc, htl] at h3
      by_cases hm : i ≤ m
      · rw [if_pos hm] at h3
        by_cases hm2 : m < i + b.length
        · rw [if_pos ⟨hm, hm2⟩]
          refine (Cg.mod _).trans ?_
          have h4 := Cg.mul_right (b.getD (m - i) 0) hfc
          rw [Int.sub_mul]
          unfold Cg at *; omega
        · rw [if_neg (by omega)]
          rw [getD_ge b 0 (by omega), Int.mul_zero, Int.add_zero] at h3
          exact h3
      · rw [if_neg hm, Int.add_zero] at h3
        rw [if_neg (by omega)]
        exact h3
    · intro j hj
      dsimp only
      by_cases hjt : j < t
      · have e : ((divTo a b t).2 ++ [f]).getD j 0 = (divTo a b t).2.getD j 0 := by
          simp only [List.getD_eq_getElem?_getD]; rw [List.getElem?_append_left (by rw [hlen.2]; exact hjt)]
        rw [e]; exact h2 j hjt
      · obtain rfl : j = t := by omega
        have e : ((divTo a b j).2 ++ [f]).getD j 0 = f := by
          simp only [List.getD_eq_getElem?_getD]; rw [List.getElem?_append_right (by rw [hlen.2]; omega), hlen.2]; simp
        rw [e, show P.length - 1 - j = i by omega]; exact hfc
theorem getD_reverse (l : List Int) (i : Nat) (h : i < l.length) : l.reverse.getD i 0 = l.getD (l.length - 1 - i) 0 := by
  rw [getD_lt _ _ (by rw [List.length_reverse]; exact h), getD_lt _ _ (by omega), List.getElem_reverse]
theorem divL_ok (a b P : List Int) (ra : Rng a) (hb : 1 ≤ b.length) (hP : 1 ≤ P.length) (hl : a.length + 1 = P.length + b.length) (hone : Cg (b.getD (b.length - 1) 0) 1) (ha : ∀ m, Cg (a.getD m 0) ((mulL P b).getD m 0)) : ∃ p, divL a b = some p ∧ CgL p P := by
  obtain ⟨h1, h2⟩ := div_exact a b P hb hP hl hone ha P.length (Nat.le_refl _)
  have hs : a.length - b.length + 1 = P.length := by omega
  have hlen := divTo_length a b P.length
  have hz : (divTo a b P.length).1.all (· == 0) = true := by
    rw [List.all_eq_true]
    intro x hx
    obtain ⟨j, hj, rfl⟩ := List.getElem_of_mem hx
    have h3 := h1 j
    rw [Nat.sub_self, List.take_zero, mulL, getD_lt _ _ hj] at h3
    have h4 := (divTo_rng a b ra P.length).1 _ (List.getElem_mem hj)
    have h5 : Cg ((divTo a b P.length).1[j]) 0 := by simpa using h3
    unfold Cg at h5
    have : (divTo a b P.length).1[j] = 0 := by omega
    rw [this]; rfl
  refine ⟨(divTo a b P.length).2.reverse, by unfold divL; rw [hs, if_pos hz], by rw [List.length_reverse, hlen.2], fun i => ?_⟩
  by_cases hi : i < P.length
  · rw [getD_reverse _ _ (by rw [hlen.2]; exact hi), hlen.2]
    have := h2 (P.length - 1 - i) (by omega)
    rwa [show P.length - 1 - (P.length - 1 - i) = i by omega] at this
  · rw [getD_ge _ _ (by rw [List.length_reverse, hlen.2]; omega), getD_ge P 0 (by omega)]; exact Cg.refl 0
theorem divL_len {a b p : List Int} (ra : Rng a) (h : divL a b = some p) : p.length = a.length - b.length + 1 ∧ Rng p := by
  unfold divL at h
  split at h
  · cases h
    refine ⟨by rw [List.length_reverse, (divTo_length ..).2], fun c hc => (divTo_rng a b ra _).2 c (List.mem_reverse.1 hc)⟩
  · cases h
/-! ### the equations -/
def pw (x : Int) : Nat → Int
  | 0 => 1
  | k + 1 => pw x k * x % 257
theorem pw_rng (x : Int) (k : Nat) : 0 ≤ pw x k ∧ pw x k ≤ 256 := by
  cases k with
  | zero => exact ⟨by unfold pw; decide, by unfold pw; decide⟩
  | succ k => exact mod_range _
theorem pw_cg (x : Int) (k : Nat) : Cg (pw x k) (x ^ k) := by
  induction k with
  | zero => exact Cg.of_eq (by simp [pw])
  | succ k ih => rw [Int.pow_succ]; exact (Cg.mod _).trans (Cg.mul_right x ih)
def pwL (x : Int) (n : Nat) : List Int := (List.range n).map (pw x)
def npL (x y : Int) (n : Nat) : List Int := (List.range n).map fun k => (257 - y) * pw x k % 257
def bwRow (q wr : Nat) (x y : Int) : List Int := pwL x q ++ npL x y wr ++ [y * pw x wr % 257]
def bwM (q wr : Nat) (xs ys : List Int) : List (List Int) := (List.range xs.length).map fun i => bwRow q wr (xs.getD i 0) (ys.getD i 0)
theorem pwL_length (x : Int) (n : Nat) : (pwL x n).length = n := by simp [pwL]
theorem npL_length (x y : Int) (n : Nat) : (npL x y n).length = n := by simp [npL]
theorem pwL_succ (x : Int) (n : Nat) : pwL x (n + 1) = pwL x n ++ [pw x n] := by unfold pwL; rw [List.range_succ, List.map_append]; rfl
theorem npL_succ (x y : Int) (n : Nat) : npL x y (n + 1) = npL x y n ++ [(257 - y) * pw x n % 257] := by unfold npL; rw [List.range_succ, List.map_append]; rfl
theorem bwRow_length (q wr : Nat) (x y : Int) : (bwRow q wr x y).length = q + wr + 1 := by simp [bwRow, pwL, npL]; omega
theorem bwRow_rng (q wr : Nat) (x y : Int) : Rng (bwRow q wr x y) := by
  intro c hc
  unfold bwRow pwL npL at hc
  rcases List.mem_append.1 hc with hc | hc
  · rcases List.mem_append.1 hc with hc | hc
    · obtain ⟨k, _, rfl⟩ := List.mem_map.1 hc; exact pw_rng x k
    · obtain ⟨k, _, rfl⟩ := List.mem_map.1 hc; exact mod_range _
  · rw [List.mem_singleton] at hc; rw [hc]; exact mod_range _
theorem bwM_length (q wr : Nat) (xs ys : List Int) : (bwM q wr xs ys).length = xs.length := by simp [bwM]
theorem bwM_getD (q wr : Nat) (xs ys : List Int) (i : Nat) (hi : i < xs.length) : (bwM q wr xs ys).getD i [] = bwRow q wr (xs.getD i 0) (ys.getD i 0) := by
  rw [getD_lt _ _ (by rw [bwM_length]; exact hi)]; simp [bwM]
theorem bwM_wid (q wr : Nat) (xs ys : List Int) : Wid (q + wr) (bwM q wr xs ys) := by
  intro i hi
  rw [bwM_length] at hi
  rw [bwM_getD _ _ _ _ _ hi]
  exact ⟨bwRow_length .., bwRow_rng _ _ _ _⟩
theorem bwRow_pw (q wr : Nat) (x y : Int) (j : Nat) (hj : j < q) : (bwRow q wr x y).getD j 0 = pw x j := by
  unfold bwRow
  simp only [List.getD_eq_getElem?_getD]
  rw [List.append_assoc, List.getElem?_append_left (by rw [pwL_length]; exact hj)]
  simp [pwL, hj]
theorem bwRow_np (q wr : Nat) (x y : Int) (j : Nat) (hj : j < wr) : (bwRow q wr x y).getD (q + j) 0 = (257 - y) * pw x j % 257 := by
  unfold bwRow
  simp only [List.getD_eq_getElem?_getD]
  rw [List.append_assoc, List.getElem?_append_right (by rw [pwL_length]; omega), pwL_length, List.getElem?_append_left (by rw [npL_length]; omega)]
  simp [npL, show q + j - q = j by omega, hj]
theorem bwRow_last (q wr : Nat) (x y : Int) : (bwRow q wr x y).getD (q + wr) 0 = y * pw x wr % 257 := by
  unfold bwRow
  simp only [List.getD_eq_getElem?_getD]
  rw [List.getElem?_append_right (by simp [pwL, npL])]
  simp [pwL, npL]
theorem ev_take_succ (s : List Int) (x : Int) (n : Nat) (h : n < s.length) : ev (s.take (n + 1)) x = ev (s.take n) x + x ^ n * s.getD n 0 := by
  rw [List.take_succ_eq_append_getElem h, ev_append, List.length_take, Nat.min_eq_left (by omega), getD_lt s 0 h]
  simp [ev]
theorem dot_pw (q wr : Nat) (x y : Int) (s : List Int) (hs : s.length = q + wr) (n : Nat) (hn : n ≤ q) : Cg (dotN (bwRow q wr x y) s n) (ev (s.take n) x) := by
  induction n with
  | zero => exact Cg.refl _
  | succ n ih =>
    rw [dotN, bwRow_pw _ _ _ _ _ (by omega), ev_take_succ _ _ _ (by omega)]
    exact Cg.add (ih (by omega)) (Cg.mul_right _ (pw_cg x n))
theorem dot_np (q wr : Nat) (x y : Int) (s : List Int) (hs : s.length = q + wr) (n : Nat) (hn : n ≤ wr) : Cg (dotN (bwRow q wr x y) s (q + n)) (ev (s.take q) x - y * ev ((s.drop q).take n) x) := by
  induction n with
  | zero => simpa [ev] using dot_pw q wr x y s hs q (Nat.le_refl _)
  | succ n ih =>
    have h1 := ih (by omega)
    show Cg (dotN (bwRow q wr x y) s (q + n) + (bwRow q wr x y).getD (q + n) 0 * s.getD (q + n) 0) _
    rw [bwRow_np _ _ _ _ _ (by omega), ev_take_succ _ _ _ (by rw [List.length_drop]; omega)]
    have e : (s.drop q).getD n 0 = s.getD (q + n) 0 := by simp [List.getD_eq_getElem?_getD]
    rw [e]
    generalize s.getD (q + n) 0 = v at *
    have h2 : Cg ((257 - y) * pw x n % 257 * v) (-(y * (x ^ n * v))) := by
      refine (Cg.mul_right v (Cg.mod _)).trans ?_
      have h3 := Cg.mul_left (257 - y) (pw_cg x n)
      refine (Cg.mul_right v h3).trans ?_
      have e2 : (257 - y) * x ^ n * v = 257 * (x ^ n * v) + -(y * (x ^ n * v)) := by
        rw [Int.sub_mul, Int.sub_mul, Int.mul_assoc, Int.mul_assoc]; omega
      rw [e2]; unfold Cg; omega
    rw [Int.mul_add]
    unfold Cg at *; omega
/-- s solves the equations: its two polynomials fit at all places -/
theorem bw_sol (q wr : Nat) (xs ys s : List Int) (hs : s.length = q + wr) : SolM (q + wr) (bwM q wr xs ys) s ↔ ∀ i, i < xs.length → Cg (ev (s.take q) (xs.getD i 0)) (ys.getD i 0 * ev (s.drop q ++ [1]) (xs.getD i 0)) := by
  have key : ∀ x y : Int, Cg (dotN (bwRow q wr x y) s (q + wr)) ((bwRow q wr x y).getD (q + wr) 0) ↔ Cg (ev (s.take q) x) (y * ev (s.drop q ++ [1]) x) := by
    intro x y
    have h1 := dot_np q wr x y s hs wr (Nat.le_refl _)
    have e0 : (s.drop q).take wr = s.drop q := List.take_of_length_le (by rw [List.length_drop]; omega)
    rw [e0] at h1
    have h2 : Cg ((bwRow q wr x y).getD (q + wr) 0) (y * x ^ wr) := by rw [bwRow_last]; exact (Cg.mod _).trans (Cg.mul_left y (pw_cg x wr))
    have e : ev (s.drop q ++ [1]) x = ev (s.drop q) x + x ^ wr := by
      rw [ev_append, List.length_drop, hs, show q + wr - q = wr by omega]; simp [ev]
    rw [e, Int.mul_add]
    constructor <;> intro h <;> unfold Cg at * <;> omega
  unfold SolM
  rw [bwM_length]
  constructor
  · intro h i hi
    have := h i hi
    rw [at2, bwM_getD _ _ _ _ _ hi] at this
    exact (key _ _).1 this
  · intro h i hi
    rw [at2, bwM_getD _ _ _ _ _ hi]
    exact (key _ _).2 (h i hi)
/-- the polynomial with these roots -/
def loc : List Int → List Int
  | [] => [1]
  | a :: r => mulLin a (loc r)
theorem loc_length (r : List Int) : (loc r).length = r.length + 1 := by
  induction r with
  | nil => rfl
  | cons a r ih => rw [loc, mulLin_length, ih]; rfl
theorem loc_root (r : List Int) (a : Int) (h : a ∈ r) : ev (loc r) a = 0 := by
  induction r with
  | nil => cases h
  | cons b r ih =>
    rw [loc, ev_mulLin]
    rcases List.mem_cons.1 h with h | h
    · rw [h]; simp
    · rw [ih h, Int.mul_zero]
theorem loc_last (r : List Int) : (loc r).getD r.length 0 = 1 := by
  induction r with
  | nil => rfl
  | cons a r ih =>
    rw [loc, mulLin, subL_getD _ _ _ (by simp [smul])]
    have e1 : ((0 : Int) :: loc r).getD (r.length + 1) 0 = (loc r).getD r.length 0 := by simp
    have e2 : (smul a (loc r) ++ [0]).getD (r.length + 1) 0 = 0 := by
      simp only [List.getD_eq_getElem?_getD]
      rw [List.getElem?_append_right (by rw [smul_length, loc_length]; omega), smul_length, loc_length]
      simp
    rw [List.length_cons, e1, e2, ih]; rfl
/-- the polynomial on which all points but at most wr lie, as the program finds it -/
def mendL (need wr : Nat) (xs ys : List Int) : Option (List Int) := (solveL (bwM (need + wr) wr xs ys) (need + wr + wr)).bind fun s => divL (s.take (need + wr)) (s.drop (need + wr) ++ [1])
theorem mendL_len {need wr : Nat} {xs ys p : List Int} (hn : 1 ≤ need) (h : mendL need wr xs ys = some p) : p.length = need ∧ Rng p := by
  unfold mendL at h
  obtain ⟨s, hs, hd⟩ := Option.bind_eq_some_iff.1 h
  obtain ⟨_, hl, hr⟩ := solveL_some (bwM_wid _ _ _ _) hs
  obtain ⟨h1, h2⟩ := divL_len (fun c hc => hr c (List.mem_of_mem_take hc)) hd
  rw [List.length_take, List.length_append, List.length_drop, List.length_singleton] at h1
  exact ⟨by omega, h2⟩
/-- how many of the first n places do not lie on P -/
def badN (P xs ys : List Int) : List Nat := (List.range xs.length).filter fun i => !decide (ev P (xs.getD i 0) % 257 = ys.getD i 0 % 257)
theorem pairwise_map_filter (xs : List Int) (p : Nat → Bool) (h : ApartTo xs xs.length) : Apart (((List.range xs.length).filter p).map fun i => xs.getD i 0) := by
  unfold Apart
  rw [List.pairwise_map]
  refine List.Pairwise.filter _ ?_
  rw [List.pairwise_iff_getElem]
  intro i j hi hj hij
  rw [List.length_range] at hi hj
  simp only [List.getElem_range]
  exact h i j hij hj
theorem filter_split {α : Type} (l : List α) (p : α → Bool) : (l.filter p).length + (l.filter fun i => !p i).length = l.length := by
  induction l with
  | nil => rfl
  | cons a l ih =>
    by_cases h : p a = true
    · rw [List.filter_cons_of_pos h, List.filter_cons_of_neg (by simp [h])]; simp only [List.length_cons]; omega
    · rw [List.filter_cons_of_neg h, List.filter_cons_of_pos (by simp [h])]; simp only [List.length_cons]; omega
theorem mend_ok {need wr : Nat} {xs ys P : List Int} (hn : 1 ≤ need) (hP : P.length = need) (hap : ApartTo xs xs.length) (hw : need + 2 * wr ≤ xs.length) (hb : (badN P xs ys).length ≤ wr) : ∃ p, mendL need wr xs ys = some p ∧ CgL p P := by
  -- there is a solution
  obtain ⟨R, hR⟩ : ∃ R, R = (badN P xs ys).map (fun i => xs.getD i 0) ++ List.replicate (wr - (badN P xs ys).length) 0 := ⟨_, rfl⟩
  have hRl : R.length = wr := by rw [hR, List.length_append, List.length_map, List.length_replicate]; omega
  have hlocl := loc_length R
  have hlast := loc_last R
  rw [hRl] at hlocl hlast
  have hloc : loc R = (loc R).take wr ++ [1] := by
    have h1 : (loc R) = (loc R).take wr ++ (loc R).drop wr := (List.take_append_drop _ _).symm
    have h2 : (loc R).drop wr = [1] := by
      rw [List.drop_eq_getElem_cons (by omega), List.drop_of_length_le (by omega)]
      rw [getD_lt _ _ (by omega)] at hlast
      rw [hlast]
    rw [h2] at h1; exact h1
  have hQl : (mulL P (loc R)).length = need + wr := by rw [mulL_length _ _ (by omega), if_neg (by omega)]; omega
  have hsl : (mulL P (loc R) ++ (loc R).take wr).length = need + wr + wr := by rw [List.length_append, hQl, List.length_take]; omega
  have hsol : SolM (need + wr + wr) (bwM (need + wr) wr xs ys) (mulL P (loc R) ++ (loc R).take wr) := by
    rw [bw_sol _ _ _ _ _ hsl]
    intro i hi
    have e1 : (mulL P (loc R) ++ (loc R).take wr).take (need + wr) = mulL P (loc R) := by rw [← hQl]; exact List.take_left
    have e2 : (mulL P (loc R) ++ (loc R).take wr).drop (need + wr) = (loc R).take wr := by rw [← hQl]; exact List.drop_left
    rw [e1, e2, ← hloc, ev_mulL]
    by_cases h : ev P (xs.getD i 0) % 257 = ys.getD i 0 % 257
    · exact Cg.mul_right _ h
    · have h2 : xs.getD i 0 ∈ R := by
        rw [hR]
        refine List.mem_append_left _ (List.mem_map.2 ⟨i, ?_, rfl⟩)
        unfold badN
        rw [List.mem_filter]
        exact ⟨List.mem_range.2 hi, by rw [decide_eq_false h]; rfl⟩
      rw [loc_root R _ h2, Int.mul_zero, Int.mul_zero]; exact Cg.refl 0
  obtain ⟨s, hs⟩ := solveL_exists (bwM_wid _ _ _ _) hsol
  obtain ⟨h1, h2, h3⟩ := solveL_some (bwM_wid _ _ _ _) hs
  rw [bw_sol _ _ _ _ _ h2] at h1
  have hbl : (s.drop (need + wr) ++ [1]).length = wr + 1 := by rw [List.length_append, List.length_drop, h2, List.length_singleton]; omega
  have hone : (s.drop (need + wr) ++ [1]).getD ((s.drop (need + wr) ++ [1]).length - 1) 0 = 1 := by
    rw [hbl]
    simp only [List.getD_eq_getElem?_getD]
    rw [List.getElem?_append_right (by rw [List.length_drop, h2]; omega), List.length_drop, h2]
    simp
  have htl : (s.take (need + wr)).length = need + wr := by rw [List.length_take, h2]; omega
  have hpl : (mulL P (s.drop (need + wr) ++ [1])).length = need + wr := by rw [mulL_length _ _ (by omega), hbl, if_neg (by omega)]; omega
  -- as many places fit as there are numbers
  have hgl : need + wr ≤ (((List.range xs.length).filter fun i => decide (ev P (xs.getD i 0) % 257 = ys.getD i 0 % 257)).map fun i => xs.getD i 0).length := by
    rw [List.length_map]
    have := filter_split (List.range xs.length) (fun i => decide (ev P (xs.getD i 0) % 257 = ys.getD i 0 % 257))
    rw [List.length_range] at this
    unfold badN at hb
    omega
  have hcg := unique (p := s.take (need + wr)) (q := mulL P (s.drop (need + wr) ++ [1])) (by rw [htl, hpl]) (by rw [htl]; exact hgl) (pairwise_map_filter xs _ hap) (fun x hx => by
    obtain ⟨i, hi, rfl⟩ := List.mem_map.1 hx
    rw [List.mem_filter] at hi
    have hi1 := List.mem_range.1 hi.1
    have hi3 : ev P (xs.getD i 0) % 257 = ys.getD i 0 % 257 := of_decide_eq_true hi.2
    have hi2 : Cg (ev P (xs.getD i 0)) (ys.getD i 0) := hi3
    rw [ev_mulL]
    exact (h1 i hi1).trans (Cg.mul_right _ hi2.symm))
  obtain ⟨p, hp, hc⟩ := divL_ok (s.take (need + wr)) (s.drop (need + wr) ++ [1]) P (fun c hc => h3 c (List.mem_of_mem_take hc)) (by omega) (by omega) (by rw [htl, hbl, hP]; omega) (by rw [hone]; exact Cg.refl 1) hcg.2
  exact ⟨p, by unfold mendL; rw [hs]; exact hp, hc⟩
end Go.Proofs.Ytbjmadcbhkeenaa.Fld
namespace Go.Proofs.Ytbjmadcbhkeenaa.sh
set_option linter.unusedSimpArgs false
set_option linter.unusedVariables false
open Go.RowKit Go.Proofs.Ytbjmadcbhkeenaa.Fld
def inB (n low high : Int) : Bool := decide (low ≤ n) && decide (n ≤ high)
theorem mul_bd {a b : Int} (ha : 0 ≤ a ∧ a ≤ 256) (hb : 0 ≤ b ∧ b ≤ 256) : 0 ≤ a * b ∧ a * b ≤ 65536 :=
  ⟨Int.mul_nonneg ha.1 hb.1, by have := Int.mul_le_mul ha.2 hb.2 hb.1 (by omega); omega⟩
/-- the power's loop, as the program goes: n halves -/
theorem powGo_zero (f : Nat) (p b : Int) : powGo f 0 p b = p := by cases f <;> simp [powGo]
theorem powGo_step (f n : Nat) (p b : Int) (h : 0 < n) : powGo (f + 1) n p b = powGo f (n / 2) (if n % 2 = 1 then p * b % 257 else p) (b * b % 257) := by
  rw [powGo, if_neg (by omega)]
theorem over_any (a b : Int) (w : World) (ha : 0 ≤ a ∧ a ≤ 256) (hb : 0 ≤ b ∧ b ≤ 256) : Calls Try.prog 55 #[.int .i64 a, .int .i64 b] w fun e w' => e = .returned (.int .i64 (overP a b)) ∧ w = w' := by
  go_enter Try.func55, Try.ntmps55
  go_wp2
  go_loop [5, 6, 7] (fun p q n => ∃ (k f : Nat) (x y : Int), k ≤ 255 ∧ n = .int .i64 k ∧ p = .int .i64 x ∧ q = .int .i64 y ∧ (0 ≤ x ∧ x ≤ 256) ∧ (0 ≤ y ∧ y ≤ 256) ∧ k < 2 ^ f ∧ powGo f k x y = powGo 9 255 1 b)
    (fun _ _ n => (intOf n).toNat)
  case atStart => exact ⟨255, 9, 1, b, by omega, rfl, rfl, rfl, by omega, hb, by omega, rfl⟩
  case round =>
    obtain ⟨k, f, x, y, hk, rfl, rfl, rfl, hx, hy, hf, he⟩ := hrel
    have hxy := mul_bd hx hy
    have hyy := mul_bd hy hy
    have HE := hid he; clear he
    have HF := hid hf; clear hf
    have hax := mul_bd ha hx
    by_cases h0 : 0 < k
    · have hf1 : ∃ f', f = f' + 1 := by
        cases f with
        | zero => have := HF.out; omega
        | succ f' => exact ⟨f', rfl⟩
      obtain ⟨f', rfl⟩ := hf1
      have HS := hid (powGo_step f' k x y h0)
      have HK : Hid (k / 2 < 2 ^ f') := by have := HF.out; show k / 2 < 2 ^ f'; rw [Nat.pow_succ] at this; omega
      by_cases h1 : k % 2 = 1
      · go_wp2
        go_round
        case rel => exact ⟨k / 2, f', x * y % 257, y * y % 257, by omega, by go_num, rfl, rfl, mod_range _, mod_range _, HK.out, by rw [← HE.out, HS.out, if_pos h1]⟩
        case measure => simp [intOf]; omega
      · go_wp2
        go_round
        case rel => exact ⟨k / 2, f', x, y * y % 257, by omega, by go_num, rfl, rfl, hx, mod_range _, HK.out, by rw [← HE.out, HS.out, if_neg h1]⟩
        case measure => simp [intOf]; omega
    · have hk0 : k = 0 := by omega
      have HZ : Hid (x = powGo 9 255 1 b) := by have := HE.out; rw [hk0, powGo_zero] at this; exact this
      clear hk0
      go_wp2
      go_ret
      exact ⟨rv (ri (by unfold overP; rw [← HZ.out])), rfl⟩
end Go.Proofs.Ytbjmadcbhkeenaa.sh
/- Contracts of share.value, rangeFault, Value; keyref2.When, First, mod, ValueOf. Conditions: the ranges that are named. -/
namespace Go.Proofs.Ytbjmadcbhkeenaa.sh
set_option linter.unusedSimpArgs false
set_option linter.unusedVariables false
open Go.RowKit Go.Proofs.Ytbjmadcbhkeenaa.Fld
theorem ev_step (l : List Int) (x : Int) (k : Nat) (hk : k < l.length) : (ev (l.drop (k + 1)) x % 257 * x + l.getD k 0) % 257 = ev (l.drop k) x % 257 := by
  have e : l.drop k = l[k] :: l.drop (k + 1) := List.drop_eq_getElem_cons hk
  rw [e, getD_lt l 0 hk]
  have h : Cg (ev (l.drop (k + 1)) x % 257 * x) (x * ev (l.drop (k + 1)) x) := (Cg.mul_right x (Cg.mod _)).trans (Cg.of_eq (Int.mul_comm _ _))
  show (_ + _) % 257 = (l[k] + x * ev (l.drop (k + 1)) x) % 257
  unfold Cg at h
  omega
theorem value_any (ao : Option Addr) (cap : Nat) (l : List Int) (x : Int) (w : World) (hr : RowI .i64 w ao l) (hl : Rng l) (hx : 0 ≤ x ∧ x ≤ 256) (hn : l.length ≤ 4611686018427387904) :
    Calls Try.prog 20 #[.slice ao l.length cap, .int .i64 x] w fun e w' => e = .returned (.int .i64 (ev l x % 257)) ∧ w = w' := by
  go_enter Try.func20, Try.ntmps20
  go_wp2
  go_loop [5, 6] (fun v i => ∃ k : Nat, k ≤ l.length ∧ i = .int .i64 ((k : Int) - 1) ∧ v = .int .i64 (ev (l.drop k) x % 257)) (fun _ i => (intOf i + 1).toNat)
  case atStart => exact ⟨l.length, Nat.le_refl _, rfl, by simp [ev]⟩
  case round =>
    obtain ⟨k, hk, rfl, rfl⟩ := hrel
    by_cases h0 : 0 < k
    · obtain ⟨k, rfl⟩ : ∃ j, k = j + 1 := ⟨k - 1, by omega⟩
      obtain ⟨b, off, c, rfl, hb, HC, hcell⟩ := hr.elem (i := k) (by omega)
      have hm := mul_bd (mod_range (ev (l.drop (k + 1)) x)) hx
      have hg := hl.getD k
      rw [← HC.out] at hg
      have HS := ev_step l x k (by omega)
      rw [← HC.out] at HS
      replace HS := hid HS
      go_wp2
      go_round
      case rel => exact ⟨k, by omega, by go_num, by rw [HS.out]⟩
      case measure => simp [intOf] <;> omega
    · go_wp2
      go_ret
      exact ⟨rv (ri (by rw [show k = 0 by omega]; rfl)), rfl⟩
/-- the powers and the sum of the first k terms -/
theorem ev_take_succ (l : List Int) (x : Int) (k : Nat) (hk : k < l.length) : ev (l.take (k + 1)) x = ev (l.take k) x + x ^ k * l.getD k 0 := by
  rw [List.take_succ_eq_append_getElem hk, ev_append, getD_lt l 0 hk, List.length_take, Nat.min_eq_left (by omega)]
  simp [ev]
end Go.Proofs.Ytbjmadcbhkeenaa.sh
/- Contract of share.through: the polynomial that Newton's steps give, in new memory. Conditions: as many places as values, 64 at most, all from 0 to 256, the places different. -/
namespace Go.Proofs.Ytbjmadcbhkeenaa.sh
open Go.RowKit Go.Proofs.Ytbjmadcbhkeenaa.Fld
theorem value_n {n : Nat} (ao : Option Addr) (cap : Nat) (l : List Int) (x : Int) (w : World) (hn : n = l.length) (hr : RowI .i64 w ao l) (hl : Rng l) (hx : 0 ≤ x ∧ x ≤ 256) (hs : n ≤ 4611686018427387904) :
    Calls Try.prog 20 #[.slice ao n cap, .int .i64 x] w fun e w' => e = .returned (.int .i64 (ev l x % 257)) ∧ w' = w := by
  subst hn
  exact (value_any ao cap l x w hr hl hx hs).mono fun _ _ ⟨h1, h2⟩ => ⟨h1, h2.symm⟩
theorem infoInt : (Try.prog.info? 3).map (fun i => (i.zero, i.size, i.bytes)) = some (some (.int .i64 0), 1, 8) := by kernel_rfl
set_option maxRecDepth 100000 in
set_option maxHeartbeats 2000000 in
theorem through_any (ax ay : Option Addr) (cx cy : Nat) (xs ys : List Int) (w : World) (hx : RowI .i64 w ax xs) (hy : RowI .i64 w ay ys) (hl : ys.length = xs.length) (rx : Rng xs) (ry : Rng ys) (hap : ApartTo xs xs.length) (hn : xs.length ≤ 64) :
    Calls Try.prog 37 #[.slice ax xs.length cx, .slice ay xs.length cy] w fun e w' => e = .returned (.slice (some ⟨w.heap.size, 0, none⟩) xs.length xs.length) ∧ BlkI .i64 3 w' w.heap.size (through xs ys) ∧ Below w.heap.size w w' := by
  have hmk := run_make_row' (P := Try.prog) 24 3 (.int .i64 0) 8 Try.underlying24 infoInt rfl .i64 .i64 xs.length (by omega) (by omega)
  have HL := hid hl; clear hl
  go_enter Try.func37, Try.ntmps37
  go_wp2
  go_loopw [6, 19] (fun gr i wr => ∃ k gg : Nat, k ≤ xs.length ∧ i = .int .i64 k ∧ gr = .slice (some ⟨gg, 0, none⟩) (k + 1) (k + 1) ∧ w.heap.size < gg ∧
      BlkI .i64 3 wr w.heap.size (thr xs ys k).1 ∧ BlkI .i64 3 wr gg (thr xs ys k).2 ∧ Below w.heap.size w wr) (fun _ i _ => xs.length - (intOf i).toNat)
  case atStart => exact ⟨0, w.heap.size + 1, Nat.zero_le _, rfl, rfl, by omega, (BlkI.made .i64 _ w _).alloc _, BlkI.new' .i64 _ _ [1] (by simp), ((Below.refl _ _).alloc (Nat.le_refl _) _).alloc (by simp) _⟩
  case round =>
    obtain ⟨k, gg, hk, rfl, rfl, hgg, hO, hG, hb⟩ := hrel
    by_cases h0 : k < xs.length
    · obtain ⟨f1, f2, f3, f4, f5, f6⟩ := thr_facts xs ys hap k hk
      obtain ⟨bx, ox, x, rfl, hbx, HX, cx0⟩ := hx.elem (i := k) h0
      obtain ⟨by_, oy, y, rfl, hby, HY, cy0⟩ := hy.elem (i := k) (by rw [HL.out]; exact h0)
      have cx1 := (hb.cell (p := ⟨bx, ox + k, none⟩) hbx).trans cx0
      have cy1 := (hb.cell (p := ⟨by_, oy + k, none⟩) hby).trans cy0
      have bxx : 0 ≤ x ∧ x ≤ 256 := by rw [HX.out]; exact rx.getD k
      have byy : 0 ≤ y ∧ y ≤ 256 := by rw [HY.out]; exact ry.getD k
      have F1 := hid f1
      have F2 := hid f2
      clear f1 f2 f5 f6 cy0
      have hmk2 := run_make_row' (P := Try.prog) 24 3 (.int .i64 0) 8 Try.underlying24 infoInt rfl .i64 .i64 (k + 2) (by omega) (by omega)
      have e2 : ((k + 2 : Nat) : Int) = (k : Int) + 1 + 1 := by omega
      rw [e2] at hmk2
      clear e2
      have hkz : (k : Int) < (xs.length : Int) := by omega
      have he1 := mod_range (ev (thr xs ys k).1 x)
      have he2 := mod_range (ev (thr xs ys k).2 x)
      go_wp2_with fail
      go_quiet ((go_at_call 20; exact Calls.quiet_of_same (value_n _ _ _ _ _ F1.out.symm (hO.row.drewN _) f3 bxx (by omega))))
      go_wp2_with fail
      refine (value_n _ _ _ _ _ F2.out.symm (hG.row.drewN _) f4 bxx (by omega)).mono ?_
      rintro e w1 ⟨rfl, rfl⟩
      go_wp2_with fail
      refine (over_any _ _ _ (by omega) (by omega)).mono ?_
      rintro e w1 ⟨rfl, rfl⟩
      have hf := overP_range ((y - ev (thr xs ys k).1 x) % 257) (ev (thr xs ys k).2 x % 257)
      obtain ⟨f, HF⟩ : ∃ f, Hid (f = overP ((y - ev (thr xs ys k).1 x) % 257) (ev (thr xs ys k).2 x % 257)) := ⟨_, rfl⟩
      rw [← HF.out] at hf ⊢
      go_wp2_with fail
      have hOn := (hO.drewN nq).alloc (.cells (madeCells #[.int .i64 0] (k + 2)) 3)
      have hGn := (hG.drewN nq).alloc (.cells (madeCells #[.int .i64 0] (k + 2)) 3)
      have HT : Hid (thr xs ys (k + 1) = (inO f (thr xs ys k).2 (thr xs ys k).1 (k + 1), inN x (thr xs ys k).2 (k + 1))) := by
        rw [HF.out, HX.out, HY.out]
        show thr xs ys (k + 1) = _
        simp only [thr]
        rw [F2.out]
      clear HF HY cy1 byy
      have hbn := (bdN hb nq).alloc (Nat.le_of_lt (by have := hO.lt; simpa using this)) (.cells (madeCells #[.int .i64 0] (k + 2)) 3)
      have hNn := BlkI.made' .i64 3 (wr.drewN nq) (g := wr.heap.size) (k + 2) rfl
      have hBg := hG.lt
      generalize (thr xs ys k).1 = o at *
      generalize (thr xs ys k).2 = g at *
      generalize hGN : wr.heap.size = GN at *
      clear hGN hO hG hb hx hy hmk hmk2
      go_loopw [49] (fun i wi => ∃ m : Nat, m ≤ k + 1 ∧ i = .int .i64 m ∧ BlkI .i64 3 wi w.heap.size (inO f g o m) ∧ BlkI .i64 3 wi gg g ∧ BlkI .i64 3 wi GN (inN x g m) ∧ Below w.heap.size w wi) (fun i _ => k + 1 - (intOf i).toNat)
      case atStart => exact ⟨0, by omega, rfl, hOn, hGn, by unfold inN; rw [F2.out]; exact hNn, hbn⟩
      case round =>
        obtain ⟨m, hm, rfl, hOi, hGi, hNi, hbi⟩ := hrel
        by_cases h1 : m < k + 1
        · obtain ⟨c1, HC1, cO⟩ := hOi.elem (i := m) (by rw [inO_length, F1.out]; omega)
          obtain ⟨c2, HC2, cG⟩ := hGi.elem (i := m) (by rw [F2.out]; omega)
          obtain ⟨c3, HC3, cN1⟩ := hNi.elem (i := m + 1) (by rw [inN_length, F2.out]; omega)
          obtain ⟨c4, HC4, cN0⟩ := hNi.elem (i := m) (by rw [inN_length, F2.out]; omega)
          have zO := hOi.frozen m
          have zN1 := hNi.frozen (m + 1)
          have zN0 := hNi.frozen m
          have cX := (hbi.cell (p := ⟨bx, ox + k, none⟩) hbx).trans (by assumption : w.cell? ⟨bx, ox + k, none⟩ = some (.int .i64 x))
          have b1 : 0 ≤ c1 ∧ c1 ≤ 256 := by rw [HC1.out]; exact (inO_rng f3 m).getD m
          have b2 : 0 ≤ c2 ∧ c2 ≤ 256 := by rw [HC2.out]; exact f4.getD m
          have b3 : 0 ≤ c3 ∧ c3 ≤ 256 := by rw [HC3.out]; exact (inN_rng x g m).getD (m + 1)
          have b4 : 0 ≤ c4 ∧ c4 ≤ 256 := by rw [HC4.out]; exact (inN_rng x g m).getD m
          have m12 := mul_bd hf b2
          have m42 : 0 ≤ (257 - x) * c2 ∧ (257 - x) * c2 ≤ 65792 := ⟨Int.mul_nonneg (by omega) b2.1, by have := Int.mul_le_mul (a := 257 - x) (c := 257) (b := c2) (d := 256) (by omega) b2.2 b2.1 (by omega); omega⟩
          go_wp2_with fail
          go_region
          go_wp2
          have E1 : inO f g o (m + 1) = (inO f g o m).set m ((c1 + f * c2) % 257) := by rw [HC1.out, HC2.out]; rfl
          have E2 : inN x g (m + 1) = ((inN x g m).set (m + 1) ((c3 + c2) % 257)).set m ((c4 + (257 - x) * c2) % 257) := by
            have h := inN1_getD g (inN x g m) m m (by rw [inN_length, F2.out]; omega)
            rw [if_neg (by omega)] at h
            rw [HC2.out, HC3.out, HC4.out, ← h]
            rfl
          go_roundw
          case rel =>
            refine ⟨m + 1, by omega, by go_num, ?_, ?_, ?_, ?_⟩
            · rw [E1]; exact ((hOi.set m _).other (by simp; omega) _).other (by simp; omega) _
            · exact ((hGi.other (by simp; omega) _).other (by simp; omega) _).other (by simp; omega) _
            · rw [E2]; exact ((hNi.other (by simp; omega) _).set (m + 1) _).set m _
            · exact (((hbi.setCell (by simp) _).setCell (by simp; omega) _).setCell (by simp; omega) _).drew
          case measure => simp [intOf] <;> omega
        · obtain rfl : m = k + 1 := by omega
          go_wp2
          go_roundw
          case rel => exact ⟨k + 1, GN, by omega, by go_num, rfl, by omega, by rw [HT.out]; exact hOi, by rw [HT.out]; exact hNi, hbi⟩
          case measure => simp [intOf] <;> omega
    · obtain rfl : k = xs.length := by omega
      go_wp2
      go_ret
      exact ⟨rfl, hO, hb⟩
end Go.Proofs.Ytbjmadcbhkeenaa.sh
